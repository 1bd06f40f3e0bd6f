/- Texts of the proof, merged: CrcPlain, PlainA, PlainB, QuPlain, RingPlain. -/
/-! === CrcPlain -/
section
/- Plain law: the reflected sum over 32 bits: what one byte, a text, a burst, a joining do. No program in sight. -/
namespace CrcP

/-- The document's polynomial, turned. -/
def P : BitVec 32 := 0xedb88320#32

/-- One bit's step of a sum. -/
def sh (x : BitVec 32) : BitVec 32 := if x.getLsbD 0 then (x >>> 1) ^^^ P else x >>> 1

def shN : Nat → BitVec 32 → BitVec 32
  | 0, x => x
  | n + 1, x => shN n (sh x)

/-- What one byte does. -/
def turn (x : BitVec 32) (b : UInt8) : BitVec 32 := shN 8 (x ^^^ BitVec.ofNat 32 b.toNat)

def Turn (x : BitVec 32) (l : List UInt8) : BitVec 32 := l.foldl turn x

theorem xor_swap (a b c d : BitVec 32) : (a ^^^ b) ^^^ (c ^^^ d) = (a ^^^ c) ^^^ (b ^^^ d) := by
  simp only [BitVec.xor_assoc]
  congr 1
  rw [← BitVec.xor_assoc, ← BitVec.xor_assoc, BitVec.xor_comm b c]

theorem ushr_xor (a b : BitVec 32) (n : Nat) : (a ^^^ b) >>> n = (a >>> n) ^^^ (b >>> n) := by
  ext i h; simp

theorem sh_xor (x y : BitVec 32) : sh (x ^^^ y) = sh x ^^^ sh y := by
  unfold sh
  simp only [BitVec.getLsbD_xor, ushr_xor]
  cases x.getLsbD 0 <;> cases y.getLsbD 0 <;> simp
  · rw [BitVec.xor_assoc]
  · simp only [BitVec.xor_assoc]; rw [BitVec.xor_comm P]
  · rw [xor_swap]; simp

theorem sh_zero : sh 0#32 = 0#32 := by decide

theorem shN_xor (n : Nat) : ∀ x y : BitVec 32, shN n (x ^^^ y) = shN n x ^^^ shN n y := by
  induction n with
  | zero => intro x y; rfl
  | succ n ih => intro x y; simp only [shN]; rw [sh_xor, ih]

theorem shN_zero (n : Nat) : shN n 0#32 = 0#32 := by
  induction n with
  | zero => rfl
  | succ n ih => simp only [shN, sh_zero, ih]

theorem shN_add (a : Nat) : ∀ (b : Nat) (x : BitVec 32), shN (a + b) x = shN b (shN a x) := by
  induction a with
  | zero => intro b x; simp [shN]
  | succ a ih => intro b x; rw [show a + 1 + b = (a + b) + 1 from by omega]; simp only [shN]; rw [ih]

theorem sh_inj0 (x : BitVec 32) (h : sh x = 0#32) : x = 0#32 := by
  unfold sh at h
  split at h
  · exfalso
    have h31 := congrArg (fun v => v.getLsbD 31) h
    simp [P] at h31
  · rename_i h0
    apply BitVec.eq_of_getLsbD_eq
    intro i hi
    cases i with
    | zero => simpa using h0
    | succ i =>
      have := congrArg (fun v => v.getLsbD i) h
      simp at this
      simpa [Nat.add_comm] using this

theorem shN_inj0 (n : Nat) : ∀ x : BitVec 32, shN n x = 0#32 → x = 0#32 := by
  induction n with
  | zero => intro x h; exact h
  | succ n ih => intro x h; exact sh_inj0 x (ih _ h)

theorem xor_eq_zero {a b : BitVec 32} (h : a ^^^ b = 0#32) : a = b := by
  have : (a ^^^ b) ^^^ b = 0#32 ^^^ b := by rw [h]
  rw [BitVec.xor_assoc, BitVec.xor_self] at this
  simpa using this

theorem shN_inj (n : Nat) (x y : BitVec 32) (h : shN n x = shN n y) : x = y := by
  apply xor_eq_zero
  apply shN_inj0 n
  rw [shN_xor, h, BitVec.xor_self]

/-- While the low bits are nought, a step is a shift. -/
theorem shN_low (k : Nat) : ∀ (z : BitVec 32), (∀ i, i < k → z.getLsbD i = false) → shN k z = z >>> k := by
  induction k with
  | zero => intro z _; simp [shN]
  | succ k ih =>
    intro z hz
    have h0 : sh z = z >>> 1 := by unfold sh; rw [hz 0 (by omega)]; simp
    simp only [shN, h0]
    rw [ih]
    · apply BitVec.eq_of_getLsbD_eq
      intro i hi
      simp only [BitVec.getLsbD_ushiftRight]
      congr 1; omega
    · intro i hi
      simp [Nat.add_comm]
      exact hz (i + 1) (by omega)

theorem split8 (y : BitVec 32) : y = ((y >>> 8) <<< 8) ^^^ (y &&& 255#32) := by
  apply BitVec.eq_of_getLsbD_eq
  intro i hi
  have : (255#32 : BitVec 32).getLsbD i = decide (i < 8) := by
    have : ∀ j : Fin 32, (255#32 : BitVec 32).getLsbD j.val = decide (j.val < 8) := by decide
    exact this ⟨i, hi⟩
  simp only [BitVec.getLsbD_xor, BitVec.getLsbD_shiftLeft, BitVec.getLsbD_ushiftRight, BitVec.getLsbD_and, this]
  by_cases h8 : i < 8
  · simp [h8, hi]
  · simp [h8, hi, show 8 + (i - 8) = i from by omega]

theorem shN8 (y : BitVec 32) : shN 8 y = (y >>> 8) ^^^ shN 8 (y &&& 255#32) := by
  conv => lhs; rw [split8 y]
  rw [shN_xor]
  congr 1
  rw [shN_low]
  · apply BitVec.eq_of_getLsbD_eq
    intro i hi
    simp only [BitVec.getLsbD_shiftLeft, BitVec.getLsbD_ushiftRight]
    by_cases h : 8 + i < 32
    · simp [h, show ¬ 8 + i < 8 from by omega]
    · have : y.getLsbD (8 + i) = false := BitVec.getLsbD_of_ge _ _ (by omega)
      simp [h, this]
  · intro i hi
    simp [hi]

/-- The table's step. -/
theorem turn_table (x : BitVec 32) (b : UInt8) :
    turn x b = (x >>> 8) ^^^ shN 8 ((x ^^^ BitVec.ofNat 32 b.toNat) &&& 255#32) := by
  unfold turn
  rw [shN8, ushr_xor]
  have : (BitVec.ofNat 32 b.toNat) >>> 8 = 0#32 := by
    apply BitVec.eq_of_toNat_eq
    have := b.toNat_lt
    simp [Nat.shiftRight_eq_div_pow]
    omega
  rw [this]; simp

theorem turn_xor (x y : BitVec 32) (b : UInt8) : turn (x ^^^ y) b = turn x b ^^^ shN 8 y := by
  unfold turn
  rw [← shN_xor]
  congr 1
  rw [BitVec.xor_assoc, BitVec.xor_comm y, ← BitVec.xor_assoc]

theorem Turn_xor (l : List UInt8) : ∀ (x y : BitVec 32), Turn (x ^^^ y) l = Turn x l ^^^ shN (8 * l.length) y := by
  induction l with
  | nil => intro x y; simp [Turn, shN]
  | cons b l ih =>
    intro x y
    simp only [Turn, List.foldl_cons, List.length_cons] at *
    rw [turn_xor, ih, show 8 * (l.length + 1) = 8 + 8 * l.length from by omega, shN_add]

theorem Turn_append (x : BitVec 32) (a b : List UInt8) : Turn x (a ++ b) = Turn (Turn x a) b := by
  simp [Turn]

theorem Turn_zeros (n : Nat) : ∀ x, Turn x (List.replicate n 0) = shN (8 * n) x := by
  induction n with
  | zero => intro x; simp [Turn, shN]
  | succ n ih =>
    intro x
    simp only [List.replicate_succ, Turn, List.foldl_cons] at *
    rw [ih, show 8 * (n + 1) = 8 + 8 * n from by omega, shN_add]
    simp [turn]

def ones : BitVec 32 := 0xffffffff#32
/-- The sum of some bytes. -/
def Sum (l : List UInt8) : BitVec 32 := Turn ones l ^^^ ones

/-- The sum of two texts is told by theirs. -/
theorem Sum_append (a b : List UInt8) : Sum (a ++ b) = shN (8 * b.length) (Sum a) ^^^ Sum b := by
  unfold Sum
  rw [Turn_append]
  have h : Turn (Turn ones a) b = Turn ones b ^^^ shN (8 * b.length) (Turn ones a ^^^ ones) := by
    rw [← Turn_xor]
    congr 1
    rw [BitVec.xor_comm (Turn ones a), ← BitVec.xor_assoc, BitVec.xor_self]; simp
  rw [h, BitVec.xor_comm (Turn ones b), BitVec.xor_assoc]

/-- A number as four bytes, the lowest first. -/
def bytes (x : BitVec 32) : List UInt8 :=
  [UInt8.ofNat (x.toNat % 256), UInt8.ofNat (x.toNat / 256 % 256), UInt8.ofNat (x.toNat / 65536 % 256), UInt8.ofNat (x.toNat / 16777216)]

def word (b0 b1 b2 b3 : UInt8) : BitVec 32 := BitVec.ofNat 32 (b0.toNat + 256 * b1.toNat + 65536 * b2.toNat + 16777216 * b3.toNat)

theorem bytes_word (b0 b1 b2 b3 : UInt8) : bytes (word b0 b1 b2 b3) = [b0, b1, b2, b3] := by
  have h0 := b0.toNat_lt; have h1 := b1.toNat_lt; have h2 := b2.toNat_lt; have h3 := b3.toNat_lt
  simp only [Nat.reducePow] at h0 h1 h2 h3
  have e : (word b0 b1 b2 b3).toNat = b0.toNat + 256 * b1.toNat + 65536 * b2.toNat + 16777216 * b3.toNat := by
    simp only [word, BitVec.toNat_ofNat]; omega
  simp only [bytes, e]
  have r : ∀ (b : UInt8) (n : Nat), n = b.toNat → UInt8.ofNat n = b := by
    intro b n h; subst h; simp
  rw [r b0 _ (by omega), r b1 _ (by omega), r b2 _ (by omega), r b3 _ (by omega)]

theorem bytes_inj {x y : BitVec 32} (h : bytes x = bytes y) : x = y := by
  apply BitVec.eq_of_toNat_eq
  have hx := x.isLt; have hy := y.isLt
  simp only [bytes, List.cons.injEq, and_true] at h
  obtain ⟨h0, h1, h2, h3⟩ := h
  have r : ∀ m n : Nat, UInt8.ofNat m = UInt8.ofNat n → m < 256 → n < 256 → m = n := by
    intro m n hh hm hn
    have := congrArg UInt8.toNat hh
    simp only [UInt8.toNat_ofNat', Nat.reducePow] at this
    omega
  have e0 := r _ _ h0 (by omega) (by omega)
  have e1 := r _ _ h1 (by omega) (by omega)
  have e2 := r _ _ h2 (by omega) (by omega)
  have e3 := r _ _ h3 (by omega) (by omega)
  omega

theorem shl_low (v : BitVec 32) (k : Nat) : shN k (v <<< k) = (v <<< k) >>> k := by
  apply shN_low
  intro i hi
  simp [hi]

theorem byte_shl (b : UInt8) (k : Nat) (hk : k ≤ 24) : (BitVec.ofNat 32 b.toNat <<< k) >>> k = BitVec.ofNat 32 b.toNat := by
  apply BitVec.eq_of_getLsbD_eq
  intro i hi
  simp only [BitVec.getLsbD_ushiftRight, BitVec.getLsbD_shiftLeft]
  by_cases h : k + i < 32
  · simp [h, show ¬ k + i < k from by omega, show k + i - k = i from by omega]
  · have : (BitVec.ofNat 32 b.toNat).getLsbD i = false := by
      rw [BitVec.getLsbD_ofNat]
      have : b.toNat.testBit i = false := Nat.testBit_lt_two_pow (Nat.lt_of_lt_of_le b.toNat_lt (Nat.pow_le_pow_right (by omega) (by omega)))
      simp [this]
    simp [h, this]

theorem shN_byte (b : UInt8) (k : Nat) (hk : k ≤ 24) : shN k (BitVec.ofNat 32 b.toNat <<< k) = BitVec.ofNat 32 b.toNat := by
  rw [shl_low, byte_shl b k hk]

theorem word_xor (b0 b1 b2 b3 : UInt8) :
    word b0 b1 b2 b3 = BitVec.ofNat 32 b0.toNat ^^^ (BitVec.ofNat 32 b1.toNat <<< 8) ^^^ (BitVec.ofNat 32 b2.toNat <<< 16) ^^^ (BitVec.ofNat 32 b3.toNat <<< 24) := by
  have h0 := b0.toNat_lt; have h1 := b1.toNat_lt; have h2 := b2.toNat_lt; have h3 := b3.toNat_lt
  simp only [Nat.reducePow] at h0 h1 h2 h3
  have add_xor : ∀ (a b k : Nat), a < 2 ^ k → a ^^^ (b * 2 ^ k) = a + b * 2 ^ k := by
    intro a b k h
    have := Nat.two_pow_add_eq_or_of_lt h b
    rw [Nat.mul_comm b, Nat.add_comm, this]
    apply Nat.eq_of_testBit_eq
    intro i
    simp only [Nat.testBit_xor, Nat.testBit_or, Nat.testBit_two_pow_mul]
    by_cases hi : i < k
    · simp [show ¬ i ≥ k from by omega]
    · have : a.testBit i = false := Nat.testBit_lt_two_pow (Nat.lt_of_lt_of_le h (Nat.pow_le_pow_right (by omega) (by omega)))
      simp [this]
  apply BitVec.eq_of_toNat_eq
  simp only [word, BitVec.toNat_xor, BitVec.toNat_shiftLeft, BitVec.toNat_ofNat, Nat.shiftLeft_eq]
  rw [show b0.toNat % 2 ^ 32 = b0.toNat from by omega, show b1.toNat % 2 ^ 32 * 2 ^ 8 % 2 ^ 32 = b1.toNat * 2 ^ 8 from by omega,
    show b2.toNat % 2 ^ 32 * 2 ^ 16 % 2 ^ 32 = b2.toNat * 2 ^ 16 from by omega, show b3.toNat % 2 ^ 32 * 2 ^ 24 % 2 ^ 32 = b3.toNat * 2 ^ 24 from by omega]
  rw [add_xor _ _ 8 (by omega), add_xor _ _ 16 (by omega), add_xor _ _ 24 (by omega)]
  omega

theorem Turn_word (x : BitVec 32) (b0 b1 b2 b3 : UInt8) : Turn x [b0, b1, b2, b3] = shN 32 (x ^^^ word b0 b1 b2 b3) := by
  simp only [Turn, List.foldl_cons, List.foldl_nil]
  have e8 : ∀ (y : BitVec 32) (b : UInt8) (k : Nat), k ≤ 24 → shN k y ^^^ BitVec.ofNat 32 b.toNat = shN k (y ^^^ (BitVec.ofNat 32 b.toNat <<< k)) := by
    intro y b k hk
    rw [shN_xor, shN_byte b k hk]
  unfold turn
  rw [e8 _ b1 8 (by omega), ← shN_add 8 8, e8 _ b2 16 (by omega), ← shN_add 16 8, e8 _ b3 24 (by omega), ← shN_add 24 8, word_xor]
  simp only [BitVec.xor_assoc]

/-- Bytes hold just if what they come to is this. -/
theorem holds_iff (pre : List UInt8) (b0 b1 b2 b3 : UInt8) :
    bytes (Sum pre) = [b0, b1, b2, b3] ↔ Turn ones (pre ++ [b0, b1, b2, b3]) = shN 32 ones := by
  rw [Turn_append, Turn_word, ← bytes_word]
  constructor
  · intro h
    have := bytes_inj h
    rw [← this]
    congr 1
    unfold Sum
    rw [← BitVec.xor_assoc, BitVec.xor_self]; simp
  · intro h
    have := shN_inj _ _ _ h
    congr 1
    unfold Sum
    have e : Turn ones pre ^^^ ones = Turn ones pre ^^^ (Turn ones pre ^^^ word b0 b1 b2 b3) := by rw [this]
    rw [e, ← BitVec.xor_assoc, BitVec.xor_self]; simp

/-! ### A burst -/
/-- One bit of some bytes turned. -/
def flip (l : List UInt8) (p : Nat) : List UInt8 := l.set (p / 8) (l.getD (p / 8) 0 ^^^ UInt8.ofNat (2 ^ (p % 8)))

theorem one_shN (k : Nat) (hk : k < 32) : shN k (1#32 <<< k) = 1#32 := by
  rw [shl_low]
  apply BitVec.eq_of_getLsbD_eq
  intro i hi
  simp only [BitVec.getLsbD_ushiftRight, BitVec.getLsbD_shiftLeft]
  by_cases h : k + i < 32
  · simp [h, show ¬ k + i < k from by omega, show k + i - k = i from by omega]
  · have : (1#32 : BitVec 32).getLsbD i = false := by
      have : ∀ j : Fin 32, j.val ≠ 0 → (1#32 : BitVec 32).getLsbD j.val = false := by decide
      exact this ⟨i, hi⟩ (by show i ≠ 0; omega)
    rw [this]; simp [h]

theorem xor_byte (a b : UInt8) : BitVec.ofNat 32 (a ^^^ b).toNat = BitVec.ofNat 32 a.toNat ^^^ BitVec.ofNat 32 b.toNat := by
  apply BitVec.eq_of_toNat_eq
  have ha := a.toNat_lt; have hb := b.toNat_lt
  have hx : a.toNat ^^^ b.toNat < 2 ^ 8 := Nat.xor_lt_two_pow ha hb
  simp only [BitVec.toNat_xor, BitVec.toNat_ofNat, UInt8.toNat_xor]
  rw [Nat.mod_eq_of_lt (show a.toNat < 2 ^ 32 from by omega), Nat.mod_eq_of_lt (show b.toNat < 2 ^ 32 from by omega), Nat.mod_eq_of_lt (by omega)]

theorem turn_flip (x : BitVec 32) (a : UInt8) (r : Nat) (hr : r < 8) :
    turn x (a ^^^ UInt8.ofNat (2 ^ r)) = turn x a ^^^ shN (8 - r) 1#32 := by
  unfold turn
  rw [xor_byte, ← BitVec.xor_assoc, shN_xor]
  congr 1
  have e : BitVec.ofNat 32 (UInt8.ofNat (2 ^ r)).toNat = 1#32 <<< r := by
    have : ∀ j : Fin 8, BitVec.ofNat 32 (UInt8.ofNat (2 ^ j.val)).toNat = 1#32 <<< j.val := by decide
    exact this ⟨r, hr⟩
  rw [e]
  conv => lhs; rw [show 8 = r + (8 - r) from by omega]
  rw [shN_add, one_shN r (by omega)]

theorem Turn_flip (l : List UInt8) : ∀ (x : BitVec 32) (p : Nat), p < 8 * l.length →
    Turn x (flip l p) = Turn x l ^^^ shN (8 * l.length - p) 1#32 := by
  induction l with
  | nil => intro x p h; simp at h
  | cons b l ih =>
    intro x p h
    simp only [List.length_cons] at h
    by_cases h8 : p < 8
    · have e : flip (b :: l) p = (b ^^^ UInt8.ofNat (2 ^ p)) :: l := by
        simp [flip, show p / 8 = 0 from by omega, show p % 8 = p from by omega]
      rw [e]
      simp only [Turn, List.foldl_cons, List.length_cons]
      rw [turn_flip x b p h8]
      have := Turn_xor l (turn x b) (shN (8 - p) 1#32)
      simp only [Turn] at this
      rw [this, ← shN_add]
      congr 2
      omega
    · have e : flip (b :: l) p = b :: flip l (p - 8) := by
        have e1 : p / 8 = (p - 8) / 8 + 1 := by omega
        have e2 : p % 8 = (p - 8) % 8 := by omega
        simp [flip, e1, e2]
      rw [e]
      have := ih (turn x b) (p - 8) (by omega)
      simp only [Turn, List.foldl_cons, List.length_cons] at *
      rw [this]
      congr 2
      omega

/-! ### Joining: what 'of' does with a matrix that is a linear law -/
def ofStep (f : Nat → BitVec 32) (x y : BitVec 32) (i : Nat) : BitVec 32 := if x.getLsbD 0 then y ^^^ f i else y

/-- Any linear law is told by what it makes of each bit. -/
def Lin (f : BitVec 32 → BitVec 32) : Prop := ∀ x y, f (x ^^^ y) = f x ^^^ f y

theorem Lin.zero {f} (h : Lin f) : f 0#32 = 0#32 := by
  have := h 0#32 0#32
  simpa using this

theorem Lin.comp {f g} (hf : Lin f) (hg : Lin g) : Lin (fun x => f (g x)) := by
  intro x y
  show f (g (x ^^^ y)) = _
  rw [hg, hf]

theorem Lin.shN (n : Nat) : Lin (CrcP.shN n) := shN_xor n

/-- The round of 'of': what is left of x, shifted back, and what was gathered. -/
theorem of_round (x : BitVec 32) (i : Nat) (hi : i < 32) :
    x <<< i = ((x >>> 1) <<< (i + 1)) ^^^ (if x.getLsbD 0 then 1#32 <<< i else 0#32) := by
  apply BitVec.eq_of_getLsbD_eq
  intro k hk
  simp only [BitVec.getLsbD_xor, BitVec.getLsbD_shiftLeft, BitVec.getLsbD_ushiftRight]
  have one : ∀ j, j < 32 → (1#32 : BitVec 32).getLsbD j = decide (j = 0) := by
    intro j hj
    have : ∀ j : Fin 32, (1#32 : BitVec 32).getLsbD j.val = decide (j.val = 0) := by decide
    exact this ⟨j, hj⟩
  by_cases h1 : k < i
  · have : k < i + 1 := by omega
    cases x.getLsbD 0 <;> simp [h1, hk, this]
  · by_cases h2 : k = i
    · subst h2
      have hs : (1#32 : BitVec 32).getLsbD 0 = true := by decide
      rw [Nat.sub_self]
      cases hx : x.getLsbD 0
      · simp [hk]
      · simp only [if_true, BitVec.getLsbD_shiftLeft, Nat.sub_self, hs]; simp [hk]
    · have e : 1 + (k - (i + 1)) = k - i := by omega
      have h3 : ¬ k < i + 1 := by omega
      have o := one (k - i) (by omega)
      have h4 : ¬ (k - i = 0) := by omega
      cases hx : x.getLsbD 0
      · simp [hk, h1, h3, e]
      · simp only [if_true, BitVec.getLsbD_shiftLeft, o]; simp [hk, h1, h3, e, h4]

theorem of_keeps {f : BitVec 32 → BitVec 32} (hf : Lin f) (x y : BitVec 32) (i : Nat) (hi : i < 32) :
    (ofStep (fun j => f (1#32 <<< j)) x y i) ^^^ f ((x >>> 1) <<< (i + 1)) = y ^^^ f (x <<< i) := by
  rw [of_round x i hi, hf]
  unfold ofStep
  cases x.getLsbD 0
  · simp [hf.zero]
  · simp only [if_true]
    rw [BitVec.xor_assoc, BitVec.xor_comm (f (1#32 <<< i))]

/-- Squares of a step's law. -/
theorem pow_twice (n : Nat) (x : BitVec 32) : shN n (shN n x) = shN (2 * n) x := by
  rw [← shN_add]; congr 1; omega

/-! ### What a burst comes to -/
/-- The bits of a pattern below k that lie ahead of the end, N bits off. -/
def acc (p : BitVec 32) (N : Nat) : Nat → BitVec 32
  | 0 => 0#32
  | k + 1 => if p.getLsbD k ∧ k < N then acc p N k ^^^ (1#32 <<< k) else acc p N k

theorem one_bit (k j : Nat) (hk : k < 32) (hj : j < 32) : (1#32 <<< k).getLsbD j = decide (j = k) := by
  have one : ∀ j, j < 32 → (1#32 : BitVec 32).getLsbD j = decide (j = 0) := by
    intro j hj
    have : ∀ j : Fin 32, (1#32 : BitVec 32).getLsbD j.val = decide (j.val = 0) := by decide
    exact this ⟨j, hj⟩
  simp only [BitVec.getLsbD_shiftLeft]
  by_cases h : j < k
  · simp [hj, h]; omega
  · have o := one (j - k) (by omega)
    simp only [o, hj, h]
    simp
    omega

theorem acc_bits (p : BitVec 32) (N : Nat) (k : Nat) (hk : k ≤ 32) : ∀ j, j < 32 → (acc p N k).getLsbD j = (decide (j < k) && (decide (j < N) && p.getLsbD j)) := by
  induction k with
  | zero => intro j hj; simp [acc]
  | succ k ih =>
    intro j hj
    have ih := ih (by omega) j hj
    simp only [acc]
    split
    · rename_i h
      simp only [BitVec.getLsbD_xor, ih, one_bit k j (by omega) hj]
      by_cases e : j = k
      · subst e; simp [h.1, h.2]
      · have : decide (j < k + 1) = decide (j < k) := by rw [decide_eq_decide]; omega
        simp [e, this]
    · rename_i h
      rw [ih]
      by_cases e : j = k
      · subst e
        simp only [Nat.lt_irrefl, decide_false, Bool.false_and, Nat.lt_succ_self, decide_true, Bool.true_and]
        cases hp : p.getLsbD j <;> simp_all
      · have : decide (j < k + 1) = decide (j < k) := by rw [decide_eq_decide]; omega
        rw [this]

theorem acc_zero_iff (p : BitVec 32) (N k : Nat) (hk : k < 32) (h : p.getLsbD k = true) (hN : k < N) : acc p N (k + 1) ≠ 0#32 := by
  intro e
  have := acc_bits p N (k + 1) (by omega) k (by omega)
  rw [e] at this
  simp [h, hN] at this

/-- One bit more of a burst. -/
theorem burst_step (l : List UInt8) (x : BitVec 32) (out : List UInt8) (p : BitVec 32) (at_ k N : Nat) (hk : k < 32) (hlen : out.length = l.length) (hN : N + at_ = 8 * l.length)
    (h : Turn x out = Turn x l ^^^ shN N (acc p N k)) (hb : p.getLsbD k = true) (hlt : k < N) :
    Turn x (flip out (at_ + k)) = Turn x l ^^^ shN N (acc p N (k + 1)) := by
  rw [Turn_flip out x (at_ + k) (by omega), h, BitVec.xor_assoc]
  congr 1
  simp only [acc, hb, hlt, and_self, if_true]
  rw [shN_xor]
  congr 1
  have e : 8 * out.length - (at_ + k) = N - k := by omega
  rw [e]
  conv => rhs; rw [show N = k + (N - k) from by omega]
  rw [shN_add, one_shN k hk]

theorem burst_end (l : List UInt8) (x R : BitVec 32) (out : List UInt8) (N : Nat) (a : BitVec 32)
    (h : Turn x out = Turn x l ^^^ shN N a) (hl : Turn x l = R) : Turn x out = R ↔ a = 0#32 := by
  rw [h, hl]
  constructor
  · intro e
    apply shN_inj0 N
    have : (R ^^^ shN N a) ^^^ R = R ^^^ R := by rw [e]
    rw [BitVec.xor_comm R, BitVec.xor_assoc, BitVec.xor_self] at this
    simpa using this
  · intro e; subst e; rw [shN_zero]; simp

/-- Three texts of one length, xored. -/
theorem Turn_three (a : List UInt8) : ∀ (b c : List UInt8) (x y z : BitVec 32), b.length = a.length → c.length = a.length →
    Turn (x ^^^ y ^^^ z) (List.zipWith (fun p q => p ^^^ q) (List.zipWith (fun p q => p ^^^ q) a b) c) = Turn x a ^^^ Turn y b ^^^ Turn z c := by
  induction a with
  | nil => intro b c x y z hb hc; cases b <;> cases c <;> simp_all [Turn]
  | cons p a ih =>
    intro b c x y z hb hc
    cases b with
    | nil => simp at hb
    | cons q b =>
      cases c with
      | nil => simp at hc
      | cons r c =>
        simp only [List.length_cons, Nat.add_right_cancel_iff] at hb hc
        simp only [List.zipWith_cons_cons, Turn, List.foldl_cons] at *
        rw [← ih b c _ _ _ hb hc]
        congr 1
        unfold turn
        rw [xor_byte, xor_byte, ← shN_xor, ← shN_xor]
        congr 1
        rw [xor_swap x, xor_swap (x ^^^ y)]

theorem Sum_three (a b c : List UInt8) (hb : b.length = a.length) (hc : c.length = a.length) :
    Sum (List.zipWith (fun p q => p ^^^ q) (List.zipWith (fun p q => p ^^^ q) a b) c) = Sum a ^^^ Sum b ^^^ Sum c := by
  unfold Sum
  have := Turn_three a b c ones ones ones hb hc
  have e : ones ^^^ ones ^^^ ones = ones := by rw [BitVec.xor_self]; simp
  rw [e] at this
  rw [this]
  rw [xor_swap (Turn ones a) ones, xor_swap (Turn ones a ^^^ Turn ones b), e]

end CrcP
end

/-! === PlainA -/
section
/- Bytes that are read: the plain functions, and what more bytes behind them change. No program in sight. -/
namespace Go.Proofs.YtnhmdinpfcoebaaGreatDoor
namespace Top
set_option linter.unusedVariables false
set_option linter.unusedSimpArgs false
abbrev Bytes := List UInt8
/-- What a reader gets: nothing, by an error; or something, out of so many bytes. -/
inductive Got (α : Type) where
  | no (e : Nat) : Got α
  | yes (a : α) (k : Nat) : Got α
def Got.andThen {α β : Type} (x : Got α) (f : α → Nat → Got β) : Got β := match x with
  | .no e => .no e
  | .yes a k => f a k
/-- A reader: what it gets, it gets of the bytes that it takes; what is wrong with them, but for their end, stays so. -/
structure Reads1 {α : Type} (p : Bytes → Got α) : Prop where
  len : ∀ l a k, p l = .yes a k → k ≤ l.length
  more : ∀ l m a k, p l = .yes a k → p (l ++ m) = .yes a k
  bad : ∀ l m e, p l = .no e → e ≠ 2 → p (l ++ m) = .no e
/-- A number of so many groups of seven bits. -/
def septL : Nat → Bytes → Nat → Nat → Got Nat
  | 0, _, k, n => .yes n k
  | _ + 1, [], _, _ => .no 2
  | c + 1, b :: t, k, n => if 127 < b.toNat ∨ (k = 9 ∧ 1 < b.toNat) then .no 3 else septL c t (k + 1) (n + b.toNat * 2 ^ (7 * k))
def septP (count : Nat) (l : Bytes) : Got Nat := septL count l 0 0
def lebL : Nat → Bytes → Nat → Nat → Got Nat
  | 0, _, _, _ => .no 3
  | _ + 1, [], _, _ => .no 2
  | f + 1, b :: t, k, n => if (b.toNat = 0 ∧ 0 < k) ∨ (1 < b.toNat ∧ k = 9) then .no 3 else if b.toNat < 128 then .yes (n + b.toNat * 2 ^ (7 * k)) (k + 1) else lebL f t (k + 1) (n + (b.toNat - 128) * 2 ^ (7 * k))
def lebP (l : Bytes) : Got Nat := lebL 10 l 0 0
def mostP (most : Nat) (l : Bytes) : Got Nat := (lebP l).andThen fun n k => if most < n then .no 5 else .yes n k
theorem septL_len : ∀ (c : Nat) (l : Bytes) (k n a q : Nat), septL c l k n = .yes a q → q = k + c ∧ c ≤ l.length
  | 0, l, k, n, a, q, h => by simp [septL] at h; omega
  | c + 1, [], k, n, a, q, h => by simp [septL] at h
  | c + 1, b :: t, k, n, a, q, h => by
    rw [septL] at h
    split at h
    · cases h
    · have := septL_len c t _ _ _ _ h
      simp only [List.length_cons]
      omega
theorem septL_more : ∀ (c : Nat) (l m : Bytes) (k n : Nat), (∀ a q, septL c l k n = .yes a q → septL c (l ++ m) k n = .yes a q) ∧ (∀ e, septL c l k n = .no e → e ≠ 2 → septL c (l ++ m) k n = .no e)
  | 0, l, m, k, n => ⟨fun a q h => h, fun e h _ => h⟩
  | c + 1, [], m, k, n => ⟨fun a q h => by simp [septL] at h, fun e h h2 => by simp [septL] at h; omega⟩
  | c + 1, b :: t, m, k, n => by
    rw [List.cons_append, septL, septL]
    split
    · exact ⟨fun a q h => h, fun e h _ => h⟩
    · exact septL_more c t m _ _
theorem septP_reads (c : Nat) : Reads1 (septP c) := ⟨fun l a k h => by have := septL_len c l 0 0 a k h; omega, fun l m a k h => (septL_more c l m 0 0).1 a k h, fun l m e h h2 => (septL_more c l m 0 0).2 e h h2⟩
theorem lebL_len : ∀ (f : Nat) (l : Bytes) (k n a q : Nat), lebL f l k n = .yes a q → k < q ∧ q ≤ k + l.length
  | 0, l, k, n, a, q, h => by simp [lebL] at h
  | f + 1, [], k, n, a, q, h => by simp [lebL] at h
  | f + 1, b :: t, k, n, a, q, h => by
    rw [lebL] at h
    split at h
    · cases h
    · split at h
      · injection h with h1 h2
        simp only [List.length_cons]; omega
      · have := lebL_len f t _ _ _ _ h
        simp only [List.length_cons]; omega
theorem lebL_more : ∀ (f : Nat) (l m : Bytes) (k n : Nat), (∀ a q, lebL f l k n = .yes a q → lebL f (l ++ m) k n = .yes a q) ∧ (∀ e, lebL f l k n = .no e → e ≠ 2 → lebL f (l ++ m) k n = .no e)
  | 0, l, m, k, n => ⟨fun a q h => h, fun e h _ => h⟩
  | f + 1, [], m, k, n => ⟨fun a q h => by simp [lebL] at h, fun e h h2 => by simp [lebL] at h; omega⟩
  | f + 1, b :: t, m, k, n => by
    rw [List.cons_append, lebL, lebL]
    split
    · exact ⟨fun a q h => h, fun e h _ => h⟩
    · split
      · exact ⟨fun a q h => h, fun e h _ => h⟩
      · exact lebL_more f t m _ _
theorem lebP_reads : Reads1 lebP := ⟨fun l a k h => by have := lebL_len 10 l 0 0 a k h; omega, fun l m a k h => (lebL_more 10 l m 0 0).1 a k h, fun l m e h h2 => (lebL_more 10 l m 0 0).2 e h h2⟩
/-- One reader behind another. -/
def seqP {α β : Type} (p : Bytes → Got α) (f : α → Bytes → Got β) (l : Bytes) : Got β := match p l with
  | .no e => .no e
  | .yes a k => match f a (l.drop k) with
    | .no e => .no e
    | .yes b j => .yes b (k + j)
theorem seqP_reads {α β : Type} {p : Bytes → Got α} {f : α → Bytes → Got β} (hp : Reads1 p) (hf : ∀ a, Reads1 (f a)) : Reads1 (seqP p f) := by
  refine ⟨fun l a k h => ?_, fun l m a k h => ?_, fun l m e h h2 => ?_⟩
  · unfold seqP at h
    cases h1 : p l with
    | no e => rw [h1] at h; cases h
    | yes b j =>
      rw [h1] at h
      simp only at h
      cases h3 : f b (l.drop j) with
      | no e => rw [h3] at h; cases h
      | yes c q =>
        rw [h3] at h
        have e1 := hp.len _ _ _ h1
        have e2 := (hf b).len _ _ _ h3
        injection h with _ h
        rw [List.length_drop] at e2
        omega
  · unfold seqP at h ⊢
    cases h1 : p l with
    | no e => rw [h1] at h; cases h
    | yes b j =>
      rw [h1] at h
      rw [hp.more _ m _ _ h1]
      simp only at h ⊢
      rw [List.drop_append_of_le_length (hp.len _ _ _ h1)]
      cases h3 : f b (l.drop j) with
      | no e => rw [h3] at h; cases h
      | yes c q => rw [h3] at h; rw [(hf b).more _ m _ _ h3]; exact h
  · unfold seqP at h ⊢
    cases h1 : p l with
    | no e1 =>
      rw [h1] at h
      injection h with h
      subst h
      rw [hp.bad _ m _ h1 h2]
    | yes b j =>
      rw [h1] at h
      rw [hp.more _ m _ _ h1]
      simp only at h ⊢
      rw [List.drop_append_of_le_length (hp.len _ _ _ h1)]
      cases h3 : f b (l.drop j) with
      | no e1 => rw [h3] at h; injection h with h; subst h; rw [(hf b).bad _ m _ h3 h2]
      | yes c q => rw [h3] at h; cases h
/-- A test of what was read. -/
def okP {α β : Type} (f : α → Nat ⊕ β) (p : Bytes → Got α) (l : Bytes) : Got β := match p l with
  | .no e => .no e
  | .yes a k => match f a with
    | .inl e => .no e
    | .inr b => .yes b k
theorem okP_reads {α β : Type} {f : α → Nat ⊕ β} {p : Bytes → Got α} (hp : Reads1 p) : Reads1 (okP f p) := by
  refine ⟨fun l a k h => ?_, fun l m a k h => ?_, fun l m e h h2 => ?_⟩
  · unfold okP at h
    cases h1 : p l with
    | no e => rw [h1] at h; cases h
    | yes b j =>
      rw [h1] at h
      simp only at h
      cases h3 : f b with
      | inl e => rw [h3] at h; cases h
      | inr c => rw [h3] at h; injection h with _ h; subst h; exact hp.len _ _ _ h1
  · unfold okP at h ⊢
    cases h1 : p l with
    | no e => rw [h1] at h; cases h
    | yes b j => rw [h1] at h; rw [hp.more _ m _ _ h1]; exact h
  · unfold okP at h ⊢
    cases h1 : p l with
    | no e1 => rw [h1] at h; injection h with h; subst h; rw [hp.bad _ m _ h1 h2]
    | yes b j => rw [h1] at h; rw [hp.more _ m _ _ h1]; exact h
/-- So many bytes. -/
def takeP (n : Nat) (l : Bytes) : Got Bytes := if n ≤ l.length then .yes (l.take n) n else .no 2
theorem takeP_reads (n : Nat) : Reads1 (takeP n) := by
  refine ⟨fun l a k h => ?_, fun l m a k h => ?_, fun l m e h h2 => ?_⟩
  · unfold takeP at h
    split at h
    · injection h with _ h; omega
    · cases h
  · unfold takeP at h ⊢
    split at h
    · rename_i hn
      rw [if_pos (by rw [List.length_append]; omega), List.take_append_of_le_length hn]; exact h
    · cases h
  · unfold takeP at h
    split at h
    · cases h
    · injection h with h; omega
end Top
end Go.Proofs.YtnhmdinpfcoebaaGreatDoor
end

/-! === PlainB -/
section
/- Events, frames, and a hunter: the plain functions; fed by parts is fed. No program in sight. -/
namespace Go.Proofs.YtnhmdinpfcoebaaGreatDoor
namespace Top
set_option linter.unusedVariables false
set_option linter.unusedSimpArgs false
structure Ev where
  kind : Int
  cycle : Nat
  count : Nat
  a : Nat
  b : Nat
  v : Nat
deriving DecidableEq
instance : Inhabited Ev := ⟨⟨0, 0, 0, 0, 0, 0⟩⟩
/-- The ranges of a kind's numbers, as the program numbers them. -/
def shape (k : Int) : Nat × Nat × Nat :=
  if k = 1 then (3, 2, 0) else if k = 2 ∨ k = 20 then (3, 6, 1) else if k = 3 ∨ k = 4 then (3, 0, 0) else if k = 5 then (8, 8, 0) else if k = 6 ∨ k = 8 then (5, 0, 1) else if k = 7 then (5, 0, 12)
  else if k = 9 then (5, 9, 0) else if k = 10 then (5, 2, 0) else if k = 11 then (5, 10, 0) else if k = 12 ∨ k = 13 then (5, 4, 0) else if k = 14 then (7, 4, 11) else if k = 15 then (5, 4, 11)
  else if k = 16 ∨ k = 17 ∨ k = 19 then (6, 4, 1) else if k = 18 then (4, 0, 0) else if k = 21 then (6, 13, 0) else if k = 22 then (5, 0, 0) else if k = 23 then (7, 13, 14) else (0, 0, 0)
def within (n : Nat) (o : Nat) : Bool :=
  if o = 1 then true else if o = 8 then decide (n < 64 ∨ n = 255) else if o = 9 then decide (n = 0 ∨ (32 ≤ n ∧ n < 160)) else if o = 12 then decide (1 ≤ n ∧ n ≤ 255)
  else decide (n ≤ (if o = 2 then 1 else if o = 3 then 15 else if o = 4 ∨ o = 10 then 31 else if o = 5 then 63 else if o = 6 then 79 else if o = 7 then 80 else if o = 11 then 255 else if o = 13 then 16 else if o = 14 then 38 else 0))
def isKind (k : Int) : Bool := decide (1 ≤ k ∧ k ≤ 24)
def evCheck (e : Ev) : Nat :=
  if isKind e.kind = false then 1
  else if within e.a (shape e.kind).1 = false ∨ within e.b (shape e.kind).2.1 = false ∨ within e.v (shape e.kind).2.2 = false ∨ (e.kind = 5 ∧ e.a = e.b) then 5 else 0
/-- A number with a sign. -/
def unfoldI (n : Nat) : Int := if n % 2 = 0 then (n / 2 : Nat) else -((n / 2 : Nat) : Int) - 1
def W32 : Nat := 4294967295
def optP (has : Bool) (l : Bytes) : Got Nat := if has then mostP W32 l else .yes 0 0
def U64 : Nat := 18446744073709551616
/-- What comes of an event's numbers, behind a stamp. -/
def mkEv (kind : Nat) (cycle count step fold a b v : Nat) : Nat ⊕ Ev :=
  let grow : Int := (step : Int) + unfoldI fold
  let e : Ev := ⟨kind, ((cycle : Int) + grow).toNat % U64, (count + step) % U64, a, b, v⟩
  if grow < 0 ∨ e.count < count ∨ e.cycle < cycle ∨ evCheck e ≠ 0 then .inl 5 else .inr e
def nextP (cycle count : Nat) : Bytes → Got Ev
  | [] => .no 1
  | b :: t => if isKind (b.toNat : Int) = false then .no 1 else
    match (seqP (mostP W32) fun step => seqP (mostP W32) fun fold => seqP (optP (decide ((shape b.toNat).1 ≠ 0))) fun a => seqP (optP (decide ((shape b.toNat).2.1 ≠ 0))) fun b2 =>
      okP (mkEv b.toNat cycle count step fold a b2) (optP (decide ((shape b.toNat).2.2 ≠ 0)))) t with
    | .no e => .no e
    | .yes e k => .yes e (k + 1)
/-- The events that some bytes are. -/
def readL : Nat → Nat → Nat → Bytes → Nat ⊕ List Ev
  | 0, _, _, _ => .inr []
  | f + 1, cycle, count, l => if l = [] then .inr [] else match nextP cycle count l with
    | .no e => .inl e
    | .yes e k => match readL f e.cycle e.count (l.drop k) with
      | .inl e => .inl e
      | .inr es => .inr (e :: es)
def readP (cycle count : Nat) (l : Bytes) : Nat ⊕ List Ev := readL l.length cycle count l
/-! ### A frame -/
def marker : Bytes := List.replicate 16 255 ++ [84, 65, 70, 82, 73, 76]
def agree : Bytes → Bytes → Nat
  | a :: l, b :: m => if a = b then agree l m + 1 else 0
  | _, _ => 0
def markP (l : Bytes) : Got Unit := if agree marker l < 22 then (if agree marker l = l.length then .no 2 else .no 3) else .yes () 22
theorem agree_le : ∀ m l, agree m l ≤ l.length
  | [], l => by simp [agree]
  | a :: m, [] => by simp [agree]
  | a :: m, b :: l => by rw [agree]; split <;> simp only [List.length_cons] <;> have := agree_le m l <;> omega
theorem agree_le2 : ∀ m l, agree m l ≤ m.length
  | [], l => by simp [agree]
  | a :: m, [] => by simp [agree]
  | a :: m, b :: l => by rw [agree]; split <;> simp only [List.length_cons] <;> have := agree_le2 m l <;> omega
theorem agree_more : ∀ m l x, agree m l < l.length ∨ agree m l = m.length → agree m (l ++ x) = agree m l
  | [], l, x, _ => by simp [agree]
  | a :: m, [], x, h => by simp [agree] at h
  | a :: m, b :: l, x, h => by
    rw [List.cons_append, agree, agree]
    rw [agree] at h
    split
    · rename_i hab
      rw [if_pos hab] at h
      rw [agree_more m l x (by simp only [List.length_cons] at h; omega)]
    · rfl
theorem markP_reads : Reads1 markP := by
  have hm : marker.length = 22 := rfl
  refine ⟨fun l a k h => ?_, fun l m a k h => ?_, fun l m e h h2 => ?_⟩
  · unfold markP at h
    have := agree_le marker l
    split at h
    · split at h <;> cases h
    · injection h with _ h; omega
  · unfold markP at h ⊢
    have h1 := agree_le2 marker l
    split at h
    · split at h <;> cases h
    · rename_i hn
      rw [agree_more _ _ _ (.inr (by omega)), if_neg hn]; exact h
  · unfold markP at h ⊢
    have h1 := agree_le marker l
    split at h
    · rename_i hn
      split at h
      · injection h with h; omega
      · rename_i hl
        rw [agree_more _ _ _ (.inl (by omega)), if_pos hn, if_neg (by rw [List.length_append]; omega)]; exact h
    · cases h
/-- What was read, and the bytes of it. -/
def rawP {α : Type} (p : Bytes → Got α) (l : Bytes) : Got (α × Bytes) := match p l with
  | .no e => .no e
  | .yes a k => .yes (a, l.take k) k
theorem rawP_reads {α : Type} {p : Bytes → Got α} (hp : Reads1 p) : Reads1 (rawP p) := by
  refine ⟨fun l a k h => ?_, fun l m a k h => ?_, fun l m e h h2 => ?_⟩
  · unfold rawP at h
    cases h1 : p l with
    | no e => rw [h1] at h; cases h
    | yes b j => rw [h1] at h; injection h with _ h; subst h; exact hp.len _ _ _ h1
  · unfold rawP at h ⊢
    cases h1 : p l with
    | no e => rw [h1] at h; cases h
    | yes b j => rw [h1] at h; rw [hp.more _ m _ _ h1]; simp only at h ⊢; rw [List.take_append_of_le_length (hp.len _ _ _ h1)]; exact h
  · unfold rawP at h ⊢
    cases h1 : p l with
    | no e1 => rw [h1] at h; injection h with h; subst h; rw [hp.bad _ m _ h1 h2]
    | yes b j => rw [h1] at h; cases h
def wordP : Bytes → Got Nat := okP (fun n => if W32 < n then .inl 5 else .inr n) (septP 5)
def sumP (of : Bytes) : Bytes → Got Unit := okP (fun n => if n = (CrcP.Sum of).toNat then .inr () else .inl 6) wordP
def headP : Bytes → Got ((Nat × Nat × Nat × Nat) × Bytes) := rawP (seqP markP fun _ => seqP wordP fun seq => seqP (septP 10) fun cycle => seqP (septP 10) fun count =>
  okP (fun n => if n < 1 ∨ 120 < n then .inl 4 else .inr (seq, cycle, count, n)) (septP 2))
/-- A frame's number and its events. -/
def frameP : Bytes → Got (Nat × List Ev) := seqP headP fun h => seqP (sumP (h.2.drop 16)) fun _ => seqP (takeP h.1.2.2.2) fun p =>
  okP (fun _ => match readP h.1.2.1 h.1.2.2.1 p with
    | .inl e => .inl e
    | .inr es => if (es.headD default).cycle = h.1.2.1 ∧ (es.headD default).count = h.1.2.2.1 then .inr (h.1.1, es) else .inl 3) (sumP p)
theorem wordP_reads : Reads1 wordP := okP_reads (septP_reads 5)
theorem sumP_reads (o : Bytes) : Reads1 (sumP o) := okP_reads wordP_reads
theorem headP_reads : Reads1 headP := rawP_reads (seqP_reads markP_reads fun _ => seqP_reads wordP_reads fun _ => seqP_reads (septP_reads 10) fun _ => seqP_reads (septP_reads 10) fun _ => okP_reads (septP_reads 2))
theorem frameP_reads : Reads1 frameP := seqP_reads headP_reads fun h => seqP_reads (sumP_reads _) fun _ => seqP_reads (takeP_reads _) fun p => okP_reads (sumP_reads p)
theorem seqP_first {α β : Type} {p : Bytes → Got α} {f : α → Bytes → Got β} {l : Bytes} {b : β} {k : Nat} (h : seqP p f l = .yes b k) : ∃ a j, p l = .yes a j ∧ j ≤ k := by
  unfold seqP at h
  cases h1 : p l with
  | no e => rw [h1] at h; cases h
  | yes a j =>
    rw [h1] at h
    simp only at h
    cases h3 : f a (l.drop j) with
    | no e => rw [h3] at h; cases h
    | yes c q => rw [h3] at h; injection h with _ h; exact ⟨a, j, rfl, by omega⟩
theorem frameP_pos {l : Bytes} {x : Nat × List Ev} {k : Nat} (h : frameP l = .yes x k) : 0 < k := by
  obtain ⟨a, j, h1, h2⟩ := seqP_first h
  unfold headP rawP at h1
  split at h1
  · cases h1
  · rename_i h3
    obtain ⟨_, i, h4, h5⟩ := seqP_first h3
    injection h1 with _ h1
    unfold markP at h4
    split at h4
    · split at h4 <;> cases h4
    · injection h4 with _ h4; omega
/-! ### A hunter -/
inductive It where
  | frame (seq : Nat) (es : List Ev)
  | gap (seq lost : Nat)
structure Hu where
  out : List It
  text : Bytes
  next : Nat
  skipped : Nat
  lost : Nat
def huntL (closed : Bool) : Nat → Bytes → Nat → Nat → Nat → Hu
  | 0, l, next, skipped, lost => ⟨[], l, next, skipped, lost⟩
  | f + 1, l, next, skipped, lost => if l = [] then ⟨[], [], next, skipped, lost⟩ else match frameP l with
    | .no e => if e = 2 ∧ closed = false then ⟨[], l, next, skipped, lost⟩ else huntL closed f (l.drop 1) next (skipped + 1) lost
    | .yes (seq, es) k => if seq < next then huntL closed f (l.drop 1) next (skipped + 1) lost else
      let r := huntL closed f (l.drop k) (seq + 1) skipped (lost + (seq - next))
      { r with out := (if next < seq then [It.gap next (seq - next)] else []) ++ [It.frame seq es] ++ r.out }
def hunt (closed : Bool) (l : Bytes) (next skipped lost : Nat) : Hu := huntL closed l.length l next skipped lost
theorem huntL_fuel (closed : Bool) : ∀ (f g : Nat) (l : Bytes) (n s o : Nat), l.length ≤ f → l.length ≤ g → huntL closed f l n s o = huntL closed g l n s o
  | 0, g, l, n, s, o, hf, hg => by
    have : l = [] := List.eq_nil_of_length_eq_zero (by omega)
    subst this
    cases g <;> simp [huntL]
  | f + 1, 0, l, n, s, o, hf, hg => by
    have : l = [] := List.eq_nil_of_length_eq_zero (by omega)
    subst this
    simp [huntL]
  | f + 1, g + 1, l, n, s, o, hf, hg => by
    rw [huntL, huntL]
    by_cases hl : l = []
    · rw [if_pos hl, if_pos hl]
    · rw [if_neg hl, if_neg hl]
      have hpos : 0 < l.length := List.length_pos_iff.2 hl
      have h1 : (l.drop 1).length ≤ f := by rw [List.length_drop]; omega
      have h2 : (l.drop 1).length ≤ g := by rw [List.length_drop]; omega
      cases hp : frameP l with
      | no e => simp only; rw [huntL_fuel closed f g _ _ _ _ h1 h2]
      | yes x k =>
        obtain ⟨seq, es⟩ := x
        have hk := frameP_pos hp
        simp only
        rw [huntL_fuel closed f g _ _ _ _ h1 h2, huntL_fuel closed f g (l.drop k) _ _ _ (by rw [List.length_drop]; omega) (by rw [List.length_drop]; omega)]
theorem hunt_nil (c : Bool) (n s o : Nat) : hunt c [] n s o = ⟨[], [], n, s, o⟩ := rfl
theorem hunt_wait {l : Bytes} {n s o : Nat} (hl : l ≠ []) (h : frameP l = .no 2) : hunt false l n s o = ⟨[], l, n, s, o⟩ := by
  have hpos : 0 < l.length := List.length_pos_iff.2 hl
  unfold hunt
  obtain ⟨f, hf⟩ : ∃ f, l.length = f + 1 := ⟨l.length - 1, by omega⟩
  rw [hf, huntL, if_neg hl, h]
  simp
theorem hunt_skip {c : Bool} {l : Bytes} {n s o : Nat} (hl : l ≠ []) (h : (∃ e, frameP l = .no e ∧ ¬ (e = 2 ∧ c = false)) ∨ ∃ x k, frameP l = .yes x k ∧ x.1 < n) : hunt c l n s o = hunt c (l.drop 1) n (s + 1) o := by
  have hpos : 0 < l.length := List.length_pos_iff.2 hl
  unfold hunt
  obtain ⟨f, hf⟩ : ∃ f, l.length = f + 1 := ⟨l.length - 1, by omega⟩
  rw [hf, huntL, if_neg hl]
  have h1 : (l.drop 1).length = f := by rw [List.length_drop]; omega
  rcases h with ⟨e, h, h2⟩ | ⟨⟨seq, es⟩, k, h, h2⟩
  · rw [h]; simp only; rw [if_neg h2, h1]
  · rw [h]; simp only; rw [if_pos h2, h1]
theorem hunt_take {c : Bool} {l : Bytes} {n s o seq k : Nat} {es : List Ev} (hl : l ≠ []) (h : frameP l = .yes (seq, es) k) (h2 : n ≤ seq) :
    hunt c l n s o = { hunt c (l.drop k) (seq + 1) s (o + (seq - n)) with out := (if n < seq then [It.gap n (seq - n)] else []) ++ [It.frame seq es] ++ (hunt c (l.drop k) (seq + 1) s (o + (seq - n))).out } := by
  have hpos : 0 < l.length := List.length_pos_iff.2 hl
  unfold hunt
  obtain ⟨f, hf⟩ : ∃ f, l.length = f + 1 := ⟨l.length - 1, by omega⟩
  rw [hf, huntL, if_neg hl, h]
  have hk := frameP_pos h
  simp only
  rw [if_neg (by omega), huntL_fuel c f (l.drop k).length (l.drop k) _ _ _ (by rw [List.length_drop]; omega) (Nat.le_refl _)]
/-- Fed by parts is fed. -/
theorem hunt_parts : ∀ (N : Nat) (l m : Bytes) (n s o : Nat), l.length ≤ N →
    hunt false (l ++ m) n s o = { hunt false ((hunt false l n s o).text ++ m) (hunt false l n s o).next (hunt false l n s o).skipped (hunt false l n s o).lost with
      out := (hunt false l n s o).out ++ (hunt false ((hunt false l n s o).text ++ m) (hunt false l n s o).next (hunt false l n s o).skipped (hunt false l n s o).lost).out } := by
  intro N
  induction N with
  | zero =>
    intro l m n s o hN
    have : l = [] := List.eq_nil_of_length_eq_zero (by omega)
    subst this
    rw [hunt_nil]
    simp
  | succ N ih =>
    intro l m n s o hN
    by_cases hl : l = []
    · subst hl; rw [hunt_nil]; simp
    · have hpos : 0 < l.length := List.length_pos_iff.2 hl
      have hlm : l ++ m ≠ [] := by simp [hl]
      have hd : (l ++ m).drop 1 = l.drop 1 ++ m := List.drop_append_of_le_length (by omega)
      cases hp : frameP l with
      | no e =>
        by_cases he : e = 2
        · subst he
          rw [hunt_wait hl hp]
          simp
        · have h1 : ¬ (e = 2 ∧ false = false) := fun h => he h.1
          rw [hunt_skip hl (.inl ⟨e, hp, h1⟩), hunt_skip hlm (.inl ⟨e, frameP_reads.bad _ m _ hp he, h1⟩), hd]
          exact ih _ m n (s + 1) o (by rw [List.length_drop]; omega)
      | yes x k =>
        obtain ⟨seq, es⟩ := x
        have hp2 := frameP_reads.more _ m _ _ hp
        by_cases hn : seq < n
        · rw [hunt_skip hl (.inr ⟨_, _, hp, hn⟩), hunt_skip hlm (.inr ⟨_, _, hp2, hn⟩), hd]
          exact ih _ m n (s + 1) o (by rw [List.length_drop]; omega)
        · have hk := frameP_pos hp
          rw [hunt_take hl hp (by omega), hunt_take hlm hp2 (by omega), List.drop_append_of_le_length (frameP_reads.len _ _ _ hp)]
          rw [ih (l.drop k) m (seq + 1) s (o + (seq - n)) (by rw [List.length_drop]; omega)]
          simp
end Top
end Go.Proofs.YtnhmdinpfcoebaaGreatDoor
end

/-! === QuPlain -/
section
/- The queues, plainly: rows as linked lists in arrays; pushing and cutting keep the rows. No program in sight. -/
namespace Go.Proofs.YtnhmdinpfcoebaaGreatDoor.Qu
set_option linter.unusedVariables false

def hd (n : Int) : List Nat → Int
  | [] => n
  | x :: _ => x
def lst (p : Int) : List Nat → Int
  | [] => p
  | x :: xs => lst x xs
theorem lst_append (p : Int) : ∀ (xs ys : List Nat), lst p (xs ++ ys) = lst (lst p xs) ys
  | [], _ => rfl
  | x :: xs, ys => lst_append x xs ys
theorem hd_append (n : Int) : ∀ (xs ys : List Nat), hd n (xs ++ ys) = hd (hd n ys) xs
  | [], _ => rfl
  | x :: xs, ys => rfl
theorem hd_mem (n : Int) : ∀ (xs : List Nat), xs ≠ [] → ∃ x, x ∈ xs ∧ hd n xs = (x : Int)
  | [], h => absurd rfl h
  | x :: xs, _ => ⟨x, by simp, rfl⟩
theorem lst_mem (p : Int) : ∀ (xs : List Nat), xs ≠ [] → ∃ x, x ∈ xs ∧ lst p xs = (x : Int)
  | [], h => absurd rfl h
  | [x], _ => ⟨x, by simp, rfl⟩
  | x :: y :: ys, _ => by
    obtain ⟨z, hz, e⟩ := lst_mem x (y :: ys) (by simp)
    exact ⟨z, List.mem_cons_of_mem _ hz, e⟩
theorem lst_free (p q : Int) : ∀ (xs : List Nat), xs ≠ [] → lst p xs = lst q xs
  | [], h => absurd rfl h
  | x :: xs, _ => rfl

def up (f : Nat → Int) (i : Nat) (v : Int) : Nat → Int := fun j => if j = i then v else f j
theorem up_same (f : Nat → Int) (i : Nat) (v : Int) : up f i v i = v := by simp [up]
theorem up_other (f : Nat → Int) (i : Nat) (v : Int) {j : Nat} (h : j ≠ i) : up f i v j = f j := by simp [up, h]

/-- A row between p and n. -/
def Seg (ahead after : Nat → Int) : Int → List Nat → Int → Prop
  | _, [], _ => True
  | p, x :: xs, n => ahead x = p ∧ after x = hd n xs ∧ Seg ahead after x xs n
theorem Seg.append {ahead after : Nat → Int} : ∀ (xs ys : List Nat) (p n : Int), Seg ahead after p (xs ++ ys) n ↔ Seg ahead after p xs (hd n ys) ∧ Seg ahead after (lst p xs) ys n
  | [], ys, p, n => by simp [Seg, lst]
  | x :: xs, ys, p, n => by
    have ih := Seg.append (ahead := ahead) (after := after) xs ys x n
    simp only [List.cons_append, Seg, lst, hd_append, ih, and_assoc]
theorem Seg.congr {ahead after ahead' after' : Nat → Int} : ∀ (xs : List Nat) (p n : Int), (∀ x ∈ xs, ahead' x = ahead x ∧ after' x = after x) → Seg ahead after p xs n → Seg ahead' after' p xs n
  | [], p, n, _, _ => trivial
  | x :: xs, p, n, h, hs => by
    obtain ⟨h1, h2⟩ := h x (by simp)
    exact ⟨h1.trans hs.1, h2.trans hs.2.1, Seg.congr xs x n (fun y hy => h y (List.mem_cons_of_mem _ hy)) hs.2.2⟩
/-- Another one behind the row. -/
theorem Seg.set_last {ahead after : Nat → Int} (n' : Int) : ∀ (xs : List Nat) (p n : Int), xs.Nodup → Seg ahead after p xs n → ∀ z : Nat, lst p xs = (z : Int) → xs ≠ [] → Seg ahead (up after z n') p xs n'
  | [], p, n, _, _, z, _, hne => absurd rfl hne
  | [x], p, n, _, hs, z, hz, _ => by
    have : x = z := by simp only [lst] at hz; omega
    subst this
    exact ⟨hs.1, up_same _ _ _, trivial⟩
  | x :: y :: ys, p, n, hn, hs, z, hz, _ => by
    obtain ⟨hx, hn'⟩ := List.nodup_cons.1 hn
    have ih := Seg.set_last n' (y :: ys) x n hn' hs.2.2 z hz (by simp)
    obtain ⟨q, hq, e⟩ := lst_mem x (y :: ys) (by simp)
    have hqz : q = z := by
      have : lst p (x :: y :: ys) = lst x (y :: ys) := rfl
      rw [this] at hz; omega
    subst hqz
    have hxz : x ≠ q := fun h => hx (h ▸ hq)
    exact ⟨hs.1, by rw [up_other _ _ _ hxz]; exact hs.2.1, ih⟩
/-- Another one ahead of the row. -/
theorem Seg.set_first {ahead after : Nat → Int} (p' : Int) : ∀ (xs : List Nat) (p n : Int), xs.Nodup → Seg ahead after p xs n → ∀ z : Nat, hd n xs = (z : Int) → xs ≠ [] → Seg (up ahead z p') after p' xs n
  | [], p, n, _, _, z, _, hne => absurd rfl hne
  | x :: xs, p, n, hn, hs, z, hz, _ => by
    have : x = z := by simp only [hd] at hz; omega
    subst this
    obtain ⟨hx, hn'⟩ := List.nodup_cons.1 hn
    exact ⟨up_same _ _ _, hs.2.1, Seg.congr xs x n (fun y hy => ⟨up_other _ _ _ (fun h => hx (h ▸ hy)), rfl⟩) hs.2.2⟩

structure QS where
  some : BitVec 32
  front : Nat → Int
  back : Nat → Int
  ahead : Nat → Int
  after : Nat → Int
  level : Nat → Int
  count : Int

def pushS (s : QS) (t l : Nat) : QS :=
  if s.some.getLsbD l = false then
    { some := s.some ||| 1#32 <<< l, front := up s.front l t, back := up s.back l t, ahead := up s.ahead t (-1), after := up s.after t (-1), level := up s.level t (l + 1), count := s.count + 1 }
  else
    { some := s.some ||| 1#32 <<< l, front := s.front, back := up s.back l t, ahead := up s.ahead t (s.back l), after := up (up s.after (s.back l).toNat t) t (-1), level := up s.level t (l + 1), count := s.count + 1 }
def cutS (s : QS) (t : Nat) : QS :=
  let l := (s.level t - 1).toNat
  { some := if s.ahead t < 0 ∧ s.after t < 0 then s.some &&& ~~~(1#32 <<< l) else s.some,
    front := if s.ahead t < 0 then up s.front l (s.after t) else s.front,
    back := if s.after t < 0 then up s.back l (s.ahead t) else s.back,
    ahead := if s.after t < 0 then s.ahead else up s.ahead (s.after t).toNat (s.ahead t),
    after := if s.ahead t < 0 then s.after else up s.after (s.ahead t).toNat (s.after t),
    level := up s.level t 0, count := s.count - 1 }

abbrev Rows := Nat → List Nat
def upL (L : Rows) (l : Nat) (xs : List Nat) : Rows := fun j => if j = l then xs else L j
theorem upL_same (L : Rows) (l : Nat) (xs : List Nat) : upL L l xs l = xs := by simp [upL]
theorem upL_other (L : Rows) {l j : Nat} (xs : List Nat) (h : j ≠ l) : upL L l xs j = L j := by simp [upL, h]
def total (L : Rows) : Nat := ((List.range 32).map fun l => (L l).length).sum
theorem sum_up (f g : Nat → Nat) (l : Nat) (h : ∀ j, j ≠ l → g j = f j) : ∀ n, l < n → ((List.range n).map g).sum + f l = ((List.range n).map f).sum + g l
  | 0, h0 => absurd h0 (Nat.not_lt_zero _)
  | n + 1, hl => by
    rw [List.range_succ, List.map_append, List.map_append, List.sum_append, List.sum_append]
    simp only [List.map_cons, List.map_nil, List.sum_cons, List.sum_nil, Nat.add_zero]
    by_cases e : l = n
    · subst e
      have : (List.range l).map g = (List.range l).map f := List.map_congr_left fun j hj => h j (by have := List.mem_range.1 hj; omega)
      rw [this]; omega
    · have ih := sum_up f g l h n (by omega)
      have := h n (fun h => e h.symm)
      omega
theorem total_up (L : Rows) (l : Nat) (xs : List Nat) (hl : l < 32) : total (upL L l xs) + (L l).length = total L + xs.length := by
  have := sum_up (fun j => (L j).length) (fun j => (upL L l xs j).length) l (fun j hj => by show (upL L l xs j).length = _; rw [upL_other L xs hj]) 32 hl
  simpa [total, upL_same] using this

/-- The rows lie in the arrays. -/
structure Rep (s : QS) (L : Rows) : Prop where
  mem : ∀ l, l < 32 → ∀ t ∈ L l, t < 64 ∧ s.level t = l + 1
  lev : ∀ t, t < 64 → s.level t = 0 ∨ ∃ l : Nat, l < 32 ∧ s.level t = l + 1 ∧ t ∈ L l
  nodup : ∀ l, l < 32 → (L l).Nodup
  some : ∀ l, l < 32 → (s.some.getLsbD l = false ↔ L l = [])
  front : ∀ l, l < 32 → L l ≠ [] → s.front l = hd (-1) (L l)
  back : ∀ l, l < 32 → L l ≠ [] → s.back l = lst (-1) (L l)
  seg : ∀ l, l < 32 → Seg s.ahead s.after (-1) (L l) (-1)
  count : s.count = total L

def zeroS : QS := ⟨0#32, fun _ => 0, fun _ => 0, fun _ => 0, fun _ => 0, fun _ => 0, 0⟩
theorem rep_zero : Rep zeroS (fun _ => []) where
  mem := fun l _ t h => by simp at h
  lev := fun t _ => .inl rfl
  nodup := fun _ _ => by simp
  some := fun l _ => by simp [zeroS]
  front := fun _ _ h => absurd rfl h
  back := fun _ _ h => absurd rfl h
  seg := fun _ _ => trivial
  count := rfl

theorem bit_or (x : BitVec 32) (l j : Nat) (hl : l < 32) (hj : j < 32) : (x ||| 1#32 <<< l).getLsbD j = (x.getLsbD j || decide (j = l)) := by
  rw [BitVec.getLsbD_or, BitVec.getLsbD_shiftLeft]
  simp only [BitVec.getLsbD_one]
  by_cases e : j = l
  · subst e; simp [hl]
  · have : (decide (j < 32) && !decide (j < l) && (decide (0 < 32) && decide (j - l = 0))) = false := by simp; omega
    simp [e]; omega
theorem bit_andnot (x : BitVec 32) (l j : Nat) (hl : l < 32) (hj : j < 32) : (x &&& ~~~(1#32 <<< l)).getLsbD j = (x.getLsbD j && decide (j ≠ l)) := by
  rw [BitVec.getLsbD_and, BitVec.getLsbD_not, BitVec.getLsbD_shiftLeft]
  simp only [BitVec.getLsbD_one]
  by_cases e : j = l
  · subst e; simp [hl]
  · simp [e, hj]; intro; omega

theorem Rep.apart {s : QS} {L : Rows} (h : Rep s L) {l j t : Nat} (hl : l < 32) (hj : j < 32) (ht : t ∈ L l) (hne : j ≠ l) : t ∉ L j := fun h2 => by
  have h1 := (h.mem l hl t ht).2
  have h3 := (h.mem j hj t h2).2
  omega

theorem rep_push {s : QS} {L : Rows} {t l : Nat} (h : Rep s L) (ht : t < 64) (hl : l < 32) (hno : s.level t = 0) : Rep (pushS s t l) (upL L l (L l ++ [t])) := by
  have hout : ∀ j, j < 32 → t ∉ L j := fun j hj hm => by have := (h.mem j hj t hm).2; omega
  have hlev : (pushS s t l).level = up s.level t (l + 1) := by unfold pushS; split <;> rfl
  have hsome : (pushS s t l).some = s.some ||| 1#32 <<< l := by unfold pushS; split <;> rfl
  have hback : (pushS s t l).back = up s.back l t := by unfold pushS; split <;> rfl
  have hcount : (pushS s t l).count = s.count + 1 := by unfold pushS; split <;> rfl
  have hseg0 : ∀ j, j < 32 → j ≠ l → ∀ x ∈ L j, (pushS s t l).ahead x = s.ahead x ∧ (pushS s t l).after x = s.after x := by
    intro j hj hne x hx
    have hxt : x ≠ t := fun e => hout j hj (e ▸ hx)
    unfold pushS
    split
    · exact ⟨up_other _ _ _ hxt, up_other _ _ _ hxt⟩
    · rename_i hb
      refine ⟨up_other _ _ _ hxt, ?_⟩
      have hne' : L l ≠ [] := fun e => hb ((h.some l hl).2 e)
      obtain ⟨z, hz, e⟩ := lst_mem (-1) (L l) hne'
      have : x ≠ (s.back l).toNat := by
        rw [h.back l hl hne', e]
        intro e2
        have : x = z := by omega
        exact h.apart hl hj hz hne (this ▸ hx)
      show up (up s.after (s.back l).toNat t) t (-1) x = s.after x
      rw [up_other _ _ _ hxt, up_other _ _ _ this]
  refine ⟨?_, ?_, ?_, ?_, ?_, ?_, ?_, ?_⟩
  · intro j hj x hx
    rw [hlev]
    by_cases e : j = l
    · subst e
      rw [upL_same] at hx
      rcases List.mem_append.1 hx with h1 | h1
      · obtain ⟨a, b⟩ := h.mem j hj x h1
        exact ⟨a, by rw [up_other _ _ _ (fun e2 : x = t => hout j hj (e2 ▸ h1))]; exact b⟩
      · have : x = t := by simpa using h1
        subst this
        exact ⟨ht, up_same _ _ _⟩
    · rw [upL_other L _ e] at hx
      obtain ⟨a, b⟩ := h.mem j hj x hx
      exact ⟨a, by rw [up_other _ _ _ (fun e2 : x = t => hout j hj (e2 ▸ hx))]; exact b⟩
  · intro x hx
    rw [hlev]
    by_cases e : x = t
    · subst e
      exact .inr ⟨l, hl, up_same _ _ _, by rw [upL_same]; simp⟩
    · rw [up_other _ _ _ e]
      rcases h.lev x hx with h0 | ⟨j, hj, h1, h2⟩
      · exact .inl h0
      · refine .inr ⟨j, hj, h1, ?_⟩
        by_cases e2 : j = l
        · subst e2; rw [upL_same]; exact List.mem_append_left _ h2
        · rw [upL_other L _ e2]; exact h2
  · intro j hj
    by_cases e : j = l
    · subst e
      rw [upL_same, List.nodup_append]
      exact ⟨h.nodup j hj, by simp, fun a ha b hb e => hout j hj (by simp at hb; subst hb; exact e ▸ ha)⟩
    · rw [upL_other L _ e]; exact h.nodup j hj
  · intro j hj
    rw [hsome, bit_or _ _ _ hl hj]
    by_cases e : j = l
    · subst e; simp [upL_same]
    · rw [upL_other L _ e]; simpa [e] using h.some j hj
  · intro j hj hne
    by_cases e : j = l
    · subst e
      rw [upL_same]
      unfold pushS
      by_cases hb : s.some.getLsbD j = false
      · rw [if_pos hb, (h.some j hj).1 hb]
        exact up_same _ _ _
      · rw [if_neg hb]
        have hne' : L j ≠ [] := fun e => hb ((h.some j hj).2 e)
        show s.front j = _
        rw [h.front j hj hne', hd_append]
        cases hL : L j with
        | nil => exact absurd hL hne'
        | cons a b => rfl
    · rw [upL_other L _ e] at hne ⊢
      unfold pushS
      split
      · show up s.front l t j = _
        rw [up_other _ _ _ e]; exact h.front j hj hne
      · exact h.front j hj hne
  · intro j hj hne
    rw [hback]
    by_cases e : j = l
    · subst e
      rw [upL_same, up_same, lst_append]; rfl
    · rw [upL_other L _ e] at hne ⊢
      rw [up_other _ _ _ e]; exact h.back j hj hne
  · intro j hj
    by_cases e : j = l
    · subst e
      rw [upL_same]
      by_cases hb : s.some.getLsbD j = false
      · rw [(h.some j hj).1 hb]
        unfold pushS
        rw [if_pos hb]
        exact ⟨up_same _ _ _, up_same _ _ _, trivial⟩
      · have hne' : L j ≠ [] := fun e => hb ((h.some j hj).2 e)
        obtain ⟨z, hz, e⟩ := lst_mem (-1) (L j) hne'
        have hzt : z ≠ t := fun e => hout j hj (e ▸ hz)
        rw [Seg.append]
        unfold pushS
        rw [if_neg hb, h.back j hj hne', e]
        simp only [Int.toNat_natCast]
        constructor
        · have h1 := Seg.set_last (t : Int) (L j) (-1) (-1) (h.nodup j hj) (h.seg j hj) z e hne'
          refine Seg.congr (L j) (-1) _ (fun x hx => ?_) h1
          have hxt : x ≠ t := fun e => hout j hj (e ▸ hx)
          exact ⟨up_other _ _ _ hxt, up_other _ _ _ hxt⟩
        · exact ⟨by show up s.ahead t (z : Int) t = _; rw [up_same], up_same _ _ _, trivial⟩
    · rw [upL_other L _ e]
      exact Seg.congr _ _ _ (hseg0 j hj e) (h.seg j hj)
  · rw [hcount, h.count]
    have := total_up L l (L l ++ [t]) hl
    simp only [List.length_append, List.length_singleton] at this
    omega

theorem lst_neg : ∀ (xs : List Nat), lst (-1) xs < 0 ↔ xs = []
  | [] => by simp [lst]
  | x :: xs => by
    obtain ⟨z, _, e⟩ := lst_mem (-1) (x :: xs) (by simp)
    rw [e]; simp
theorem hd_neg : ∀ (xs : List Nat), hd (-1) xs < 0 ↔ xs = []
  | [] => by simp [hd]
  | x :: xs => by simp [hd]
theorem filter_split {pre post : List Nat} {t : Nat} (h1 : t ∉ pre) (h2 : t ∉ post) : (pre ++ t :: post).filter (· != t) = pre ++ post := by
  rw [List.filter_append, List.filter_cons]
  have e1 : pre.filter (· != t) = pre := List.filter_eq_self.2 fun x hx => by simp; exact fun e => h1 (e ▸ hx)
  have e2 : post.filter (· != t) = post := List.filter_eq_self.2 fun x hx => by simp; exact fun e => h2 (e ▸ hx)
  rw [e1, e2]; simp

theorem rep_cut {s : QS} {L : Rows} {t l : Nat} (h : Rep s L) (hl : l < 32) (hm : t ∈ L l) : Rep (cutS s t) (upL L l ((L l).filter (· != t))) := by
  obtain ⟨ht, hlv⟩ := h.mem l hl t hm
  obtain ⟨pre, post, hL⟩ := List.append_of_mem hm
  have hnd := h.nodup l hl
  rw [hL] at hnd
  have hpre : t ∉ pre := fun hp => (List.nodup_append.1 hnd).2.2 t hp t (by simp) rfl
  have hpost : t ∉ post := (List.nodup_cons.1 (List.nodup_append.1 hnd).2.1).1
  have hnpre : pre.Nodup := (List.nodup_append.1 hnd).1
  have hnpost : post.Nodup := (List.nodup_cons.1 (List.nodup_append.1 hnd).2.1).2
  have hdis : ∀ x ∈ pre, x ∉ post := fun x hx hp => (List.nodup_append.1 hnd).2.2 x hx x (by simp [hp]) rfl
  have hseg := h.seg l hl
  rw [hL, Seg.append] at hseg
  obtain ⟨hsp, hA, hF, hsq⟩ := hseg
  have hl' : (s.level t - 1).toNat = l := by rw [hlv]; omega
  have hrow : (L l).filter (· != t) = pre ++ post := by rw [hL]; exact filter_split hpre hpost
  rw [hrow]
  have mpre : ∀ x ∈ pre, x ∈ L l := fun x hx => by rw [hL]; simp [hx]
  have mpost : ∀ x ∈ post, x ∈ L l := fun x hx => by rw [hL]; simp [hx]
  have hAneg : s.ahead t < 0 ↔ pre = [] := by rw [hA]; exact lst_neg pre
  have hFneg : s.after t < 0 ↔ post = [] := by rw [hF]; exact hd_neg post
  have hAm : pre ≠ [] → ∃ z : Nat, z ∈ pre ∧ s.ahead t = (z : Int) := fun hne => by
    obtain ⟨z, hz, e⟩ := lst_mem (-1) pre hne
    exact ⟨z, hz, hA.trans e⟩
  have hFm : post ≠ [] → ∃ z : Nat, z ∈ post ∧ s.after t = (z : Int) := fun hne => by
    obtain ⟨z, hz, e⟩ := hd_mem (-1) post hne
    exact ⟨z, hz, hF.trans e⟩
  have hlevel : (cutS s t).level = up s.level t 0 := rfl
  have hcount : (cutS s t).count = s.count - 1 := rfl
  have hahead : ∀ x : Nat, (post = [] ∨ ∀ z : Nat, s.after t = (z : Int) → x ≠ z) → (cutS s t).ahead x = s.ahead x := by
    intro x hx
    show (if s.after t < 0 then s.ahead else up s.ahead (s.after t).toNat (s.ahead t)) x = _
    by_cases hp : post = []
    · rw [if_pos (hFneg.2 hp)]
    · rw [if_neg (fun e => hp (hFneg.1 e))]
      obtain ⟨z, hz, e⟩ := hFm hp
      rw [e, Int.toNat_natCast]
      rcases hx with hx | hx
      · exact absurd hx hp
      · exact up_other _ _ _ (hx z e)
  have hafter : ∀ x : Nat, (pre = [] ∨ ∀ z : Nat, s.ahead t = (z : Int) → x ≠ z) → (cutS s t).after x = s.after x := by
    intro x hx
    show (if s.ahead t < 0 then s.after else up s.after (s.ahead t).toNat (s.after t)) x = _
    by_cases hp : pre = []
    · rw [if_pos (hAneg.2 hp)]
    · rw [if_neg (fun e => hp (hAneg.1 e))]
      obtain ⟨z, hz, e⟩ := hAm hp
      rw [e, Int.toNat_natCast]
      rcases hx with hx | hx
      · exact absurd hx hp
      · exact up_other _ _ _ (hx z e)
  refine ⟨?_, ?_, ?_, ?_, ?_, ?_, ?_, ?_⟩
  · intro j hj x hx
    rw [hlevel]
    by_cases e : j = l
    · subst e
      rw [upL_same] at hx
      have hx2 : x ∈ L j := by rcases List.mem_append.1 hx with h1 | h1; exact mpre x h1; exact mpost x h1
      have hxt : x ≠ t := fun e => by
        subst e
        rcases List.mem_append.1 hx with h1 | h1
        · exact hpre h1
        · exact hpost h1
      obtain ⟨a, b⟩ := h.mem j hj x hx2
      exact ⟨a, by rw [up_other _ _ _ hxt]; exact b⟩
    · rw [upL_other L _ e] at hx
      obtain ⟨a, b⟩ := h.mem j hj x hx
      exact ⟨a, by rw [up_other _ _ _ (fun e2 : x = t => h.apart hl hj hm e (e2 ▸ hx))]; exact b⟩
  · intro x hx
    rw [hlevel]
    by_cases e : x = t
    · subst e; exact .inl (up_same _ _ _)
    · rw [up_other _ _ _ e]
      rcases h.lev x hx with h0 | ⟨j, hj, h1, h2⟩
      · exact .inl h0
      · refine .inr ⟨j, hj, h1, ?_⟩
        by_cases e2 : j = l
        · subst e2
          rw [upL_same]
          rw [hL] at h2
          simp only [List.mem_append, List.mem_cons] at h2 ⊢
          rcases h2 with h2 | h2 | h2
          · exact .inl h2
          · exact absurd h2 e
          · exact .inr h2
        · rw [upL_other L _ e2]; exact h2
  · intro j hj
    by_cases e : j = l
    · subst e
      rw [upL_same, List.nodup_append]
      exact ⟨hnpre, hnpost, fun a ha b hb e => hdis a ha (e ▸ hb)⟩
    · rw [upL_other L _ e]; exact h.nodup j hj
  · intro j hj
    have e0 : (cutS s t).some = if s.ahead t < 0 ∧ s.after t < 0 then s.some &&& ~~~(1#32 <<< l) else s.some := by
      show (if s.ahead t < 0 ∧ s.after t < 0 then s.some &&& ~~~(1#32 <<< (s.level t - 1).toNat) else s.some) = _
      rw [hl']
    rw [e0]
    by_cases e : j = l
    · subst e
      rw [upL_same]
      by_cases hb : pre = [] ∧ post = []
      · rw [if_pos ⟨hAneg.2 hb.1, hFneg.2 hb.2⟩, bit_andnot _ _ _ hl hj]
        simp [hb.1, hb.2]
      · rw [if_neg (fun hc => hb ⟨hAneg.1 hc.1, hFneg.1 hc.2⟩)]
        have h1 : ¬ (s.some.getLsbD j = false) := fun hc => by
          have := (h.some j hj).1 hc
          rw [hL] at this; simp at this
        constructor
        · intro hc; exact absurd hc h1
        · intro hc; exact absurd (by simpa using hc) hb
    · rw [upL_other L _ e]
      split
      · rw [bit_andnot _ _ _ hl hj]
        simpa [e] using h.some j hj
      · exact h.some j hj
  · intro j hj hne
    have e0 : (cutS s t).front = if s.ahead t < 0 then up s.front l (s.after t) else s.front := by
      show (if s.ahead t < 0 then up s.front (s.level t - 1).toNat (s.after t) else s.front) = _
      rw [hl']
    rw [e0]
    by_cases e : j = l
    · subst e
      rw [upL_same] at hne ⊢
      by_cases hp : pre = []
      · rw [if_pos (hAneg.2 hp), up_same, hF, hp]; rfl
      · rw [if_neg (fun hc => hp (hAneg.1 hc)), h.front j hj (by rw [hL]; simp), hL, hd_append, hd_append]
        cases pre with
        | nil => exact absurd rfl hp
        | cons a b => rfl
    · rw [upL_other L _ e] at hne ⊢
      split
      · rw [up_other _ _ _ e]; exact h.front j hj hne
      · exact h.front j hj hne
  · intro j hj hne
    have e0 : (cutS s t).back = if s.after t < 0 then up s.back l (s.ahead t) else s.back := by
      show (if s.after t < 0 then up s.back (s.level t - 1).toNat (s.ahead t) else s.back) = _
      rw [hl']
    rw [e0]
    by_cases e : j = l
    · subst e
      rw [upL_same] at hne ⊢
      by_cases hp : post = []
      · rw [if_pos (hFneg.2 hp), up_same, hA, hp]; simp
      · rw [if_neg (fun hc => hp (hFneg.1 hc)), h.back j hj (by rw [hL]; simp), hL, lst_append, lst_append]
        exact lst_free t (lst (-1) pre) post hp
    · rw [upL_other L _ e] at hne ⊢
      split
      · rw [up_other _ _ _ e]; exact h.back j hj hne
      · exact h.back j hj hne
  · intro j hj
    by_cases e : j = l
    · subst e
      rw [upL_same, Seg.append]
      constructor
      · by_cases hp : pre = []
        · rw [hp]; trivial
        · obtain ⟨z, hz, ez⟩ := hAm hp
          have h1 := Seg.set_last (hd (-1) post) pre (-1) (hd (-1) (t :: post)) hnpre hsp z (hA.symm.trans ez) hp
          refine Seg.congr pre _ _ (fun x hx => ⟨?_, ?_⟩) h1
          · refine hahead x ?_
            by_cases hq : post = []
            · exact .inl hq
            · refine .inr fun y hy exy => ?_
              obtain ⟨u, hu, eu⟩ := hFm hq
              have : x = u := by omega
              exact hdis x hx (this ▸ hu)
          · show (if s.ahead t < 0 then s.after else up s.after (s.ahead t).toNat (s.after t)) x = _
            rw [if_neg (fun hc => hp (hAneg.1 hc)), ez, Int.toNat_natCast, hF]
      · by_cases hp : post = []
        · rw [hp]; trivial
        · obtain ⟨z, hz, ez⟩ := hFm hp
          have h1 := Seg.set_first (lst (-1) pre) post t (-1) hnpost hsq z (hF.symm.trans ez) hp
          refine Seg.congr post _ _ (fun x hx => ⟨?_, ?_⟩) h1
          · show (if s.after t < 0 then s.ahead else up s.ahead (s.after t).toNat (s.ahead t)) x = _
            rw [if_neg (fun hc => hp (hFneg.1 hc)), ez, Int.toNat_natCast, hA]
          · refine hafter x ?_
            by_cases hq : pre = []
            · exact .inl hq
            · refine .inr fun y hy exy => ?_
              obtain ⟨u, hu, eu⟩ := hAm hq
              have : x = u := by omega
              exact hdis u hu (this ▸ hx)
    · rw [upL_other L _ e]
      refine Seg.congr _ _ _ (fun x hx => ⟨?_, ?_⟩) (h.seg j hj)
      · refine hahead x ?_
        by_cases hq : post = []
        · exact .inl hq
        · refine .inr fun y hy exy => ?_
          obtain ⟨u, hu, eu⟩ := hFm hq
          have : x = u := by omega
          exact h.apart hl hj (mpost u hu) e (this ▸ hx)
      · refine hafter x ?_
        by_cases hq : pre = []
        · exact .inl hq
        · refine .inr fun y hy exy => ?_
          obtain ⟨u, hu, eu⟩ := hAm hq
          have : x = u := by omega
          exact h.apart hl hj (mpre u hu) e (this ▸ hx)
  · rw [hcount, h.count]
    have := total_up L l (pre ++ post) hl
    rw [hL] at this
    simp only [List.length_append, List.length_cons] at this
    omega
end Go.Proofs.YtnhmdinpfcoebaaGreatDoor.Qu
end

/-! === RingPlain -/
section
/- The ring, plainly: whole frames, in their order. No program in sight. -/
namespace Go.Proofs.YtnhmdinpfcoebaaGreatDoor.Rg
set_option linter.unusedVariables false

/-- The frames that are held; is the first begun; those that were lost. -/
structure RG where
  L : List (List UInt8)
  begun : Bool
  gone : List (List UInt8)
def RG.bytes (s : RG) : List UInt8 := s.L.flatten
def RG.used (s : RG) : Nat := s.bytes.length
def RG.sizes (s : RG) : List Nat := s.L.map List.length
def hd0 : List Nat → Nat
  | [] => 0
  | z :: _ => z
def RG.rest (s : RG) : Nat := if s.begun then hd0 s.sizes else 0
/-- The oldest that isn't begun is lost. -/
def RG.lose (s : RG) : RG :=
  match s.begun, s.L with
  | true, f :: f1 :: l => ⟨f :: l, true, s.gone ++ [f1]⟩
  | false, f :: l => ⟨l, false, s.gone ++ [f]⟩
  | _, _ => s
def putG (cap : Nat) (pol : Int) (t : List UInt8) : Nat → RG → Int × RG
  | 0, s => (0, ⟨s.L ++ [t], s.begun, s.gone⟩)
  | n + 1, s =>
    if t.length ≤ cap - s.used then (0, ⟨s.L ++ [t], s.begun, s.gone⟩)
    else if pol = 0 ∨ cap < t.length + s.rest then (7, ⟨s.L, s.begun, s.gone ++ [t]⟩)
    else putG cap pol t n s.lose
def put (cap : Nat) (pol : Int) (s : RG) (t : List UInt8) : Int × RG :=
  if 1 ≤ t.length ∧ t.length ≤ 179 then putG cap pol t s.L.length s else (1, s)
/-- So many bytes are taken. -/
def dr : Nat → List (List UInt8) → Bool → List (List UInt8) × Bool
  | _, [], b => ([], b)
  | n, f :: l, b => if n = 0 then (f :: l, b) else if f.length ≤ n then dr (n - f.length) l false else (f.drop n :: l, true)
def drain (s : RG) (n : Nat) : RG := ⟨(dr n s.L s.begun).1, (dr n s.L s.begun).2, s.gone⟩

/-- What always holds. -/
structure WF (cap : Nat) (s : RG) : Prop where
  pos : ∀ f ∈ s.L, 0 < f.length
  room : s.used ≤ cap
  beg : s.begun = true → s.L ≠ []
theorem wf_start (cap : Nat) : WF cap ⟨[], false, []⟩ := ⟨by simp, by simp [RG.used, RG.bytes], by simp⟩
theorem used_len (s : RG) : s.used = s.sizes.sum := by unfold RG.used RG.sizes RG.bytes; rw [List.length_flatten]
theorem sum_pos_len : ∀ zs : List Nat, (∀ z ∈ zs, 0 < z) → zs.length ≤ zs.sum
  | [], _ => by simp
  | z :: zs, h => by
    have := sum_pos_len zs (fun x hx => h x (by simp [hx]))
    have := h z (by simp)
    simp; omega
theorem WF.szpos {cap : Nat} {s : RG} (h : WF cap s) : ∀ z ∈ s.sizes, 0 < z := fun z hz => by
  unfold RG.sizes at hz
  obtain ⟨f, hf, rfl⟩ := List.mem_map.1 hz
  exact h.pos f hf
theorem WF.len {cap : Nat} {s : RG} (h : WF cap s) : s.L.length ≤ cap := by
  have h1 := sum_pos_len s.sizes h.szpos
  have h2 := used_len s
  have h3 := h.room
  have h4 : s.sizes.length = s.L.length := by simp [RG.sizes]
  omega

/-- What it takes that a loss can be: the room is not enough, yet it might be. -/
theorem WF.can {cap : Nat} {s : RG} (h : WF cap s) {t : List UInt8} (h1 : ¬ t.length ≤ cap - s.used) (h2 : ¬ cap < t.length + s.rest) : (s.begun = true ∧ ∃ f f1 l, s.L = f :: f1 :: l) ∨ (s.begun = false ∧ ∃ f l, s.L = f :: l) := by
  obtain ⟨L, b, go⟩ := s
  have hroom := h.room
  cases b with
  | true =>
    left
    refine ⟨rfl, ?_⟩
    match L, h.beg rfl with
    | [f], _ =>
      simp [RG.used, RG.bytes, RG.rest, RG.sizes, hd0] at *
      omega
    | f :: f1 :: l, _ => exact ⟨f, f1, l, rfl⟩
  | false =>
    right
    refine ⟨rfl, ?_⟩
    match L with
    | [] => simp [RG.used, RG.bytes, RG.rest] at *; omega
    | f :: l => exact ⟨f, l, rfl⟩
theorem WF.lose {cap : Nat} {s : RG} (h : WF cap s) : WF cap s.lose := by
  obtain ⟨L, b, go⟩ := s
  obtain ⟨h1, h2, h3⟩ := h
  cases b with
  | true =>
    match L with
    | [] => exact ⟨h1, h2, h3⟩
    | [f] => exact ⟨h1, h2, h3⟩
    | f :: f1 :: l =>
      refine ⟨fun x hx => h1 x ?_, ?_, fun _ => by simp [RG.lose]⟩
      · simp [RG.lose] at hx ⊢
        rcases hx with h | h <;> simp [h]
      · simp [RG.lose, RG.used, RG.bytes] at h2 ⊢
        omega
  | false =>
    match L with
    | [] => exact ⟨h1, h2, h3⟩
    | f :: l =>
      refine ⟨fun x hx => h1 x ?_, ?_, fun h => by simp [RG.lose] at h⟩
      · simp [RG.lose] at hx ⊢
        simp [hx]
      · simp [RG.lose, RG.used, RG.bytes] at h2 ⊢
        omega
theorem lose_len {s : RG} (h : (s.begun = true ∧ ∃ f f1 l, s.L = f :: f1 :: l) ∨ (s.begun = false ∧ ∃ f l, s.L = f :: l)) : s.lose.L.length + 1 = s.L.length ∧ s.lose.gone.length = s.gone.length + 1 := by
  obtain ⟨L, b, go⟩ := s
  rcases h with ⟨hb, f, f1, l, hL⟩ | ⟨hb, f, l, hL⟩ <;> simp only at hb hL <;> subst hb <;> subst hL <;> simp [RG.lose]
theorem WF.push {cap : Nat} {s : RG} (h : WF cap s) {t : List UInt8} (h1 : t.length ≤ cap - s.used) (h0 : 1 ≤ t.length) : WF cap ⟨s.L ++ [t], s.begun, s.gone⟩ := by
  refine ⟨fun f hf => ?_, ?_, fun _ => by simp⟩
  · simp at hf
    rcases hf with hf | rfl
    · exact h.pos f hf
    · omega
  · have := h.room
    simp [RG.used, RG.bytes] at this h1 ⊢
    omega
theorem dr_bytes : ∀ (n : Nat) (L : List (List UInt8)) (b : Bool), (dr n L b).1.flatten = L.flatten.drop n
  | _, [], _ => by simp [dr]
  | n, f :: l, b => by
    unfold dr
    split
    · rename_i h; subst h; simp
    · split
      · rename_i h
        rw [dr_bytes (n - f.length) l false]
        simp [List.drop_append, List.drop_eq_nil_of_le h]
      · rename_i h
        have : n - f.length = 0 := by omega
        simp [List.drop_append, this]
theorem dr_pos : ∀ (n : Nat) (L : List (List UInt8)) (b : Bool), (∀ f ∈ L, 0 < f.length) → ∀ f ∈ (dr n L b).1, 0 < f.length
  | _, [], _, h => by simp [dr]
  | n, f :: l, b, h => by
    unfold dr
    split
    · exact h
    · split
      · exact dr_pos _ l false fun x hx => h x (by simp [hx])
      · rename_i h1
        intro x hx
        simp at hx
        rcases hx with rfl | hx
        · simp; omega
        · exact h x (by simp [hx])
theorem dr_beg : ∀ (n : Nat) (L : List (List UInt8)) (b : Bool), (b = true → L ≠ []) → (dr n L b).2 = true → (dr n L b).1 ≠ []
  | _, [], b, h => by simpa [dr] using h
  | n, f :: l, b, h => by
    unfold dr
    split
    · simp
    · split
      · exact dr_beg _ l false (by simp)
      · simp
theorem WF.drain {cap : Nat} {s : RG} (h : WF cap s) (n : Nat) : WF cap (drain s n) := by
  refine ⟨dr_pos n s.L s.begun h.pos, ?_, dr_beg n s.L s.begun h.beg⟩
  have := h.room
  unfold RG.used RG.bytes at this ⊢
  show ((dr n s.L s.begun).1.flatten).length ≤ cap
  rw [dr_bytes]
  simp at this ⊢
  omega
theorem dr_all : ∀ (n : Nat) (L : List (List UInt8)) (b : Bool), (∀ f ∈ L, 0 < f.length) → L.flatten.length ≤ n → (dr n L b).1 = [] ∧ ((b = true → L ≠ []) → (dr n L b).2 = false)
  | _, [], b, _, _ => ⟨by simp [dr], fun h => by cases b <;> simp [dr] at *⟩
  | n, f :: l, b, h, hn => by
    have h0 := h f (by simp)
    have h1 : f.length ≤ n := by simp at hn; omega
    have h2 : ¬ n = 0 := by omega
    unfold dr
    rw [if_neg h2, if_pos h1]
    have := dr_all (n - f.length) l false (fun x hx => h x (by simp [hx])) (by simp at hn ⊢; omega)
    exact ⟨this.1, fun _ => this.2 (by simp)⟩

/-! ### The room -/
def upR (R : Nat → UInt8) (i : Nat) (b : UInt8) : Nat → UInt8 := fun j => if j = i then b else R j
/-- The first k bytes of t are laid from p on. -/
def layR (R : Nat → UInt8) (cap p : Nat) (t : List UInt8) : Nat → Nat → UInt8
  | 0 => R
  | k + 1 => upR (layR R cap p t k) ((p + k) % cap) (t.getD k 0)
theorem mod_ne {cap p i k : Nat} (h : i < k) (hk : k - i < cap) : (p + i) % cap ≠ (p + k) % cap := fun e => by
  have h1 := Nat.sub_mod_eq_zero_of_mod_eq e.symm
  have h2 : p + k - (p + i) = k - i := by omega
  rw [h2, Nat.mod_eq_of_lt hk] at h1
  omega
theorem layR_in (R : Nat → UInt8) (cap p : Nat) (t : List UInt8) : ∀ k, k ≤ cap → ∀ i, i < k → layR R cap p t k ((p + i) % cap) = t.getD i 0
  | 0, _, i, h => by omega
  | k + 1, hk, i, h => by
    unfold layR upR
    by_cases e : i = k
    · subst e; simp
    · rw [if_neg (mod_ne (by omega) (by omega))]
      exact layR_in R cap p t k (by omega) i (by omega)
theorem layR_out (R : Nat → UInt8) (cap p : Nat) (t : List UInt8) : ∀ k j, (∀ i, i < k → j ≠ (p + i) % cap) → layR R cap p t k j = R j
  | 0, _, _ => rfl
  | k + 1, j, h => by
    unfold layR upR
    rw [if_neg (h k (by omega))]
    exact layR_out R cap p t k j fun i hi => h i (by omega)
/-- The bytes that are held lie in the room from head on. -/
def RoomAt (cap head : Nat) (R : Nat → UInt8) (B : List UInt8) : Prop := ∀ i, i < B.length → R ((head + i) % cap) = B.getD i 0
def peekR (cap p : Nat) (R : Nat → UInt8) (n : Nat) : List UInt8 := (List.range n).map fun i => R ((p + i) % cap)
theorem peekR_len (cap p : Nat) (R : Nat → UInt8) (n : Nat) : (peekR cap p R n).length = n := by simp [peekR]
theorem peekR_take {cap head : Nat} {R : Nat → UInt8} {B : List UInt8} (h : RoomAt cap head R B) {n : Nat} (hn : n ≤ B.length) : peekR cap head R n = B.take n := by
  apply List.ext_getElem
  · simp [peekR]; omega
  · intro i h1 h2
    simp [peekR] at h1 ⊢
    have := h i (by omega)
    rw [this]
    simp [List.getD_eq_getElem?_getD, show i < B.length by omega]
theorem RoomAt.push {cap head : Nat} {R : Nat → UInt8} {B : List UInt8} (h : RoomAt cap head R B) (t : List UInt8) (hr : B.length + t.length ≤ cap) : RoomAt cap head (layR R cap (head + B.length) t t.length) (B ++ t) := by
  intro i hi
  rw [List.length_append] at hi
  by_cases hb : i < B.length
  · rw [layR_out]
    · rw [h i hb]
      simp [List.getD_eq_getElem?_getD, List.getElem?_append_left hb]
    · intro j hj
      rw [Nat.add_assoc]
      exact mod_ne (by omega) (by omega)
  · have e : (head + i) % cap = (head + B.length + (i - B.length)) % cap := by congr 1; omega
    rw [e, layR_in _ _ _ _ _ (by omega) _ (by omega)]
    simp [List.getD_eq_getElem?_getD, List.getElem?_append_right (show B.length ≤ i by omega)]
theorem mod_shift (cap head n i : Nat) : ((head + n) % cap + i) % cap = (head + (n + i)) % cap := by
  rw [Nat.mod_add_mod]; congr 1; omega
theorem RoomAt.drop {cap head : Nat} {R : Nat → UInt8} {B : List UInt8} (h : RoomAt cap head R B) (n : Nat) : RoomAt cap ((head + n) % cap) R (B.drop n) := by
  intro i hi
  rw [List.length_drop] at hi
  rw [mod_shift, h (n + i) (by omega)]
  simp [List.getD_eq_getElem?_getD, List.getElem?_drop]
theorem RoomAt.lose {cap head : Nat} {R : Nat → UInt8} {B0 B1 B2 : List UInt8} (h : RoomAt cap head R (B0 ++ B1 ++ B2)) (hr : (B0 ++ B1 ++ B2).length ≤ cap) : RoomAt cap ((head + B1.length) % cap) (layR R cap ((head + B1.length) % cap) B0 B0.length) (B0 ++ B2) := by
  intro i hi
  simp only [List.length_append] at hi hr
  by_cases hb : i < B0.length
  · rw [layR_in _ _ _ _ _ (by omega) _ hb]
    simp [List.getD_eq_getElem?_getD, List.getElem?_append_left hb]
  · rw [layR_out]
    · rw [mod_shift, h (B1.length + i) (by simp; omega)]
      simp only [List.getD_eq_getElem?_getD]
      rw [List.getElem?_append_right (by simp; omega), List.getElem?_append_right (by omega)]
      congr 2
      simp; omega
    · intro j hj
      exact fun e => mod_ne (cap := cap) (p := (head + B1.length) % cap) (i := j) (k := i) (by omega) (by omega) e.symm
end Go.Proofs.YtnhmdinpfcoebaaGreatDoor.Rg
end
