/- Plain law: the reflected sum over 32 bits: what one byte, a text, a burst, a joining do. No program in sight. -/
namespace CrcP

/-- The document's polynomial, turned. -/
def P : BitVec 32 := 0xedb88320#32

/-- One bit's step of a sum. -/
def sh (x : BitVec 32) : BitVec 32 := if x.getLsbD 0 then (x >>> 1) ^^^ P else x >>> 1

def shN : Nat → BitVec 32 → BitVec 32
  | 0, x => x
  | n + 1, x => shN n (sh x)

/-- What one byte does. -/
def turn (x : BitVec 32) (b : UInt8) : BitVec 32 := shN 8 (x ^^^ BitVec.ofNat 32 b.toNat)

def Turn (x : BitVec 32) (l : List UInt8) : BitVec 32 := l.foldl turn x

theorem xor_swap (a b c d : BitVec 32) : (a ^^^ b) ^^^ (c ^^^ d) = (a ^^^ c) ^^^ (b ^^^ d) := by
  simp only [BitVec.xor_assoc]
  congr 1
  rw [← BitVec.xor_assoc, ← BitVec.xor_assoc, BitVec.xor_comm b c]

theorem ushr_xor (a b : BitVec 32) (n : Nat) : (a ^^^ b) >>> n = (a >>> n) ^^^ (b >>> n) := by
  ext i h; simp

theorem sh_xor (x y : BitVec 32) : sh (x ^^^ y) = sh x ^^^ sh y := by
  unfold sh
  simp only [BitVec.getLsbD_xor, ushr_xor]
  cases x.getLsbD 0 <;> cases y.getLsbD 0 <;> simp
  · rw [BitVec.xor_assoc]
  · simp only [BitVec.xor_assoc]; rw [BitVec.xor_comm P]
  · rw [xor_swap]; simp

theorem sh_zero : sh 0#32 = 0#32 := by decide

theorem shN_xor (n : Nat) : ∀ x y : BitVec 32, shN n (x ^^^ y) = shN n x ^^^ shN n y := by
  induction n with
  | zero => intro x y; rfl
  | succ n ih => intro x y; simp only [shN]; rw [sh_xor, ih]

theorem shN_zero (n : Nat) : shN n 0#32 = 0#32 := by
  induction n with
  | zero => rfl
  | succ n ih => simp only [shN, sh_zero, ih]

theorem shN_add (a : Nat) : ∀ (b : Nat) (x : BitVec 32), shN (a + b) x = shN b (shN a x) := by
  induction a with
  | zero => intro b x; simp [shN]
  | succ a ih => intro b x; rw [show a + 1 + b = (a + b) + 1 from by omega]; simp only [shN]; rw [ih]

theorem sh_inj0 (x : BitVec 32) (h : sh x = 0#32) : x = 0#32 := by
  unfold sh at h
  split at h
  · exfalso
    have h31 := congrArg (fun v => v.getLsbD 31) h
    simp [P] at h31
  · rename_i h0
    apply BitVec.eq_of_getLsbD_eq
    intro i hi
    cases i with
    | zero => simpa using h0
    | succ i =>
      have := congrArg (fun v => v.getLsbD i) h
      simp at this
      simpa [Nat.add_comm] using this

theorem shN_inj0 (n : Nat) : ∀ x : BitVec 32, shN n x = 0#32 → x = 0#32 := by
  induction n with
  | zero => intro x h; exact h
  | succ n ih => intro x h; exact sh_inj0 x (ih _ h)

theorem xor_eq_zero {a b : BitVec 32} (h : a ^^^ b = 0#32) : a = b := by
  have : (a ^^^ b) ^^^ b = 0#32 ^^^ b := by rw [h]
  rw [BitVec.xor_assoc, BitVec.xor_self] at this
  simpa using this

theorem shN_inj (n : Nat) (x y : BitVec 32) (h : shN n x = shN n y) : x = y := by
  apply xor_eq_zero
  apply shN_inj0 n
  rw [shN_xor, h, BitVec.xor_self]

/-- While the low bits are nought, a step is a shift. -/
theorem shN_low (k : Nat) : ∀ (z : BitVec 32), (∀ i, i < k → z.getLsbD i = false) → shN k z = z >>> k := by
  induction k with
  | zero => intro z _; simp [shN]
  | succ k ih =>
    intro z hz
    have h0 : sh z = z >>> 1 := by unfold sh; rw [hz 0 (by omega)]; simp
    simp only [shN, h0]
    rw [ih]
    · apply BitVec.eq_of_getLsbD_eq
      intro i hi
      simp only [BitVec.getLsbD_ushiftRight]
      congr 1; omega
    · intro i hi
      simp [Nat.add_comm]
      exact hz (i + 1) (by omega)

theorem split8 (y : BitVec 32) : y = ((y >>> 8) <<< 8) ^^^ (y &&& 255#32) := by
  apply BitVec.eq_of_getLsbD_eq
  intro i hi
  have : (255#32 : BitVec 32).getLsbD i = decide (i < 8) := by
    have : ∀ j : Fin 32, (255#32 : BitVec 32).getLsbD j.val = decide (j.val < 8) := by decide
    exact this ⟨i, hi⟩
  simp only [BitVec.getLsbD_xor, BitVec.getLsbD_shiftLeft, BitVec.getLsbD_ushiftRight, BitVec.getLsbD_and, this]
  by_cases h8 : i < 8
  · simp [h8, hi]
  · simp [h8, hi, show 8 + (i - 8) = i from by omega]

theorem shN8 (y : BitVec 32) : shN 8 y = (y >>> 8) ^^^ shN 8 (y &&& 255#32) := by
  conv => lhs; rw [split8 y]
  rw [shN_xor]
  congr 1
  rw [shN_low]
  · apply BitVec.eq_of_getLsbD_eq
    intro i hi
    simp only [BitVec.getLsbD_shiftLeft, BitVec.getLsbD_ushiftRight]
    by_cases h : 8 + i < 32
    · simp [h, show ¬ 8 + i < 8 from by omega]
    · have : y.getLsbD (8 + i) = false := BitVec.getLsbD_of_ge _ _ (by omega)
      simp [h, this]
  · intro i hi
    simp [hi]

/-- The table's step. -/
theorem turn_table (x : BitVec 32) (b : UInt8) :
    turn x b = (x >>> 8) ^^^ shN 8 ((x ^^^ BitVec.ofNat 32 b.toNat) &&& 255#32) := by
  unfold turn
  rw [shN8, ushr_xor]
  have : (BitVec.ofNat 32 b.toNat) >>> 8 = 0#32 := by
    apply BitVec.eq_of_toNat_eq
    have := b.toNat_lt
    simp [Nat.shiftRight_eq_div_pow]
    omega
  rw [this]; simp

theorem turn_xor (x y : BitVec 32) (b : UInt8) : turn (x ^^^ y) b = turn x b ^^^ shN 8 y := by
  unfold turn
  rw [← shN_xor]
  congr 1
  rw [BitVec.xor_assoc, BitVec.xor_comm y, ← BitVec.xor_assoc]

theorem Turn_xor (l : List UInt8) : ∀ (x y : BitVec 32), Turn (x ^^^ y) l = Turn x l ^^^ shN (8 * l.length) y := by
  induction l with
  | nil => intro x y; simp [Turn, shN]
  | cons b l ih =>
    intro x y
    simp only [Turn, List.foldl_cons, List.length_cons] at *
    rw [turn_xor, ih, show 8 * (l.length + 1) = 8 + 8 * l.length from by omega, shN_add]

theorem Turn_append (x : BitVec 32) (a b : List UInt8) : Turn x (a ++ b) = Turn (Turn x a) b := by
  simp [Turn]

theorem Turn_zeros (n : Nat) : ∀ x, Turn x (List.replicate n 0) = shN (8 * n) x := by
  induction n with
  | zero => intro x; simp [Turn, shN]
  | succ n ih =>
    intro x
    simp only [List.replicate_succ, Turn, List.foldl_cons] at *
    rw [ih, show 8 * (n + 1) = 8 + 8 * n from by omega, shN_add]
    simp [turn]

def ones : BitVec 32 := 0xffffffff#32
/-- The sum of some bytes. -/
def Sum (l : List UInt8) : BitVec 32 := Turn ones l ^^^ ones

/-- The sum of two texts is told by theirs. -/
theorem Sum_append (a b : List UInt8) : Sum (a ++ b) = shN (8 * b.length) (Sum a) ^^^ Sum b := by
  unfold Sum
  rw [Turn_append]
  have h : Turn (Turn ones a) b = Turn ones b ^^^ shN (8 * b.length) (Turn ones a ^^^ ones) := by
    rw [← Turn_xor]
    congr 1
    rw [BitVec.xor_comm (Turn ones a), ← BitVec.xor_assoc, BitVec.xor_self]; simp
  rw [h, BitVec.xor_comm (Turn ones b), BitVec.xor_assoc]

/-- A number as four bytes, the lowest first. -/
def bytes (x : BitVec 32) : List UInt8 :=
  [UInt8.ofNat (x.toNat % 256), UInt8.ofNat (x.toNat / 256 % 256), UInt8.ofNat (x.toNat / 65536 % 256), UInt8.ofNat (x.toNat / 16777216)]

def word (b0 b1 b2 b3 : UInt8) : BitVec 32 := BitVec.ofNat 32 (b0.toNat + 256 * b1.toNat + 65536 * b2.toNat + 16777216 * b3.toNat)

theorem bytes_word (b0 b1 b2 b3 : UInt8) : bytes (word b0 b1 b2 b3) = [b0, b1, b2, b3] := by
  have h0 := b0.toNat_lt; have h1 := b1.toNat_lt; have h2 := b2.toNat_lt; have h3 := b3.toNat_lt
  simp only [Nat.reducePow] at h0 h1 h2 h3
  have e : (word b0 b1 b2 b3).toNat = b0.toNat + 256 * b1.toNat + 65536 * b2.toNat + 16777216 * b3.toNat := by
    simp only [word, BitVec.toNat_ofNat]; omega
  simp only [bytes, e]
  have r : ∀ (b : UInt8) (n : Nat), n = b.toNat → UInt8.ofNat n = b := by
    intro b n h; subst h; simp
  rw [r b0 _ (by omega), r b1 _ (by omega), r b2 _ (by omega), r b3 _ (by omega)]

theorem bytes_inj {x y : BitVec 32} (h : bytes x = bytes y) : x = y := by
  apply BitVec.eq_of_toNat_eq
  have hx := x.isLt; have hy := y.isLt
  simp only [bytes, List.cons.injEq, and_true] at h
  obtain ⟨h0, h1, h2, h3⟩ := h
  have r : ∀ m n : Nat, UInt8.ofNat m = UInt8.ofNat n → m < 256 → n < 256 → m = n := by
    intro m n hh hm hn
    have := congrArg UInt8.toNat hh
    simp only [UInt8.toNat_ofNat', Nat.reducePow] at this
    omega
  have e0 := r _ _ h0 (by omega) (by omega)
  have e1 := r _ _ h1 (by omega) (by omega)
  have e2 := r _ _ h2 (by omega) (by omega)
  have e3 := r _ _ h3 (by omega) (by omega)
  omega

theorem shl_low (v : BitVec 32) (k : Nat) : shN k (v <<< k) = (v <<< k) >>> k := by
  apply shN_low
  intro i hi
  simp [hi]

theorem byte_shl (b : UInt8) (k : Nat) (hk : k ≤ 24) : (BitVec.ofNat 32 b.toNat <<< k) >>> k = BitVec.ofNat 32 b.toNat := by
  apply BitVec.eq_of_getLsbD_eq
  intro i hi
  simp only [BitVec.getLsbD_ushiftRight, BitVec.getLsbD_shiftLeft]
  by_cases h : k + i < 32
  · simp [h, show ¬ k + i < k from by omega, show k + i - k = i from by omega]
  · have : (BitVec.ofNat 32 b.toNat).getLsbD i = false := by
      rw [BitVec.getLsbD_ofNat]
      have : b.toNat.testBit i = false := Nat.testBit_lt_two_pow (Nat.lt_of_lt_of_le b.toNat_lt (Nat.pow_le_pow_right (by omega) (by omega)))
      simp [this]
    simp [h, this]

theorem shN_byte (b : UInt8) (k : Nat) (hk : k ≤ 24) : shN k (BitVec.ofNat 32 b.toNat <<< k) = BitVec.ofNat 32 b.toNat := by
  rw [shl_low, byte_shl b k hk]

theorem word_xor (b0 b1 b2 b3 : UInt8) :
    word b0 b1 b2 b3 = BitVec.ofNat 32 b0.toNat ^^^ (BitVec.ofNat 32 b1.toNat <<< 8) ^^^ (BitVec.ofNat 32 b2.toNat <<< 16) ^^^ (BitVec.ofNat 32 b3.toNat <<< 24) := by
  have h0 := b0.toNat_lt; have h1 := b1.toNat_lt; have h2 := b2.toNat_lt; have h3 := b3.toNat_lt
  simp only [Nat.reducePow] at h0 h1 h2 h3
  have add_xor : ∀ (a b k : Nat), a < 2 ^ k → a ^^^ (b * 2 ^ k) = a + b * 2 ^ k := by
    intro a b k h
    have := Nat.two_pow_add_eq_or_of_lt h b
    rw [Nat.mul_comm b, Nat.add_comm, this]
    apply Nat.eq_of_testBit_eq
    intro i
    simp only [Nat.testBit_xor, Nat.testBit_or, Nat.testBit_two_pow_mul]
    by_cases hi : i < k
    · simp [show ¬ i ≥ k from by omega]
    · have : a.testBit i = false := Nat.testBit_lt_two_pow (Nat.lt_of_lt_of_le h (Nat.pow_le_pow_right (by omega) (by omega)))
      simp [this]
  apply BitVec.eq_of_toNat_eq
  simp only [word, BitVec.toNat_xor, BitVec.toNat_shiftLeft, BitVec.toNat_ofNat, Nat.shiftLeft_eq]
  rw [show b0.toNat % 2 ^ 32 = b0.toNat from by omega, show b1.toNat % 2 ^ 32 * 2 ^ 8 % 2 ^ 32 = b1.toNat * 2 ^ 8 from by omega,
    show b2.toNat % 2 ^ 32 * 2 ^ 16 % 2 ^ 32 = b2.toNat * 2 ^ 16 from by omega, show b3.toNat % 2 ^ 32 * 2 ^ 24 % 2 ^ 32 = b3.toNat * 2 ^ 24 from by omega]
  rw [add_xor _ _ 8 (by omega), add_xor _ _ 16 (by omega), add_xor _ _ 24 (by omega)]
  omega

theorem Turn_word (x : BitVec 32) (b0 b1 b2 b3 : UInt8) : Turn x [b0, b1, b2, b3] = shN 32 (x ^^^ word b0 b1 b2 b3) := by
  simp only [Turn, List.foldl_cons, List.foldl_nil]
  have e8 : ∀ (y : BitVec 32) (b : UInt8) (k : Nat), k ≤ 24 → shN k y ^^^ BitVec.ofNat 32 b.toNat = shN k (y ^^^ (BitVec.ofNat 32 b.toNat <<< k)) := by
    intro y b k hk
    rw [shN_xor, shN_byte b k hk]
  unfold turn
  rw [e8 _ b1 8 (by omega), ← shN_add 8 8, e8 _ b2 16 (by omega), ← shN_add 16 8, e8 _ b3 24 (by omega), ← shN_add 24 8, word_xor]
  simp only [BitVec.xor_assoc]

/-- Bytes hold just if what they come to is this. -/
theorem holds_iff (pre : List UInt8) (b0 b1 b2 b3 : UInt8) :
    bytes (Sum pre) = [b0, b1, b2, b3] ↔ Turn ones (pre ++ [b0, b1, b2, b3]) = shN 32 ones := by
  rw [Turn_append, Turn_word, ← bytes_word]
  constructor
  · intro h
    have := bytes_inj h
    rw [← this]
    congr 1
    unfold Sum
    rw [← BitVec.xor_assoc, BitVec.xor_self]; simp
  · intro h
    have := shN_inj _ _ _ h
    congr 1
    unfold Sum
    have e : Turn ones pre ^^^ ones = Turn ones pre ^^^ (Turn ones pre ^^^ word b0 b1 b2 b3) := by rw [this]
    rw [e, ← BitVec.xor_assoc, BitVec.xor_self]; simp

/-! ### A burst -/
/-- One bit of some bytes turned. -/
def flip (l : List UInt8) (p : Nat) : List UInt8 := l.set (p / 8) (l.getD (p / 8) 0 ^^^ UInt8.ofNat (2 ^ (p % 8)))

theorem one_shN (k : Nat) (hk : k < 32) : shN k (1#32 <<< k) = 1#32 := by
  rw [shl_low]
  apply BitVec.eq_of_getLsbD_eq
  intro i hi
  simp only [BitVec.getLsbD_ushiftRight, BitVec.getLsbD_shiftLeft]
  by_cases h : k + i < 32
  · simp [h, show ¬ k + i < k from by omega, show k + i - k = i from by omega]
  · have : (1#32 : BitVec 32).getLsbD i = false := by
      have : ∀ j : Fin 32, j.val ≠ 0 → (1#32 : BitVec 32).getLsbD j.val = false := by decide
      exact this ⟨i, hi⟩ (by show i ≠ 0; omega)
    rw [this]; simp [h]

theorem xor_byte (a b : UInt8) : BitVec.ofNat 32 (a ^^^ b).toNat = BitVec.ofNat 32 a.toNat ^^^ BitVec.ofNat 32 b.toNat := by
  apply BitVec.eq_of_toNat_eq
  have ha := a.toNat_lt; have hb := b.toNat_lt
  have hx : a.toNat ^^^ b.toNat < 2 ^ 8 := Nat.xor_lt_two_pow ha hb
  simp only [BitVec.toNat_xor, BitVec.toNat_ofNat, UInt8.toNat_xor]
  rw [Nat.mod_eq_of_lt (show a.toNat < 2 ^ 32 from by omega), Nat.mod_eq_of_lt (show b.toNat < 2 ^ 32 from by omega), Nat.mod_eq_of_lt (by omega)]

theorem turn_flip (x : BitVec 32) (a : UInt8) (r : Nat) (hr : r < 8) :
    turn x (a ^^^ UInt8.ofNat (2 ^ r)) = turn x a ^^^ shN (8 - r) 1#32 := by
  unfold turn
  rw [xor_byte, ← BitVec.xor_assoc, shN_xor]
  congr 1
  have e : BitVec.ofNat 32 (UInt8.ofNat (2 ^ r)).toNat = 1#32 <<< r := by
    have : ∀ j : Fin 8, BitVec.ofNat 32 (UInt8.ofNat (2 ^ j.val)).toNat = 1#32 <<< j.val := by decide
    exact this ⟨r, hr⟩
  rw [e]
  conv => lhs; rw [show 8 = r + (8 - r) from by omega]
  rw [shN_add, one_shN r (by omega)]

theorem Turn_flip (l : List UInt8) : ∀ (x : BitVec 32) (p : Nat), p < 8 * l.length →
    Turn x (flip l p) = Turn x l ^^^ shN (8 * l.length - p) 1#32 := by
  induction l with
  | nil => intro x p h; simp at h
  | cons b l ih =>
    intro x p h
    simp only [List.length_cons] at h
    by_cases h8 : p < 8
    · have e : flip (b :: l) p = (b ^^^ UInt8.ofNat (2 ^ p)) :: l := by
        simp [flip, show p / 8 = 0 from by omega, show p % 8 = p from by omega]
      rw [e]
      simp only [Turn, List.foldl_cons, List.length_cons]
      rw [turn_flip x b p h8]
      have := Turn_xor l (turn x b) (shN (8 - p) 1#32)
      simp only [Turn] at this
      rw [this, ← shN_add]
      congr 2
      omega
    · have e : flip (b :: l) p = b :: flip l (p - 8) := by
        have e1 : p / 8 = (p - 8) / 8 + 1 := by omega
        have e2 : p % 8 = (p - 8) % 8 := by omega
        simp [flip, e1, e2]
      rw [e]
      have := ih (turn x b) (p - 8) (by omega)
      simp only [Turn, List.foldl_cons, List.length_cons] at *
      rw [this]
      congr 2
      omega

/-! ### Joining: what 'of' does with a matrix that is a linear law -/
def ofStep (f : Nat → BitVec 32) (x y : BitVec 32) (i : Nat) : BitVec 32 := if x.getLsbD 0 then y ^^^ f i else y

/-- Any linear law is told by what it makes of each bit. -/
def Lin (f : BitVec 32 → BitVec 32) : Prop := ∀ x y, f (x ^^^ y) = f x ^^^ f y

theorem Lin.zero {f} (h : Lin f) : f 0#32 = 0#32 := by
  have := h 0#32 0#32
  simpa using this

theorem Lin.comp {f g} (hf : Lin f) (hg : Lin g) : Lin (fun x => f (g x)) := by
  intro x y
  show f (g (x ^^^ y)) = _
  rw [hg, hf]

theorem Lin.shN (n : Nat) : Lin (CrcP.shN n) := shN_xor n

/-- The round of 'of': what is left of x, shifted back, and what was gathered. -/
theorem of_round (x : BitVec 32) (i : Nat) (hi : i < 32) :
    x <<< i = ((x >>> 1) <<< (i + 1)) ^^^ (if x.getLsbD 0 then 1#32 <<< i else 0#32) := by
  apply BitVec.eq_of_getLsbD_eq
  intro k hk
  simp only [BitVec.getLsbD_xor, BitVec.getLsbD_shiftLeft, BitVec.getLsbD_ushiftRight]
  have one : ∀ j, j < 32 → (1#32 : BitVec 32).getLsbD j = decide (j = 0) := by
    intro j hj
    have : ∀ j : Fin 32, (1#32 : BitVec 32).getLsbD j.val = decide (j.val = 0) := by decide
    exact this ⟨j, hj⟩
  by_cases h1 : k < i
  · have : k < i + 1 := by omega
    cases x.getLsbD 0 <;> simp [h1, hk, this]
  · by_cases h2 : k = i
    · subst h2
      have hs : (1#32 : BitVec 32).getLsbD 0 = true := by decide
      rw [Nat.sub_self]
      cases hx : x.getLsbD 0
      · simp [hk]
      · simp only [if_true, BitVec.getLsbD_shiftLeft, Nat.sub_self, hs]; simp [hk]
    · have e : 1 + (k - (i + 1)) = k - i := by omega
      have h3 : ¬ k < i + 1 := by omega
      have o := one (k - i) (by omega)
      have h4 : ¬ (k - i = 0) := by omega
      cases hx : x.getLsbD 0
      · simp [hk, h1, h3, e]
      · simp only [if_true, BitVec.getLsbD_shiftLeft, o]; simp [hk, h1, h3, e, h4]

theorem of_keeps {f : BitVec 32 → BitVec 32} (hf : Lin f) (x y : BitVec 32) (i : Nat) (hi : i < 32) :
    (ofStep (fun j => f (1#32 <<< j)) x y i) ^^^ f ((x >>> 1) <<< (i + 1)) = y ^^^ f (x <<< i) := by
  rw [of_round x i hi, hf]
  unfold ofStep
  cases x.getLsbD 0
  · simp [hf.zero]
  · simp only [if_true]
    rw [BitVec.xor_assoc, BitVec.xor_comm (f (1#32 <<< i))]

/-- Squares of a step's law. -/
theorem pow_twice (n : Nat) (x : BitVec 32) : shN n (shN n x) = shN (2 * n) x := by
  rw [← shN_add]; congr 1; omega

/-! ### What a burst comes to -/
/-- The bits of a pattern below k that lie ahead of the end, N bits off. -/
def acc (p : BitVec 32) (N : Nat) : Nat → BitVec 32
  | 0 => 0#32
  | k + 1 => if p.getLsbD k ∧ k < N then acc p N k ^^^ (1#32 <<< k) else acc p N k

theorem one_bit (k j : Nat) (hk : k < 32) (hj : j < 32) : (1#32 <<< k).getLsbD j = decide (j = k) := by
  have one : ∀ j, j < 32 → (1#32 : BitVec 32).getLsbD j = decide (j = 0) := by
    intro j hj
    have : ∀ j : Fin 32, (1#32 : BitVec 32).getLsbD j.val = decide (j.val = 0) := by decide
    exact this ⟨j, hj⟩
  simp only [BitVec.getLsbD_shiftLeft]
  by_cases h : j < k
  · simp [hj, h]; omega
  · have o := one (j - k) (by omega)
    simp only [o, hj, h]
    simp
    omega

theorem acc_bits (p : BitVec 32) (N : Nat) (k : Nat) (hk : k ≤ 32) : ∀ j, j < 32 → (acc p N k).getLsbD j = (decide (j < k) && (decide (j < N) && p.getLsbD j)) := by
  induction k with
  | zero => intro j hj; simp [acc]
  | succ k ih =>
    intro j hj
    have ih := ih (by omega) j hj
    simp only [acc]
    split
    · rename_i h
      simp only [BitVec.getLsbD_xor, ih, one_bit k j (by omega) hj]
      by_cases e : j = k
      · subst e; simp [h.1, h.2]
      · have : decide (j < k + 1) = decide (j < k) := by rw [decide_eq_decide]; omega
        simp [e, this]
    · rename_i h
      rw [ih]
      by_cases e : j = k
      · subst e
        simp only [Nat.lt_irrefl, decide_false, Bool.false_and, Nat.lt_succ_self, decide_true, Bool.true_and]
        cases hp : p.getLsbD j <;> simp_all
      · have : decide (j < k + 1) = decide (j < k) := by rw [decide_eq_decide]; omega
        rw [this]

theorem acc_zero_iff (p : BitVec 32) (N k : Nat) (hk : k < 32) (h : p.getLsbD k = true) (hN : k < N) : acc p N (k + 1) ≠ 0#32 := by
  intro e
  have := acc_bits p N (k + 1) (by omega) k (by omega)
  rw [e] at this
  simp [h, hN] at this

/-- One bit more of a burst. -/
theorem burst_step (l : List UInt8) (x : BitVec 32) (out : List UInt8) (p : BitVec 32) (at_ k N : Nat) (hk : k < 32) (hlen : out.length = l.length) (hN : N + at_ = 8 * l.length)
    (h : Turn x out = Turn x l ^^^ shN N (acc p N k)) (hb : p.getLsbD k = true) (hlt : k < N) :
    Turn x (flip out (at_ + k)) = Turn x l ^^^ shN N (acc p N (k + 1)) := by
  rw [Turn_flip out x (at_ + k) (by omega), h, BitVec.xor_assoc]
  congr 1
  simp only [acc, hb, hlt, and_self, if_true]
  rw [shN_xor]
  congr 1
  have e : 8 * out.length - (at_ + k) = N - k := by omega
  rw [e]
  conv => rhs; rw [show N = k + (N - k) from by omega]
  rw [shN_add, one_shN k hk]

theorem burst_end (l : List UInt8) (x R : BitVec 32) (out : List UInt8) (N : Nat) (a : BitVec 32)
    (h : Turn x out = Turn x l ^^^ shN N a) (hl : Turn x l = R) : Turn x out = R ↔ a = 0#32 := by
  rw [h, hl]
  constructor
  · intro e
    apply shN_inj0 N
    have : (R ^^^ shN N a) ^^^ R = R ^^^ R := by rw [e]
    rw [BitVec.xor_comm R, BitVec.xor_assoc, BitVec.xor_self] at this
    simpa using this
  · intro e; subst e; rw [shN_zero]; simp

/-- Three texts of one length, xored. -/
theorem Turn_three (a : List UInt8) : ∀ (b c : List UInt8) (x y z : BitVec 32), b.length = a.length → c.length = a.length →
    Turn (x ^^^ y ^^^ z) (List.zipWith (fun p q => p ^^^ q) (List.zipWith (fun p q => p ^^^ q) a b) c) = Turn x a ^^^ Turn y b ^^^ Turn z c := by
  induction a with
  | nil => intro b c x y z hb hc; cases b <;> cases c <;> simp_all [Turn]
  | cons p a ih =>
    intro b c x y z hb hc
    cases b with
    | nil => simp at hb
    | cons q b =>
      cases c with
      | nil => simp at hc
      | cons r c =>
        simp only [List.length_cons, Nat.add_right_cancel_iff] at hb hc
        simp only [List.zipWith_cons_cons, Turn, List.foldl_cons] at *
        rw [← ih b c _ _ _ hb hc]
        congr 1
        unfold turn
        rw [xor_byte, xor_byte, ← shN_xor, ← shN_xor]
        congr 1
        rw [xor_swap x, xor_swap (x ^^^ y)]

theorem Sum_three (a b c : List UInt8) (hb : b.length = a.length) (hc : c.length = a.length) :
    Sum (List.zipWith (fun p q => p ^^^ q) (List.zipWith (fun p q => p ^^^ q) a b) c) = Sum a ^^^ Sum b ^^^ Sum c := by
  unfold Sum
  have := Turn_three a b c ones ones ones hb hc
  have e : ones ^^^ ones ^^^ ones = ones := by rw [BitVec.xor_self]; simp
  rw [e] at this
  rw [this]
  rw [xor_swap (Turn ones a) ones, xor_swap (Turn ones a ^^^ Turn ones b), e]

end CrcP
