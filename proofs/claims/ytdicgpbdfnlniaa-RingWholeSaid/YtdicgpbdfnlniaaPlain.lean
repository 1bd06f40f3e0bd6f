/- The ring, plainly: whole frames, in their order. No program in sight. -/
namespace Go.Proofs.Ytdicgpbdfnlniaa
set_option linter.unusedVariables false

/-- The frames that are held; is the first begun; those that were lost. -/
structure RG where
  L : List (List UInt8)
  begun : Bool
  gone : List (List UInt8)
def RG.bytes (s : RG) : List UInt8 := s.L.flatten
def RG.used (s : RG) : Nat := s.bytes.length
def RG.sizes (s : RG) : List Nat := s.L.map List.length
def hd0 : List Nat → Nat
  | [] => 0
  | z :: _ => z
def RG.rest (s : RG) : Nat := if s.begun then hd0 s.sizes else 0
/-- The oldest that isn't begun is lost. -/
def RG.lose (s : RG) : RG :=
  match s.begun, s.L with
  | true, f :: f1 :: l => ⟨f :: l, true, s.gone ++ [f1]⟩
  | false, f :: l => ⟨l, false, s.gone ++ [f]⟩
  | _, _ => s
def putG (cap : Nat) (pol : Int) (t : List UInt8) : Nat → RG → Int × RG
  | 0, s => (0, ⟨s.L ++ [t], s.begun, s.gone⟩)
  | n + 1, s =>
    if t.length ≤ cap - s.used then (0, ⟨s.L ++ [t], s.begun, s.gone⟩)
    else if pol = 0 ∨ cap < t.length + s.rest then (7, ⟨s.L, s.begun, s.gone ++ [t]⟩)
    else putG cap pol t n s.lose
def put (cap : Nat) (pol : Int) (s : RG) (t : List UInt8) : Int × RG :=
  if 1 ≤ t.length ∧ t.length ≤ 179 then putG cap pol t s.L.length s else (1, s)
/-- So many bytes are taken. -/
def dr : Nat → List (List UInt8) → Bool → List (List UInt8) × Bool
  | _, [], b => ([], b)
  | n, f :: l, b => if n = 0 then (f :: l, b) else if f.length ≤ n then dr (n - f.length) l false else (f.drop n :: l, true)
def drain (s : RG) (n : Nat) : RG := ⟨(dr n s.L s.begun).1, (dr n s.L s.begun).2, s.gone⟩

/-- What always holds. -/
structure WF (cap : Nat) (s : RG) : Prop where
  pos : ∀ f ∈ s.L, 0 < f.length
  room : s.used ≤ cap
  beg : s.begun = true → s.L ≠ []
theorem wf_start (cap : Nat) : WF cap ⟨[], false, []⟩ := ⟨by simp, by simp [RG.used, RG.bytes], by simp⟩
theorem used_len (s : RG) : s.used = s.sizes.sum := by unfold RG.used RG.sizes RG.bytes; rw [List.length_flatten]
theorem sum_pos_len : ∀ zs : List Nat, (∀ z ∈ zs, 0 < z) → zs.length ≤ zs.sum
  | [], _ => by simp
  | z :: zs, h => by
    have := sum_pos_len zs (fun x hx => h x (by simp [hx]))
    have := h z (by simp)
    simp; omega
theorem WF.szpos {cap : Nat} {s : RG} (h : WF cap s) : ∀ z ∈ s.sizes, 0 < z := fun z hz => by
  unfold RG.sizes at hz
  obtain ⟨f, hf, rfl⟩ := List.mem_map.1 hz
  exact h.pos f hf
theorem WF.len {cap : Nat} {s : RG} (h : WF cap s) : s.L.length ≤ cap := by
  have h1 := sum_pos_len s.sizes h.szpos
  have h2 := used_len s
  have h3 := h.room
  have h4 : s.sizes.length = s.L.length := by simp [RG.sizes]
  omega

/-- What it takes that a loss can be: the room is not enough, yet it might be. -/
theorem WF.can {cap : Nat} {s : RG} (h : WF cap s) {t : List UInt8} (h1 : ¬ t.length ≤ cap - s.used) (h2 : ¬ cap < t.length + s.rest) : (s.begun = true ∧ ∃ f f1 l, s.L = f :: f1 :: l) ∨ (s.begun = false ∧ ∃ f l, s.L = f :: l) := by
  obtain ⟨L, b, go⟩ := s
  have hroom := h.room
  cases b with
  | true =>
    left
    refine ⟨rfl, ?_⟩
    match L, h.beg rfl with
    | [f], _ =>
      simp [RG.used, RG.bytes, RG.rest, RG.sizes, hd0] at *
      omega
    | f :: f1 :: l, _ => exact ⟨f, f1, l, rfl⟩
  | false =>
    right
    refine ⟨rfl, ?_⟩
    match L with
    | [] => simp [RG.used, RG.bytes, RG.rest] at *; omega
    | f :: l => exact ⟨f, l, rfl⟩
theorem WF.lose {cap : Nat} {s : RG} (h : WF cap s) : WF cap s.lose := by
  obtain ⟨L, b, go⟩ := s
  obtain ⟨h1, h2, h3⟩ := h
  cases b with
  | true =>
    match L with
    | [] => exact ⟨h1, h2, h3⟩
    | [f] => exact ⟨h1, h2, h3⟩
    | f :: f1 :: l =>
      refine ⟨fun x hx => h1 x ?_, ?_, fun _ => by simp [RG.lose]⟩
      · simp [RG.lose] at hx ⊢
        rcases hx with h | h <;> simp [h]
      · simp [RG.lose, RG.used, RG.bytes] at h2 ⊢
        omega
  | false =>
    match L with
    | [] => exact ⟨h1, h2, h3⟩
    | f :: l =>
      refine ⟨fun x hx => h1 x ?_, ?_, fun h => by simp [RG.lose] at h⟩
      · simp [RG.lose] at hx ⊢
        simp [hx]
      · simp [RG.lose, RG.used, RG.bytes] at h2 ⊢
        omega
theorem lose_len {s : RG} (h : (s.begun = true ∧ ∃ f f1 l, s.L = f :: f1 :: l) ∨ (s.begun = false ∧ ∃ f l, s.L = f :: l)) : s.lose.L.length + 1 = s.L.length ∧ s.lose.gone.length = s.gone.length + 1 := by
  obtain ⟨L, b, go⟩ := s
  rcases h with ⟨hb, f, f1, l, hL⟩ | ⟨hb, f, l, hL⟩ <;> simp only at hb hL <;> subst hb <;> subst hL <;> simp [RG.lose]
theorem WF.push {cap : Nat} {s : RG} (h : WF cap s) {t : List UInt8} (h1 : t.length ≤ cap - s.used) (h0 : 1 ≤ t.length) : WF cap ⟨s.L ++ [t], s.begun, s.gone⟩ := by
  refine ⟨fun f hf => ?_, ?_, fun _ => by simp⟩
  · simp at hf
    rcases hf with hf | rfl
    · exact h.pos f hf
    · omega
  · have := h.room
    simp [RG.used, RG.bytes] at this h1 ⊢
    omega
theorem dr_bytes : ∀ (n : Nat) (L : List (List UInt8)) (b : Bool), (dr n L b).1.flatten = L.flatten.drop n
  | _, [], _ => by simp [dr]
  | n, f :: l, b => by
    unfold dr
    split
    · rename_i h; subst h; simp
    · split
      · rename_i h
        rw [dr_bytes (n - f.length) l false]
        simp [List.drop_append, List.drop_eq_nil_of_le h]
      · rename_i h
        have : n - f.length = 0 := by omega
        simp [List.drop_append, this]
theorem dr_pos : ∀ (n : Nat) (L : List (List UInt8)) (b : Bool), (∀ f ∈ L, 0 < f.length) → ∀ f ∈ (dr n L b).1, 0 < f.length
  | _, [], _, h => by simp [dr]
  | n, f :: l, b, h => by
    unfold dr
    split
    · exact h
    · split
      · exact dr_pos _ l false fun x hx => h x (by simp [hx])
      · rename_i h1
        intro x hx
        simp at hx
        rcases hx with rfl | hx
        · simp; omega
        · exact h x (by simp [hx])
theorem dr_beg : ∀ (n : Nat) (L : List (List UInt8)) (b : Bool), (b = true → L ≠ []) → (dr n L b).2 = true → (dr n L b).1 ≠ []
  | _, [], b, h => by simpa [dr] using h
  | n, f :: l, b, h => by
    unfold dr
    split
    · simp
    · split
      · exact dr_beg _ l false (by simp)
      · simp
theorem WF.drain {cap : Nat} {s : RG} (h : WF cap s) (n : Nat) : WF cap (drain s n) := by
  refine ⟨dr_pos n s.L s.begun h.pos, ?_, dr_beg n s.L s.begun h.beg⟩
  have := h.room
  unfold RG.used RG.bytes at this ⊢
  show ((dr n s.L s.begun).1.flatten).length ≤ cap
  rw [dr_bytes]
  simp at this ⊢
  omega
theorem dr_all : ∀ (n : Nat) (L : List (List UInt8)) (b : Bool), (∀ f ∈ L, 0 < f.length) → L.flatten.length ≤ n → (dr n L b).1 = [] ∧ ((b = true → L ≠ []) → (dr n L b).2 = false)
  | _, [], b, _, _ => ⟨by simp [dr], fun h => by cases b <;> simp [dr] at *⟩
  | n, f :: l, b, h, hn => by
    have h0 := h f (by simp)
    have h1 : f.length ≤ n := by simp at hn; omega
    have h2 : ¬ n = 0 := by omega
    unfold dr
    rw [if_neg h2, if_pos h1]
    have := dr_all (n - f.length) l false (fun x hx => h x (by simp [hx])) (by simp at hn ⊢; omega)
    exact ⟨this.1, fun _ => this.2 (by simp)⟩

/-! ### The room -/
def upR (R : Nat → UInt8) (i : Nat) (b : UInt8) : Nat → UInt8 := fun j => if j = i then b else R j
/-- The first k bytes of t are laid from p on. -/
def layR (R : Nat → UInt8) (cap p : Nat) (t : List UInt8) : Nat → Nat → UInt8
  | 0 => R
  | k + 1 => upR (layR R cap p t k) ((p + k) % cap) (t.getD k 0)
theorem mod_ne {cap p i k : Nat} (h : i < k) (hk : k - i < cap) : (p + i) % cap ≠ (p + k) % cap := fun e => by
  have h1 := Nat.sub_mod_eq_zero_of_mod_eq e.symm
  have h2 : p + k - (p + i) = k - i := by omega
  rw [h2, Nat.mod_eq_of_lt hk] at h1
  omega
theorem layR_in (R : Nat → UInt8) (cap p : Nat) (t : List UInt8) : ∀ k, k ≤ cap → ∀ i, i < k → layR R cap p t k ((p + i) % cap) = t.getD i 0
  | 0, _, i, h => by omega
  | k + 1, hk, i, h => by
    unfold layR upR
    by_cases e : i = k
    · subst e; simp
    · rw [if_neg (mod_ne (by omega) (by omega))]
      exact layR_in R cap p t k (by omega) i (by omega)
theorem layR_out (R : Nat → UInt8) (cap p : Nat) (t : List UInt8) : ∀ k j, (∀ i, i < k → j ≠ (p + i) % cap) → layR R cap p t k j = R j
  | 0, _, _ => rfl
  | k + 1, j, h => by
    unfold layR upR
    rw [if_neg (h k (by omega))]
    exact layR_out R cap p t k j fun i hi => h i (by omega)
/-- The bytes that are held lie in the room from head on. -/
def RoomAt (cap head : Nat) (R : Nat → UInt8) (B : List UInt8) : Prop := ∀ i, i < B.length → R ((head + i) % cap) = B.getD i 0
def peekR (cap p : Nat) (R : Nat → UInt8) (n : Nat) : List UInt8 := (List.range n).map fun i => R ((p + i) % cap)
theorem peekR_len (cap p : Nat) (R : Nat → UInt8) (n : Nat) : (peekR cap p R n).length = n := by simp [peekR]
theorem peekR_take {cap head : Nat} {R : Nat → UInt8} {B : List UInt8} (h : RoomAt cap head R B) {n : Nat} (hn : n ≤ B.length) : peekR cap head R n = B.take n := by
  apply List.ext_getElem
  · simp [peekR]; omega
  · intro i h1 h2
    simp [peekR] at h1 ⊢
    have := h i (by omega)
    rw [this]
    simp [List.getD_eq_getElem?_getD, show i < B.length by omega]
theorem RoomAt.push {cap head : Nat} {R : Nat → UInt8} {B : List UInt8} (h : RoomAt cap head R B) (t : List UInt8) (hr : B.length + t.length ≤ cap) : RoomAt cap head (layR R cap (head + B.length) t t.length) (B ++ t) := by
  intro i hi
  rw [List.length_append] at hi
  by_cases hb : i < B.length
  · rw [layR_out]
    · rw [h i hb]
      simp [List.getD_eq_getElem?_getD, List.getElem?_append_left hb]
    · intro j hj
      rw [Nat.add_assoc]
      exact mod_ne (by omega) (by omega)
  · have e : (head + i) % cap = (head + B.length + (i - B.length)) % cap := by congr 1; omega
    rw [e, layR_in _ _ _ _ _ (by omega) _ (by omega)]
    simp [List.getD_eq_getElem?_getD, List.getElem?_append_right (show B.length ≤ i by omega)]
theorem mod_shift (cap head n i : Nat) : ((head + n) % cap + i) % cap = (head + (n + i)) % cap := by
  rw [Nat.mod_add_mod]; congr 1; omega
theorem RoomAt.drop {cap head : Nat} {R : Nat → UInt8} {B : List UInt8} (h : RoomAt cap head R B) (n : Nat) : RoomAt cap ((head + n) % cap) R (B.drop n) := by
  intro i hi
  rw [List.length_drop] at hi
  rw [mod_shift, h (n + i) (by omega)]
  simp [List.getD_eq_getElem?_getD, List.getElem?_drop]
theorem RoomAt.lose {cap head : Nat} {R : Nat → UInt8} {B0 B1 B2 : List UInt8} (h : RoomAt cap head R (B0 ++ B1 ++ B2)) (hr : (B0 ++ B1 ++ B2).length ≤ cap) : RoomAt cap ((head + B1.length) % cap) (layR R cap ((head + B1.length) % cap) B0 B0.length) (B0 ++ B2) := by
  intro i hi
  simp only [List.length_append] at hi hr
  by_cases hb : i < B0.length
  · rw [layR_in _ _ _ _ _ (by omega) _ hb]
    simp [List.getD_eq_getElem?_getD, List.getElem?_append_left hb]
  · rw [layR_out]
    · rw [mod_shift, h (B1.length + i) (by simp; omega)]
      simp only [List.getD_eq_getElem?_getD]
      rw [List.getElem?_append_right (by simp; omega), List.getElem?_append_right (by omega)]
      congr 2
      simp; omega
    · intro j hj
      exact fun e => mod_ne (cap := cap) (p := (head + B1.length) % cap) (i := j) (k := i) (by omega) (by omega) e.symm
end Go.Proofs.Ytdicgpbdfnlniaa
