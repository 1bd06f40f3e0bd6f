/- The walks of package line: each function once. -/
import Derived.Test.YtglnabgageeipaaDoorRows
import Derived.Test.YtglnabgageeipaaDoorRel
import Derived.Lib.TrailingZeros
import Derived.StillTailTactics
namespace Go.Proofs.YtglnabgageeipaaDoor
open Go.RowKit

/-- The library's table lies in its variable. -/
def TabAt (w : World) : Prop := ∀ j, j < 32 → w.cell? ⟨0, j, none⟩ = some (.int .u8 (Lib.deBruijn32tab.getD j 0))

/-- The lines lie at b. -/
def LineAt (w : World) (b : Nat) (A P M : BitVec 32) (act : Int) : Prop := w.heap[b]? = some (.cells #[.int .u32 A.toNat, .int .u32 P.toNat, .int .u32 M.toNat, .int .i64 act] 50 (0, 0))

theorem tz_core (x k idx : Nat) (w : World) (hx0 : ((x : Int) == 0) = false)
    (key : bits BinOp.and IntKind.u32 (x : Int) (-(x : Int) % 4294967296) * 125613361 % 4294967296 / 134217728 = (idx : Int))
    (hi : idx < 32) (hk : k < 32) (hcell : w.cell? ⟨0, idx, none⟩ = some (.int .u8 k)) :
    Calls Tryd.prog 23 #[.int .u32 x] w fun e w' => e = .returned (.int .i64 k) ∧ w' = w := by
  go_enter Tryd.func23, Tryd.ntmps23
  go_wp2_with (simp only [key])
  go_ret
  exact ⟨rfl, rfl⟩


theorem tz32_key (x a : Nat) (hx : x < 4294967296) (hlow : x &&& (4294967296 - x) = a) (h0 : x ≠ 0) :
    bits BinOp.and IntKind.u32 (x : Int) (-(x : Int) % 4294967296) * 125613361 % 4294967296 / 134217728 = ((a * 125613361 % 4294967296 / 134217728 : Nat) : Int) := by
  have e1 : -(x : Int) % 4294967296 = ((4294967296 - x : Nat) : Int) := by omega
  have e2 : bits .and .u32 (x : Int) ((4294967296 - x : Nat) : Int) = ((x &&& (4294967296 - x) : Nat) : Int) := by
    have h := bits_and32 (BitVec.ofNat 32 x) (BitVec.ofNat 32 (4294967296 - x))
    rw [BitVec.toNat_and, BitVec.toNat_ofNat, BitVec.toNat_ofNat, Nat.mod_eq_of_lt (show x < 2 ^ 32 by omega), Nat.mod_eq_of_lt (show 4294967296 - x < 2 ^ 32 by omega)] at h
    exact h
  rw [e1, e2, hlow]
  omega
/-- The place of the lowest one bit. -/
def ctz (x : BitVec 32) : Nat := Lib.ctz 32 x.toNat
theorem ctz_lt {x : BitVec 32} (h : x ≠ 0#32) : ctz x < 32 := (Lib.lowest_bit 32 x.toNat (fun e => h (BitVec.eq_of_toNat_eq (by simpa using e))) x.isLt).2
theorem tz_any (w : World) (x : BitVec 32) (h : x ≠ 0#32) (hT : TabAt w) : Calls Tryd.prog 23 #[.int .u32 x.toNat] w fun e w' => e = .returned (.int .i64 (ctz x)) ∧ w' = w := by
  have h0 : x.toNat ≠ 0 := fun e => h (BitVec.eq_of_toNat_eq (by simpa using e))
  obtain ⟨hlow, hk⟩ := Lib.lowest_bit 32 x.toNat h0 x.isLt
  obtain ⟨hi, htab⟩ := Lib.deBruijn32_at _ hk
  have hcell := hT _ hi
  rw [htab] at hcell
  exact tz_core x.toNat _ _ w (by simp; omega) (tz32_key x.toNat _ x.isLt hlow h0) hi hk hcell
attribute [local irreducible] ctz

/-- All but one block is as it was. -/
def Only (b : Nat) (w w' : World) : Prop := w'.os = w.os ∧ w'.tape = w.tape ∧ w'.output = w.output ∧ w.heap.size ≤ w'.heap.size ∧ ∀ k, k < w.heap.size → k ≠ b → w'.heap[k]? = w.heap[k]?
theorem Only.refl (b : Nat) (w : World) : Only b w w := ⟨rfl, rfl, rfl, Nat.le_refl _, fun _ _ _ => rfl⟩
theorem Only.trans {b : Nat} {w w1 w2 : World} (h : Only b w w1) (g : Only b w1 w2) : Only b w w2 :=
  ⟨g.1.trans h.1, g.2.1.trans h.2.1, g.2.2.1.trans h.2.2.1, Nat.le_trans h.2.2.2.1 g.2.2.2.1, fun k hk hne => (g.2.2.2.2 k (Nat.lt_of_lt_of_le hk h.2.2.2.1) hne).trans (h.2.2.2.2 k hk hne)⟩
theorem Only.drewN {b : Nat} {w w1 : World} (h : Only b w w1) (n : Nat) : Only b w (w1.drewN n) := h
theorem Only.drew {b : Nat} {w w1 : World} (h : Only b w w1) : Only b w w1.drew := h
theorem Only.setCell {b : Nat} {w w1 : World} (h : Only b w w1) (j : Nat) (v : Value) : Only b w (w1.setCell ⟨b, j, none⟩ v) :=
  h.trans ⟨rfl, rfl, rfl, by simp [World.setCell], fun k _ hne => set_block_other hne j v⟩
theorem Only.alloc {b : Nat} {w w1 : World} (h : Only b w w1) (o : Obj) : Only b w (w1.alloc o) :=
  h.trans ⟨rfl, rfl, rfl, by show w1.heap.size ≤ (w1.heap.push o).size; simp, fun k hk _ => heapAt_alloc_old w1 o hk⟩
theorem Only.of_below {b : Nat} {w w1 w2 : World} (h : Only b w w1) (g : Below w1.heap.size w1 w2) : Only b w w2 := h.trans ⟨g.os, g.tape, g.output, g.size, fun k hk _ => g.block k hk⟩
theorem Only.below {b B : Nat} {w w1 : World} (h : Only b w w1) (hb : B ≤ b) (hB : B ≤ w.heap.size) : Below B w w1 := ⟨h.1, h.2.1, h.2.2.1, h.2.2.2.1, fun k hk => h.2.2.2.2 k (by omega) (by omega)⟩
theorem Only.at {b k : Nat} {w w1 : World} {o : Obj} (h : Only b w w1) (hne : k ≠ b) (ho : w.heap[k]? = some o) : w1.heap[k]? = some o := (h.2.2.2.2 k (heapAt_lt ho) hne).trans ho
theorem LineAt.set1 {w : World} {b : Nat} {A P M : BitVec 32} {act : Int} (h : LineAt w b A P M act) (P' : BitVec 32) : LineAt (w.setCell ⟨b, 1, none⟩ (.int .u32 P'.toNat)) b A P' M act := set_block h 1 _
theorem LineAt.set2 {w : World} {b : Nat} {A P M : BitVec 32} {act : Int} (h : LineAt w b A P M act) (M' : BitVec 32) : LineAt (w.setCell ⟨b, 2, none⟩ (.int .u32 M'.toNat)) b A P M' act := set_block h 2 _
theorem LineAt.set3 {w : World} {b : Nat} {A P M : BitVec 32} {act : Int} (h : LineAt w b A P M act) (a : Int) : LineAt (w.setCell ⟨b, 3, none⟩ (.int .i64 a)) b A P M a := set_block h 3 _
theorem LineAt.drewN {w : World} {b : Nat} {A P M : BitVec 32} {act : Int} (h : LineAt w b A P M act) (n : Nat) : LineAt (w.drewN n) b A P M act := h

theorem active_nil (w : World) : Calls Tryd.prog 21 #[.pointer none] w fun e w' => e = .returned (.int .i64 255) ∧ w' = w := by
  go_enter Tryd.func21, Tryd.ntmps21
  go_wp2
  go_ret
  exact ⟨rfl, rfl⟩
theorem active_any (w : World) (b : Nat) (A P M : BitVec 32) (act : Int) (h : LineAt w b A P M act) : Calls Tryd.prog 21 #[.pointer (some ⟨b, 0, none⟩)] w fun e w' => e = .returned (.int .i64 act) ∧ w' = w := by
  have h3 := cell_block h 3
  simp at h3
  go_enter Tryd.func21, Tryd.ntmps21
  go_wp2
  go_ret
  exact ⟨rfl, rfl⟩
theorem pending_any (w : World) (b : Nat) (A P M : BitVec 32) (act : Int) (h : LineAt w b A P M act) : Calls Tryd.prog 14 #[.pointer (some ⟨b, 0, none⟩)] w fun e w' => e = .returned (.int .u32 P.toNat) ∧ w' = w := by
  have h0 := cell_block h 0
  have h1 := cell_block h 1
  have h2 := cell_block h 2
  have h3 := cell_block h 3
  have hf1 := free_block h 1
  have hf2 := free_block h 2
  have hf3 := free_block h 3
  simp at h0 h1 h2 h3
  go_enter Tryd.func14, Tryd.ntmps14
  go_wp2
  go_ret
  exact ⟨rfl, rfl⟩
theorem mask_any (w : World) (b : Nat) (A P M : BitVec 32) (act : Int) (h : LineAt w b A P M act) : Calls Tryd.prog 22 #[.pointer (some ⟨b, 0, none⟩)] w fun e w' => e = .returned (.int .u32 M.toNat) ∧ w' = w := by
  have h0 := cell_block h 0
  have h1 := cell_block h 1
  have h2 := cell_block h 2
  have h3 := cell_block h 3
  have hf1 := free_block h 1
  have hf2 := free_block h 2
  have hf3 := free_block h 3
  simp at h0 h1 h2 h3
  go_enter Tryd.func22, Tryd.ntmps22
  go_wp2
  go_ret
  exact ⟨rfl, rfl⟩
theorem one_bit_word (k : Nat) (hk : k < 32) : IntKind.u32.wrap ((2 : Int) ^ k) = ((1#32 <<< k).toNat : Int) := by
  have h : ∀ k : Fin 32, IntKind.u32.wrap ((2 : Int) ^ k.val) = ((1#32 <<< k.val).toNat : Int) := by decide
  exact h ⟨k, hk⟩
theorem off_bit (P : BitVec 32) (k : Nat) (hk : k < 32) : bits .andNot .u32 (P.toNat : Int) (IntKind.u32.wrap ((2 : Int) ^ k)) = ((P &&& ~~~(1#32 <<< k)).toNat : Int) := by
  rw [one_bit_word k hk, bits_andNot32]
theorem raise_any (w : World) (b : Nat) (A P M X C D E : BitVec 32) (act : Int) (hC : C = X &&& A) (hD : D = C &&& P) (hE : E = P ||| C) (h : LineAt w b A P M act) : Calls Tryd.prog 9 #[.pointer (some ⟨b, 0, none⟩), .int .u32 X.toNat] w fun e w' => e = .returned (.tuple #[.int .u32 C.toNat, .int .u32 D.toNat]) ∧ LineAt w' b A E M act ∧ Only b w w' := by
  have h0 := cell_block h 0
  have h1 := cell_block h 1
  have h2 := cell_block h 2
  have h3 := cell_block h 3
  have hf1 := free_block h 1
  have hf2 := free_block h 2
  have hf3 := free_block h 3
  simp at h0 h1 h2 h3
  have e1 := bits_and32 X A
  have e2 := bits_and32 C P
  have e3 := bits_or32 P C
  rw [← hC] at e1
  rw [← hD] at e2
  rw [← hE] at e3
  clear hC hD hE
  go_enter Tryd.func9, Tryd.ntmps9
  go_wp2
  go_ret2
  exact ⟨rfl, h.set1 _, (Only.refl b w).setCell 1 _⟩
theorem leave_any (w : World) (b : Nat) (A P M : BitVec 32) (act : Int) (h : LineAt w b A P M act) : Calls Tryd.prog 13 #[.pointer (some ⟨b, 0, none⟩)] w fun e w' => e = .returned (.bool (decide (act ≠ 255))) ∧ LineAt w' b A P M 255 ∧ Only b w w' := by
  have h0 := cell_block h 0
  have h1 := cell_block h 1
  have h2 := cell_block h 2
  have h3 := cell_block h 3
  have hf1 := free_block h 1
  have hf2 := free_block h 2
  have hf3 := free_block h 3
  simp at h0 h1 h2 h3
  by_cases ha : act = 255
  · subst ha
    go_enter Tryd.func13, Tryd.ntmps13
    go_wp2
    go_ret
    exact ⟨rfl, h, Only.refl b w⟩
  go_enter Tryd.func13, Tryd.ntmps13
  go_wp2
  go_ret
  exact ⟨by simp [ha], h.set3 _, (Only.refl b w).setCell 3 _⟩
theorem let_any (w : World) (b : Nat) (A P M X C : BitVec 32) (act : Int) (hC : C = X &&& A) (h : LineAt w b A P M act) : Calls Tryd.prog 11 #[.pointer (some ⟨b, 0, none⟩), .int .u32 X.toNat] w fun e w' => e = .returned (.tuple #[]) ∧ LineAt w' b A P C act ∧ Only b w w' := by
  have h0 := cell_block h 0
  have h1 := cell_block h 1
  have h2 := cell_block h 2
  have h3 := cell_block h 3
  have hf1 := free_block h 1
  have hf2 := free_block h 2
  have hf3 := free_block h 3
  simp at h0 h1 h2 h3
  have e1 := bits_and32 X A
  rw [← hC] at e1
  clear hC
  go_enter Tryd.func11, Tryd.ntmps11
  go_wp2
  go_end0
  exact ⟨rfl, h.set2 _, (Only.refl b w).setCell 2 _⟩
theorem enter_no (w : World) (b : Nat) (A P M : BitVec 32) (act : Int) (hno : act ≠ 255) (h : LineAt w b A P M act) : Calls Tryd.prog 10 #[.pointer (some ⟨b, 0, none⟩)] w fun e w' => e = .returned (.tuple #[.int .i64 0, .bool false]) ∧ LineAt w' b A P M act ∧ Only b w w' := by
  have h0 := cell_block h 0
  have h1 := cell_block h 1
  have h2 := cell_block h 2
  have h3 := cell_block h 3
  have hf1 := free_block h 1
  have hf2 := free_block h 2
  have hf3 := free_block h 3
  simp at h0 h1 h2 h3
  go_enter Tryd.func10, Tryd.ntmps10
  go_wp2
  go_quiet (fail)
  go_wp2
  go_ret2
  exact ⟨rfl, h.drewN _, (Only.refl b w).drewN _⟩
theorem enter_none (w : World) (b : Nat) (A P M : BitVec 32) (act : Int) (ha : act = 255) (hno : P &&& M = 0#32) (h : LineAt w b A P M act) : Calls Tryd.prog 10 #[.pointer (some ⟨b, 0, none⟩)] w fun e w' => e = .returned (.tuple #[.int .i64 0, .bool false]) ∧ LineAt w' b A P M act ∧ Only b w w' := by
  have h0 := cell_block h 0
  have h1 := cell_block h 1
  have h2 := cell_block h 2
  have h3 := cell_block h 3
  have hf1 := free_block h 1
  have hf2 := free_block h 2
  have hf3 := free_block h 3
  simp at h0 h1 h2 h3
  have e1 := bits_and32 P M
  rw [hno] at e1
  simp at e1
  subst ha
  go_enter Tryd.func10, Tryd.ntmps10
  go_wp2
  go_quiet (fail)
  go_wp2
  go_ret2
  exact ⟨rfl, h.drewN _, (Only.refl b w).drewN _⟩
theorem enter_one (w : World) (b : Nat) (A P M Q E : BitVec 32) (act : Int) (k : Nat) (ha : act = 255) (hQ : P &&& M = Q) (hyes : Q ≠ 0#32) (hK : ctz Q = k) (hE : E = P &&& ~~~(1#32 <<< k)) (hT : TabAt w) (h : LineAt w b A P M act) :
    Calls Tryd.prog 10 #[.pointer (some ⟨b, 0, none⟩)] w fun e w' => e = .returned (.tuple #[.int .i64 k, .bool true]) ∧ LineAt w' b A E M k ∧ Only b w w' := by
  have h0 := cell_block h 0
  have h1 := cell_block h 1
  have h2 := cell_block h 2
  have h3 := cell_block h 3
  have hf1 := free_block h 1
  have hf2 := free_block h 2
  have hf3 := free_block h 3
  simp at h0 h1 h2 h3
  have e1 := bits_and32 P M
  have hk := ctz_lt hyes
  subst ha
  have htz := fun w hT => tz_any w Q hyes hT
  rw [hQ] at e1
  rw [hK] at hk htz
  have hq : ((Q.toNat : Int) == 0) = false := by
    have : Q.toNat ≠ 0 := fun e => hyes (BitVec.eq_of_toNat_eq (by simpa using e))
    simp; omega
  go_enter Tryd.func10, Tryd.ntmps10
  go_wp2
  go_quiet (fail)
  go_wp2_with fail
  have hL := h.drewN nq
  have hO := (Only.refl b w).drewN nq
  have hT1 : TabAt (w.drewN nq) := hT
  generalize w.drewN nq = w1 at hL hO hT1 ⊢
  clear h0 h1 h2 h3 hf1 hf2 hf3 h hT
  have h0 := cell_block hL 0
  have h1 := cell_block hL 1
  have h2 := cell_block hL 2
  have h3 := cell_block hL 3
  have hf1 := free_block hL 1
  have hf3 := free_block hL 3
  simp at h0 h1 h2 h3
  go_still_tail 13, (by kernel_rfl)
  still_call (htz _ hT1)
  repeat still_step
  refine wpStill_nil ?_
  change wpList _ _ _ _ _ w1.drew
  have hL := hL.drewN 1
  have hO := hO.drew
  change LineAt w1.drew _ _ _ _ _ at hL
  generalize w1.drew = w2 at hL hO ⊢
  clear h0 h1 h2 h3 hf1 hf3
  have h3 := cell_block hL 3
  have hf3 := free_block hL 3
  simp at h3
  go_wp2_with fail
  have hL := hL.set3 (k : Int)
  have hO := hO.setCell 3 (.int .i64 (k : Int))
  generalize w2.setCell _ _ = w3 at hL hO ⊢
  clear h3 hf3
  have h1 := cell_block hL 1
  have h3 := cell_block hL 3
  have hf1 := free_block hL 1
  simp at h1 h3
  have e4 := off_bit P k hk
  rw [← hE] at e4
  clear hE
  go_still_tail 12, (by kernel_rfl)
  try simp only [e4]
  change wpList _ _ _ _ _ w3.drew
  have hL := hL.drewN 1
  have hO := hO.drew
  change LineAt w3.drew _ _ _ _ _ at hL
  generalize w3.drew = w4 at hL hO ⊢
  clear h1 h3 hf1
  have h1 := cell_block hL 1
  have h3 := cell_block hL 3
  have hf1 := free_block hL 1
  simp at h1 h3
  go_wp2_with fail
  have hL := hL.set1 E
  have hO := hO.setCell 1 (.int .u32 E.toNat)
  generalize w4.setCell _ _ = w5 at hL hO ⊢
  clear h1 h3 hf1
  have h3 := cell_block hL 3
  simp at h3
  go_wp2
  go_ret2
  exact ⟨rfl, hL, hO⟩

theorem bar_no (w : World) (b : Nat) (A P M : BitVec 32) (act n : Int) (hn : n < 0 ∨ 16 ≤ n) (h : LineAt w b A P M act) : Calls Tryd.prog 19 #[.pointer (some ⟨b, 0, none⟩), .int .i64 n] w fun e w' => e = .returned (.tuple #[]) ∧ LineAt w' b A P M act ∧ Only b w w' := by
  rcases hn with hn | hn
  · go_enter Tryd.func19, Tryd.ntmps19
    go_wp2
    go_end0
    exact ⟨rfl, h, Only.refl b w⟩
  · go_enter Tryd.func19, Tryd.ntmps19
    go_wp2
    go_end0
    exact ⟨rfl, h, Only.refl b w⟩
theorem bar_yes (w : World) (b k : Nat) (A P M E : BitVec 32) (act : Int) (hk : k < 16) (hE : E = M &&& ~~~(1#32 <<< k)) (h : LineAt w b A P M act) : Calls Tryd.prog 19 #[.pointer (some ⟨b, 0, none⟩), .int .i64 k] w fun e w' => e = .returned (.tuple #[]) ∧ LineAt w' b A P E act ∧ Only b w w' := by
  have h2 := cell_block h 2
  have hf2 := free_block h 2
  simp at h2
  have e4 := off_bit M k (by omega)
  rw [← hE] at e4
  clear hE
  have hk2 : (k : Int) < 16 := by omega
  go_enter Tryd.func19, Tryd.ntmps19
  go_wp2_with fail
  go_still_tail 9, (by kernel_rfl)
  try simp only [e4]
  change wpList _ _ _ _ _ w.drew
  have hL := h.drewN 1
  have hO := (Only.refl b w).drew
  change LineAt w.drew _ _ _ _ _ at hL
  generalize w.drew = w4 at hL hO ⊢
  clear h2 hf2
  have h2 := cell_block hL 2
  have hf2 := free_block hL 2
  simp at h2
  go_wp2
  go_end0
  exact ⟨rfl, hL.set2 E, hO.setCell 2 _⟩

theorem nil_raise (w : World) (x : Int) : Calls Tryd.prog 9 #[.pointer none, .int .u32 x] w fun e w' => e = .returned (.tuple #[.int .u32 0, .int .u32 0]) ∧ w' = w := by
  go_enter Tryd.func9, Tryd.ntmps9
  go_wp2
  go_ret2
  exact ⟨rfl, rfl⟩
theorem nil_enter (w : World) : Calls Tryd.prog 10 #[.pointer none] w fun e w' => e = .returned (.tuple #[.int .i64 0, .bool false]) ∧ ∃ n, w' = w.drewN n := by
  go_enter Tryd.func10, Tryd.ntmps10
  go_wp2
  go_quiet (fail)
  go_wp2
  go_ret2
  exact ⟨rfl, _, rfl⟩
theorem nil_leave (w : World) : Calls Tryd.prog 13 #[.pointer none] w fun e w' => e = .returned (.bool false) ∧ w' = w := by
  go_enter Tryd.func13, Tryd.ntmps13
  go_wp2
  go_ret
  exact ⟨rfl, rfl⟩
theorem nil_let (w : World) (x : Int) : Calls Tryd.prog 11 #[.pointer none, .int .u32 x] w fun e w' => e = .returned (.tuple #[]) ∧ w' = w := by
  go_enter Tryd.func11, Tryd.ntmps11
  go_wp2
  go_end0
  exact ⟨rfl, rfl⟩
theorem nil_bar (w : World) (x : Int) : Calls Tryd.prog 19 #[.pointer none, .int .i64 x] w fun e w' => e = .returned (.tuple #[]) ∧ w' = w := by
  go_enter Tryd.func19, Tryd.ntmps19
  go_wp2
  go_end0
  exact ⟨rfl, rfl⟩
theorem nil_pending (w : World) : Calls Tryd.prog 14 #[.pointer none] w fun e w' => e = .returned (.int .u32 0) ∧ w' = w := by
  go_enter Tryd.func14, Tryd.ntmps14
  go_wp2
  go_ret
  exact ⟨rfl, rfl⟩
theorem nil_mask (w : World) : Calls Tryd.prog 22 #[.pointer none] w fun e w' => e = .returned (.int .u32 0) ∧ w' = w := by
  go_enter Tryd.func22, Tryd.ntmps22
  go_wp2
  go_ret
  exact ⟨rfl, rfl⟩
theorem new_bad (w : World) (c : Int) (m : BitVec 32) (h : c < 0 ∨ 16 < c) : Calls Tryd.prog 7 #[.int .i64 c, .int .u32 m.toNat] w fun e w' => e = .returned (.tuple #[.pointer none, .int .i64 1]) ∧ w' = w := by
  rcases h with h | h
  · go_enter Tryd.func7, Tryd.ntmps7
    go_wp2
    go_ret2
    exact ⟨rfl, rfl⟩
  · go_enter Tryd.func7, Tryd.ntmps7
    go_wp2
    go_ret2
    exact ⟨rfl, rfl⟩
theorem all_word (c : Nat) (hc : c ≤ 16) : ((2 : Int) ^ c - 1) % 4294967296 = ((BitVec.ofNat 32 (2 ^ c - 1)).toNat : Int) := by
  have h : ∀ k : Fin 17, ((2 : Int) ^ k.val - 1) % 4294967296 = ((BitVec.ofNat 32 (2 ^ k.val - 1)).toNat : Int) := by decide
  exact h ⟨c, by omega⟩
theorem shr_word (m : BitVec 32) (c : Nat) : ((m.toNat : Int) / 2 ^ c) = ((m >>> c).toNat : Int) := by
  rw [BitVec.toNat_ushiftRight, Nat.shiftRight_eq_div_pow]; simp
theorem new_over (w : World) (c : Nat) (hc : c ≤ 16) (m : BitVec 32) (hm : m >>> c ≠ 0#32) : Calls Tryd.prog 7 #[.int .i64 c, .int .u32 m.toNat] w fun e w' => e = .returned (.tuple #[.pointer none, .int .i64 1]) ∧ w' = w := by
  have hc2 : (c : Int) ≤ 16 := by omega
  have hs : (((m.toNat : Int) / 2 ^ c) != 0) = true := by
    rw [shr_word]
    have : (m >>> c).toNat ≠ 0 := fun e => hm (BitVec.eq_of_toNat_eq (by simpa using e))
    simp only [bne_iff_ne, ne_eq]; omega
  go_enter Tryd.func7, Tryd.ntmps7
  go_wp2
  go_ret2
  exact ⟨rfl, rfl⟩
theorem new_ok (w : World) (c : Nat) (hc : c ≤ 16) (m A : BitVec 32) (hA : A = BitVec.ofNat 32 (2 ^ c - 1)) (hm : m >>> c = 0#32) : Calls Tryd.prog 7 #[.int .i64 c, .int .u32 m.toNat] w fun e w' =>
    ∃ b, e = .returned (.tuple #[.pointer (some ⟨b, 0, none⟩), .int .i64 0]) ∧ LineAt w' b A 0#32 m 255 ∧ w.heap.size ≤ b ∧ b < w'.heap.size ∧ Below w.heap.size w w' := by
  have hc2 : (c : Int) ≤ 16 := by omega
  have hs : (((m.toNat : Int) / 2 ^ c) != 0) = false := by
    rw [shr_word, hm]; rfl
  have ha := all_word c hc
  rw [← hA] at ha
  clear hm hA
  go_enter Tryd.func7, Tryd.ntmps7
  go_wp2
  go_ret2
  refine ⟨_, rfl, ?_, Nat.le_refl _, ?_, (Below.refl _ w).alloc (Nat.le_refl _) _⟩
  · exact heapAt_alloc_new w _
  · show _ < (w.heap.push _).size
    simp
end Go.Proofs.YtglnabgageeipaaDoor
