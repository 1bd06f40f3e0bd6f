/- A context as it lies in memory: its place, eight registers, its memory. -/
import Derived.Test.YtkjacmnocbdghaaValRef
import Derived.Test.YtkjacmnocbdghaaRefForm
namespace Go.Proofs.Ytkjacmnocbdghaa
open Go.RowKit
set_option linter.unusedVariables false

def regArr (R : Nat → BitVec 32) : Array Value := #[.int .u32 (R 0).toNat, .int .u32 (R 1).toNat, .int .u32 (R 2).toNat, .int .u32 (R 3).toNat, .int .u32 (R 4).toNat, .int .u32 (R 5).toNat, .int .u32 (R 6).toNat, .int .u32 (R 7).toNat]
theorem regArr_size (R : Nat → BitVec 32) : (regArr R).size = 8 := rfl
theorem regArr_at (R : Nat → BitVec 32) (i : Nat) (h : i < 8) : (regArr R)[i]? = some (.int .u32 (R i).toNat) := by
  match i, h with
  | 0, _ => rfl
  | 1, _ => rfl
  | 2, _ => rfl
  | 3, _ => rfl
  | 4, _ => rfl
  | 5, _ => rfl
  | 6, _ => rfl
  | 7, _ => rfl
  | n + 8, h => omega
/-- One register turned. -/
def upd (R : Nat → BitVec 32) (i : Nat) (v : BitVec 32) : Nat → BitVec 32 := fun j => if j = i then v else R j
theorem upd_same (R : Nat → BitVec 32) (i : Nat) (v : BitVec 32) : upd R i v i = v := by simp [upd]
theorem upd_other (R : Nat → BitVec 32) (i j : Nat) (v : BitVec 32) (h : j ≠ i) : upd R i v j = R j := by simp [upd, h]
theorem regArr_set (R : Nat → BitVec 32) (i : Nat) (v : BitVec 32) (hi : i < 8) : (regArr R).setIfInBounds i (.int .u32 v.toNat) = regArr (upd R i v) := by
  apply Array.ext_getElem?
  intro j
  rw [Array.getElem?_setIfInBounds]
  by_cases hj : j < 8
  · rw [regArr_at (upd R i v) j hj, regArr_size]
    by_cases e : i = j
    · subst e; rw [if_pos rfl, if_pos hi, upd_same]
    · rw [if_neg e, regArr_at R j hj, upd_other R i j v (by omega)]
  · rw [Array.getElem?_eq_none (by rw [regArr_size]; omega)]
    rw [if_neg (by omega), Array.getElem?_eq_none (by rw [regArr_size]; omega)]
theorem regArr_one (R : Nat → BitVec 32) : (regArr R).all (·.oneCell') = true := by unfold regArr; simp [Value.oneCell']
theorem regArr_ext (R S : Nat → BitVec 32) : regArr R = regArr S ↔ ∀ i, i < 8 → R i = S i := by
  constructor
  · intro h i hi
    have h1 := regArr_at R i hi
    rw [h, regArr_at S i hi] at h1
    simp at h1
    exact BitVec.eq_of_toNat_eq (by omega)
  · intro h
    apply Array.ext_getElem?
    intro i
    by_cases hi : i < 8
    · rw [regArr_at R i hi, regArr_at S i hi, h i hi]
    · rw [Array.getElem?_eq_none (by rw [regArr_size]; omega), Array.getElem?_eq_none (by rw [regArr_size]; omega)]
def ctxCells (at_ : Int) (R : Nat → BitVec 32) (s : Value) : Array Value := #[.int .i64 at_] ++ (regArr R ++ #[s])
theorem ctxCells_eq (at_ : Int) (R : Nat → BitVec 32) (s : Value) : ctxCells at_ R s = #[.int .i64 at_] ++ (regArr R ++ #[s]) := rfl
theorem ctxCells_size (at_ : Int) (R : Nat → BitVec 32) (s : Value) : (ctxCells at_ R s).size = 10 := by simp [ctxCells_eq, regArr_size]
theorem ctx_0 (at_ : Int) (R : Nat → BitVec 32) (s : Value) : (ctxCells at_ R s)[0]? = some (.int .i64 at_) := by
  rw [ctxCells_eq, Array.getElem?_append_left (by simp)]; rfl
theorem ctx_9 (at_ : Int) (R : Nat → BitVec 32) (s : Value) : (ctxCells at_ R s)[9]? = some s := by
  rw [ctxCells_eq, Array.getElem?_append_right (by simp), Array.getElem?_append_right (by simp [regArr_size])]
  have : 9 - (#[Value.int .i64 at_] : Array Value).size - (regArr R).size = 0 := by simp only [List.size_toArray, List.length_singleton, regArr_size]
  rw [this]; rfl
theorem ctx_reg (at_ : Int) (R : Nat → BitVec 32) (s : Value) (i : Nat) (h : i < 8) : (ctxCells at_ R s)[1 + i]? = some (.int .u32 (R i).toNat) := by
  rw [ctxCells_eq, Array.getElem?_append_right (by simp), Array.getElem?_append_left (by simp only [List.size_toArray, List.length_singleton, regArr_size]; omega)]
  have : 1 + i - (#[Value.int .i64 at_] : Array Value).size = i := by simp
  rw [this, regArr_at R i h]
theorem ctx_set0 (at_ at' : Int) (R : Nat → BitVec 32) (s : Value) : (ctxCells at_ R s).setIfInBounds 0 (.int .i64 at') = ctxCells at' R s := by
  rw [ctxCells_eq, ctxCells_eq, Array.setIfInBounds_append_left (by simp)]
  rfl
theorem ctx_set9 (at_ : Int) (R : Nat → BitVec 32) (s s' : Value) : (ctxCells at_ R s).setIfInBounds 9 s' = ctxCells at_ R s' := by
  rw [ctxCells_eq, ctxCells_eq, Array.setIfInBounds_append_right (by simp), Array.setIfInBounds_append_right (by simp [regArr_size])]
  congr 1
theorem ctx_setR (at_ : Int) (R : Nat → BitVec 32) (s : Value) (i : Nat) (v : BitVec 32) (hi : i < 8) : (ctxCells at_ R s).setIfInBounds (1 + i) (.int .u32 v.toNat) = ctxCells at_ (upd R i v) s := by
  rw [ctxCells_eq, ctxCells_eq, Array.setIfInBounds_append_right (by simp), Array.setIfInBounds_append_left (by simp only [List.size_toArray, List.length_singleton, regArr_size]; omega)]
  have : 1 + i - (#[Value.int .i64 at_] : Array Value).size = i := by simp
  rw [this, regArr_set R i v hi]
theorem ctx_one (at_ : Int) (R : Nat → BitVec 32) (s : Value) (hs : s.oneCell' = true) : (ctxCells at_ R s).all (·.oneCell') = true := by
  rw [ctxCells_eq, Array.all_append, Array.all_append, regArr_one]
  simp [hs]
  rfl
attribute [local irreducible] ctxCells regArr
/-- A context lies at g. -/
def CtxAt (w : World) (g : Nat) (at_ : Int) (R : Nat → BitVec 32) (s : Value) : Prop := w.heap[g]? = some (.cells (ctxCells at_ R s) 26 (0, 0))
section
variable {w : World} {g : Nat} {at_ : Int} {R : Nat → BitVec 32} {s : Value}
theorem CtxAt.c0 (h : CtxAt w g at_ R s) : w.cell? ⟨g, 0, none⟩ = some (.int .i64 at_) := by rw [cell_block h, ctx_0]
theorem CtxAt.c9 (h : CtxAt w g at_ R s) : w.cell? ⟨g, 9, none⟩ = some s := by rw [cell_block h, ctx_9]
theorem CtxAt.reg (h : CtxAt w g at_ R s) (i : Nat) (hi : i < 8) : w.cell? ⟨g, 1 + i, none⟩ = some (.int .u32 (R i).toNat) := by rw [cell_block h, ctx_reg _ _ _ i hi]
theorem CtxAt.free (h : CtxAt w g at_ R s) (i : Nat) : w.frozen? ⟨g, i, none⟩ = false := free_block h i
theorem CtxAt.set0 (h : CtxAt w g at_ R s) (a : Int) : CtxAt (w.setCell ⟨g, 0, none⟩ (.int .i64 a)) g a R s := by unfold CtxAt; rw [set_block h, ctx_set0]
theorem CtxAt.set9 (h : CtxAt w g at_ R s) (s' : Value) : CtxAt (w.setCell ⟨g, 9, none⟩ s') g at_ R s' := by unfold CtxAt; rw [set_block h, ctx_set9]
theorem CtxAt.setR (h : CtxAt w g at_ R s) (i : Nat) (v : BitVec 32) (hi : i < 8) : CtxAt (w.setCell ⟨g, 1 + i, none⟩ (.int .u32 v.toNat)) g at_ (upd R i v) s := by unfold CtxAt; rw [set_block h, ctx_setR _ _ _ i v hi]
theorem CtxAt.far {d : Nat} (h : CtxAt w g at_ R s) (hne : g ≠ d) (i : Nat) (v : Value) : CtxAt (w.setCell ⟨d, i, none⟩ v) g at_ R s := (set_block_other hne i v).trans h
theorem CtxAt.grow {w' : World} (h : CtxAt w g at_ R s) (hg : Grow w w') : CtxAt w' g at_ R s := hg.at h
theorem CtxAt.lt (h : CtxAt w g at_ R s) : g < w.heap.size := heapAt_lt h
end
theorem info26 : (Try.prog.info? 26).map (·.size) = some 10 := by kernel_rfl
theorem info26c (at_ : Int) (R : Nat → BitVec 32) (s : Value) : (Try.prog.info? 26).map (·.size) = some (ctxCells at_ R s).size := by rw [ctxCells_size]; exact info26
theorem info23 : (Try.prog.info? 23).map (·.size) = some 8 := by kernel_rfl
theorem info23c (R : Nat → BitVec 32) : (Try.prog.info? 23).map (·.size) = some (regArr R).size := by rw [regArr_size]; exact info23

/-- A memory that is read: n words from A on. -/
def MemAt (w : World) (A : Option Addr) (n : Nat) (M : Nat → BitVec 32) : Prop := 0 < n → ∃ a, A = some a ∧ ∀ j, j < n → w.cell? (a.add j) = some (.int .u32 (M j).toNat)
/-- A memory that the call owns: at the head of a block made since B. -/
def MemOwn (w : World) (B : Nat) (A : Option Addr) (n : Nat) (M : Nat → BitVec 32) : Prop := 0 < n → ∃ g, A = some ⟨g, 0, none⟩ ∧ B ≤ g ∧ (∀ j, j < n → w.cell? ⟨g, j, none⟩ = some (.int .u32 (M j).toNat)) ∧ ∀ j, w.frozen? ⟨g, j, none⟩ = false
theorem add_zero_block (g j : Nat) : (⟨g, 0, none⟩ : Addr).add j = ⟨g, j, none⟩ := by unfold Addr.add; split <;> simp_all
theorem MemOwn.at {w : World} {B : Nat} {A : Option Addr} {n : Nat} {M : Nat → BitVec 32} (h : MemOwn w B A n M) : MemAt w A n M := fun hn => by
  obtain ⟨g, hA, _, hc, _⟩ := h hn
  exact ⟨_, hA, fun j hj => by rw [add_zero_block]; exact hc j hj⟩
theorem cell_lt {w : World} {a : Addr} {v : Value} (h : w.cell? a = some v) : a.block < w.heap.size := by
  refine Classical.byContradiction fun hn => ?_
  have : w.heap[a.block]? = none := Array.getElem?_eq_none (by omega)
  simp [World.cell?, this] at h
theorem MemAt.grow {w w' : World} {A : Option Addr} {n : Nat} {M : Nat → BitVec 32} (h : MemAt w A n M) (hg : Grow w w') : MemAt w' A n M := fun hn => by
  obtain ⟨a, hA, hc⟩ := h hn
  exact ⟨a, hA, fun j hj => (Below.cell hg (cell_lt (hc j hj))).trans (hc j hj)⟩
theorem MemOwn.grow {w w' : World} {B : Nat} {A : Option Addr} {n : Nat} {M : Nat → BitVec 32} (h : MemOwn w B A n M) (hg : Grow w w') : MemOwn w' B A n M := fun hn => by
  obtain ⟨g, hA, hB, hc, hf⟩ := h hn
  have hlt := cell_lt (hc 0 hn)
  exact ⟨g, hA, hB, fun j hj => (Below.cell hg (cell_lt (hc j hj))).trans (hc j hj), fun j => (Below.frozen (p := ⟨g, j, none⟩) hg hlt).trans (hf j)⟩
/-- The memory is as it was, where another block is written. -/
theorem MemOwn.only {w w' : World} {B b : Nat} {A : Option Addr} {n : Nat} {M : Nat → BitVec 32} (h : MemOwn w B A n M) (ho : Only b w w') (hne : ∀ g, A = some ⟨g, 0, none⟩ → 0 < n → g ≠ b) : MemOwn w' B A n M := fun hn => by
  obtain ⟨g, hA, hB, hc, hf⟩ := h hn
  have hlt := cell_lt (hc 0 hn)
  have hb := ho.2.2.2.2 g hlt (hne g hA hn)
  exact ⟨g, hA, hB, fun j hj => (World.cell?_of_block (a := ⟨g, j, none⟩) hb).trans (hc j hj), fun j => by
    have := hf j
    unfold World.frozen? at this ⊢
    rw [hb]; exact this⟩
end Go.Proofs.Ytkjacmnocbdghaa
