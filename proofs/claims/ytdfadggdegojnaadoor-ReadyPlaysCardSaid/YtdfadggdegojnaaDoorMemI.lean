/- Numbers in memory: read, and owned. -/
import Derived.Test.YtdfadggdegojnaaDoorMem
import Derived.Test.YtdfadggdegojnaaDoorAppend
namespace Go.Proofs.YtdfadggdegojnaaDoor
open Go.RowKit
set_option linter.unusedVariables false
theorem info3 : (Tryd.prog.info? 3).map (fun i => (i.zero, i.size, i.bytes)) = some (some (.int .i64 0), 1, 8) := by kernel_rfl
/-- A memory that is read: n nums from A on. -/
def MemAt (w : World) (A : Option Addr) (n : Nat) (M : Nat → Int) : Prop := 0 < n → ∃ a, A = some a ∧ ∀ j, j < n → w.cell? (a.add j) = some (.int .i64 (M j))
/-- A memory that the call owns: at the head of a block made since B. -/
def MemOwn (w : World) (B : Nat) (A : Option Addr) (n : Nat) (M : Nat → Int) : Prop := 0 < n → ∃ g, A = some ⟨g, 0, none⟩ ∧ B ≤ g ∧ (∀ j, j < n → w.cell? ⟨g, j, none⟩ = some (.int .i64 (M j))) ∧ ∀ j, w.frozen? ⟨g, j, none⟩ = false
theorem add_zero_block (g j : Nat) : (⟨g, 0, none⟩ : Addr).add j = ⟨g, j, none⟩ := by unfold Addr.add; split <;> simp_all
theorem MemOwn.at {w : World} {B : Nat} {A : Option Addr} {n : Nat} {M : Nat → Int} (h : MemOwn w B A n M) : MemAt w A n M := fun hn => by
  obtain ⟨g, hA, _, hc, _⟩ := h hn
  exact ⟨_, hA, fun j hj => by rw [add_zero_block]; exact hc j hj⟩
theorem MemAt.grow {w w' : World} {A : Option Addr} {n : Nat} {M : Nat → Int} (h : MemAt w A n M) (hg : Grow w w') : MemAt w' A n M := fun hn => by
  obtain ⟨a, hA, hc⟩ := h hn
  exact ⟨a, hA, fun j hj => (Below.cell hg (cell_lt (hc j hj))).trans (hc j hj)⟩
theorem MemOwn.grow {w w' : World} {B : Nat} {A : Option Addr} {n : Nat} {M : Nat → Int} (h : MemOwn w B A n M) (hg : Grow w w') : MemOwn w' B A n M := fun hn => by
  obtain ⟨g, hA, hB, hc, hf⟩ := h hn
  have hlt := cell_lt (hc 0 hn)
  exact ⟨g, hA, hB, fun j hj => (Below.cell hg (cell_lt (hc j hj))).trans (hc j hj), fun j => (Below.frozen (p := ⟨g, j, none⟩) hg hlt).trans (hf j)⟩
/-- The memory is as it was, where another block is written. -/
theorem MemOwn.only {w w' : World} {B b : Nat} {A : Option Addr} {n : Nat} {M : Nat → Int} (h : MemOwn w B A n M) (ho : Only b w w') (hne : ∀ g, A = some ⟨g, 0, none⟩ → 0 < n → g ≠ b) : MemOwn w' B A n M := fun hn => by
  obtain ⟨g, hA, hB, hc, hf⟩ := h hn
  have hlt := cell_lt (hc 0 hn)
  have hb := ho.2.2.2.2 g hlt (hne g hA hn)
  exact ⟨g, hA, hB, fun j hj => (World.cell?_of_block (a := ⟨g, j, none⟩) hb).trans (hc j hj), fun j => by
    have := hf j
    unfold World.frozen? at this ⊢
    rw [hb]; exact this⟩
/-- The nums as cells. -/
def nums (n : Nat) (M : Nat → Int) : List Value := (List.range n).map fun j => .int .i64 (M j)
theorem nums_len (n : Nat) (M : Nat → Int) : (nums n M).length = n := by simp [nums]
theorem nums_at (n : Nat) (M : Nat → Int) (j : Nat) (u : Value) (h : (nums n M)[j]? = some u) : j < n ∧ u = .int .i64 (M j) := by
  unfold nums at h
  rw [List.getElem?_map] at h
  by_cases hj : j < n
  · rw [List.getElem?_range hj] at h
    simp at h
    exact ⟨hj, h.symm⟩
  · rw [List.getElem?_eq_none (by simpa using hj)] at h
    simp at h
theorem nums_get (n : Nat) (M : Nat → Int) (j : Nat) (h : j < n) : (nums n M)[j]? = some (.int .i64 (M j)) := by
  unfold nums
  rw [List.getElem?_map, List.getElem?_range h]; rfl
theorem MemAt.reads {w : World} {A : Option Addr} {n : Nat} {M : Nat → Int} (h : MemAt w A n M) : Reads w w.heap.size 1 A n (nums n M) :=
  ⟨by rw [nums_len]; omega, fun hn => by
    obtain ⟨a, hA, hc⟩ := h hn
    refine ⟨a, hA, ?_, fun j u hu => ?_⟩
    · have := cell_lt (hc 0 hn)
      rw [block_of_add] at this; exact this
    · obtain ⟨hj, rfl⟩ := nums_at n M j u hu
      exact hc j hj⟩
theorem own_mem {w : World} {B n : Nat} {v : Value} {M : Nat → Int} (h : w.ownsRow B 3 1 v n (nums n M)) : ∃ A cap, v = .slice A n cap ∧ n ≤ cap ∧ MemOwn w B A n M := by
  rcases h.2 with ⟨rfl, rfl⟩ | ⟨g, cap, cur, rfl, hB, hg, hcap, _, _, htake⟩
  · exact ⟨none, 0, rfl, Nat.le_refl _, fun h => absurd h (by omega)⟩
  · refine ⟨_, cap, rfl, hcap, fun hn => ⟨g, rfl, hB, fun j hj => ?_, fun j => free_block hg j⟩⟩
    have := h.cells (g := g) rfl j _ (nums_get n M j hj)
    rwa [add_zero_block] at this


theorem MemOwn.mono {w : World} {B B' n : Nat} {A : Option Addr} {M : Nat → Int} (h : MemOwn w B' A n M) (hB : B ≤ B') : MemOwn w B A n M := fun hn => by
  obtain ⟨g, h1, h2, h3⟩ := h hn
  exact ⟨g, h1, Nat.le_trans hB h2, h3⟩
theorem MemOwn.lt {w : World} {B n : Nat} {A : Option Addr} {M : Nat → Int} (h : MemOwn w B A n M) (hn : 0 < n) : ∃ m, A = some ⟨m, 0, none⟩ ∧ B ≤ m ∧ m < w.heap.size := by
  obtain ⟨m, hA, hB, hc, _⟩ := h hn
  exact ⟨m, hA, hB, cell_lt (hc 0 hn)⟩
theorem own_lt {w : World} {B n cap : Nat} {A : Option Addr} {xs : List Value} (h : w.ownsRow B 3 1 (.slice A n cap) n xs) : ∀ m, A = some ⟨m, 0, none⟩ → B ≤ m ∧ m < w.heap.size := by
  rcases h.2 with ⟨h1, _⟩ | ⟨g, c, cur, h1, hB, hg, _⟩
  · injection h1 with h1; intro m hm; rw [h1] at hm; cases hm
  · injection h1 with h1
    intro m hm
    rw [h1] at hm
    injection hm with hm; injection hm with hm
    have := heapAt_lt hg
    omega
theorem MemAt.congr {w : World} {A : Option Addr} {n : Nat} {M M' : Nat → Int} (h : MemAt w A n M) (e : ∀ j, j < n → M' j = M j) : MemAt w A n M' := fun hn => by
  obtain ⟨a, hA, hc⟩ := h hn
  exact ⟨a, hA, fun j hj => by rw [e j hj]; exact hc j hj⟩
theorem MemAt.none_ {w : World} {A : Option Addr} {M : Nat → Int} : MemAt w A 0 M := fun h => absurd h (Nat.lt_irrefl 0)
theorem own_nil {w : World} {B : Nat} : w.ownsRow B 3 1 (.slice none 0 0) 0 [] := ⟨rfl, .inl ⟨rfl, rfl⟩⟩

/-- A row as cells. -/
def ints (xs : List Nat) : List Value := xs.map fun (x : Nat) => Value.int .i64 (x : Int)
def rowM (xs : List Nat) (j : Nat) : Int := (xs.getD j 0 : Nat)
theorem ints_nums (xs : List Nat) : ints xs = nums xs.length (rowM xs) := by
  apply List.ext_getElem?
  intro j
  unfold ints
  rw [List.getElem?_map]
  by_cases h : j < xs.length
  · rw [nums_get _ _ _ h, List.getElem?_eq_getElem h]
    simp [rowM, h]
  · rw [List.getElem?_eq_none (by omega), List.getElem?_eq_none (by rw [nums_len]; omega)]; rfl
theorem ints_snoc (xs : List Nat) (x : Nat) : ints xs ++ [Value.int .i64 (x : Int)] = ints (xs ++ [x]) := by simp [ints]
end Go.Proofs.YtdfadggdegojnaaDoor
