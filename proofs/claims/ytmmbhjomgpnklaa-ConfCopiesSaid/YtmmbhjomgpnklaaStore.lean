/- A whole row, or a whole struct, stored into a block that is known whole; all but one block is as it was. No program in sight. -/
import Derived.Test.YtmmbhjomgpnklaaRel
import Derived.Laws.Rows
import Derived.Deep.MidRow
namespace Go.Proofs.Ytmmbhjomgpnklaa
open Go.RowKit

/-- All but one block is as it was. -/
def Only (b : Nat) (w w' : World) : Prop := w'.os = w.os ∧ w'.tape = w.tape ∧ w'.output = w.output ∧ w.heap.size ≤ w'.heap.size ∧ ∀ k, k < w.heap.size → k ≠ b → w'.heap[k]? = w.heap[k]?
theorem Only.refl (b : Nat) (w : World) : Only b w w := ⟨rfl, rfl, rfl, Nat.le_refl _, fun _ _ _ => rfl⟩
theorem Only.trans {b : Nat} {w w1 w2 : World} (h : Only b w w1) (g : Only b w1 w2) : Only b w w2 :=
  ⟨g.1.trans h.1, g.2.1.trans h.2.1, g.2.2.1.trans h.2.2.1, Nat.le_trans h.2.2.2.1 g.2.2.2.1, fun k hk hne => (g.2.2.2.2 k (Nat.lt_of_lt_of_le hk h.2.2.2.1) hne).trans (h.2.2.2.2 k hk hne)⟩
theorem Only.drewN {b : Nat} {w w1 : World} (h : Only b w w1) (n : Nat) : Only b w (w1.drewN n) := h
theorem Only.drew {b : Nat} {w w1 : World} (h : Only b w w1) : Only b w w1.drew := h
theorem Only.setCell {b : Nat} {w w1 : World} (h : Only b w w1) (j : Nat) (v : Value) : Only b w (w1.setCell ⟨b, j, none⟩ v) :=
  h.trans ⟨rfl, rfl, rfl, by simp [World.setCell], fun k _ hne => set_block_other hne j v⟩
theorem Only.alloc {b : Nat} {w w1 : World} (h : Only b w w1) (o : Obj) : Only b w (w1.alloc o) :=
  h.trans ⟨rfl, rfl, rfl, by show w1.heap.size ≤ (w1.heap.push o).size; simp, fun k hk _ => heapAt_alloc_old w1 o hk⟩
theorem Only.of_below {b : Nat} {w w1 w2 : World} (h : Only b w w1) (g : Below w1.heap.size w1 w2) : Only b w w2 := h.trans ⟨g.os, g.tape, g.output, g.size, fun k hk _ => g.block k hk⟩
theorem Only.below {b B : Nat} {w w1 : World} (h : Only b w w1) (hb : B ≤ b) (hB : B ≤ w.heap.size) : Below B w w1 := ⟨h.1, h.2.1, h.2.2.1, h.2.2.2.1, fun k hk => h.2.2.2.2 k (by omega) (by omega)⟩
theorem Only.at {b k : Nat} {w w1 : World} {o : Obj} (h : Only b w w1) (hne : k ≠ b) (ho : w.heap[k]? = some o) : w1.heap[k]? = some o := (h.2.2.2.2 k (heapAt_lt ho) hne).trans ho
theorem Only.setNew {w w1 : World} {g : Nat} (h : Only g w w1) {d : Nat} (hd : w.heap.size ≤ d) (j : Nat) (v : Value) : Only g w (w1.setCell ⟨d, j, none⟩ v) :=
  ⟨h.1, h.2.1, h.2.2.1, by have := h.2.2.2.1; simpa [World.setCell] using this, fun k hk hne => (set_block_other (by omega) j v).trans (h.2.2.2.2 k hk hne)⟩
/-- Of a block made since, it grows. -/
theorem Grow.only {b : Nat} {w w1 w2 : World} (h : Grow w w1) (ho : Only b w1 w2) (hb : w.heap.size ≤ b) : Grow w w2 :=
  ⟨ho.1.trans h.os, ho.2.1.trans h.tape, ho.2.2.1.trans h.output, Nat.le_trans h.size ho.2.2.2.1, fun k hk => (ho.2.2.2.2 k (Nat.lt_of_lt_of_le hk h.size) (by omega)).trans (h.block k hk)⟩
theorem Grow.trans {w0 w w' : World} (h : Grow w0 w) (hg : Grow w w') : Grow w0 w' := Below.trans h (hg.mono h.size)
theorem Grow.at {w w' : World} (h : Grow w w') {k : Nat} {o : Obj} (ho : w.heap[k]? = some o) : w'.heap[k]? = some o := heapAt_below h (heapAt_lt ho) ho

theorem only_setCells (b : Nat) : ∀ (vs : List Value) (o : Nat) (w : World), Only b w (w.setCells b o vs)
  | [], _, w => Only.refl b w
  | v :: vs, o, w => ((Only.refl b w).setCell o v).trans (only_setCells b vs (o + 1) (w.setCell ⟨b, o, none⟩ v))
theorem heapAt_setCells {b : Nat} {t : TypeId} : ∀ (vs : List Value) (pre post : List Value) (w : World), post.length = vs.length → w.heap[b]? = some (.cells (pre ++ post).toArray t (0, 0)) → (w.setCells b pre.length vs).heap[b]? = some (.cells (pre ++ vs).toArray t (0, 0))
  | [], pre, post, w, hl, h => by
    have : post = [] := List.eq_nil_of_length_eq_zero (by simpa using hl)
    subst this
    exact h
  | v :: vs, pre, [], w, hl, h => by simp at hl
  | v :: vs, pre, p :: post, w, hl, h => by
    have h1 := set_block h pre.length v
    have e : ((pre ++ p :: post).toArray.setIfInBounds pre.length v) = ((pre ++ [v]) ++ post).toArray := by
      simp
    rw [e] at h1
    have h2 := heapAt_setCells vs (pre ++ [v]) post (w.setCell ⟨b, pre.length, none⟩ v) (by simpa using hl) h1
    have e2 : (pre ++ [v]).length = pre.length + 1 := by simp
    rw [e2] at h2
    have e3 : pre ++ [v] ++ vs = pre ++ v :: vs := by simp
    rw [e3] at h2
    exact h2

/-- A value stored into a block that is known whole, and has as many cells. -/
theorem wpList_store_blk {P : Program} {ops : Array Oper} {rest : List Oper} {op : Oper} {a : Act} {w : World} {Q : Exit → Act → World → Prop} (hgd : op.guard = none) (ty : TypeId) (x y : Operand) (ho : op.op = .store ty x y)
    (g : Nat) (t : TypeId) (old cells : Array Value) (hx : a.eval x = .pointer (some ⟨g, 0, none⟩)) (hy : a.eval y = .agg cells) (hold : w.heap[g]? = some (.cells old t (0, 0))) (hsz : old.size = cells.size)
    (hi : (P.info? ty).map (·.size) = some cells.size) (h1 : cells.all (·.oneCell') = true)
    (h : ∀ w', w'.heap[g]? = some (.cells cells t (0, 0)) → Only g w w' → wpList P ops Q rest (a.put op.dst undef) w') : wpList P ops Q (op :: rest) a w :=
  wpList_store_mid hgd ty x y ho g 0 cells hx hy (fun j hj => ⟨by
      rw [Nat.zero_add, cell_block hold]; simp [hsz, hj], free_block hold _⟩) hi h1
    (h _ (by
      have := heapAt_setCells (b := g) (t := t) cells.toList [] old.toList w (by simpa using hsz) (by simpa using hold)
      simpa using this) (only_setCells g cells.toList 0 w))
/-- A value loaded out of a block that is known whole. -/
theorem wpList_load_blk {P : Program} {ops : Array Oper} {rest : List Oper} {op : Oper} {a : Act} {w : World} {Q : Exit → Act → World → Prop} (hgd : op.guard = none) (ty : TypeId) (x : Operand) (ho : op.op = .load ty x)
    (g : Nat) (t : TypeId) (cells : Array Value) (d : TypeDesc) (hx : a.eval x = .pointer (some ⟨g, 0, none⟩)) (hold : w.heap[g]? = some (.cells cells t (0, 0)))
    (hu : P.underlying ty = some d) (hd : (match d with | .struct _ | .array _ _ => true | _ => false) = true) (hi : (P.info? ty).map (·.size) = some cells.size)
    (h : wpList P ops Q rest (a.put op.dst (.agg cells)) w) : wpList P ops Q (op :: rest) a w :=
  wpList_load_row hgd ty x ho g hx t cells (0, 0) d hold hu hd hi h
end Go.Proofs.Ytmmbhjomgpnklaa
