/- Texts of the proof, merged: Base, Cursor, Bits, Leb. -/
import Derived.Test.YtnhmdinpfcoebaaGreatDoorRows
import Derived.Test.YtnhmdinpfcoebaaGreatDoorM02
import Derived.Test.YtnhmdinpfcoebaaGreatDoorM03
import Derived.Test.YtnhmdinpfcoebaaGreatDoorM04
import Derived.Lib.Hide
/-! === Base -/
section
/- Cells and blocks: what all walks take. No program in sight. -/
namespace Go.Proofs.YtnhmdinpfcoebaaGreatDoor
open Go.RowKit
set_option linter.unusedVariables false
set_option linter.unusedSimpArgs false
set_option maxRecDepth 100000

theorem cell_lt {w : World} {a : Addr} {v : Value} (h : w.cell? a = some v) : a.block < w.heap.size := by
  refine Classical.byContradiction fun hn => ?_
  have : w.heap[a.block]? = none := Array.getElem?_eq_none (by omega)
  simp [World.cell?, this] at h
theorem ty_ne {w : World} {b c t u : Nat} {cs ds : Array Value} {fr fr2 : Nat × Nat} (h1 : w.heap[b]? = some (.cells cs t fr)) (h2 : w.heap[c]? = some (.cells ds u fr2)) (ht : t ≠ u) : b ≠ c := fun e => by
  subst e
  rw [h1] at h2
  injection h2 with h2
  injection h2 with _ h2 _
  exact ht h2
theorem Only.cell {b : Nat} {w w' : World} {a : Addr} {v : Value} (h : Only b w w') (hne : a.block ≠ b) (hc : w.cell? a = some v) : w'.cell? a = some v := by
  rw [← hc]
  unfold World.cell?
  rw [h.2.2.2.2 _ (cell_lt hc) hne]
theorem Only.of_grow {w w' : World} (h : Grow w w') (b : Nat) : Only b w w' := ⟨h.os, h.tape, h.output, h.size, fun k hk _ => h.block k hk⟩
theorem Only.after {b : Nat} {w w1 w2 : World} (h : Only b w w1) (hg : Grow w1 w2) : Only b w w2 := h.trans (Only.of_grow hg b)
theorem Only.before {b : Nat} {w w1 w2 : World} (hg : Grow w w1) (h : Only b w1 w2) : Only b w w2 := (Only.of_grow hg b).trans h
theorem set_whole {w : World} {b t : Nat} {cs : Array Value} (h : w.heap[b]? = some (.cells cs t (0, 0))) (j : Nat) (v : Value) : (w.setCell ⟨b, j, none⟩ v).heap[b]? = some (.cells (cs.setIfInBounds j v) t (0, 0)) := set_block h j v
theorem wpList_store_cell {P : Program} {ops : Array Oper} {rest : List Oper} {op : Oper} {a : Act} {w : World} {Q : Exit → Act → World → Prop} (hgd : op.guard = none) (ty : TypeId) (x y : Operand) (ho : op.op = .store ty x y)
    (g j : Nat) (t : TypeId) (cs : Array Value) (v : Value) (hx : a.eval x = .pointer (some ⟨g, j, none⟩)) (hy : a.eval y = v) (h1 : v.oneCell' = true) (hi : (P.info? ty).map (·.size) = some 1)
    (hold : w.heap[g]? = some (.cells cs t (0, 0))) (hj : j < cs.size)
    (h : wpList P ops Q rest (a.put op.dst undef) (w.setCell ⟨g, j, none⟩ v)) : wpList P ops Q (op :: rest) a w :=
  wpList_plain hgd fun _ hK => by
    have := run_storeCells_cells (P := P) g j [v] 0 w (fun k hk => by
      have : k = 0 := by simp at hk; exact hk
      subst this
      rw [cell_block hold]; simp [hj]) (fun k hk => free_block hold _) (fun u hu => by simp at hu; subst hu; exact h1)
    have hc : v.cells = #[v] := by cases v <;> first | rfl | cases h1
    unfold Oper.wp execOp
    cases hq : P.info? ty with
    | none => simp [hq] at hi
    | some i =>
      have hs : i.size = 1 := by simpa [hq] using hi
      simp only [Nat.add_zero] at this
      simp [ho, hx, hy, Instr.storeAt, Instr.sureAddr, storeVar, sizeOf, typeInfo, hq, hc, hs, this]
      exact hK _ _ h
/-- A cell of a block that is known whole is stored. -/
theorem store_in {P : Program} {ops : Array Oper} {rest : List Oper} {op : Oper} {a : Act} {w : World} {Q : Exit → Act → World → Prop} (hgd : op.guard = none) (ty : TypeId) (x y : Operand) (ho : op.op = .store ty x y)
    (g j : Nat) (t : TypeId) (cs cs' : Array Value) (v : Value) (hi : (P.info? ty).map (·.size) = some 1) (hold : w.heap[g]? = some (.cells cs t (0, 0))) (h1 : v.oneCell' = true)
    (hx : a.eval x = .pointer (some ⟨g, j, none⟩)) (hy : a.eval y = v) (hj : j < cs.size) (he : cs.setIfInBounds j v = cs')
    (h : ∀ w', Hid (w' = w.setCell ⟨g, j, none⟩ v) → w'.heap[g]? = some (.cells cs' t (0, 0)) → Only g w w' → wpList P ops Q rest (a.put op.dst undef) w') : wpList P ops Q (op :: rest) a w :=
  wpList_store_cell hgd ty x y ho g j t cs v hx hy h1 hi hold hj (h _ (Lib.hid rfl) (by rw [← he]; exact set_whole hold j v) ((Only.refl g w).setCell j v))
def rowCells (f : Nat → List Value) : Nat → List Value
  | 0 => []
  | n + 1 => rowCells f n ++ f n
theorem row_len {f : Nat → List Value} {s : Nat} (hf : ∀ j, (f j).length = s) : ∀ n, (rowCells f n).length = n * s
  | 0 => by simp [rowCells]
  | n + 1 => by rw [rowCells, List.length_append, row_len hf n, hf, Nat.succ_mul]
theorem row_get {f : Nat → List Value} {s : Nat} (hf : ∀ j, (f j).length = s) (j r : Nat) (hr : r < s) : ∀ n, j < n → (rowCells f n)[j * s + r]? = (f j)[r]?
  | 0, h => absurd h (Nat.not_lt_zero _)
  | n + 1, h => by
    rw [rowCells]
    by_cases e : j = n
    · subst e
      rw [List.getElem?_append_right (by rw [row_len hf]; omega), row_len hf, show j * s + r - j * s = r by omega]
    · have h1 : (j + 1) * s ≤ n * s := Nat.mul_le_mul_right s (by omega)
      rw [Nat.succ_mul] at h1
      rw [List.getElem?_append_left (by rw [row_len hf]; omega), row_get hf j r hr n (by omega)]
/-- A row that is read: n values from A on. -/
def RowAt (w : World) (A : Option Addr) (n s : Nat) (f : Nat → List Value) : Prop := 0 < n → ∃ a, A = some a ∧ ∀ j, j < n → ∀ r u, (f j)[r]? = some u → w.cell? ((a.add (j * s)).add r) = some u
theorem add_block (a : Addr) (i : Nat) : (a.add i).block = a.block := by unfold Addr.add; split <;> rfl
theorem add_zero' (a : Addr) : a.add 0 = a := rfl
theorem add_succ' (a : Addr) (r : Nat) : a.add (r + 1) = ⟨a.block, a.off + (r + 1), none⟩ := by unfold Addr.add; rw [if_neg (by omega)]
theorem RowAt.keep {w w' : World} {A : Option Addr} {n s : Nat} {f : Nat → List Value} (h : RowAt w A n s f) (hk : ∀ a, A = some a → a.block < w.heap.size → w'.heap[a.block]? = w.heap[a.block]?) : RowAt w' A n s f := fun hn => by
  obtain ⟨a, hA, hc⟩ := h hn
  refine ⟨a, hA, fun j hj r u hu => ?_⟩
  have h1 := hc j hj r u hu
  have h2 := cell_lt h1
  rw [add_block, add_block] at h2
  exact (World.cell?_of_block (by rw [add_block, add_block]; exact hk a hA h2)).trans h1
theorem RowAt.grow {w w' : World} {A : Option Addr} {n s : Nat} {f : Nat → List Value} (h : RowAt w A n s f) (hg : Grow w w') : RowAt w' A n s f := h.keep fun a _ hlt => hg.block _ hlt
theorem RowAt.less {w : World} {A : Option Addr} {n m s : Nat} {f : Nat → List Value} (h : RowAt w A n s f) (hm : m ≤ n) : RowAt w A m s f := fun hn => by
  obtain ⟨a, hA, hc⟩ := h (by omega)
  exact ⟨a, hA, fun j hj => hc j (by omega)⟩
theorem RowAt.of_eq {w : World} {A : Option Addr} {n s : Nat} {f g : Nat → List Value} (h : RowAt w A n s f) (hf : ∀ j, j < n → f j = g j) : RowAt w A n s g := fun hn => by
  obtain ⟨a, hA, hc⟩ := h hn
  exact ⟨a, hA, fun j hj r u hu => hc j hj r u (by rw [hf j hj]; exact hu)⟩
theorem RowAt.reads {w : World} {A : Option Addr} {n s : Nat} {f : Nat → List Value} (h : RowAt w A n s f) (hf : ∀ j, (f j).length = s) (hs : 0 < s) : Reads w w.heap.size s A n (rowCells f n) :=
  ⟨row_len hf n, fun hn => by
    obtain ⟨a, hA, hc⟩ := h hn
    refine ⟨a, hA, ?_, fun j u hu => ?_⟩
    · have h0 : ∃ u, (f 0)[0]? = some u := ⟨_, List.getElem?_eq_getElem (by rw [hf]; exact hs)⟩
      obtain ⟨u, hu⟩ := h0
      have := cell_lt (hc 0 hn 0 u hu)
      rw [add_block, add_block] at this; exact this
    · have hj : j < n * s := by have := (List.getElem?_eq_some_iff.1 hu).1; rw [row_len hf] at this; exact this
      have hq : j / s < n := Nat.div_lt_of_lt_mul (by rw [Nat.mul_comm]; exact hj)
      have hjd : j = j / s * s + j % s := by rw [Nat.mul_comm]; exact (Nat.div_add_mod j s).symm
      have hr : j % s < s := Nat.mod_lt _ hs
      rw [hjd, row_get hf (j / s) (j % s) hr n hq] at hu
      have := hc (j / s) hq (j % s) u hu
      rw [add_of_add, ← hjd] at this
      exact this⟩
theorem RowAt.of_own {w : World} {B n s : Nat} {e : TypeId} {v : Value} {f : Nat → List Value} (hf : ∀ j, (f j).length = s) (h : w.ownsRow B e s v n (rowCells f n)) : ∃ A cap, v = .slice A n cap ∧ n ≤ cap ∧ RowAt w A n s f ∧ ∀ a, A = some a → B ≤ a.block ∧ a.block < w.heap.size := by
  rcases h.2 with ⟨rfl, rfl⟩ | ⟨g, cap, cur, rfl, hB, hg, hcap, _, _, htake⟩
  · exact ⟨none, 0, rfl, Nat.le_refl _, fun h => absurd h (by omega), fun a h => by cases h⟩
  · refine ⟨_, cap, rfl, hcap, fun hn => ⟨_, rfl, fun j hj r u hu => ?_⟩, fun a ha => by injection ha with ha; subst ha; exact ⟨hB, heapAt_lt hg⟩⟩
    have hc := h.cells (g := g) rfl
    have hr : r < s := by have := (List.getElem?_eq_some_iff.1 hu).1; rw [hf] at this; exact this
    rw [add_of_add]
    exact hc (j * s + r) u ((row_get hf j r hr n hj).trans hu)
/-! ### Programs -/
theorem own_grow {w w' : World} {B s n : Nat} {e : TypeId} {v : Value} {xs : List Value} (h : w.ownsRow B e s v n xs) (hg : Grow w w') : w'.ownsRow B e s v n xs := by
  refine ⟨h.1, ?_⟩
  rcases h.2 with h2 | ⟨g, cap, cur, h1, hB, hb, h3, h4, h5, h6⟩
  · exact .inl h2
  · exact .inr ⟨g, cap, cur, h1, hB, hg.at hb, h3, h4, h5, h6⟩
theorem own_mono {w : World} {B B' s n : Nat} {e : TypeId} {v : Value} {xs : List Value} (h : w.ownsRow B' e s v n xs) (hb : B ≤ B') : w.ownsRow B e s v n xs := by
  refine ⟨h.1, ?_⟩
  rcases h.2 with h2 | ⟨g, cap, cur, h1, hB, hb2, h3, h4, h5, h6⟩
  · exact .inl h2
  · exact .inr ⟨g, cap, cur, h1, Nat.le_trans hb hB, hb2, h3, h4, h5, h6⟩
theorem own_only {w w' : World} {B s n b t : Nat} {e : TypeId} {v : Value} {xs : List Value} {cs : Array Value} {fr : Nat × Nat} (h : w.ownsRow B e s v n xs) (ho : Only b w w') (hb : w.heap[b]? = some (.cells cs t fr)) (ht : t ≠ e) : w'.ownsRow B e s v n xs := by
  refine ⟨h.1, ?_⟩
  rcases h.2 with h2 | ⟨g, cap, cur, h1, hB, hg, h3, h4, h5, h6⟩
  · exact .inl h2
  · refine .inr ⟨g, cap, cur, h1, hB, ho.at (fun e2 => ?_) hg, h3, h4, h5, h6⟩
    subst e2
    rw [hb] at hg
    injection hg with hg
    injection hg with _ hg _
    exact ht hg
theorem own_one {w : World} {B s n : Nat} {e : TypeId} {v : Value} {xs : List Value} (h : w.ownsRow B e s v n xs) : v.oneCell' = true := by
  rcases h.2 with ⟨rfl, _⟩ | ⟨g, cap, cur, rfl, _⟩ <;> rfl
theorem row_set {f : Nat → List Value} {s : Nat} (hf : ∀ j, (f j).length = s) (k r : Nat) (hr : r < s) (u : Value) : ∀ n, k < n → (rowCells f n).set (k * s + r) u = rowCells (fun j => if j = k then (f k).set r u else f j) n
  | 0, h => absurd h (Nat.not_lt_zero _)
  | n + 1, h => by
    rw [rowCells, rowCells]
    by_cases e : k = n
    · subst e
      rw [List.set_append_right _ _ (by rw [row_len hf]; omega), row_len hf, show k * s + r - k * s = r by omega, if_pos rfl]
      congr 1
      have : ∀ m, m ≤ k → rowCells f m = rowCells (fun j => if j = k then (f k).set r u else f j) m := by
        intro m
        induction m with
        | zero => intro _; rfl
        | succ m ih => intro hm; rw [rowCells, rowCells, ih (by omega), if_neg (by omega)]
      exact this k (Nat.le_refl _)
    · have h1 : (k + 1) * s ≤ n * s := Nat.mul_le_mul_right s (by omega)
      rw [Nat.succ_mul] at h1
      rw [List.set_append_left _ _ (by rw [row_len hf]; omega), row_set hf k r hr u n (by omega), if_neg (by omega)]
theorem own_slice {w : World} {B s n : Nat} {e : TypeId} {v : Value} {xs : List Value} (h : w.ownsRow B e s v n xs) : ∃ A cap, v = .slice A n cap ∧ n ≤ cap := by
  rcases h.2 with ⟨rfl, rfl⟩ | ⟨g, cap, cur, rfl, _, _, h1, _⟩
  · exact ⟨none, 0, rfl, Nat.le_refl _⟩
  · exact ⟨_, cap, rfl, h1⟩
theorem own_block {w : World} {B s n b cap : Nat} {e : TypeId} {xs : List Value} (h : w.ownsRow B e s (.slice (some ⟨b, 0, none⟩) n cap) n xs) : ∃ cur : Array Value, w.heap[b]? = some (.cells cur e (0, 0)) ∧ cur.size = cap * s := by
  rcases h.2 with ⟨h1, _⟩ | ⟨g, c, cur, h1, hB, hg, h3, h4, h5, h6⟩
  · simp at h1
  · simp only [Value.slice.injEq, Option.some.injEq, Addr.mk.injEq, and_true, true_and] at h1
    obtain ⟨rfl, rfl⟩ := h1
    exact ⟨cur, hg, h5⟩
theorem own_set {w w' : World} {B s n b cap i : Nat} {e : TypeId} {xs : List Value} {cur : Array Value} {v : Value} (h : w.ownsRow B e s (.slice (some ⟨b, 0, none⟩) n cap) n xs) (hb : w.heap[b]? = some (.cells cur e (0, 0)))
    (hb' : w'.heap[b]? = some (.cells (cur.setIfInBounds i v) e (0, 0))) (ho : Only b w w') (hi : i < n * s) : w'.ownsRow B e s (.slice (some ⟨b, 0, none⟩) n cap) n (xs.set i v) := by
  refine ⟨by rw [List.length_set]; exact h.1, ?_⟩
  rcases h.2 with ⟨h1, _⟩ | ⟨g, c, cu, h1, hB, hg, h3, h4, h5, h6⟩
  · simp at h1
  · simp only [Value.slice.injEq, Option.some.injEq, Addr.mk.injEq, and_true, true_and] at h1
    obtain ⟨rfl, rfl⟩ := h1
    rw [hb] at hg
    injection hg with hg
    injection hg with hg _ _
    subst hg
    exact .inr ⟨_, _, _, rfl, hB, hb', h3, h4, by simpa using h5, by rw [Array.toList_setIfInBounds, ← h6, List.take_set]⟩
theorem own_keep {w w' : World} {B s n : Nat} {e : TypeId} {v : Value} {xs : List Value} (h : w.ownsRow B e s v n xs) (hk : ∀ g, v.ownBlock = some g → w'.heap[g]? = w.heap[g]?) : w'.ownsRow B e s v n xs := by
  refine ⟨h.1, ?_⟩
  rcases h.2 with h2 | ⟨g, cap, cur, h1, hB, hb, h3, h4, h5, h6⟩
  · exact .inl h2
  · exact .inr ⟨g, cap, cur, h1, hB, (hk g (by rw [h1]; rfl)).trans hb, h3, h4, h5, h6⟩
/-! ### Slots whose values own blocks of their own -/
structure Sets (Ok : Nat → (Nat → Prop) → World → Value → Prop) (B : Nat) (S : List Nat) (a : Act) (w : World) : Prop where
  base : B ≤ w.heap.size
  size : ∀ i ∈ S, i < a.tmps.size
  f : ∃ f : Nat → Nat → Prop, (∀ i ∈ S, ∀ g, f i g → B ≤ g ∧ g < w.heap.size) ∧ (∀ i ∈ S, ∀ j ∈ S, i ≠ j → ∀ g, f i g → ¬ f j g) ∧ ∀ i ∈ S, Ok i (f i) w (a.tmps.getD i undef)
theorem put_size (a : Act) (d : Nat) (v : Value) : (a.put (some d) v).tmps.size = a.tmps.size := by simp [Act.put]
theorem Sets.put {Ok : Nat → (Nat → Prop) → World → Value → Prop} {B : Nat} {S : List Nat} {a : Act} {w w' : World} (h : Sets Ok B S a w) (hsz : w.heap.size ≤ w'.heap.size) (d : Nat) (v : Value)
    (hm : ∀ i P u, (∀ g, P g → g < w.heap.size) → Ok i P w u → Ok i P w' u) (hv : Ok d (fun g => w.heap.size ≤ g ∧ g < w'.heap.size) w' v) : Sets Ok B S (a.put (some d) v) w' := by
  obtain ⟨hb, hs, f, h1, h2, h3⟩ := h
  refine ⟨Nat.le_trans hb hsz, fun i hi => by rw [put_size]; exact hs i hi, fun i g => if i = d then w.heap.size ≤ g ∧ g < w'.heap.size else f i g, ?_, ?_, ?_⟩
  · intro i hi g hg
    by_cases e : i = d
    · rw [if_pos e] at hg; omega
    · rw [if_neg e] at hg; have := h1 i hi g hg; omega
  · intro i hi j hj hij g hg hg2
    by_cases e : i = d
    · by_cases e2 : j = d
      · exact hij (e.trans e2.symm)
      · rw [if_pos e] at hg; rw [if_neg e2] at hg2; have := h1 j hj g hg2; omega
    · by_cases e2 : j = d
      · rw [if_neg e] at hg; rw [if_pos e2] at hg2; have := h1 i hi g hg; omega
      · rw [if_neg e] at hg; rw [if_neg e2] at hg2; exact h2 i hi j hj hij g hg hg2
  · intro i hi
    by_cases e : i = d
    · subst e
      rw [getD_put_self a i v (hs i hi)]
      simp only [if_true]; exact hv
    · rw [getD_put_ne _ _ _ _ (fun h => e h.symm)]
      simp only [if_neg e]
      exact hm i _ _ (fun g hg => (h1 i hi g hg).2) (h3 i hi)
theorem Sets.skip {Ok : Nat → (Nat → Prop) → World → Value → Prop} {B : Nat} {S : List Nat} {a : Act} {w w' : World} (h : Sets Ok B S a w) (hsz : w.heap.size ≤ w'.heap.size) (d : Nat) (hd : d ∉ S) (v : Value)
    (hm : ∀ i P u, (∀ g, P g → g < w.heap.size) → Ok i P w u → Ok i P w' u) : Sets Ok B S (a.put (some d) v) w' := by
  obtain ⟨hb, hs, f, h1, h2, h3⟩ := h
  refine ⟨Nat.le_trans hb hsz, fun i hi => by rw [put_size]; exact hs i hi, f, fun i hi g hg => by have := h1 i hi g hg; omega, h2, fun i hi => ?_⟩
  rw [getD_put_ne _ _ _ _ (fun e : d = i => hd (by rw [e]; exact hi))]
  exact hm i _ _ (fun g hg => (h1 i hi g hg).2) (h3 i hi)
theorem Sets.first {Ok : Nat → (Nat → Prop) → World → Value → Prop} (S : List Nat) (a : Act) (w : World) (hs : ∀ i ∈ S, i < a.tmps.size) (h : ∀ i ∈ S, Ok i (fun _ => False) w (a.tmps.getD i undef)) : Sets Ok w.heap.size S a w :=
  ⟨Nat.le_refl _, hs, fun _ _ => False, fun _ _ _ h => h.elim, fun _ _ _ _ _ _ h => h.elim, h⟩
theorem choose2 {α : Type} [Inhabited α] {p : Nat → Prop} {q : Nat → α → Prop} (h : ∀ j, p j → ∃ x, q j x) : ∃ f : Nat → α, ∀ j, p j → q j (f j) := by
  have h2 : ∀ j, ∃ x, p j → q j x := fun j => by
    by_cases hp : p j
    · obtain ⟨x, hx⟩ := h j hp; exact ⟨x, fun _ => hx⟩
    · exact ⟨default, fun h => absurd h hp⟩
  obtain ⟨f, hf⟩ := Classical.axiomOfChoice h2
  exact ⟨f, hf⟩
theorem own_not {w w' : World} {g t : Nat} {cs : Array Value} (hb : w.heap[g]? = some (.cells cs t (0, 0))) (ho : Only g w w') {B s n : Nat} {e : TypeId} {v : Value} {xs : List Value} (h : w.ownsRow B e s v n xs) (hne : v.ownBlock ≠ some g) : w'.ownsRow B e s v n xs :=
  own_keep h fun k hk => ho.2.2.2.2 k (h.lt k hk).2 (fun e => hne (e ▸ hk))
/-- A cell of the row's own block is another. -/
theorem own_poke {w w' : World} {g i : Nat} {cur : Array Value} {B s n : Nat} {e : TypeId} {u v : Value} {xs : List Value} (h : w.ownsRow B e s v n xs) (hv : v.ownBlock = some g) (hb : w.heap[g]? = some (.cells cur e (0, 0)))
    (hb' : w'.heap[g]? = some (.cells (cur.setIfInBounds i u) e (0, 0))) : w'.ownsRow B e s v n (xs.set i u) := by
  refine ⟨by rw [List.length_set]; exact h.1, ?_⟩
  rcases h.2 with ⟨h1, _⟩ | ⟨g2, c, cu, h1, hB, hg, h3, h4, h5, h6⟩
  · rw [h1] at hv; simp [Value.ownBlock] at hv
  · have e1 : g2 = g := by rw [h1] at hv; simpa [Value.ownBlock] using hv
    subst e1
    rw [hb] at hg
    injection hg with hg
    injection hg with hg _ _
    subst hg
    exact .inr ⟨_, _, _, h1, hB, hb', h3, h4, by simpa using h5, by rw [Array.toList_setIfInBounds, ← h6, List.take_set]⟩
theorem own_type {w : World} {B s n g t : Nat} {e : TypeId} {v : Value} {xs : List Value} {cs : Array Value} (h : w.ownsRow B e s v n xs) (hb : w.heap[g]? = some (.cells cs t (0, 0))) (ht : t ≠ e) : v.ownBlock ≠ some g := fun hv => by
  rcases h.2 with ⟨h1, _⟩ | ⟨g2, c, cu, h1, hB, hg, _⟩
  · rw [h1] at hv; simp [Value.ownBlock] at hv
  · have e1 : g2 = g := by rw [h1] at hv; simpa [Value.ownBlock] using hv
    subst e1
    rw [hb] at hg
    injection hg with hg
    injection hg with _ hg _
    exact ht hg
theorem own_at {w : World} {B s n : Nat} {e : TypeId} {v : Value} {xs : List Value} (h : w.ownsRow B e s v n xs) (hn : 0 < n) : ∃ b cap cur, v = .slice (some ⟨b, 0, none⟩) n cap ∧ n ≤ cap ∧ w.heap[b]? = some (.cells cur e (0, 0)) ∧ cur.size = cap * s ∧ ∀ j u, xs[j]? = some u → w.cell? ⟨b, j, none⟩ = some u := by
  have hc := fun g => h.cells (g := g)
  rcases h.2 with ⟨_, h1⟩ | ⟨g, c, cu, h1, hB, hg, h3, h4, h5, h6⟩
  · omega
  · refine ⟨g, c, cu, h1, h3, hg, h5, fun j u hu => ?_⟩
    have h7 := hc g (by rw [h1]; rfl) j u hu
    have e8 : (⟨g, 0, none⟩ : Addr).add j = ⟨g, j, none⟩ := by unfold Addr.add; split <;> simp_all
    rwa [e8] at h7
end Go.Proofs.YtnhmdinpfcoebaaGreatDoor
end

/-! === Cursor -/
section
/- A reader of bytes: the walks. -/
namespace Go.Proofs.YtnhmdinpfcoebaaGreatDoor
open Go.RowKit
set_option linter.unusedVariables false
set_option linter.unusedSimpArgs false
set_option maxRecDepth 100000
attribute [local simp] RelKnown Is
/-- A reader, at a place of its text. -/
def RdAt (w : World) (b : Nat) (s : ByteArray) (at_ : Nat) : Prop := w.heap[b]? = some (.cells #[.string s, .int .i64 at_] 222 (0, 0)) ∧ at_ ≤ s.size ∧ s.size < 2 ^ 62
theorem RdAt.grow {w w' : World} {b : Nat} {s : ByteArray} {p : Nat} (h : RdAt w b s p) (hg : Grow w w') : RdAt w' b s p := ⟨hg.at h.1, h.2⟩
theorem info222 : (Tryz.prog.info? 222).map (·.size) = some 2 := by kernel_rfl
theorem info3 : (Tryz.prog.info? 3).map (·.size) = some 1 := by kernel_rfl
theorem new_any (w : World) (s : ByteArray) (hs : s.size < 2 ^ 62) : Calls Tryz.prog 68 #[.string s] w fun e w' => e = .returned (.pointer (some ⟨w.heap.size, 0, none⟩)) ∧ RdAt w' w.heap.size s 0 ∧ Grow w w' := by
  go_enter Tryz.func68, Tryz.ntmps68
  go_wp2
  go_ret
  exact ⟨rfl, ⟨heapAt_alloc_new w _, Nat.zero_le _, hs⟩, Grow.alloc _ _⟩
theorem at_any (w : World) (b : Nat) (s : ByteArray) (p : Nat) (h : RdAt w b s p) : Calls Tryz.prog 74 #[.pointer (some ⟨b, 0, none⟩)] w fun e w' => e = .returned (.int .i64 p) ∧ Grow w w' := by
  have c1 := cell_block h.1 1
  simp at c1
  clear h
  go_enter Tryz.func74, Tryz.ntmps74
  go_wp2
  go_ret
  exact ⟨rfl, Grow.refl _⟩
theorem left_any (w : World) (b : Nat) (s : ByteArray) (p : Nat) (h : RdAt w b s p) : Calls Tryz.prog 101 #[.pointer (some ⟨b, 0, none⟩)] w fun e w' => e = .returned (.int .i64 ((s.size - p : Nat) : Int)) ∧ Grow w w' := by
  have c0 := cell_block h.1 0
  have c1 := cell_block h.1 1
  simp at c0 c1
  have h1 := h.2.1
  have h2 := h.2.2
  clear h
  go_enter Tryz.func101, Tryz.ntmps101
  go_wp2
  go_quiet (fail)
  go_wp2
  go_ret
  refine ⟨?_, Grow.drewN w _⟩
  show Ending.returned (Value.int .i64 ((s.size : Int) - p)) = _
  congr 2; omega
/-- So many bytes more, or none. -/
theorem take_ok (w : World) (b : Nat) (s : ByteArray) (p n q : Nat) (h : RdAt w b s p) (hpq : p + n = q) (hle : q ≤ s.size) : Calls Tryz.prog 71 #[.pointer (some ⟨b, 0, none⟩), .int .i64 n] w fun e w' =>
    e = .returned (.tuple #[.string (s.extract p q), .int .i64 0]) ∧ RdAt w' b s q ∧ Only b w w' := by
  have H := Lib.hid h
  have c0 := cell_block h.1 0
  have c1 := cell_block h.1 1
  simp at c0 c1
  have h1 := h.2.1
  have h2 := h.2.2
  clear h
  go_enter Tryz.func71, Tryz.ntmps71
  have hneg : ¬ (n : Int) < 0 := by omega
  go_wp2_with fail
  refine (left_any _ b s p H.out).mono ?_
  rintro _ w1 ⟨rfl, hg⟩
  have H1 := Lib.hid (H.out.grow hg)
  have c0 := cell_block H1.out.1 0
  have c1 := cell_block H1.out.1 1
  simp at c0 c1
  have HG := Lib.hid hg; clear hg
  have hle2 : ¬ ((s.size - p : Nat) : Int) < (n : Int) := by omega
  have hle3 : ¬ s.size - p < n := by omega
  have HQ := Lib.hid hpq
  have hw : (p : Int) + n = (q : Int) := by omega
  have hb0 : (0 : Int) ≤ p := by omega
  have hb1 : (p : Int) ≤ (q : Int) := by omega
  have hb2 : (q : Int) ≤ s.size := by omega
  clear hpq
  have HX := Lib.hid H1.out.1
  clear c0
  go_wp2_with (first
    | ((with_reducible refine store_in rfl 3 _ _ rfl b 1 222 _ #[.string s, .int .i64 (q : Int)] (.int .i64 (q : Int)) info3 HX.out rfl ?_ ?_ ?_ ?_ ?_); (· rfl); (· rfl); (· simp); (· rfl); intro w2 hw2 hb hO; have c0 := cell_block hb 0; have c1 := cell_block hb 1; simp at c0 c1; have HB := Lib.hid hb; have HO := Lib.hid hO; clear hw2 hb hO))
  go_quiet (fail)
  go_wp2
  go_ret2
  exact ⟨rfl, ⟨HB.out, hle, h2⟩, Only.before HG.out (HO.out.drewN _)⟩
theorem take_no (w : World) (b : Nat) (s : ByteArray) (p n : Nat) (h : RdAt w b s p) (hn : n < 2 ^ 62) (hle : s.size < p + n) : Calls Tryz.prog 71 #[.pointer (some ⟨b, 0, none⟩), .int .i64 n] w fun e w' =>
    e = .returned (.tuple #[.string ⟨#[]⟩, .int .i64 2]) ∧ Grow w w' := by
  have H := Lib.hid h
  have c0 := cell_block h.1 0
  have c1 := cell_block h.1 1
  simp at c0 c1
  have h1 := h.2.1
  have h2 := h.2.2
  clear h
  go_enter Tryz.func71, Tryz.ntmps71
  have hneg : ¬ (n : Int) < 0 := by omega
  go_wp2_with fail
  refine (left_any _ b s p H.out).mono ?_
  rintro _ w1 ⟨rfl, hg⟩
  have H1 := Lib.hid (H.out.grow hg)
  have c0 := cell_block H1.out.1 0
  have c1 := cell_block H1.out.1 1
  simp at c0 c1
  have HG := Lib.hid hg; clear hg
  have hle2 : ((s.size - p : Nat) : Int) < (n : Int) := by omega
  have hle3 : s.size - p < n := by omega
  go_wp2
  go_ret2
  exact ⟨rfl, HG.out⟩
/-- The bytes from a place on. -/
def rest (s : ByteArray) (p : Nat) : Top.Bytes := s.data.toList.drop p
theorem rest_len (s : ByteArray) (p : Nat) : (rest s p).length = s.size - p := by unfold rest; rw [List.length_drop, Array.length_toList]; rfl
theorem rest_lt (s : ByteArray) (p : Nat) (h : p < s.size) : rest s p = s[p] :: rest s (p + 1) := by
  unfold rest
  rw [List.drop_eq_getElem_cons (by simpa using h)]
  rfl
theorem rest_ge (s : ByteArray) (p : Nat) (h : s.size ≤ p) : rest s p = [] := List.drop_eq_nil_of_le (by simpa using h)
theorem rest_add (s : ByteArray) (p k : Nat) : (rest s p).drop k = rest s (p + k) := by unfold rest; rw [List.drop_drop]
theorem extract_list (s : ByteArray) (p q : Nat) : (s.extract p q).data.toList = (rest s p).take (q - p) := by
  unfold rest
  rw [ByteArray.data_extract, Array.toList_extract, List.extract_eq_take_drop]
theorem extract_one (s : ByteArray) (p : Nat) (h : p < s.size) (h2 : 0 < (s.extract p (p + 1)).size) : (s.extract p (p + 1))[0] = s[p] := by
  simp [ByteArray.getElem_extract]
theorem byte_ok (w : World) (b : Nat) (s : ByteArray) (p : Nat) (h : RdAt w b s p) (hle : p < s.size) : Calls Tryz.prog 132 #[.pointer (some ⟨b, 0, none⟩)] w fun e w' =>
    e = .returned (.tuple #[.int .u8 (s[p].toNat : Int), .int .i64 0]) ∧ RdAt w' b s (p + 1) ∧ Only b w w' := by
  have H := Lib.hid h
  clear h
  go_enter Tryz.func132, Tryz.ntmps132
  go_wp2_with fail
  refine (take_ok _ b s p 1 (p + 1) H.out rfl (by omega)).mono ?_
  rintro _ w1 ⟨rfl, h1, h2⟩
  have H1 := Lib.hid h1; clear h1
  have H2 := Lib.hid h2; clear h2
  go_wp2
  go_ret2
  exact ⟨by rw [extract_one s p hle]; rfl, H1.out, H2.out⟩
theorem byte_no (w : World) (b : Nat) (s : ByteArray) (p : Nat) (h : RdAt w b s p) (hle : s.size ≤ p) : Calls Tryz.prog 132 #[.pointer (some ⟨b, 0, none⟩)] w fun e w' =>
    e = .returned (.tuple #[.int .u8 0, .int .i64 2]) ∧ Grow w w' := by
  have H := Lib.hid h
  clear h
  go_enter Tryz.func132, Tryz.ntmps132
  go_wp2_with fail
  refine (take_no _ b s p 1 H.out (by omega) (by omega)).mono ?_
  rintro _ w1 ⟨rfl, h1⟩
  have H1 := Lib.hid h1; clear h1
  go_wp2
  go_ret2
  exact ⟨rfl, H1.out⟩
theorem seek_any (w : World) (b : Nat) (s : ByteArray) (p q : Nat) (h : RdAt w b s p) (hle : q ≤ s.size) : Calls Tryz.prog 69 #[.pointer (some ⟨b, 0, none⟩), .int .i64 q] w fun e w' =>
    e = .returned (.int .i64 0) ∧ RdAt w' b s q ∧ Only b w w' := by
  have HX := Lib.hid h.1
  have h2 := h.2.2
  have c0 := cell_block h.1 0
  have c1 := cell_block h.1 1
  simp at c0 c1
  clear h
  have hn : ¬ (q : Int) < 0 := by omega
  have hm : ¬ (s.size : Int) < (q : Int) := by omega
  have hm2 : ¬ s.size < q := by omega
  go_enter Tryz.func69, Tryz.ntmps69
  go_wp2_with (first
    | ((with_reducible refine store_in rfl 3 _ _ rfl b 1 222 _ #[.string s, .int .i64 (q : Int)] (.int .i64 (q : Int)) info3 HX.out rfl ?_ ?_ ?_ ?_ ?_); (· rfl); (· rfl); (· simp); (· rfl); intro w2 hw2 hb hO; have HB := Lib.hid hb; have HO := Lib.hid hO; clear hw2 hb hO))
  go_ret
  exact ⟨rfl, ⟨HB.out, hle, h2⟩, HO.out⟩
theorem agree_at : ∀ (k : Nat) (t u : Top.Bytes), k ≤ t.length → k ≤ u.length → (∀ i, i < k → t[i]? = u[i]?) → (k = t.length ∨ k = u.length ∨ t[k]? ≠ u[k]?) → Top.agree t u = k
  | 0, [], u, _, _, _, _ => by simp [Top.agree]
  | 0, a :: t, [], _, _, _, _ => by simp [Top.agree]
  | 0, a :: t, b :: u, _, _, _, h => by
    rw [Top.agree]
    by_cases e : a = b
    · subst e; simp at h
    · rw [if_neg e]
  | k + 1, [], u, h, _, _, _ => by simp at h
  | k + 1, a :: t, [], _, h, _, _ => by simp at h
  | k + 1, a :: t, b :: u, h1, h2, h3, h4 => by
    have e := h3 0 (by omega)
    simp at e
    subst e
    rw [Top.agree, if_pos rfl, agree_at k t u (by simpa using h1) (by simpa using h2) (fun i hi => by simpa using h3 (i + 1) (by omega)) (by simpa using h4)]
theorem get_list (t : ByteArray) (i : Nat) (h : i < t.size) : t.data.toList[i]? = some t[i] := by
  rw [Array.getElem?_toList, Array.getElem?_eq_getElem (by exact h)]
  rfl
/-- With how many bytes of a text it goes on. -/
theorem agree_any (w : World) (b : Nat) (s t : ByteArray) (p : Nat) (h : RdAt w b s p) (ht : t.size < 2 ^ 62) : Calls Tryz.prog 100 #[.pointer (some ⟨b, 0, none⟩), .string t] w fun e w' =>
    e = .returned (.int .i64 (Top.agree t.data.toList (rest s p))) ∧ Grow w w' := by
  have c0 := cell_block h.1 0
  have c1 := cell_block h.1 1
  simp at c0 c1
  have h1 := h.2.1
  have h2 := h.2.2
  clear h
  have hb0 : (0 : Int) ≤ p := by omega
  have hb1 : (p : Int) ≤ s.size := by omega
  go_enter Tryz.func100, Tryz.ntmps100
  go_wp2_with fail
  go_quiet (fail)
  obtain ⟨u, hu⟩ : ∃ u, u = s.extract p s.size := ⟨_, rfl⟩
  have hul : u.data.toList = rest s p := by rw [hu, extract_list, List.take_of_length_le (by rw [rest_len]; omega)]
  have hus : u.size < 2 ^ 62 := by have : u.data.toList.length = s.size - p := by rw [hul, rest_len]
                                   rw [Array.length_toList] at this
                                   show u.data.size < 2 ^ 62
                                   omega
  have HUL := Lib.hid hul; clear hul
  rw [← hu]
  clear hu h1 hb0 hb1 c0 c1
  go_wp2_with fail
  go_loopw [6] (fun x wr => ∃ k : Nat, k ≤ t.size ∧ k ≤ u.size ∧ x = .int .i64 k ∧ (∀ i, i < k → t.data.toList[i]? = u.data.toList[i]?) ∧ Grow w wr) (fun x _ => t.size - (intOf x).toNat)
  case atStart => exact ⟨0, by omega, by omega, rfl, fun i hi => by omega, Grow.drewN w _⟩
  case round =>
    obtain ⟨k, hk1, hk2, rfl, heq, hg⟩ := hrel
    have HE := Lib.hid heq; clear heq
    have HG := Lib.hid hg; clear hg
    have k0 : (0 : Int) ≤ (k : Int) := by omega
    by_cases ht1 : k < t.size
    · have ht1i : (k : Int) < (t.size : Int) := by omega
      by_cases hu1 : k < u.size
      · have hu1i : (k : Int) < (u.size : Int) := by omega
        by_cases hc : t[k] = u[k]
        · have hci : ((t[k].toNat : Int) == (u[k].toNat : Int)) = true := by rw [hc]; simp
          have hcn : t[k].toNat = u[k].toNat := by rw [hc]
          have HC := Lib.hid hc; clear hc
          go_wp2_with fail
          refine wp_region_rel _ Grow (fun w' => Grow w w') [([(6, none)], none), ([(1, none)], none), ([(19, some 0)], none), ([(18, some 2), (20, some 0)], none), ([(21, some 0)], none), ([(22, some 0), (6, none)], some (22, true)), ([(22, some 1), (5, none)], some (22, true)), ([(22, some 2), (24, some 0)], some (22, true)), ([(22, some 3), (23, some 2), (25, some 0)], some (22, true)), ([(22, some 4), (26, some 0)], none), ([(27, some 0)], none), ([(28, some 0), (1, none)], some (28, true)), ([(28, some 1), (6, none)], some (28, true)), ([(28, some 2), (29, some 1), (30, some 0)], some (28, true)), ([(28, some 3), (5, none)], some (28, true)), ([(28, some 4), (6, none)], some (28, true)), ([(28, some 5), (32, some 1), (33, some 0)], some (28, true)), ([(28, some 6), (31, some 3), (34, some 0)], some (28, true)), ([(28, some 7), (35, some 0)], none)] (by kernel_rfl) (by kernel_rfl) (HG.out.trans (Grow.drewN wr 1)) ?_
          (refine rel_pure ?_; apply Exists.intro; refine ⟨fun aR wQ hF hk => ?_, ?_⟩; focus (first | exact rel_no hk.1 rfl rfl | ((first | (refine rel_none fun K hK => ?_) | (refine rel_yes hk.1 fun K hK => ?_)); (try simp at hk); go_simp; exact hK _ _ (Grow.refl _) hF rfl)))
          (refine rel_pure ?_; apply Exists.intro; refine ⟨fun aR wQ hF hk => ?_, ?_⟩; focus (first | exact rel_no hk.1 rfl rfl | ((first | (refine rel_none fun K hK => ?_) | (refine rel_yes hk.1 fun K hK => ?_)); (try simp at hk); go_simp; exact hK _ _ (Grow.refl _) hF rfl)))
          (refine rel_pure ?_; apply Exists.intro; refine ⟨fun aR wQ hF hk => ?_, ?_⟩; focus (first | exact rel_no hk.1 rfl rfl | ((first | (refine rel_none fun K hK => ?_) | (refine rel_yes hk.1 fun K hK => ?_)); (try simp at hk); go_simp; exact hK _ _ (Grow.refl _) hF rfl)))
          (refine rel_pure ?_; apply Exists.intro; refine ⟨fun aR wQ hF hk => ?_, ?_⟩; focus (first | exact rel_no hk.1 rfl rfl | ((first | (refine rel_none fun K hK => ?_) | (refine rel_yes hk.1 fun K hK => ?_)); (try simp at hk); go_simp; exact hK _ _ (Grow.refl _) hF rfl)))
          (refine rel_pure ?_; apply Exists.intro; refine ⟨fun aR wQ hF hk => ?_, ?_⟩; focus (first | exact rel_no hk.1 rfl rfl | ((first | (refine rel_none fun K hK => ?_) | (refine rel_yes hk.1 fun K hK => ?_)); (try simp at hk); go_simp; exact hK _ _ (Grow.refl _) hF rfl)))
          (refine rel_pure ?_; apply Exists.intro; refine ⟨fun aR wQ hF hk => ?_, ?_⟩; focus (first | exact rel_no hk.1 rfl rfl | ((first | (refine rel_none fun K hK => ?_) | (refine rel_yes hk.1 fun K hK => ?_)); (try simp at hk); go_simp; exact hK _ _ (Grow.refl _) hF rfl)))
          (refine rel_pure ?_; apply Exists.intro; refine ⟨fun aR wQ hF hk => ?_, ?_⟩; focus (first | exact rel_no hk.1 rfl rfl | ((first | (refine rel_none fun K hK => ?_) | (refine rel_yes hk.1 fun K hK => ?_)); (try simp at hk); go_simp; exact hK _ _ (Grow.refl _) hF rfl)))
          (refine rel_pure ?_; apply Exists.intro; refine ⟨fun aR wQ hF hk => ?_, ?_⟩; focus (first | exact rel_no hk.1 rfl rfl | ((first | (refine rel_none fun K hK => ?_) | (refine rel_yes hk.1 fun K hK => ?_)); (try simp at hk); go_simp; exact hK _ _ (Grow.refl _) hF rfl)))
          (refine rel_pure ?_; apply Exists.intro; refine ⟨fun aR wQ hF hk => ?_, ?_⟩; focus (first | exact rel_no hk.1 rfl rfl | ((first | (refine rel_none fun K hK => ?_) | (refine rel_yes hk.1 fun K hK => ?_)); (try simp at hk); go_simp; exact hK _ _ (Grow.refl _) hF rfl)))
          (refine rel_pure ?_; apply Exists.intro; refine ⟨fun aR wQ hF hk => ?_, ?_⟩; focus (first | exact rel_no hk.1 rfl rfl | ((first | (refine rel_none fun K hK => ?_) | (refine rel_yes hk.1 fun K hK => ?_)); (try simp at hk); go_simp; exact hK _ _ (Grow.refl _) hF rfl)))
          (refine rel_pure ?_; apply Exists.intro; refine ⟨fun aR wQ hF hk => ?_, ?_⟩; focus (first | exact rel_no hk.1 rfl rfl | ((first | (refine rel_none fun K hK => ?_) | (refine rel_yes hk.1 fun K hK => ?_)); (try simp at hk); go_simp; exact hK _ _ (Grow.refl _) hF rfl)))
          (refine rel_pure ?_; apply Exists.intro; refine ⟨fun aR wQ hF hk => ?_, ?_⟩; focus (first | exact rel_no hk.1 rfl rfl | ((first | (refine rel_none fun K hK => ?_) | (refine rel_yes hk.1 fun K hK => ?_)); (try simp at hk); go_simp; exact hK _ _ (Grow.refl _) hF rfl)))
          (refine rel_pure ?_; apply Exists.intro; refine ⟨fun aR wQ hF hk => ?_, ?_⟩; focus (first | exact rel_no hk.1 rfl rfl | ((first | (refine rel_none fun K hK => ?_) | (refine rel_yes hk.1 fun K hK => ?_)); (try simp at hk); go_simp; exact hK _ _ (Grow.refl _) hF rfl)))
          (refine rel_pure ?_; apply Exists.intro; refine ⟨fun aR wQ hF hk => ?_, ?_⟩; focus (first | exact rel_no hk.1 rfl rfl | ((first | (refine rel_none fun K hK => ?_) | (refine rel_yes hk.1 fun K hK => ?_)); (try simp at hk); go_simp; exact hK _ _ (Grow.refl _) hF rfl)))
          (refine rel_pure ?_; apply Exists.intro; refine ⟨fun aR wQ hF hk => ?_, ?_⟩; focus (first | exact rel_no hk.1 rfl rfl | ((first | (refine rel_none fun K hK => ?_) | (refine rel_yes hk.1 fun K hK => ?_)); (try simp at hk); go_simp; exact hK _ _ (Grow.refl _) hF rfl)))
          (refine rel_pure ?_; apply Exists.intro; refine ⟨fun aR wQ hF hk => ?_, ?_⟩; focus (first | exact rel_no hk.1 rfl rfl | ((first | (refine rel_none fun K hK => ?_) | (refine rel_yes hk.1 fun K hK => ?_)); (try simp at hk); go_simp; exact hK _ _ (Grow.refl _) hF rfl)))
          (refine rel_pure ?_; apply Exists.intro; refine ⟨fun aR wQ hF hk => ?_, ?_⟩; focus (first | exact rel_no hk.1 rfl rfl | ((first | (refine rel_none fun K hK => ?_) | (refine rel_yes hk.1 fun K hK => ?_)); (try simp at hk); go_simp; exact hK _ _ (Grow.refl _) hF rfl)))
          (refine rel_pure ?_; apply Exists.intro; refine ⟨fun aR wQ hF hk => ?_, ?_⟩; focus (first | exact rel_no hk.1 rfl rfl | ((first | (refine rel_none fun K hK => ?_) | (refine rel_yes hk.1 fun K hK => ?_)); (try simp at hk); go_simp; exact hK _ _ (Grow.refl _) hF rfl)))
          (refine rel_pure ?_; apply Exists.intro; refine ⟨fun aR wQ hF hk => ?_, ?_⟩; focus (first | exact rel_no hk.1 rfl rfl | ((first | (refine rel_none fun K hK => ?_) | (refine rel_yes hk.1 fun K hK => ?_)); (try simp at hk); go_simp; exact hK _ _ (Grow.refl _) hF rfl)))
          refine rel_done fun wR hF => ?_
          repeat (first | (refine fun v hv => ?_; obtain rfl : v = _ := hv) | (refine fun v hv => ?_))
          simp only [Act.put, List.setIfInBounds_toArray, List.set_cons_zero, List.set_cons_succ]
          refine rel_nil ?_
          have HF := Lib.hid hF; clear hF
          go_wp2_with fail
          go_roundw
          case rel => exact ⟨k + 1, by omega, by omega, by go_num, fun i hi => by
            rcases Nat.lt_succ_iff_lt_or_eq.1 hi with h | h
            · exact HE.out i h
            · subst h; rw [get_list _ _ ht1, get_list _ _ hu1, HC.out], HF.out⟩
          case measure => simp [intOf]; omega
        · have hcn : ¬ t[k].toNat = u[k].toNat := fun h => hc (UInt8.toNat_inj.1 h)
          have hci : ((t[k].toNat : Int) == (u[k].toNat : Int)) = false := by simpa using (fun h : (t[k].toNat : Int) = u[k].toNat => hcn (by omega))
          have HC := Lib.hid hc; clear hc
          go_wp2_with fail
          refine wp_region_rel _ Grow (fun w' => Grow w w') [([(6, none)], none), ([(1, none)], none), ([(19, some 0)], none), ([(18, some 2), (20, some 0)], none), ([(21, some 0)], none), ([(22, some 0), (6, none)], some (22, true)), ([(22, some 1), (5, none)], some (22, true)), ([(22, some 2), (24, some 0)], some (22, true)), ([(22, some 3), (23, some 2), (25, some 0)], some (22, true)), ([(22, some 4), (26, some 0)], none), ([(27, some 0)], none), ([(28, some 0), (1, none)], some (28, true)), ([(28, some 1), (6, none)], some (28, true)), ([(28, some 2), (29, some 1), (30, some 0)], some (28, true)), ([(28, some 3), (5, none)], some (28, true)), ([(28, some 4), (6, none)], some (28, true)), ([(28, some 5), (32, some 1), (33, some 0)], some (28, true)), ([(28, some 6), (31, some 3), (34, some 0)], some (28, true)), ([(28, some 7), (35, some 0)], none)] (by kernel_rfl) (by kernel_rfl) (HG.out.trans (Grow.drewN wr 1)) ?_
          (refine rel_pure ?_; apply Exists.intro; refine ⟨fun aR wQ hF hk => ?_, ?_⟩; focus (first | exact rel_no hk.1 rfl rfl | ((first | (refine rel_none fun K hK => ?_) | (refine rel_yes hk.1 fun K hK => ?_)); (try simp at hk); go_simp; exact hK _ _ (Grow.refl _) hF rfl)))
          (refine rel_pure ?_; apply Exists.intro; refine ⟨fun aR wQ hF hk => ?_, ?_⟩; focus (first | exact rel_no hk.1 rfl rfl | ((first | (refine rel_none fun K hK => ?_) | (refine rel_yes hk.1 fun K hK => ?_)); (try simp at hk); go_simp; exact hK _ _ (Grow.refl _) hF rfl)))
          (refine rel_pure ?_; apply Exists.intro; refine ⟨fun aR wQ hF hk => ?_, ?_⟩; focus (first | exact rel_no hk.1 rfl rfl | ((first | (refine rel_none fun K hK => ?_) | (refine rel_yes hk.1 fun K hK => ?_)); (try simp at hk); go_simp; exact hK _ _ (Grow.refl _) hF rfl)))
          (refine rel_pure ?_; apply Exists.intro; refine ⟨fun aR wQ hF hk => ?_, ?_⟩; focus (first | exact rel_no hk.1 rfl rfl | ((first | (refine rel_none fun K hK => ?_) | (refine rel_yes hk.1 fun K hK => ?_)); (try simp at hk); go_simp; exact hK _ _ (Grow.refl _) hF rfl)))
          (refine rel_pure ?_; apply Exists.intro; refine ⟨fun aR wQ hF hk => ?_, ?_⟩; focus (first | exact rel_no hk.1 rfl rfl | ((first | (refine rel_none fun K hK => ?_) | (refine rel_yes hk.1 fun K hK => ?_)); (try simp at hk); go_simp; exact hK _ _ (Grow.refl _) hF rfl)))
          (refine rel_pure ?_; apply Exists.intro; refine ⟨fun aR wQ hF hk => ?_, ?_⟩; focus (first | exact rel_no hk.1 rfl rfl | ((first | (refine rel_none fun K hK => ?_) | (refine rel_yes hk.1 fun K hK => ?_)); (try simp at hk); go_simp; exact hK _ _ (Grow.refl _) hF rfl)))
          (refine rel_pure ?_; apply Exists.intro; refine ⟨fun aR wQ hF hk => ?_, ?_⟩; focus (first | exact rel_no hk.1 rfl rfl | ((first | (refine rel_none fun K hK => ?_) | (refine rel_yes hk.1 fun K hK => ?_)); (try simp at hk); go_simp; exact hK _ _ (Grow.refl _) hF rfl)))
          (refine rel_pure ?_; apply Exists.intro; refine ⟨fun aR wQ hF hk => ?_, ?_⟩; focus (first | exact rel_no hk.1 rfl rfl | ((first | (refine rel_none fun K hK => ?_) | (refine rel_yes hk.1 fun K hK => ?_)); (try simp at hk); go_simp; exact hK _ _ (Grow.refl _) hF rfl)))
          (refine rel_pure ?_; apply Exists.intro; refine ⟨fun aR wQ hF hk => ?_, ?_⟩; focus (first | exact rel_no hk.1 rfl rfl | ((first | (refine rel_none fun K hK => ?_) | (refine rel_yes hk.1 fun K hK => ?_)); (try simp at hk); go_simp; exact hK _ _ (Grow.refl _) hF rfl)))
          (refine rel_pure ?_; apply Exists.intro; refine ⟨fun aR wQ hF hk => ?_, ?_⟩; focus (first | exact rel_no hk.1 rfl rfl | ((first | (refine rel_none fun K hK => ?_) | (refine rel_yes hk.1 fun K hK => ?_)); (try simp at hk); go_simp; exact hK _ _ (Grow.refl _) hF rfl)))
          (refine rel_pure ?_; apply Exists.intro; refine ⟨fun aR wQ hF hk => ?_, ?_⟩; focus (first | exact rel_no hk.1 rfl rfl | ((first | (refine rel_none fun K hK => ?_) | (refine rel_yes hk.1 fun K hK => ?_)); (try simp at hk); go_simp; exact hK _ _ (Grow.refl _) hF rfl)))
          (refine rel_pure ?_; apply Exists.intro; refine ⟨fun aR wQ hF hk => ?_, ?_⟩; focus (first | exact rel_no hk.1 rfl rfl | ((first | (refine rel_none fun K hK => ?_) | (refine rel_yes hk.1 fun K hK => ?_)); (try simp at hk); go_simp; exact hK _ _ (Grow.refl _) hF rfl)))
          (refine rel_pure ?_; apply Exists.intro; refine ⟨fun aR wQ hF hk => ?_, ?_⟩; focus (first | exact rel_no hk.1 rfl rfl | ((first | (refine rel_none fun K hK => ?_) | (refine rel_yes hk.1 fun K hK => ?_)); (try simp at hk); go_simp; exact hK _ _ (Grow.refl _) hF rfl)))
          (refine rel_pure ?_; apply Exists.intro; refine ⟨fun aR wQ hF hk => ?_, ?_⟩; focus (first | exact rel_no hk.1 rfl rfl | ((first | (refine rel_none fun K hK => ?_) | (refine rel_yes hk.1 fun K hK => ?_)); (try simp at hk); go_simp; exact hK _ _ (Grow.refl _) hF rfl)))
          (refine rel_pure ?_; apply Exists.intro; refine ⟨fun aR wQ hF hk => ?_, ?_⟩; focus (first | exact rel_no hk.1 rfl rfl | ((first | (refine rel_none fun K hK => ?_) | (refine rel_yes hk.1 fun K hK => ?_)); (try simp at hk); go_simp; exact hK _ _ (Grow.refl _) hF rfl)))
          (refine rel_pure ?_; apply Exists.intro; refine ⟨fun aR wQ hF hk => ?_, ?_⟩; focus (first | exact rel_no hk.1 rfl rfl | ((first | (refine rel_none fun K hK => ?_) | (refine rel_yes hk.1 fun K hK => ?_)); (try simp at hk); go_simp; exact hK _ _ (Grow.refl _) hF rfl)))
          (refine rel_pure ?_; apply Exists.intro; refine ⟨fun aR wQ hF hk => ?_, ?_⟩; focus (first | exact rel_no hk.1 rfl rfl | ((first | (refine rel_none fun K hK => ?_) | (refine rel_yes hk.1 fun K hK => ?_)); (try simp at hk); go_simp; exact hK _ _ (Grow.refl _) hF rfl)))
          (refine rel_pure ?_; apply Exists.intro; refine ⟨fun aR wQ hF hk => ?_, ?_⟩; focus (first | exact rel_no hk.1 rfl rfl | ((first | (refine rel_none fun K hK => ?_) | (refine rel_yes hk.1 fun K hK => ?_)); (try simp at hk); go_simp; exact hK _ _ (Grow.refl _) hF rfl)))
          (refine rel_pure ?_; apply Exists.intro; refine ⟨fun aR wQ hF hk => ?_, ?_⟩; focus (first | exact rel_no hk.1 rfl rfl | ((first | (refine rel_none fun K hK => ?_) | (refine rel_yes hk.1 fun K hK => ?_)); (try simp at hk); go_simp; exact hK _ _ (Grow.refl _) hF rfl)))
          refine rel_done fun wR hF => ?_
          repeat (first | (refine fun v hv => ?_; obtain rfl : v = _ := hv) | (refine fun v hv => ?_))
          simp only [Act.put, List.setIfInBounds_toArray, List.set_cons_zero, List.set_cons_succ]
          refine rel_nil ?_
          have HF := Lib.hid hF; clear hF
          go_wp2
          go_ret
          exact ⟨by rw [agree_at k _ _ (by simpa using hk1) (by rw [← HUL.out]; simpa using hk2) (by rw [← HUL.out]; exact HE.out) (.inr (.inr (by rw [← HUL.out, get_list _ _ ht1, get_list _ _ hu1]; intro h; injection h with h; exact HC.out h)))]; rfl, HF.out⟩
      · have hu1i : ¬ (k : Int) < (u.size : Int) := by omega
        go_wp2_with fail
        refine wp_region_rel _ Grow (fun w' => Grow w w') [([(6, none)], none), ([(1, none)], none), ([(19, some 0)], none), ([(18, some 2), (20, some 0)], none), ([(21, some 0)], none), ([(22, some 0), (6, none)], some (22, true)), ([(22, some 1), (5, none)], some (22, true)), ([(22, some 2), (24, some 0)], some (22, true)), ([(22, some 3), (23, some 2), (25, some 0)], some (22, true)), ([(22, some 4), (26, some 0)], none), ([(27, some 0)], none), ([(28, some 0), (1, none)], some (28, true)), ([(28, some 1), (6, none)], some (28, true)), ([(28, some 2), (29, some 1), (30, some 0)], some (28, true)), ([(28, some 3), (5, none)], some (28, true)), ([(28, some 4), (6, none)], some (28, true)), ([(28, some 5), (32, some 1), (33, some 0)], some (28, true)), ([(28, some 6), (31, some 3), (34, some 0)], some (28, true)), ([(28, some 7), (35, some 0)], none)] (by kernel_rfl) (by kernel_rfl) (HG.out.trans (Grow.drewN wr 1)) ?_
        (refine rel_pure ?_; apply Exists.intro; refine ⟨fun aR wQ hF hk => ?_, ?_⟩; focus (first | exact rel_no hk.1 rfl rfl | ((first | (refine rel_none fun K hK => ?_) | (refine rel_yes hk.1 fun K hK => ?_)); (try simp at hk); go_simp; exact hK _ _ (Grow.refl _) hF rfl)))
        (refine rel_pure ?_; apply Exists.intro; refine ⟨fun aR wQ hF hk => ?_, ?_⟩; focus (first | exact rel_no hk.1 rfl rfl | ((first | (refine rel_none fun K hK => ?_) | (refine rel_yes hk.1 fun K hK => ?_)); (try simp at hk); go_simp; exact hK _ _ (Grow.refl _) hF rfl)))
        (refine rel_pure ?_; apply Exists.intro; refine ⟨fun aR wQ hF hk => ?_, ?_⟩; focus (first | exact rel_no hk.1 rfl rfl | ((first | (refine rel_none fun K hK => ?_) | (refine rel_yes hk.1 fun K hK => ?_)); (try simp at hk); go_simp; exact hK _ _ (Grow.refl _) hF rfl)))
        (refine rel_pure ?_; apply Exists.intro; refine ⟨fun aR wQ hF hk => ?_, ?_⟩; focus (first | exact rel_no hk.1 rfl rfl | ((first | (refine rel_none fun K hK => ?_) | (refine rel_yes hk.1 fun K hK => ?_)); (try simp at hk); go_simp; exact hK _ _ (Grow.refl _) hF rfl)))
        (refine rel_pure ?_; apply Exists.intro; refine ⟨fun aR wQ hF hk => ?_, ?_⟩; focus (first | exact rel_no hk.1 rfl rfl | ((first | (refine rel_none fun K hK => ?_) | (refine rel_yes hk.1 fun K hK => ?_)); (try simp at hk); go_simp; exact hK _ _ (Grow.refl _) hF rfl)))
        (refine rel_pure ?_; apply Exists.intro; refine ⟨fun aR wQ hF hk => ?_, ?_⟩; focus (first | exact rel_no hk.1 rfl rfl | ((first | (refine rel_none fun K hK => ?_) | (refine rel_yes hk.1 fun K hK => ?_)); (try simp at hk); go_simp; exact hK _ _ (Grow.refl _) hF rfl)))
        (refine rel_pure ?_; apply Exists.intro; refine ⟨fun aR wQ hF hk => ?_, ?_⟩; focus (first | exact rel_no hk.1 rfl rfl | ((first | (refine rel_none fun K hK => ?_) | (refine rel_yes hk.1 fun K hK => ?_)); (try simp at hk); go_simp; exact hK _ _ (Grow.refl _) hF rfl)))
        (refine rel_pure ?_; apply Exists.intro; refine ⟨fun aR wQ hF hk => ?_, ?_⟩; focus (first | exact rel_no hk.1 rfl rfl | ((first | (refine rel_none fun K hK => ?_) | (refine rel_yes hk.1 fun K hK => ?_)); (try simp at hk); go_simp; exact hK _ _ (Grow.refl _) hF rfl)))
        (refine rel_pure ?_; apply Exists.intro; refine ⟨fun aR wQ hF hk => ?_, ?_⟩; focus (first | exact rel_no hk.1 rfl rfl | ((first | (refine rel_none fun K hK => ?_) | (refine rel_yes hk.1 fun K hK => ?_)); (try simp at hk); go_simp; exact hK _ _ (Grow.refl _) hF rfl)))
        (refine rel_pure ?_; apply Exists.intro; refine ⟨fun aR wQ hF hk => ?_, ?_⟩; focus (first | exact rel_no hk.1 rfl rfl | ((first | (refine rel_none fun K hK => ?_) | (refine rel_yes hk.1 fun K hK => ?_)); (try simp at hk); go_simp; exact hK _ _ (Grow.refl _) hF rfl)))
        (refine rel_pure ?_; apply Exists.intro; refine ⟨fun aR wQ hF hk => ?_, ?_⟩; focus (first | exact rel_no hk.1 rfl rfl | ((first | (refine rel_none fun K hK => ?_) | (refine rel_yes hk.1 fun K hK => ?_)); (try simp at hk); go_simp; exact hK _ _ (Grow.refl _) hF rfl)))
        (refine rel_pure ?_; apply Exists.intro; refine ⟨fun aR wQ hF hk => ?_, ?_⟩; focus (first | exact rel_no hk.1 rfl rfl | ((first | (refine rel_none fun K hK => ?_) | (refine rel_yes hk.1 fun K hK => ?_)); (try simp at hk); go_simp; exact hK _ _ (Grow.refl _) hF rfl)))
        (refine rel_pure ?_; apply Exists.intro; refine ⟨fun aR wQ hF hk => ?_, ?_⟩; focus (first | exact rel_no hk.1 rfl rfl | ((first | (refine rel_none fun K hK => ?_) | (refine rel_yes hk.1 fun K hK => ?_)); (try simp at hk); go_simp; exact hK _ _ (Grow.refl _) hF rfl)))
        (refine rel_pure ?_; apply Exists.intro; refine ⟨fun aR wQ hF hk => ?_, ?_⟩; focus (first | exact rel_no hk.1 rfl rfl | ((first | (refine rel_none fun K hK => ?_) | (refine rel_yes hk.1 fun K hK => ?_)); (try simp at hk); go_simp; exact hK _ _ (Grow.refl _) hF rfl)))
        (refine rel_pure ?_; apply Exists.intro; refine ⟨fun aR wQ hF hk => ?_, ?_⟩; focus (first | exact rel_no hk.1 rfl rfl | ((first | (refine rel_none fun K hK => ?_) | (refine rel_yes hk.1 fun K hK => ?_)); (try simp at hk); go_simp; exact hK _ _ (Grow.refl _) hF rfl)))
        (refine rel_pure ?_; apply Exists.intro; refine ⟨fun aR wQ hF hk => ?_, ?_⟩; focus (first | exact rel_no hk.1 rfl rfl | ((first | (refine rel_none fun K hK => ?_) | (refine rel_yes hk.1 fun K hK => ?_)); (try simp at hk); go_simp; exact hK _ _ (Grow.refl _) hF rfl)))
        (refine rel_pure ?_; apply Exists.intro; refine ⟨fun aR wQ hF hk => ?_, ?_⟩; focus (first | exact rel_no hk.1 rfl rfl | ((first | (refine rel_none fun K hK => ?_) | (refine rel_yes hk.1 fun K hK => ?_)); (try simp at hk); go_simp; exact hK _ _ (Grow.refl _) hF rfl)))
        (refine rel_pure ?_; apply Exists.intro; refine ⟨fun aR wQ hF hk => ?_, ?_⟩; focus (first | exact rel_no hk.1 rfl rfl | ((first | (refine rel_none fun K hK => ?_) | (refine rel_yes hk.1 fun K hK => ?_)); (try simp at hk); go_simp; exact hK _ _ (Grow.refl _) hF rfl)))
        (refine rel_pure ?_; apply Exists.intro; refine ⟨fun aR wQ hF hk => ?_, ?_⟩; focus (first | exact rel_no hk.1 rfl rfl | ((first | (refine rel_none fun K hK => ?_) | (refine rel_yes hk.1 fun K hK => ?_)); (try simp at hk); go_simp; exact hK _ _ (Grow.refl _) hF rfl)))
        refine rel_done fun wR hF => ?_
        repeat (first | (refine fun v hv => ?_; obtain rfl : v = _ := hv) | (refine fun v hv => ?_))
        simp only [Act.put, List.setIfInBounds_toArray, List.set_cons_zero, List.set_cons_succ]
        refine rel_nil ?_
        have HF := Lib.hid hF; clear hF
        go_wp2
        go_ret
        exact ⟨by rw [agree_at k _ _ (by simpa using hk1) (by rw [← HUL.out]; simpa using hk2) (by rw [← HUL.out]; exact HE.out) (.inr (.inl (by rw [← HUL.out, Array.length_toList]; show k = u.size; omega)))]; rfl, HF.out⟩
    · have ht1i : ¬ (k : Int) < (t.size : Int) := by omega
      go_wp2_with fail
      refine wp_region_rel _ Grow (fun w' => Grow w w') [([(6, none)], none), ([(1, none)], none), ([(19, some 0)], none), ([(18, some 2), (20, some 0)], none), ([(21, some 0)], none), ([(22, some 0), (6, none)], some (22, true)), ([(22, some 1), (5, none)], some (22, true)), ([(22, some 2), (24, some 0)], some (22, true)), ([(22, some 3), (23, some 2), (25, some 0)], some (22, true)), ([(22, some 4), (26, some 0)], none), ([(27, some 0)], none), ([(28, some 0), (1, none)], some (28, true)), ([(28, some 1), (6, none)], some (28, true)), ([(28, some 2), (29, some 1), (30, some 0)], some (28, true)), ([(28, some 3), (5, none)], some (28, true)), ([(28, some 4), (6, none)], some (28, true)), ([(28, some 5), (32, some 1), (33, some 0)], some (28, true)), ([(28, some 6), (31, some 3), (34, some 0)], some (28, true)), ([(28, some 7), (35, some 0)], none)] (by kernel_rfl) (by kernel_rfl) (HG.out.trans (Grow.drewN wr 1)) ?_
      (refine rel_pure ?_; apply Exists.intro; refine ⟨fun aR wQ hF hk => ?_, ?_⟩; focus (first | exact rel_no hk.1 rfl rfl | ((first | (refine rel_none fun K hK => ?_) | (refine rel_yes hk.1 fun K hK => ?_)); (try simp at hk); go_simp; exact hK _ _ (Grow.refl _) hF rfl)))
      (refine rel_pure ?_; apply Exists.intro; refine ⟨fun aR wQ hF hk => ?_, ?_⟩; focus (first | exact rel_no hk.1 rfl rfl | ((first | (refine rel_none fun K hK => ?_) | (refine rel_yes hk.1 fun K hK => ?_)); (try simp at hk); go_simp; exact hK _ _ (Grow.refl _) hF rfl)))
      (refine rel_pure ?_; apply Exists.intro; refine ⟨fun aR wQ hF hk => ?_, ?_⟩; focus (first | exact rel_no hk.1 rfl rfl | ((first | (refine rel_none fun K hK => ?_) | (refine rel_yes hk.1 fun K hK => ?_)); (try simp at hk); go_simp; exact hK _ _ (Grow.refl _) hF rfl)))
      (refine rel_pure ?_; apply Exists.intro; refine ⟨fun aR wQ hF hk => ?_, ?_⟩; focus (first | exact rel_no hk.1 rfl rfl | ((first | (refine rel_none fun K hK => ?_) | (refine rel_yes hk.1 fun K hK => ?_)); (try simp at hk); go_simp; exact hK _ _ (Grow.refl _) hF rfl)))
      (refine rel_pure ?_; apply Exists.intro; refine ⟨fun aR wQ hF hk => ?_, ?_⟩; focus (first | exact rel_no hk.1 rfl rfl | ((first | (refine rel_none fun K hK => ?_) | (refine rel_yes hk.1 fun K hK => ?_)); (try simp at hk); go_simp; exact hK _ _ (Grow.refl _) hF rfl)))
      (refine rel_pure ?_; apply Exists.intro; refine ⟨fun aR wQ hF hk => ?_, ?_⟩; focus (first | exact rel_no hk.1 rfl rfl | ((first | (refine rel_none fun K hK => ?_) | (refine rel_yes hk.1 fun K hK => ?_)); (try simp at hk); go_simp; exact hK _ _ (Grow.refl _) hF rfl)))
      (refine rel_pure ?_; apply Exists.intro; refine ⟨fun aR wQ hF hk => ?_, ?_⟩; focus (first | exact rel_no hk.1 rfl rfl | ((first | (refine rel_none fun K hK => ?_) | (refine rel_yes hk.1 fun K hK => ?_)); (try simp at hk); go_simp; exact hK _ _ (Grow.refl _) hF rfl)))
      (refine rel_pure ?_; apply Exists.intro; refine ⟨fun aR wQ hF hk => ?_, ?_⟩; focus (first | exact rel_no hk.1 rfl rfl | ((first | (refine rel_none fun K hK => ?_) | (refine rel_yes hk.1 fun K hK => ?_)); (try simp at hk); go_simp; exact hK _ _ (Grow.refl _) hF rfl)))
      (refine rel_pure ?_; apply Exists.intro; refine ⟨fun aR wQ hF hk => ?_, ?_⟩; focus (first | exact rel_no hk.1 rfl rfl | ((first | (refine rel_none fun K hK => ?_) | (refine rel_yes hk.1 fun K hK => ?_)); (try simp at hk); go_simp; exact hK _ _ (Grow.refl _) hF rfl)))
      (refine rel_pure ?_; apply Exists.intro; refine ⟨fun aR wQ hF hk => ?_, ?_⟩; focus (first | exact rel_no hk.1 rfl rfl | ((first | (refine rel_none fun K hK => ?_) | (refine rel_yes hk.1 fun K hK => ?_)); (try simp at hk); go_simp; exact hK _ _ (Grow.refl _) hF rfl)))
      (refine rel_pure ?_; apply Exists.intro; refine ⟨fun aR wQ hF hk => ?_, ?_⟩; focus (first | exact rel_no hk.1 rfl rfl | ((first | (refine rel_none fun K hK => ?_) | (refine rel_yes hk.1 fun K hK => ?_)); (try simp at hk); go_simp; exact hK _ _ (Grow.refl _) hF rfl)))
      (refine rel_pure ?_; apply Exists.intro; refine ⟨fun aR wQ hF hk => ?_, ?_⟩; focus (first | exact rel_no hk.1 rfl rfl | ((first | (refine rel_none fun K hK => ?_) | (refine rel_yes hk.1 fun K hK => ?_)); (try simp at hk); go_simp; exact hK _ _ (Grow.refl _) hF rfl)))
      (refine rel_pure ?_; apply Exists.intro; refine ⟨fun aR wQ hF hk => ?_, ?_⟩; focus (first | exact rel_no hk.1 rfl rfl | ((first | (refine rel_none fun K hK => ?_) | (refine rel_yes hk.1 fun K hK => ?_)); (try simp at hk); go_simp; exact hK _ _ (Grow.refl _) hF rfl)))
      (refine rel_pure ?_; apply Exists.intro; refine ⟨fun aR wQ hF hk => ?_, ?_⟩; focus (first | exact rel_no hk.1 rfl rfl | ((first | (refine rel_none fun K hK => ?_) | (refine rel_yes hk.1 fun K hK => ?_)); (try simp at hk); go_simp; exact hK _ _ (Grow.refl _) hF rfl)))
      (refine rel_pure ?_; apply Exists.intro; refine ⟨fun aR wQ hF hk => ?_, ?_⟩; focus (first | exact rel_no hk.1 rfl rfl | ((first | (refine rel_none fun K hK => ?_) | (refine rel_yes hk.1 fun K hK => ?_)); (try simp at hk); go_simp; exact hK _ _ (Grow.refl _) hF rfl)))
      (refine rel_pure ?_; apply Exists.intro; refine ⟨fun aR wQ hF hk => ?_, ?_⟩; focus (first | exact rel_no hk.1 rfl rfl | ((first | (refine rel_none fun K hK => ?_) | (refine rel_yes hk.1 fun K hK => ?_)); (try simp at hk); go_simp; exact hK _ _ (Grow.refl _) hF rfl)))
      (refine rel_pure ?_; apply Exists.intro; refine ⟨fun aR wQ hF hk => ?_, ?_⟩; focus (first | exact rel_no hk.1 rfl rfl | ((first | (refine rel_none fun K hK => ?_) | (refine rel_yes hk.1 fun K hK => ?_)); (try simp at hk); go_simp; exact hK _ _ (Grow.refl _) hF rfl)))
      (refine rel_pure ?_; apply Exists.intro; refine ⟨fun aR wQ hF hk => ?_, ?_⟩; focus (first | exact rel_no hk.1 rfl rfl | ((first | (refine rel_none fun K hK => ?_) | (refine rel_yes hk.1 fun K hK => ?_)); (try simp at hk); go_simp; exact hK _ _ (Grow.refl _) hF rfl)))
      (refine rel_pure ?_; apply Exists.intro; refine ⟨fun aR wQ hF hk => ?_, ?_⟩; focus (first | exact rel_no hk.1 rfl rfl | ((first | (refine rel_none fun K hK => ?_) | (refine rel_yes hk.1 fun K hK => ?_)); (try simp at hk); go_simp; exact hK _ _ (Grow.refl _) hF rfl)))
      refine rel_done fun wR hF => ?_
      repeat (first | (refine fun v hv => ?_; obtain rfl : v = _ := hv) | (refine fun v hv => ?_))
      simp only [Act.put, List.setIfInBounds_toArray, List.set_cons_zero, List.set_cons_succ]
      refine rel_nil ?_
      have HF := Lib.hid hF; clear hF
      go_wp2
      go_ret
      exact ⟨by rw [agree_at k _ _ (by simpa using hk1) (by rw [← HUL.out]; simpa using hk2) (by rw [← HUL.out]; exact HE.out) (.inl (by rw [Array.length_toList]; show k = t.size; omega))]; rfl, HF.out⟩
end Go.Proofs.YtnhmdinpfcoebaaGreatDoor
end

/-! === Bits -/
section
/- Words by their numbers. No program in sight. -/
namespace Go.Proofs.YtnhmdinpfcoebaaGreatDoor
open Go.RowKit
set_option linter.unusedVariables false
set_option linter.unusedSimpArgs false
set_option maxRecDepth 100000

theorem wrap_u64n (n : Int) : IntKind.u64.wrap n = n % 18446744073709551616 := by
  show (if (false && decide (n % 2 ^ 64 ≥ 2 ^ 63)) = true then n % 2 ^ 64 - 2 ^ 64 else n % 2 ^ 64) = _
  rw [if_neg (by simp)]
  rfl
theorem bits_or64 (a b : Nat) (ha : a < 2 ^ 64) (hb : b < 2 ^ 64) : bits .or .u64 (a : Int) (b : Int) = ((a ||| b : Nat) : Int) := by
  show IntKind.u64.wrap ((BitVec.ofInt 64 (a : Int) ||| BitVec.ofInt 64 (b : Int)).toNat : Int) = _
  rw [BitVec.ofInt_natCast, BitVec.ofInt_natCast, BitVec.toNat_or, BitVec.toNat_ofNat, BitVec.toNat_ofNat, Nat.mod_eq_of_lt ha, Nat.mod_eq_of_lt hb]
  have := Nat.or_lt_two_pow ha hb
  rw [wrap_u64n]
  omega
theorem bits_and8 (c : UInt8) : bits .and .u8 (c.toNat : Int) 127 = ((c.toNat % 128 : Nat) : Int) := by
  have hc := c.toNat_lt
  show IntKind.u8.wrap ((BitVec.ofInt 8 (c.toNat : Int) &&& BitVec.ofInt 8 127).toNat : Int) = _
  rw [BitVec.ofInt_natCast, BitVec.toNat_and, BitVec.toNat_ofNat, Nat.mod_eq_of_lt hc]
  have e : (BitVec.ofInt 8 127).toNat = 2 ^ 7 - 1 := by decide
  rw [e, Nat.and_two_pow_sub_one_eq_mod]
  rw [IntKind.wrap_u8']
  omega
theorem wrap64_nat (a : Nat) (h : a < 2 ^ 64) : IntKind.u64.wrap (a : Int) = (a : Int) := by rw [wrap_u64n]; omega
theorem or_group (n m k : Nat) (hn : n < 2 ^ k) (hm : m * 2 ^ k < 2 ^ 64) (hn2 : n < 2 ^ 64) : bits .or .u64 (n : Int) (IntKind.u64.wrap ((m : Int) * 2 ^ k)) = ((n + m * 2 ^ k : Nat) : Int) := by
  rw [show ((m : Int) * 2 ^ k) = ((m * 2 ^ k : Nat) : Int) by push_cast; rfl, wrap64_nat _ hm, bits_or64 _ _ hn2 hm]
  have := Nat.shiftLeft_add_eq_or_of_lt hn m
  rw [Nat.shiftLeft_eq] at this
  rw [Nat.or_comm, ← this, Nat.add_comm]
/-- The bound of so many groups. -/
theorem group_lt (n m k : Nat) (hn : n < 2 ^ (7 * k)) (hm : m < 128) : n + m * 2 ^ (7 * k) < 2 ^ (7 * (k + 1)) := by
  have h1 : 2 ^ (7 * (k + 1)) = 128 * 2 ^ (7 * k) := by rw [Nat.mul_add, Nat.pow_add]; omega
  have h2 : m * 2 ^ (7 * k) ≤ 127 * 2 ^ (7 * k) := Nat.mul_le_mul_right _ (by omega)
  omega
theorem pow_le (k : Nat) (hk : k ≤ 9) : 2 ^ (7 * k) ≤ 2 ^ 63 := Nat.pow_le_pow_right (by decide) (by omega)
/-- What a reader's call does, by what it gets. -/
def GotR {α : Type} (x : Top.Got α) (e : Ending) (w' : World) (yes : α → Nat → Ending → World → Prop) (no : Nat → Ending → World → Prop) : Prop := match x with
  | .yes a k => yes a k e w'
  | .no er => no er e w'
section
variable {α : Type} {x : Top.Got α} {e : Ending} {w' : World} {yes : α → Nat → Ending → World → Prop} {no : Nat → Ending → World → Prop} {a : α} {k er : Nat}
theorem GotR.mkY (h : x = .yes a k) (hy : yes a k e w') : GotR x e w' yes no := by subst h; exact hy
theorem GotR.mkN (h : x = .no er) (hn : no er e w') : GotR x e w' yes no := by subst h; exact hn
theorem GotR.is_yes (h : GotR x e w' yes no) (hx : x = .yes a k) : yes a k e w' := by subst hx; exact h
theorem GotR.is_no (h : GotR x e w' yes no) (hx : x = .no er) : no er e w' := by subst hx; exact h
end
end Go.Proofs.YtnhmdinpfcoebaaGreatDoor
end

/-! === Leb -/
section
/- Numbers of groups of seven bits, read: the walks. -/
namespace Go.Proofs.YtnhmdinpfcoebaaGreatDoor
open Go.RowKit
set_option linter.unusedVariables false
set_option linter.unusedSimpArgs false
set_option maxRecDepth 100000

theorem bits_and1 (n : Nat) (h : n < 2 ^ 64) : bits BinOp.and IntKind.u64 (n : Int) 1 = ((n % 2 : Nat) : Int) := by
  show IntKind.u64.wrap ((BitVec.ofInt 64 (n : Int) &&& BitVec.ofInt 64 1).toNat : Int) = _
  rw [BitVec.ofInt_natCast, BitVec.toNat_and, BitVec.toNat_ofNat, Nat.mod_eq_of_lt h]
  have e : (BitVec.ofInt 64 1).toNat = 1 := by decide
  rw [e, Nat.and_one_is_mod, wrap_u64n]
  omega
theorem wrap_i64n (n : Int) : IntKind.i64.wrap n = if n % 18446744073709551616 ≥ 9223372036854775808 then n % 18446744073709551616 - 18446744073709551616 else n % 18446744073709551616 := by
  show (if (true && decide (n % 2 ^ 64 ≥ 2 ^ 63)) = true then n % 2 ^ 64 - 2 ^ 64 else n % 2 ^ 64) = _
  simp
theorem unfold_eq (n : Nat) (h : n < 2 ^ 32) : bits BinOp.xor IntKind.i64 ((n : Int) / 2) (wrap64 (-wrap64 (bits BinOp.and IntKind.u64 (n : Int) 1))) = Top.unfoldI n := by
  rw [bits_and1 n (by omega)]
  have hd : (n : Int) / 2 = ((n / 2 : Nat) : Int) := by omega
  rw [hd]
  have hw : wrap64 ((n % 2 : Nat) : Int) = ((n % 2 : Nat) : Int) := by unfold wrap64; omega
  rw [hw]
  show IntKind.i64.wrap ((BitVec.ofInt 64 ((n / 2 : Nat) : Int) ^^^ BitVec.ofInt 64 (wrap64 (-((n % 2 : Nat) : Int)))).toNat : Int) = _
  rw [BitVec.ofInt_natCast]
  unfold Top.unfoldI
  by_cases hm : n % 2 = 0
  · rw [if_pos hm, hm]
    have e : BitVec.ofInt 64 (wrap64 (-((0 : Nat) : Int))) = 0#64 := by decide +kernel
    rw [e, BitVec.xor_zero, BitVec.toNat_ofNat, Nat.mod_eq_of_lt (by omega), wrap_i64n]
    rw [if_neg (by omega)]
    omega
  · rw [if_neg hm, show n % 2 = 1 by omega]
    have e : BitVec.ofInt 64 (wrap64 (-((1 : Nat) : Int))) = BitVec.allOnes 64 := by decide +kernel
    rw [e, BitVec.xor_allOnes, BitVec.toNat_not, BitVec.toNat_ofNat, Nat.mod_eq_of_lt (by omega), wrap_i64n]
    rw [if_pos (by omega)]
    omega
theorem leb_err0 : ∀ (f : Nat) (l : Top.Bytes) (k n er : Nat), Top.lebL f l k n = .no er → er = 2 ∨ er = 3
  | 0, l, k, n, er, h => by simp [Top.lebL] at h; omega
  | f + 1, [], k, n, er, h => by simp [Top.lebL] at h; omega
  | f + 1, c :: t, k, n, er, h => by
    rw [Top.lebL] at h
    split at h
    · injection h with h; omega
    · split at h
      · cases h
      · exact leb_err0 f t _ _ er h
theorem leb_err {l : Top.Bytes} {er : Nat} (h : Top.lebP l = .no er) : er ≠ 0 := by have := leb_err0 10 l 0 0 er h; omega
theorem zero_or : Ending.returned (.tuple #[.int .u64 (bits BinOp.or IntKind.u64 ((0 : Nat) : Int) (IntKind.u64.wrap (IntKind.u64.wrap (bits BinOp.and IntKind.u8 0 127)))), .int .i64 0]) = .returned (.tuple #[.int .u64 ((0 : Nat) : Int), .int .i64 0]) := by
  have h : bits BinOp.or IntKind.u64 ((0 : Nat) : Int) (IntKind.u64.wrap (IntKind.u64.wrap (bits BinOp.and IntKind.u8 0 127))) = ((0 : Nat) : Int) := by decide +kernel
  rw [h]
attribute [local irreducible] GotR
set_option maxHeartbeats 1000000 in
theorem get1_any (w : World) (b : Nat) (s : ByteArray) (p : Nat) (h : RdAt w b s p) : Calls Tryz.prog 199 #[.pointer (some ⟨b, 0, none⟩)] w fun e w' =>
    GotR (Top.lebL 10 (rest s p) 0 0) e w' (fun n k e w' => e = .returned (.tuple #[.int .u64 n, .int .i64 0]) ∧ RdAt w' b s (p + k)) (fun er e w' => e = .returned (.tuple #[.int .u64 0, .int .i64 er]) ∧ ∃ q, RdAt w' b s q) ∧ Only b w w' := by
  have H := Lib.hid h
  clear h
  go_enter Tryz.func199, Tryz.ntmps199
  go_wp2_with fail
  go_loopw [5, 4] (fun x y wr => ∃ (k f n : Nat), k + f = 10 ∧ x = .int .i64 k ∧ y = .int .u64 n ∧ n < 2 ^ (7 * k) ∧ RdAt wr b s (p + k) ∧ Only b w wr ∧ Top.lebL 10 (rest s p) 0 0 = Top.lebL f (rest s (p + k)) k n) (fun x _ _ => 10 - (intOf x).toNat)
  case atStart => exact ⟨0, 10, 0, by omega, rfl, rfl, by decide, H.out, Only.refl b w, rfl⟩
  case round =>
    obtain ⟨k, f, n, hk, rfl, rfl, hn, hr, ho, hq⟩ := hrel
    have HR := Lib.hid hr; clear hr
    have HO := Lib.hid ho; clear ho
    have HQ := Lib.hid hq; clear hq
    have HN := Lib.hid hn; clear hn
    have HK := Lib.hid hk; clear hk
    cases f with
    | zero =>
      have hlti : ¬ (k : Int) < 10 := by have := HK.out; omega
      go_wp2
      go_ret2
      exact ⟨GotR.mkN (HQ.out.trans rfl) ⟨rfl, _, HR.out⟩, HO.out⟩
    | succ f =>
      have hlti : (k : Int) < 10 := by have := HK.out; omega
      have k0 : (0 : Int) ≤ (k : Int) := by omega
      go_wp2_with fail
      by_cases hs : p + k < s.size
      · refine (byte_ok _ b s (p + k) HR.out hs).mono ?_
        rintro _ w1 ⟨rfl, h1, h2⟩
        have HR1 := Lib.hid h1; clear h1
        have HO1 := Lib.hid (HO.out.trans h2); clear h2
        have HC := Lib.hid (rest_lt s (p + k) hs)
        generalize s[p + k] = c at HC ⊢
        have HB := Lib.hid c.toNat_lt
        by_cases hz : c.toNat = 0
        · have hzi : (c.toNat : Int) = 0 := by omega
          have hno : ¬ 1 < c.toNat := by omega
          have hnoi : ¬ (1 : Int) < c.toNat := by omega
          by_cases hk0 : k = 0
          · have hki : ¬ (k : Int) > 0 := by omega
            have hl : c.toNat < 128 := by omega
            have hli : (c.toNat : Int) < 128 := by omega
            go_wp2_with fail
            go_ret2
            subst hk0
            have hn0 : n = 0 := by have := HN.out; simp at this; exact this
            subst hn0
            exact ⟨GotR.mkY (a := 0) (k := 1) (HQ.out.trans (by rw [HC.out, Top.lebL, if_neg (by omega), if_pos hl, hz])) ⟨zero_or, HR1.out⟩, HO1.out⟩
          · have hki : (k : Int) > 0 := by omega
            go_wp2_with fail
            go_ret2
            exact ⟨GotR.mkN (HQ.out.trans (by rw [HC.out, Top.lebL, if_pos (.inl ⟨hz, by omega⟩)])) ⟨rfl, _, HR1.out⟩, HO1.out⟩
        · have hzi : ¬ (c.toNat : Int) = 0 := by omega
          by_cases ho : 1 < c.toNat ∧ k = 9
          · have hok : (k : Int) = 9 := by omega
            have hoi : (1 : Int) < c.toNat := by omega
            go_wp2_with fail
            go_ret2
            exact ⟨GotR.mkN (HQ.out.trans (by rw [HC.out, Top.lebL, if_pos (.inr ho)])) ⟨rfl, _, HR1.out⟩, HO1.out⟩
          · have HOR := Lib.hid (show bits BinOp.or IntKind.u64 (n : Int) (IntKind.u64.wrap (IntKind.u64.wrap (bits BinOp.and IntKind.u8 (c.toNat : Int) 127) * 2 ^ (7 * k))) = ((n + c.toNat % 128 * 2 ^ (7 * k) : Nat) : Int) by
              have h1 := pow_le k (by have := HK.out; omega)
              have h2 : c.toNat % 128 * 2 ^ (7 * k) < 2 ^ 64 := by
                by_cases h9 : k = 9
                · have : c.toNat % 128 ≤ 1 := by omega
                  calc c.toNat % 128 * 2 ^ (7 * k) ≤ 1 * 2 ^ 63 := Nat.mul_le_mul this h1
                    _ < 2 ^ 64 := by decide
                · have h3 : 2 ^ (7 * k) ≤ 2 ^ 56 := Nat.pow_le_pow_right (by decide) (by have := HK.out; omega)
                  calc c.toNat % 128 * 2 ^ (7 * k) ≤ 127 * 2 ^ 56 := Nat.mul_le_mul (by omega) h3
                    _ < 2 ^ 64 := by decide
              rw [bits_and8, wrap64_nat _ (by omega), or_group _ _ _ HN.out h2 (by have := HN.out; omega)])
            by_cases hb : c.toNat < 128
            · have hbi : (c.toNat : Int) < 128 := by omega
              have E : Top.lebL (f + 1) (rest s (p + k)) k n = .yes (n + c.toNat * 2 ^ (7 * k)) (k + 1) := by rw [HC.out, Top.lebL, if_neg (by omega), if_pos hb]
              have HE := Lib.hid E; clear E
              by_cases h1c : 1 < c.toNat
              · have hoi : (1 : Int) < c.toNat := by omega
                have hok : ¬ (k : Int) = 9 := by omega
                go_wp2_with fail
                go_ret2
                exact ⟨GotR.mkY (HQ.out.trans HE.out) ⟨(show Ending.returned (.tuple #[.int .u64 (bits BinOp.or IntKind.u64 (n : Int) (IntKind.u64.wrap (IntKind.u64.wrap (bits BinOp.and IntKind.u8 (c.toNat : Int) 127) * 2 ^ (7 * k)))), .int .i64 0]) = _ by rw [HOR.out, Nat.mod_eq_of_lt hb]), HR1.out⟩, HO1.out⟩
              · have hoi : ¬ (1 : Int) < c.toNat := by omega
                go_wp2_with fail
                go_ret2
                exact ⟨GotR.mkY (HQ.out.trans HE.out) ⟨(show Ending.returned (.tuple #[.int .u64 (bits BinOp.or IntKind.u64 (n : Int) (IntKind.u64.wrap (IntKind.u64.wrap (bits BinOp.and IntKind.u8 (c.toNat : Int) 127) * 2 ^ (7 * k)))), .int .i64 0]) = _ by rw [HOR.out, Nat.mod_eq_of_lt hb]), HR1.out⟩, HO1.out⟩
            · have hbi : ¬ (c.toNat : Int) < 128 := by omega
              have hk9 : ¬ (k : Int) = 9 := by omega
              have hc1 : (1 : Int) < c.toNat := by omega
              have E : Top.lebL (f + 1) (rest s (p + k)) k n = Top.lebL f (rest s (p + (k + 1))) (k + 1) (n + c.toNat % 128 * 2 ^ (7 * k)) := by
                rw [HC.out, Top.lebL, if_neg (by omega), if_neg hb, show c.toNat - 128 = c.toNat % 128 by have := HB.out; omega]; rfl
              have HE := Lib.hid E; clear E
              go_wp2_with fail
              go_roundw
              case rel => exact ⟨k + 1, f, _, by have := HK.out; omega, by go_num, by rw [HOR.out], group_lt _ _ _ HN.out (Nat.mod_lt _ (by decide)), HR1.out, HO1.out, HQ.out.trans HE.out⟩
              case measure => simp [intOf]; omega
      · have HC := Lib.hid (rest_ge s (p + k) (by omega))
        refine (byte_no _ b s (p + k) HR.out (by omega)).mono ?_
        rintro _ w1 ⟨rfl, h1⟩
        have HG := Lib.hid h1; clear h1
        go_wp2
        go_ret2
        exact ⟨GotR.mkN (HQ.out.trans (by rw [HC.out, Top.lebL])) ⟨rfl, _, HR.out.grow HG.out⟩, HO.out.after HG.out⟩
theorem get_any (w : World) (b : Nat) (s : ByteArray) (p : Nat) (h : RdAt w b s p) : Calls Tryz.prog 165 #[.pointer (some ⟨b, 0, none⟩)] w fun e w' =>
    GotR (Top.lebP (rest s p)) e w' (fun n k e w' => e = .returned (.tuple #[.int .u64 n, .int .i64 0]) ∧ RdAt w' b s (p + k)) (fun er e w' => e = .returned (.tuple #[.int .u64 0, .int .i64 er]) ∧ RdAt w' b s p) ∧ Only b w w' := by
  have H := Lib.hid h
  clear h
  go_enter Tryz.func165, Tryz.ntmps165
  go_wp2_with fail
  refine (at_any _ b s p H.out).mono ?_
  rintro _ w1 ⟨rfl, hg⟩
  have HG := Lib.hid hg; clear hg
  go_wp2_with fail
  refine (get1_any _ b s p (H.out.grow HG.out)).mono ?_
  rintro e w2 ⟨hq, ho⟩
  have HO := Lib.hid (Only.before HG.out ho); clear ho
  cases hx : Top.lebL 10 (rest s p) 0 0 with
  | yes n k =>
    obtain ⟨rfl, hr⟩ := hq.is_yes hx
    have HR := Lib.hid hr; clear hr
    have HX := Lib.hid hx; clear hx hq
    go_wp2_with fail
    go_ret2
    exact ⟨GotR.mkY HX.out ⟨rfl, HR.out⟩, HO.out⟩
  | no er =>
    obtain ⟨rfl, q, hr⟩ := hq.is_no hx
    have HR := Lib.hid hr; clear hr
    have hne := leb_err hx
    have hne2 : ¬ (er : Int) = 0 := by omega
    have HX := Lib.hid hx; clear hx hq
    go_wp2_with fail
    refine (seek_any _ b s q p HR.out H.out.2.1).mono ?_
    rintro _ w3 ⟨rfl, h1, h2⟩
    have H1 := Lib.hid h1; clear h1
    have H2 := Lib.hid (HO.out.trans h2); clear h2
    go_wp2_with fail
    go_ret2
    exact ⟨GotR.mkN HX.out ⟨rfl, H1.out⟩, H2.out⟩
theorem most_any (w : World) (b : Nat) (s : ByteArray) (p m : Nat) (h : RdAt w b s p) : Calls Tryz.prog 134 #[.pointer (some ⟨b, 0, none⟩), .int .u64 m] w fun e w' =>
    GotR (Top.mostP m (rest s p)) e w' (fun n k e w' => e = .returned (.tuple #[.int .u64 n, .int .i64 0]) ∧ RdAt w' b s (p + k)) (fun er e w' => e = .returned (.tuple #[.int .u64 0, .int .i64 er]) ∧ RdAt w' b s p) ∧ Only b w w' := by
  have H := Lib.hid h
  clear h
  go_enter Tryz.func134, Tryz.ntmps134
  go_wp2_with fail
  refine (at_any _ b s p H.out).mono ?_
  rintro _ w1 ⟨rfl, hg⟩
  have HG := Lib.hid hg; clear hg
  go_wp2_with fail
  refine (get_any _ b s p (H.out.grow HG.out)).mono ?_
  rintro e w2 ⟨hq, ho⟩
  have HO := Lib.hid (Only.before HG.out ho); clear ho
  cases hx : Top.lebP (rest s p) with
  | yes n k =>
    obtain ⟨rfl, hr⟩ := hq.is_yes hx
    have HR := Lib.hid hr; clear hr
    by_cases hm : m < n
    · have hmi : (m : Int) < (n : Int) := by omega
      have HX := Lib.hid (show Top.mostP m (rest s p) = .no 5 by unfold Top.mostP; rw [hx]; exact if_pos hm); clear hx hq
      go_wp2_with fail
      refine (seek_any _ b s (p + k) p HR.out H.out.2.1).mono ?_
      rintro _ w3 ⟨rfl, h1, h2⟩
      have H1 := Lib.hid h1; clear h1
      have H2 := Lib.hid (HO.out.trans h2); clear h2
      go_wp2_with fail
      go_ret2
      exact ⟨GotR.mkN HX.out ⟨rfl, H1.out⟩, H2.out⟩
    · have hmi : ¬ (m : Int) < (n : Int) := by omega
      have HX := Lib.hid (show Top.mostP m (rest s p) = .yes n k by unfold Top.mostP; rw [hx]; exact if_neg hm); clear hx hq
      go_wp2_with fail
      go_ret2
      exact ⟨GotR.mkY HX.out ⟨rfl, HR.out⟩, HO.out⟩
  | no er =>
    obtain ⟨rfl, hr⟩ := hq.is_no hx
    have HR := Lib.hid hr; clear hr
    have hne := leb_err hx
    have hne2 : ¬ (er : Int) = 0 := by omega
    have HX := Lib.hid (show Top.mostP m (rest s p) = .no er by unfold Top.mostP; rw [hx]; rfl); clear hx hq
    go_wp2_with fail
    go_ret2
    exact ⟨GotR.mkN HX.out ⟨rfl, HR.out⟩, HO.out⟩
theorem unfold_any (w : World) (n : Nat) (hn : n < 2 ^ 32) : Calls Tryz.prog 135 #[.int .u64 n] w fun e w' => e = .returned (.int .i64 (Top.unfoldI n)) ∧ w' = w := by
  go_enter Tryz.func135, Tryz.ntmps135
  go_wp2
  go_ret
  exact ⟨by rw [← unfold_eq n hn]; rfl, rfl⟩
end Go.Proofs.YtnhmdinpfcoebaaGreatDoor
end
