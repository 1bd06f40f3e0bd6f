/- Texts of the proof, merged: CfRow, CfCode, CfSys, CfClone, CfGreat. -/
import Derived.Test.YtnhmdinpfcoebaaGreatDoorM08
import Derived.Test.YtnhmdinpfcoebaaGreatDoorM31
/-! === CfRow -/
section
/- A number's range; what is told to be wrong; rows of numbers. -/
namespace Go.Proofs.YtnhmdinpfcoebaaGreatDoor.Sy
open Go.RowKit
set_option linter.unusedVariables false
set_option linter.unusedSimpArgs false
set_option maxRecDepth 100000
def inB (n lo hi : Int) : Bool := decide (lo ≤ n ∧ n ≤ hi)
theorem rng_any (w : World) (n lo hi : Int) (r : Bool) (hr : inB n lo hi = r) : Calls Tryz.prog 107 #[.int .i64 n, .int .i64 lo, .int .i64 hi] w fun e w' => e = .returned (.bool r) ∧ w' = w := by
  subst hr
  by_cases h1 : lo ≤ n
  · by_cases h2 : n ≤ hi
    · have hq : inB n lo hi = true := by simp [inB, h1, h2]
      rw [hq]
      have h1' : n ≥ lo := h1
      go_enter Tryz.func107, Tryz.ntmps107
      go_wp2
      go_ret
      exact ⟨rfl, rfl⟩
    · have hq : inB n lo hi = false := by simp [inB, h2]
      rw [hq]
      have h1' : n ≥ lo := h1
      go_enter Tryz.func107, Tryz.ntmps107
      go_wp2
      go_ret
      exact ⟨rfl, rfl⟩
  · have hq : inB n lo hi = false := by simp [inB, h1]
    rw [hq]
    go_enter Tryz.func107, Tryz.ntmps107
    go_wp2
    go_ret
    exact ⟨rfl, rfl⟩
/-- What is told to be wrong. -/
structure Ft where
  e : Int
  p : Int
  i : Int
  a : Int
def okF : Ft := ⟨0, 0, 0, 0⟩
abbrev faultC (f : Ft) : Array Value := #[.int .i64 f.e, .int .i64 f.p, .int .i64 f.i, .int .i64 f.a]
theorem info131 : (Tryz.prog.info? 131).map (·.size) = some 4 := by kernel_rfl
theorem fault_eq {f : Ft} {e p i a : Int} (h : f = ⟨e, p, i, a⟩) : faultC f = #[.int .i64 e, .int .i64 p, .int .i64 i, .int .i64 a] := by rw [h]
/-- The first of so many that is wrong. -/
def firstF (f : Nat → Ft) : Nat → Ft
  | 0 => okF
  | n + 1 => if (firstF f n).e = 0 then f n else firstF f n
theorem first_none (f : Nat → Ft) : ∀ n, (∀ j, j < n → f j = okF) → firstF f n = okF
  | 0, _ => rfl
  | n + 1, h => by
    rw [firstF, first_none f n (fun j hj => h j (by omega)), if_pos (show okF.e = 0 from rfl)]
    exact h n (by omega)
theorem first_hit (f : Nat → Ft) (k : Nat) (h : ∀ j, j < k → f j = okF) (hk : (f k).e ≠ 0) : ∀ n, k < n → firstF f n = f k
  | 0, hn => by omega
  | n + 1, hn => by
    rw [firstF]
    by_cases e : k = n
    · subst e
      rw [first_none f k h, if_pos (show okF.e = 0 from rfl)]
    · rw [first_hit f k h hk n (by omega), if_neg hk]
theorem first_cases (f : Nat → Ft) (hf : ∀ j, (f j).e = 0 → f j = okF) : ∀ n, (firstF f n = okF ∧ ∀ j, j < n → f j = okF) ∨ (∃ k, k < n ∧ (f k).e ≠ 0 ∧ (∀ j, j < k → f j = okF) ∧ firstF f n = f k)
  | 0 => .inl ⟨rfl, fun j hj => by omega⟩
  | n + 1 => by
    rcases first_cases f hf n with ⟨h1, h2⟩ | ⟨k, hk, he, hj, h1⟩
    · rw [firstF, h1, if_pos (show okF.e = 0 from rfl)]
      by_cases hz : (f n).e = 0
      · refine .inl ⟨hf n hz, fun j hj => ?_⟩
        rcases Nat.lt_succ_iff_lt_or_eq.1 hj with h | h
        · exact h2 j h
        · rw [h]; exact hf n hz
      · exact .inr ⟨n, by omega, hz, h2, rfl⟩
    · rw [firstF, h1, if_neg he]
      exact .inr ⟨k, by omega, he, hj, rfl⟩
def numP (ok : Bool) (p : Int) : Ft := if ok then okF else ⟨5, p, 0, 0⟩
theorem number_any (w : World) (ok : Bool) (p : Int) : Calls Tryz.prog 106 #[.bool ok, .int .i64 p] w fun r w' => r = .returned (.agg (faultC (numP ok p))) ∧ Grow w w' := by
  cases ok
  · go_enter Tryz.func106, Tryz.ntmps106
    go_wp2
    refine bodyPost_ret (v := .agg (faultC (numP false p))) (results_cell_row rfl _ _ w.heap.size 131 _ (0, 0) _ (by rfl) (heapAt_alloc_new w _) Tryz.underlying131 rfl info131) rfl ⟨rfl, Grow.alloc _ _⟩
  · go_enter Tryz.func106, Tryz.ntmps106
    go_wp2
    refine bodyPost_ret (v := .agg (faultC (numP true p))) (results_cell_row rfl _ _ w.heap.size 131 _ (0, 0) _ (by rfl) (heapAt_alloc_new w _) Tryz.underlying131 rfl info131) rfl ⟨rfl, Grow.alloc _ _⟩
def rowF (M : Nat → Int) (part lo hi : Int) (i : Nat) : Ft := if inB (M i) lo hi then okF else ⟨5, part, i, 1⟩
def rowP (n : Nat) (M : Nat → Int) (part lo hi : Int) : Ft := if 32 < n then ⟨4, part, 0, 0⟩ else firstF (rowF M part lo hi) n
abbrev zeroF : Array Value := #[.int .i64 0, .int .i64 0, .int .i64 0, .int .i64 0]
theorem store33 {ops : Array Oper} {rest : List Oper} {op : Oper} {a : Act} {w : World} {Q : Exit → Act → World → Prop} (hgd : op.guard = none) (x y : Operand) (ho : op.op = .store 131 x y)
    (g : Nat) {e0 p0 i0 a0 : Int} (e p i j : Int) (hx : a.eval x = .pointer (some ⟨g, 0, none⟩)) (hy : a.eval y = .agg #[.int .i64 e, .int .i64 p, .int .i64 i, .int .i64 j]) (hold : w.heap[g]? = some (.cells #[.int .i64 e0, .int .i64 p0, .int .i64 i0, .int .i64 a0] 131 (0, 0)))
    (h : ∀ w', w'.heap[g]? = some (.cells #[.int .i64 e, .int .i64 p, .int .i64 i, .int .i64 j] 131 (0, 0)) → Only g w w' → wpList Tryz.prog ops Q rest (a.put op.dst undef) w') : wpList Tryz.prog ops Q (op :: rest) a w :=
  wpList_store_blk hgd 131 x y ho g 131 _ _ hx hy hold rfl info131 (by simp [Value.oneCell']) h
theorem load33 {ops : Array Oper} {rest : List Oper} {op : Oper} {a : Act} {w : World} {Q : Exit → Act → World → Prop} (hgd : op.guard = none) (x : Operand) (ho : op.op = .load 131 x)
    (g : Nat) {e p i j : Int} (hx : a.eval x = .pointer (some ⟨g, 0, none⟩)) (hold : w.heap[g]? = some (.cells #[.int .i64 e, .int .i64 p, .int .i64 i, .int .i64 j] 131 (0, 0)))
    (h : wpList Tryz.prog ops Q rest (a.put op.dst (.agg #[.int .i64 e, .int .i64 p, .int .i64 i, .int .i64 j])) w) : wpList Tryz.prog ops Q (op :: rest) a w :=
  wpList_load_blk hgd 131 x ho g 131 _ _ hx hold Tryz.underlying131 rfl info131 h
set_option maxHeartbeats 2000000 in
theorem row_any (w : World) (A : Option Addr) (n c : Nat) (M : Nat → Int) (part lo hi : Int) (hM : MemAt w A n M) :
    Calls Tryz.prog 108 #[.slice A n c, .int .i64 part, .int .i64 lo, .int .i64 hi] w fun r w' => r = .returned (.agg (faultC (rowP n M part lo hi))) ∧ Grow w w' := by
  by_cases hn : 32 < n
  · have hn' : (n : Int) > 32 := by omega
    have hn2 : (32 : Int) < n := by omega
    rw [fault_eq (show rowP n M part lo hi = ⟨4, part, 0, 0⟩ by simp [rowP, hn])]
    clear hM
    go_enter Tryz.func108, Tryz.ntmps108
    go_wp2
    refine bodyPost_ret (v := .agg #[.int .i64 4, .int .i64 part, .int .i64 0, .int .i64 0]) (results_cell_row rfl _ _ w.heap.size 131 _ (0, 0) _ (by rfl) (heapAt_alloc_new w _) Tryz.underlying131 rfl info131) rfl ⟨rfl, Grow.alloc _ _⟩
  · have hn' : ¬ (n : Int) > 32 := by omega
    have hn2 : ¬ (32 : Int) < n := by omega
    have HM := Lib.hid hM; clear hM
    have HE := Lib.hid (show rowP n M part lo hi = firstF (rowF M part lo hi) n by simp [rowP, hn])
    go_enter Tryz.func108, Tryz.ntmps108
    go_wp2_with fail
    go_loopw [18, 9, 10] (fun i _ _ wr => ∃ k : Nat, k ≤ n ∧ i = .int .i64 k ∧ (∀ j, j < k → rowF M part lo hi j = okF) ∧ wr = w.alloc (.cells zeroF 131)) (fun i _ _ _ => n - (intOf i).toNat)
    case atStart => exact ⟨0, by omega, rfl, fun j hj => by omega, rfl⟩
    case round =>
      obtain ⟨k, hk, rfl, he, rfl⟩ := hrel
      have HK := Lib.hid he; clear he
      by_cases hlt : k < n
      · obtain ⟨a1, hA1, hm1⟩ := (HM.out.grow (Grow.alloc w (.cells zeroF 131))) (by omega)
        have m1 := hm1 k hlt
        rw [hA1]
        clear hm1 hA1
        have k0 : (0 : Int) ≤ (k : Int) := by omega
        have kn : (k : Int) < (n : Int) := by omega
        cases hb : inB (M k) lo hi
        · have HX := Lib.hid ((HE.out.trans (first_hit _ k HK.out (by simp [rowF, hb]) n hlt)).trans (show rowF M part lo hi k = ⟨5, part, k, 1⟩ by simp [rowF, hb]))
          have HB := Lib.hid hb; clear hb
          generalize M k = x at m1 HB
          go_wp2_with fail
          refine (rng_any _ x lo hi _ HB.out).mono ?_
          rintro _ _ ⟨rfl, rfl⟩
          go_wp2
          rw [fault_eq HX.out]
          refine bodyPost_ret (v := .agg #[.int .i64 5, .int .i64 part, .int .i64 k, .int .i64 1]) (results_cell_row rfl _ _ w.heap.size 131 _ (0, 0) _ (by rfl) (heapAt_alloc_new w _) Tryz.underlying131 rfl info131) rfl ⟨rfl, Grow.alloc _ _⟩
        · have HX := Lib.hid (show ∀ j, j < k + 1 → rowF M part lo hi j = okF from fun j hj => by
            rcases Nat.lt_succ_iff_lt_or_eq.1 hj with h | h
            · exact HK.out j h
            · rw [h]; simp [rowF, hb])
          have HB := Lib.hid hb; clear hb
          generalize M k = x at m1 HB
          go_wp2_with fail
          refine (rng_any _ x lo hi _ HB.out).mono ?_
          rintro _ _ ⟨rfl, rfl⟩
          go_wp2_with fail
          go_roundw
          case rel => exact ⟨k + 1, by omega, by go_num, HX.out, trivial⟩
          case measure => simp [intOf]; omega
      · have kn : ¬ (k : Int) < (n : Int) := by omega
        have HX := Lib.hid (HE.out.trans (first_none _ n (fun j hj => HK.out j (by omega))))
        go_wp2
        rw [HX.out]
        refine bodyPost_ret (v := .agg (faultC okF)) (results_cell_row rfl _ _ w.heap.size 131 _ (0, 0) _ (by rfl) (heapAt_alloc_new w _) Tryz.underlying131 rfl info131) rfl ⟨rfl, Grow.alloc _ _⟩
end Go.Proofs.YtnhmdinpfcoebaaGreatDoor.Sy
end

/-! === CfCode -/
section
/- Rows of values of some cells each; programs read; a cell stored. -/
namespace Go.Proofs.YtnhmdinpfcoebaaGreatDoor.Sy
open Go.RowKit
set_option linter.unusedVariables false
set_option linter.unusedSimpArgs false
set_option maxRecDepth 100000
/-- One cell of a block that is known whole, stored. -/
theorem wpList_store_cell {P : Program} {ops : Array Oper} {rest : List Oper} {op : Oper} {a : Act} {w : World} {Q : Exit → Act → World → Prop} (hgd : op.guard = none) (ty : TypeId) (x y : Operand) (ho : op.op = .store ty x y)
    (g j : Nat) (t : TypeId) (cs : Array Value) (v : Value) (hx : a.eval x = .pointer (some ⟨g, j, none⟩)) (hy : a.eval y = v) (h1 : v.oneCell' = true) (hi : (P.info? ty).map (·.size) = some 1)
    (hold : w.heap[g]? = some (.cells cs t (0, 0))) (hj : j < cs.size)
    (h : wpList P ops Q rest (a.put op.dst undef) (w.setCell ⟨g, j, none⟩ v)) : wpList P ops Q (op :: rest) a w :=
  wpList_plain hgd fun _ hK => by
    have := run_storeCells_cells (P := P) g j [v] 0 w (fun k hk => by
      have : k = 0 := by simp at hk; exact hk
      subst this
      rw [cell_block hold]; simp [hj]) (fun k hk => free_block hold _) (fun u hu => by simp at hu; subst hu; exact h1)
    have hc : v.cells = #[v] := by cases v <;> first | rfl | cases h1
    unfold Oper.wp execOp
    cases hq : P.info? ty with
    | none => simp [hq] at hi
    | some i =>
      have hs : i.size = 1 := by simpa [hq] using hi
      simp only [Nat.add_zero] at this
      simp [ho, hx, hy, Instr.storeAt, Instr.sureAddr, storeVar, sizeOf, typeInfo, hq, hc, hs, this]
      exact hK _ _ h
theorem set_whole {w : World} {g : Nat} {t : TypeId} {cs : Array Value} (hold : w.heap[g]? = some (.cells cs t (0, 0))) (j : Nat) (v : Value) : (w.setCell ⟨g, j, none⟩ v).heap[g]? = some (.cells (cs.setIfInBounds j v) t (0, 0)) := set_block hold j v
theorem info25 : (Tryz.prog.info? 25).map (·.size) = some 1 := by kernel_rfl
theorem info3 : (Tryz.prog.info? 3).map (·.size) = some 1 := by kernel_rfl
/-- The error of a fault, stored. -/
theorem store33e {ops : Array Oper} {rest : List Oper} {op : Oper} {a : Act} {w : World} {Q : Exit → Act → World → Prop} (hgd : op.guard = none) (x y : Operand) (ho : op.op = .store 25 x y)
    (g : Nat) {e0 p i j : Int} (e : Int) (hx : a.eval x = .pointer (some ⟨g, 0, none⟩)) (hy : a.eval y = .int .i64 e) (hold : w.heap[g]? = some (.cells #[.int .i64 e0, .int .i64 p, .int .i64 i, .int .i64 j] 131 (0, 0)))
    (h : ∀ w', w'.heap[g]? = some (.cells #[.int .i64 e, .int .i64 p, .int .i64 i, .int .i64 j] 131 (0, 0)) → Only g w w' → wpList Tryz.prog ops Q rest (a.put op.dst undef) w') : wpList Tryz.prog ops Q (op :: rest) a w :=
  wpList_store_cell hgd 25 x y ho g 0 131 _ _ hx hy rfl info25 hold (by simp) (h _ (set_whole hold 0 _) ((Only.refl g w).setCell 0 _))
/-- The place of a fault, stored. -/
theorem store33a {ops : Array Oper} {rest : List Oper} {op : Oper} {a : Act} {w : World} {Q : Exit → Act → World → Prop} (hgd : op.guard = none) (x y : Operand) (ho : op.op = .store 3 x y)
    (g : Nat) {e p i j0 : Int} (j : Int) (hx : a.eval x = .pointer (some ⟨g, 3, none⟩)) (hy : a.eval y = .int .i64 j) (hold : w.heap[g]? = some (.cells #[.int .i64 e, .int .i64 p, .int .i64 i, .int .i64 j0] 131 (0, 0)))
    (h : ∀ w', w'.heap[g]? = some (.cells #[.int .i64 e, .int .i64 p, .int .i64 i, .int .i64 j] 131 (0, 0)) → Only g w w' → wpList Tryz.prog ops Q rest (a.put op.dst undef) w') : wpList Tryz.prog ops Q (op :: rest) a w :=
  wpList_store_cell hgd 3 x y ho g 3 131 _ _ hx hy rfl info3 hold (by simp) (h _ (set_whole hold 3 _) ((Only.refl g w).setCell 3 _))

/-! ### Rows of values of s cells each -/
def rowCells (f : Nat → List Value) : Nat → List Value
  | 0 => []
  | n + 1 => rowCells f n ++ f n
theorem row_len {f : Nat → List Value} {s : Nat} (hf : ∀ j, (f j).length = s) : ∀ n, (rowCells f n).length = n * s
  | 0 => by simp [rowCells]
  | n + 1 => by rw [rowCells, List.length_append, row_len hf n, hf, Nat.succ_mul]
theorem row_get {f : Nat → List Value} {s : Nat} (hf : ∀ j, (f j).length = s) (j r : Nat) (hr : r < s) : ∀ n, j < n → (rowCells f n)[j * s + r]? = (f j)[r]?
  | 0, h => absurd h (Nat.not_lt_zero _)
  | n + 1, h => by
    rw [rowCells]
    by_cases e : j = n
    · subst e
      rw [List.getElem?_append_right (by rw [row_len hf]; omega), row_len hf, show j * s + r - j * s = r by omega]
    · have h1 : (j + 1) * s ≤ n * s := Nat.mul_le_mul_right s (by omega)
      rw [Nat.succ_mul] at h1
      rw [List.getElem?_append_left (by rw [row_len hf]; omega), row_get hf j r hr n (by omega)]
/-- A row that is read: n values from A on. -/
def RowAt (w : World) (A : Option Addr) (n s : Nat) (f : Nat → List Value) : Prop := 0 < n → ∃ a, A = some a ∧ ∀ j, j < n → ∀ r u, (f j)[r]? = some u → w.cell? ((a.add (j * s)).add r) = some u
theorem add_block (a : Addr) (i : Nat) : (a.add i).block = a.block := by unfold Addr.add; split <;> rfl
theorem add_zero' (a : Addr) : a.add 0 = a := rfl
theorem add_succ' (a : Addr) (r : Nat) : a.add (r + 1) = ⟨a.block, a.off + (r + 1), none⟩ := by unfold Addr.add; rw [if_neg (by omega)]
theorem RowAt.keep {w w' : World} {A : Option Addr} {n s : Nat} {f : Nat → List Value} (h : RowAt w A n s f) (hk : ∀ a, A = some a → a.block < w.heap.size → w'.heap[a.block]? = w.heap[a.block]?) : RowAt w' A n s f := fun hn => by
  obtain ⟨a, hA, hc⟩ := h hn
  refine ⟨a, hA, fun j hj r u hu => ?_⟩
  have h1 := hc j hj r u hu
  have h2 := cell_lt h1
  rw [add_block, add_block] at h2
  exact (World.cell?_of_block (by rw [add_block, add_block]; exact hk a hA h2)).trans h1
theorem RowAt.grow {w w' : World} {A : Option Addr} {n s : Nat} {f : Nat → List Value} (h : RowAt w A n s f) (hg : Grow w w') : RowAt w' A n s f := h.keep fun a _ hlt => hg.block _ hlt
theorem RowAt.less {w : World} {A : Option Addr} {n m s : Nat} {f : Nat → List Value} (h : RowAt w A n s f) (hm : m ≤ n) : RowAt w A m s f := fun hn => by
  obtain ⟨a, hA, hc⟩ := h (by omega)
  exact ⟨a, hA, fun j hj => hc j (by omega)⟩
theorem RowAt.of_eq {w : World} {A : Option Addr} {n s : Nat} {f g : Nat → List Value} (h : RowAt w A n s f) (hf : ∀ j, j < n → f j = g j) : RowAt w A n s g := fun hn => by
  obtain ⟨a, hA, hc⟩ := h hn
  exact ⟨a, hA, fun j hj r u hu => hc j hj r u (by rw [hf j hj]; exact hu)⟩
theorem RowAt.reads {w : World} {A : Option Addr} {n s : Nat} {f : Nat → List Value} (h : RowAt w A n s f) (hf : ∀ j, (f j).length = s) (hs : 0 < s) : Reads w w.heap.size s A n (rowCells f n) :=
  ⟨row_len hf n, fun hn => by
    obtain ⟨a, hA, hc⟩ := h hn
    refine ⟨a, hA, ?_, fun j u hu => ?_⟩
    · have h0 : ∃ u, (f 0)[0]? = some u := ⟨_, List.getElem?_eq_getElem (by rw [hf]; exact hs)⟩
      obtain ⟨u, hu⟩ := h0
      have := cell_lt (hc 0 hn 0 u hu)
      rw [add_block, add_block] at this; exact this
    · have hj : j < n * s := by have := (List.getElem?_eq_some_iff.1 hu).1; rw [row_len hf] at this; exact this
      have hq : j / s < n := Nat.div_lt_of_lt_mul (by rw [Nat.mul_comm]; exact hj)
      have hjd : j = j / s * s + j % s := by rw [Nat.mul_comm]; exact (Nat.div_add_mod j s).symm
      have hr : j % s < s := Nat.mod_lt _ hs
      rw [hjd, row_get hf (j / s) (j % s) hr n hq] at hu
      have := hc (j / s) hq (j % s) u hu
      rw [add_of_add, ← hjd] at this
      exact this⟩
theorem RowAt.of_own {w : World} {B n s : Nat} {e : TypeId} {v : Value} {f : Nat → List Value} (hf : ∀ j, (f j).length = s) (h : w.ownsRow B e s v n (rowCells f n)) : ∃ A cap, v = .slice A n cap ∧ n ≤ cap ∧ RowAt w A n s f ∧ ∀ a, A = some a → B ≤ a.block ∧ a.block < w.heap.size := by
  rcases h.2 with ⟨rfl, rfl⟩ | ⟨g, cap, cur, rfl, hB, hg, hcap, _, _, htake⟩
  · exact ⟨none, 0, rfl, Nat.le_refl _, fun h => absurd h (by omega), fun a h => by cases h⟩
  · refine ⟨_, cap, rfl, hcap, fun hn => ⟨_, rfl, fun j hj r u hu => ?_⟩, fun a ha => by injection ha with ha; subst ha; exact ⟨hB, heapAt_lt hg⟩⟩
    have hc := h.cells (g := g) rfl
    have hr : r < s := by have := (List.getElem?_eq_some_iff.1 hu).1; rw [hf] at this; exact this
    rw [add_of_add]
    exact hc (j * s + r) u ((row_get hf j r hr n hj).trans hu)
/-! ### Programs -/
structure Ins where
  op : Int
  a : Int
  b : Int
  c : Int
  d : Int
  k : BitVec 32
instance : Inhabited Ins := ⟨⟨0, 0, 0, 0, 0, 0⟩⟩
def insL (i : Ins) : List Value := [.int .i64 i.op, .int .i64 i.a, .int .i64 i.b, .int .i64 i.c, .int .i64 i.d, .int .u32 i.k.toNat]
theorem insL_len (C : Nat → Ins) (j : Nat) : (insL (C j)).length = 6 := rfl
def CodeAt (w : World) (A : Option Addr) (n : Nat) (C : Nat → Ins) : Prop := RowAt w A n 6 fun j => insL (C j)
theorem CodeAt.at {w : World} {A : Option Addr} {n : Nat} {C : Nat → Ins} (h : CodeAt w A n C) (j : Nat) (hj : j < n) : ∃ a, A = some a ∧
    w.cell? (a.add (j * 6)) = some (.int .i64 (C j).op) ∧ w.cell? ⟨(a.add (j * 6)).block, (a.add (j * 6)).off + 1, none⟩ = some (.int .i64 (C j).a) ∧ w.cell? ⟨(a.add (j * 6)).block, (a.add (j * 6)).off + 2, none⟩ = some (.int .i64 (C j).b) ∧
    w.cell? ⟨(a.add (j * 6)).block, (a.add (j * 6)).off + 3, none⟩ = some (.int .i64 (C j).c) ∧ w.cell? ⟨(a.add (j * 6)).block, (a.add (j * 6)).off + 4, none⟩ = some (.int .i64 (C j).d) ∧ w.cell? ⟨(a.add (j * 6)).block, (a.add (j * 6)).off + 5, none⟩ = some (.int .u32 (C j).k.toNat) := by
  obtain ⟨a, hA, hc⟩ := h (by omega)
  have k := hc j hj
  refine ⟨a, hA, k 0 _ rfl, ?_, ?_, ?_, ?_, ?_⟩
  · have := k 1 _ rfl; rw [add_succ'] at this; exact this
  · have := k 2 _ rfl; rw [add_succ'] at this; exact this
  · have := k 3 _ rfl; rw [add_succ'] at this; exact this
  · have := k 4 _ rfl; rw [add_succ'] at this; exact this
  · have := k 5 _ rfl; rw [add_succ'] at this; exact this
def chk (i : Ins) (n : Nat) (isr : Bool) : Int := checkP i.op i.a i.b i.c i.d i.k.toNat n isr
theorem chk_any (i : Ins) (n : Nat) (isr : Bool) (hn : (n : Int) ≤ 1000000) (w : World) : Calls Tryz.prog 166 #[.agg #[.int .i64 i.op, .int .i64 i.a, .int .i64 i.b, .int .i64 i.c, .int .i64 i.d, .int .u32 i.k.toNat], .int .i64 n, .bool isr] w fun e w' => e = .returned (.int .i64 (chk i n isr)) ∧ Grow w w' :=
  check_any _ _ _ _ _ _ _ _ (by omega) (by have := i.k.isLt; omega) (by omega) (by omega) w
def codeF (C : Nat → Ins) (n : Nat) (isr : Bool) (k : Nat) : Ft := if chk (C k) n isr = 0 then okF else ⟨chk (C k) n isr, 0, 0, 1 + (k : Int)⟩
/-- What is wrong with a program: the error, and the place behind that of its length. -/
def codeQ (n : Nat) (C : Nat → Ins) (isr : Bool) : Ft := if 256 < n then ⟨4, 0, 0, 0⟩ else firstF (codeF C n isr) n
def codeP (n : Nat) (C : Nat → Ins) (isr : Bool) (p i at_ : Int) : Ft := if (codeQ n C isr).e = 0 then okF else ⟨(codeQ n C isr).e, p, i, at_ + (codeQ n C isr).a⟩
attribute [local irreducible] chk
set_option maxHeartbeats 4000000 in
theorem code_any (w : World) (A : Option Addr) (n c : Nat) (C : Nat → Ins) (isr : Bool) (e p i at0 at_ : Int) (h0 : 0 ≤ at_) (h1 : at_ ≤ 100) (hC : CodeAt w A n C) :
    Calls Tryz.prog 137 #[.slice A n c, .bool isr, .agg #[.int .i64 e, .int .i64 p, .int .i64 i, .int .i64 at0], .int .i64 at_] w fun r w' => r = .returned (.agg (faultC (codeP n C isr p i at_))) ∧ Grow w w' := by
  by_cases hn : 256 < n
  · have hn' : (n : Int) > 256 := by omega
    have hn2 : (256 : Int) < n := by omega
    have hq : codeP n C isr p i at_ = ⟨4, p, i, at_⟩ := by simp [codeP, codeQ, hn]
    rw [fault_eq hq]
    clear hC hq
    go_enter Tryz.func137, Tryz.ntmps137
    go_wp2
    refine bodyPost_ret (v := .agg #[.int .i64 4, .int .i64 p, .int .i64 i, .int .i64 at_]) (results_cell_row rfl _ _ (w.heap.size + 1) 131 _ (0, 0) _ (by rfl) (heap_alloc2_new w _ _) Tryz.underlying131 rfl info131) rfl ⟨rfl, (Grow.alloc _ _).trans (Grow.alloc _ _)⟩
  · have hn' : ¬ (n : Int) > 256 := by omega
    have hn2 : ¬ (256 : Int) < n := by omega
    have HC := Lib.hid hC; clear hC
    have HE := Lib.hid (show codeQ n C isr = firstF (codeF C n isr) n by simp [codeQ, hn])
    go_enter Tryz.func137, Tryz.ntmps137
    go_wp2_with fail
    have hX : ((w.alloc (.cells #[.int .i64 e, .int .i64 p, .int .i64 i, .int .i64 at_] 131)).alloc (.cells zeroF 131)).heap[w.heap.size]? = some (.cells #[.int .i64 e, .int .i64 p, .int .i64 i, .int .i64 at_] 131 (0, 0)) := (heapAt_alloc_old _ _ (by simp)).trans (heapAt_alloc_new w _)
    have hZ : ((w.alloc (.cells #[.int .i64 e, .int .i64 p, .int .i64 i, .int .i64 at_] 131)).alloc (.cells zeroF 131)).heap[w.heap.size + 1]? = some (.cells zeroF 131 (0, 0)) := heap_alloc2_new w _ _
    have hG : Grow w ((w.alloc (.cells #[.int .i64 e, .int .i64 p, .int .i64 i, .int .i64 at_] 131)).alloc (.cells zeroF 131)) := (Grow.alloc _ _).trans (Grow.alloc _ _)
    generalize (w.alloc (.cells #[.int .i64 e, .int .i64 p, .int .i64 i, .int .i64 at_] 131)).alloc (.cells zeroF 131) = w1 at hX hZ hG ⊢
    have HX := Lib.hid hX; clear hX
    have HZ := Lib.hid hZ; clear hZ
    have HG := Lib.hid hG; clear hG
    go_loopw [21, 9, 10, 11] (fun x _ _ _ wr => ∃ k : Nat, k ≤ n ∧ x = .int .i64 k ∧ (∀ j, j < k → codeF C n isr j = okF) ∧ Grow w1 wr) (fun x _ _ _ _ => n - (intOf x).toNat)
    case atStart => exact ⟨0, by omega, rfl, fun j hj => by omega, Grow.refl _⟩
    case round =>
      obtain ⟨k, hk, rfl, he, hg⟩ := hrel
      have HK := Lib.hid he; clear he
      by_cases hlt : k < n
      · obtain ⟨ca, hCA, c0, c1, c2, c3, c4, c5⟩ := CodeAt.at ((HC.out.grow HG.out).grow hg) k hlt
        rw [hCA]
        clear hCA
        have k0 : (0 : Int) ≤ (k : Int) := by omega
        have kn : (k : Int) < (n : Int) := by omega
        have HGr := Lib.hid (hg.trans (Grow.alloc wr (.cells #[.int .i64 (C k).op, .int .i64 (C k).a, .int .i64 (C k).b, .int .i64 (C k).c, .int .i64 (C k).d, .int .u32 (C k).k.toNat] 64))); clear hg
        go_wp2_with fail
        refine (chk_any (C k) n isr (by omega) _).mono ?_
        rintro _ w2 ⟨rfl, hg2⟩
        clear c0 c1 c2 c3 c4 c5
        have HG2 := Lib.hid (HGr.out.trans hg2); clear HGr hg2
        by_cases hz : chk (C k) n isr = 0
        · have HX2 := Lib.hid (show ∀ j, j < k + 1 → codeF C n isr j = okF from fun j hj => by
            rcases Nat.lt_succ_iff_lt_or_eq.1 hj with h | h
            · exact HK.out j h
            · rw [h]; simp [codeF, hz])
          rw [hz]
          clear hz
          go_wp2_with fail
          go_roundw
          case rel => exact ⟨k + 1, by omega, by go_num, HX2.out, HG2.out⟩
          case measure => simp [intOf]; omega
        · have HQ := Lib.hid (show codeP n C isr p i at_ = ⟨chk (C k) n isr, p, i, at_ + 1 + k⟩ by
            have hq := HE.out.trans (first_hit _ k HK.out (by simp [codeF, hz]) n hlt)
            have hf : codeF C n isr k = ⟨chk (C k) n isr, 0, 0, 1 + (k : Int)⟩ := by simp [codeF, hz]
            rw [hf] at hq
            simp [codeP, hq, hz]; omega)
          have hz2 : (chk (C k) n isr != 0) = true := by simp [hz]
          generalize chk (C k) n isr = x at *
          have hX2 := HG2.out.at HX.out
          have hZ2 := HG2.out.at HZ.out
          have r1 : at_ + 1 + (k : Int) ≤ 400 := by omega
          go_wp2_with (first
            | ((with_reducible refine store33e rfl _ _ rfl w.heap.size x ?_ ?_ hX2 ?_); (· rfl); (· rfl); intro w3 hX3 ho3)
            | ((with_reducible refine store33a rfl _ _ rfl w.heap.size (at_ + 1 + k) ?_ ?_ hX3 ?_); (· rfl); (· rfl); intro w4 hX4 ho4)
            | ((with_reducible refine load33 rfl _ rfl w.heap.size ?_ hX4 ?_); (· rfl))
            | ((with_reducible refine store33 rfl _ _ rfl (w.heap.size + 1) x p i (at_ + 1 + k) ?_ ?_ (ho4.at (by omega) (ho3.at (by omega) hZ2)) ?_); (· rfl); (· rfl); intro w5 hb5 ho5))
          rw [fault_eq HQ.out]
          refine bodyPost_ret (v := .agg #[.int .i64 x, .int .i64 p, .int .i64 i, .int .i64 (at_ + 1 + k)]) (results_cell_row rfl _ _ (w.heap.size + 1) 131 _ (0, 0) _ (by rfl) hb5 Tryz.underlying131 rfl info131) rfl ⟨rfl, (((HG.out.trans HG2.out).only ho3 (Nat.le_refl _)).only ho4 (Nat.le_refl _)).only ho5 (by omega)⟩
      · have kn : ¬ (k : Int) < (n : Int) := by omega
        have HQ := Lib.hid (show codeP n C isr p i at_ = okF by simp [codeP, HE.out.trans (first_none _ n (fun j hj => HK.out j (by omega))), okF])
        have hZ2 := hg.at HZ.out
        have HGe := Lib.hid hg; clear hg
        go_wp2_with (first
          | ((with_reducible refine store33 rfl _ _ rfl (w.heap.size + 1) 0 0 0 0 ?_ ?_ hZ2 ?_); (· rfl); (· rfl); intro w5 hb5 ho5))
        rw [fault_eq HQ.out]
        refine bodyPost_ret (v := .agg zeroF) (results_cell_row rfl _ _ (w.heap.size + 1) 131 _ (0, 0) _ (by rfl) hb5 Tryz.underlying131 rfl info131) rfl ⟨rfl, (HG.out.trans HGe.out).only ho5 (by omega)⟩
end Go.Proofs.YtnhmdinpfcoebaaGreatDoor.Sy
end

/-! === CfSys -/
section
/- A system just read; what is wrong with it, plainly; a task's walk. -/
namespace Go.Proofs.YtnhmdinpfcoebaaGreatDoor.Sy
open Go.RowKit
set_option linter.unusedVariables false
set_option linter.unusedSimpArgs false
set_option maxRecDepth 100000
structure Tk where
  lv : Int
  off : Int
  per : Int
  dl : Int
  mem : Int
  cn : Nat
  C : Nat → Ins
structure Ln where
  mem : Int
  cn : Nat
  C : Nat → Ins
structure Cf where
  tn : Nat
  T : Nat → Tk
  ln : Nat
  L : Nat → Ln
  mx : Int
  sn : Nat
  S : Nat → Int
  qn : Nat
  Q : Nat → Int
  mn : Nat
  M : Nat → Int
  table : Int
  mask : BitVec 32
  filter : Int
  charge : Int
  cycle : Int
  count : Int
def tkL (t : Tk) (v : Value) : List Value := [.int .i64 t.lv, .int .i64 t.off, .int .i64 t.per, .int .i64 t.dl, .int .i64 t.mem, v]
def lnL (l : Ln) (v : Value) : List Value := [.int .i64 l.mem, v]
def CodeV (w : World) (v : Value) (n : Nat) (C : Nat → Ins) : Prop := ∃ A cap, v = .slice A n cap ∧ n ≤ cap ∧ CodeAt w A n C
def NumsV (w : World) (v : Value) (n : Nat) (M : Nat → Int) : Prop := ∃ A cap, v = .slice A n cap ∧ n ≤ cap ∧ MemAt w A n M
def TasksV (w : World) (v : Value) (n : Nat) (T : Nat → Tk) : Prop := ∃ A cap, ∃ cv : Nat → Value, v = .slice A n cap ∧ n ≤ cap ∧ RowAt w A n 6 (fun j => tkL (T j) (cv j)) ∧ ∀ j, j < n → CodeV w (cv j) (T j).cn (T j).C
def LinesV (w : World) (v : Value) (n : Nat) (L : Nat → Ln) : Prop := ∃ A cap, ∃ cv : Nat → Value, v = .slice A n cap ∧ n ≤ cap ∧ RowAt w A n 2 (fun j => lnL (L j) (cv j)) ∧ ∀ j, j < n → CodeV w (cv j) (L j).cn (L j).C
abbrev cfC (tv lv sv qv mv : Value) (X : Cf) : Array Value := #[tv, lv, .int .i64 X.mx, sv, qv, mv, .int .i64 X.table, .int .u32 X.mask.toNat, .int .u32 X.filter, .int .i64 X.charge, .int .u64 X.cycle, .int .u64 X.count]
/-- A system that is read. -/
structure ConfV (w : World) (tv lv sv qv mv : Value) (X : Cf) : Prop where
  t : TasksV w tv X.tn X.T
  l : LinesV w lv X.ln X.L
  s : NumsV w sv X.sn X.S
  q : NumsV w qv X.qn X.Q
  m : NumsV w mv X.mn X.M
theorem CodeV.grow {w w' : World} {v : Value} {n : Nat} {C : Nat → Ins} (h : CodeV w v n C) (hg : Grow w w') : CodeV w' v n C := by
  obtain ⟨A, cap, h1, h2, h3⟩ := h
  exact ⟨A, cap, h1, h2, RowAt.grow h3 hg⟩
theorem NumsV.grow {w w' : World} {v : Value} {n : Nat} {M : Nat → Int} (h : NumsV w v n M) (hg : Grow w w') : NumsV w' v n M := by
  obtain ⟨A, cap, h1, h2, h3⟩ := h
  exact ⟨A, cap, h1, h2, h3.grow hg⟩
theorem TasksV.grow {w w' : World} {v : Value} {n : Nat} {T : Nat → Tk} (h : TasksV w v n T) (hg : Grow w w') : TasksV w' v n T := by
  obtain ⟨A, cap, cv, h1, h2, h3, h4⟩ := h
  exact ⟨A, cap, cv, h1, h2, h3.grow hg, fun j hj => (h4 j hj).grow hg⟩
theorem LinesV.grow {w w' : World} {v : Value} {n : Nat} {T : Nat → Ln} (h : LinesV w v n T) (hg : Grow w w') : LinesV w' v n T := by
  obtain ⟨A, cap, cv, h1, h2, h3, h4⟩ := h
  exact ⟨A, cap, cv, h1, h2, h3.grow hg, fun j hj => (h4 j hj).grow hg⟩
theorem ConfV.grow {w w' : World} {tv lv sv qv mv : Value} {X : Cf} (h : ConfV w tv lv sv qv mv X) (hg : Grow w w') : ConfV w' tv lv sv qv mv X := ⟨h.t.grow hg, h.l.grow hg, h.s.grow hg, h.q.grow hg, h.m.grow hg⟩
theorem tasks_at {w : World} {A : Option Addr} {n : Nat} {T : Nat → Tk} {cv : Nat → Value} (h : RowAt w A n 6 (fun j => tkL (T j) (cv j))) (j : Nat) (hj : j < n) : ∃ a, A = some a ∧
    w.cell? (a.add (j * 6)) = some (.int .i64 (T j).lv) ∧ w.cell? ⟨(a.add (j * 6)).block, (a.add (j * 6)).off + 1, none⟩ = some (.int .i64 (T j).off) ∧ w.cell? ⟨(a.add (j * 6)).block, (a.add (j * 6)).off + 2, none⟩ = some (.int .i64 (T j).per) ∧
    w.cell? ⟨(a.add (j * 6)).block, (a.add (j * 6)).off + 3, none⟩ = some (.int .i64 (T j).dl) ∧ w.cell? ⟨(a.add (j * 6)).block, (a.add (j * 6)).off + 4, none⟩ = some (.int .i64 (T j).mem) ∧ w.cell? ⟨(a.add (j * 6)).block, (a.add (j * 6)).off + 5, none⟩ = some (cv j) := by
  obtain ⟨a, hA, hc⟩ := h (by omega)
  have k := hc j hj
  refine ⟨a, hA, k 0 _ rfl, ?_, ?_, ?_, ?_, ?_⟩
  · have := k 1 _ rfl; rw [add_succ'] at this; exact this
  · have := k 2 _ rfl; rw [add_succ'] at this; exact this
  · have := k 3 _ rfl; rw [add_succ'] at this; exact this
  · have := k 4 _ rfl; rw [add_succ'] at this; exact this
  · have := k 5 _ rfl; rw [add_succ'] at this; exact this
theorem lines_at {w : World} {A : Option Addr} {n : Nat} {L : Nat → Ln} {cv : Nat → Value} (h : RowAt w A n 2 (fun j => lnL (L j) (cv j))) (j : Nat) (hj : j < n) : ∃ a, A = some a ∧
    w.cell? (a.add (j * 2)) = some (.int .i64 (L j).mem) ∧ w.cell? ⟨(a.add (j * 2)).block, (a.add (j * 2)).off + 1, none⟩ = some (cv j) := by
  obtain ⟨a, hA, hc⟩ := h (by omega)
  have k := hc j hj
  refine ⟨a, hA, k 0 _ rfl, ?_⟩
  have := k 1 _ rfl; rw [add_succ'] at this; exact this
/-! ### What is wrong -/
def taskP (t : Tk) (i : Int) : Ft :=
  if inB t.lv 0 31 = false then ⟨5, 1, i, 1⟩ else if inB t.off 1 1073741824 = false then ⟨5, 1, i, 2⟩ else if inB t.per 0 1073741824 = false then ⟨5, 1, i, 3⟩ else if inB t.dl 0 1073741824 = false then ⟨5, 1, i, 4⟩
  else if inB t.mem 0 256 = false then ⟨5, 1, i, 5⟩ else codeP t.cn t.C false 1 i 6
def lineP (l : Ln) (i : Int) : Ft := if inB l.mem 0 256 = false then ⟨5, 2, i, 1⟩ else codeP l.cn l.C true 2 i 2
def tasksP (n : Nat) (T : Nat → Tk) : Ft := if 64 < n then ⟨4, 1, 0, 0⟩ else firstF (fun j => taskP (T j) j) n
def linesP (n : Nat) (L : Nat → Ln) : Ft := if 16 < n then ⟨4, 2, 0, 0⟩ else firstF (fun j => lineP (L j) j) n
def orF (f g : Ft) : Ft := if f.e = 0 then g else f
def maskOk (m : BitVec 32) (n : Nat) : Bool := decide (m.toNat / 2 ^ (min n 16) = 0)
def progP (X : Cf) : Ft := orF (tasksP X.tn X.T) (linesP X.ln X.L)
def sysP (X : Cf) : Ft := orF (progP X) (orF (numP (inB X.mx 0 32) 3) (orF (rowP X.sn X.S 4 0 255) (orF (rowP X.qn X.Q 5 1 64) (orF (rowP X.mn X.M 6 0 ((X.sn : Int) - 1)) (orF (numP (inB X.table 0 64) 7) (orF (numP (maskOk X.mask X.ln) 8) (numP (inB X.charge 0 64) 9)))))))
/-- Nothing wrong is told one way. -/
def Clean (f : Ft) : Prop := f.e = 0 → f = okF
theorem clean_codeP (n : Nat) (C : Nat → Ins) (isr : Bool) (p i a : Int) : Clean (codeP n C isr p i a) := by
  intro h
  unfold codeP at h ⊢
  split
  · rfl
  · rename_i hz; rw [if_neg hz] at h; exact absurd h hz
theorem clean_first (f : Nat → Ft) (hf : ∀ j, Clean (f j)) (n : Nat) : Clean (firstF f n) := by
  intro h
  rcases first_cases f hf n with ⟨h1, _⟩ | ⟨k, _, he, _, h1⟩
  · exact h1
  · rw [h1] at h; exact absurd h he
theorem clean_task (t : Tk) (i : Int) : Clean (taskP t i) := by
  unfold taskP
  repeat' split
  all_goals first | exact clean_codeP _ _ _ _ _ _ | (intro h; cases h)
theorem clean_line (t : Ln) (i : Int) : Clean (lineP t i) := by
  unfold lineP
  repeat' split
  all_goals first | exact clean_codeP _ _ _ _ _ _ | (intro h; cases h)
theorem clean_tasks (n : Nat) (T : Nat → Tk) : Clean (tasksP n T) := by
  unfold tasksP
  split
  · intro h; cases h
  · exact clean_first _ (fun j => clean_task _ _) n
theorem clean_lines (n : Nat) (T : Nat → Ln) : Clean (linesP n T) := by
  unfold linesP
  split
  · intro h; cases h
  · exact clean_first _ (fun j => clean_line _ _) n
theorem clean_num (b : Bool) (p : Int) : Clean (numP b p) := by
  cases b
  · intro h; cases h
  · intro h; rfl
theorem clean_row (n : Nat) (M : Nat → Int) (p lo hi : Int) : Clean (rowP n M p lo hi) := by
  unfold rowP
  split
  · intro h; cases h
  · refine clean_first _ (fun j => ?_) n
    unfold rowF
    split
    · intro h; rfl
    · intro h; cases h
theorem clean_or {f g : Ft} (hg : Clean g) : Clean (orF f g) := by
  unfold orF
  split
  · exact hg
  · intro h; rename_i hz; exact absurd h hz
attribute [local irreducible] inB codeP
set_option maxHeartbeats 8000000 in
theorem task_any (w : World) (t : Tk) (v : Value) (i : Int) (hv : CodeV w v t.cn t.C) :
    Calls Tryz.prog 136 #[.agg #[.int .i64 t.lv, .int .i64 t.off, .int .i64 t.per, .int .i64 t.dl, .int .i64 t.mem, v], .int .i64 i] w fun r w' => r = .returned (.agg (faultC (taskP t i))) ∧ Grow w w' := by
  obtain ⟨A, cap, rfl, hcap, hC⟩ := hv
  have HC := Lib.hid hC; clear hC
  have HP := Lib.hid (show taskP t i = taskP t i from rfl)
  unfold taskP
  have H1 := Lib.hid (fun w => rng_any w t.lv 0 31 _ rfl)
  have H2 := Lib.hid (fun w => rng_any w t.off 1 1073741824 _ rfl)
  have H3 := Lib.hid (fun w => rng_any w t.per 0 1073741824 _ rfl)
  have H4 := Lib.hid (fun w => rng_any w t.dl 0 1073741824 _ rfl)
  have H5 := Lib.hid (fun w => rng_any w t.mem 0 256 _ rfl)
  generalize inB t.lv 0 31 = b1 at *
  generalize inB t.off 1 1073741824 = b2 at *
  generalize inB t.per 0 1073741824 = b3 at *
  generalize inB t.dl 0 1073741824 = b4 at *
  generalize inB t.mem 0 256 = b5 at *
  go_enter Tryz.func136, Tryz.ntmps136
  go_wp2_with fail
  have hX : (((w.alloc (.cells #[.int .i64 t.lv, .int .i64 t.off, .int .i64 t.per, .int .i64 t.dl, .int .i64 t.mem, .slice A t.cn cap] 67)).alloc (.cells zeroF 131)).alloc (.cells #[.int .i64 5, .int .i64 1, .int .i64 i, .int .i64 0] 131)).heap[w.heap.size]? = some (.cells #[.int .i64 t.lv, .int .i64 t.off, .int .i64 t.per, .int .i64 t.dl, .int .i64 t.mem, .slice A t.cn cap] 67 (0, 0)) := (heapAt_alloc_old _ _ (by simp; omega)).trans ((heapAt_alloc_old _ _ (by simp)).trans (heapAt_alloc_new w _))
  have hR : (((w.alloc (.cells #[.int .i64 t.lv, .int .i64 t.off, .int .i64 t.per, .int .i64 t.dl, .int .i64 t.mem, .slice A t.cn cap] 67)).alloc (.cells zeroF 131)).alloc (.cells #[.int .i64 5, .int .i64 1, .int .i64 i, .int .i64 0] 131)).heap[w.heap.size + 1]? = some (.cells zeroF 131 (0, 0)) := (heapAt_alloc_old _ _ (by simp)).trans (heap_alloc2_new w _ _)
  have hF : (((w.alloc (.cells #[.int .i64 t.lv, .int .i64 t.off, .int .i64 t.per, .int .i64 t.dl, .int .i64 t.mem, .slice A t.cn cap] 67)).alloc (.cells zeroF 131)).alloc (.cells #[.int .i64 5, .int .i64 1, .int .i64 i, .int .i64 0] 131)).heap[w.heap.size + 2]? = some (.cells #[.int .i64 5, .int .i64 1, .int .i64 i, .int .i64 0] 131 (0, 0)) := by
    have := heapAt_alloc_new ((w.alloc (.cells #[.int .i64 t.lv, .int .i64 t.off, .int .i64 t.per, .int .i64 t.dl, .int .i64 t.mem, .slice A t.cn cap] 67)).alloc (.cells zeroF 131)) (.cells #[.int .i64 5, .int .i64 1, .int .i64 i, .int .i64 0] 131)
    simpa using this
  have hG : Grow w (((w.alloc (.cells #[.int .i64 t.lv, .int .i64 t.off, .int .i64 t.per, .int .i64 t.dl, .int .i64 t.mem, .slice A t.cn cap] 67)).alloc (.cells zeroF 131)).alloc (.cells #[.int .i64 5, .int .i64 1, .int .i64 i, .int .i64 0] 131)) := ((Grow.alloc _ _).trans (Grow.alloc _ _)).trans (Grow.alloc _ _)
  generalize ((w.alloc (.cells #[.int .i64 t.lv, .int .i64 t.off, .int .i64 t.per, .int .i64 t.dl, .int .i64 t.mem, .slice A t.cn cap] 67)).alloc (.cells zeroF 131)).alloc (.cells #[.int .i64 5, .int .i64 1, .int .i64 i, .int .i64 0] 131) = w1 at hX hR hF hG ⊢
  have d0 := cell_block hX 0
  have d1 := cell_block hX 1
  have d2 := cell_block hX 2
  have d3 := cell_block hX 3
  have d4 := cell_block hX 4
  have d5 := cell_block hX 5
  simp at d0 d1 d2 d3 d4 d5
  clear hX
  have HR := Lib.hid hR; clear hR
  have HF := Lib.hid hF; clear hF
  have HG := Lib.hid hG; clear hG
  have HP := Lib.hid (show True from trivial)
  refine (H1.out _).mono ?_
  rintro _ _ ⟨rfl, rfl⟩
  cases b1
  · go_wp2_with (first
      | ((with_reducible refine store33a rfl _ _ rfl (w.heap.size + 2) 1 ?_ ?_ HF.out ?_); (· rfl); (· rfl); intro w3 hX3 ho3)
      | ((with_reducible refine load33 rfl _ rfl (w.heap.size + 2) ?_ hX3 ?_); (· rfl))
      | ((with_reducible refine store33 rfl _ _ rfl (w.heap.size + 1) 5 1 i 1 ?_ ?_ (ho3.at (by omega) HR.out) ?_); (· rfl); (· rfl); intro w5 hb5 ho5))
    (try simp only [if_true, if_false, reduceCtorEq, Bool.true_eq_false])
    refine bodyPost_ret (v := .agg #[.int .i64 5, .int .i64 1, .int .i64 i, .int .i64 1]) (results_cell_row rfl _ _ (w.heap.size + 1) 131 _ (0, 0) _ (by rfl) hb5 Tryz.underlying131 rfl info131) rfl ⟨rfl, (HG.out.only ho3 (by omega)).only ho5 (by omega)⟩
  · go_wp2_with fail
    refine (H2.out _).mono ?_
    rintro _ _ ⟨rfl, rfl⟩
    cases b2
    · go_wp2_with (first
        | ((with_reducible refine store33a rfl _ _ rfl (w.heap.size + 2) 2 ?_ ?_ HF.out ?_); (· rfl); (· rfl); intro w3 hX3 ho3)
        | ((with_reducible refine load33 rfl _ rfl (w.heap.size + 2) ?_ hX3 ?_); (· rfl))
        | ((with_reducible refine store33 rfl _ _ rfl (w.heap.size + 1) 5 1 i 2 ?_ ?_ (ho3.at (by omega) HR.out) ?_); (· rfl); (· rfl); intro w5 hb5 ho5))
      (try simp only [if_true, if_false, reduceCtorEq, Bool.true_eq_false])
      refine bodyPost_ret (v := .agg #[.int .i64 5, .int .i64 1, .int .i64 i, .int .i64 2]) (results_cell_row rfl _ _ (w.heap.size + 1) 131 _ (0, 0) _ (by rfl) hb5 Tryz.underlying131 rfl info131) rfl ⟨rfl, (HG.out.only ho3 (by omega)).only ho5 (by omega)⟩
    · go_wp2_with fail
      refine (H3.out _).mono ?_
      rintro _ _ ⟨rfl, rfl⟩
      cases b3
      · go_wp2_with (first
          | ((with_reducible refine store33a rfl _ _ rfl (w.heap.size + 2) 3 ?_ ?_ HF.out ?_); (· rfl); (· rfl); intro w3 hX3 ho3)
          | ((with_reducible refine load33 rfl _ rfl (w.heap.size + 2) ?_ hX3 ?_); (· rfl))
          | ((with_reducible refine store33 rfl _ _ rfl (w.heap.size + 1) 5 1 i 3 ?_ ?_ (ho3.at (by omega) HR.out) ?_); (· rfl); (· rfl); intro w5 hb5 ho5))
        (try simp only [if_true, if_false, reduceCtorEq, Bool.true_eq_false])
        refine bodyPost_ret (v := .agg #[.int .i64 5, .int .i64 1, .int .i64 i, .int .i64 3]) (results_cell_row rfl _ _ (w.heap.size + 1) 131 _ (0, 0) _ (by rfl) hb5 Tryz.underlying131 rfl info131) rfl ⟨rfl, (HG.out.only ho3 (by omega)).only ho5 (by omega)⟩
      · go_wp2_with fail
        refine (H4.out _).mono ?_
        rintro _ _ ⟨rfl, rfl⟩
        cases b4
        · go_wp2_with (first
            | ((with_reducible refine store33a rfl _ _ rfl (w.heap.size + 2) 4 ?_ ?_ HF.out ?_); (· rfl); (· rfl); intro w3 hX3 ho3)
            | ((with_reducible refine load33 rfl _ rfl (w.heap.size + 2) ?_ hX3 ?_); (· rfl))
            | ((with_reducible refine store33 rfl _ _ rfl (w.heap.size + 1) 5 1 i 4 ?_ ?_ (ho3.at (by omega) HR.out) ?_); (· rfl); (· rfl); intro w5 hb5 ho5))
          (try simp only [if_true, if_false, reduceCtorEq, Bool.true_eq_false])
          refine bodyPost_ret (v := .agg #[.int .i64 5, .int .i64 1, .int .i64 i, .int .i64 4]) (results_cell_row rfl _ _ (w.heap.size + 1) 131 _ (0, 0) _ (by rfl) hb5 Tryz.underlying131 rfl info131) rfl ⟨rfl, (HG.out.only ho3 (by omega)).only ho5 (by omega)⟩
        · go_wp2_with fail
          refine (H5.out _).mono ?_
          rintro _ _ ⟨rfl, rfl⟩
          cases b5
          · go_wp2_with (first
              | ((with_reducible refine store33a rfl _ _ rfl (w.heap.size + 2) 5 ?_ ?_ HF.out ?_); (· rfl); (· rfl); intro w3 hX3 ho3)
              | ((with_reducible refine load33 rfl _ rfl (w.heap.size + 2) ?_ hX3 ?_); (· rfl))
              | ((with_reducible refine store33 rfl _ _ rfl (w.heap.size + 1) 5 1 i 5 ?_ ?_ (ho3.at (by omega) HR.out) ?_); (· rfl); (· rfl); intro w5 hb5 ho5))
            (try simp only [if_true, if_false, reduceCtorEq, Bool.true_eq_false])
            refine bodyPost_ret (v := .agg #[.int .i64 5, .int .i64 1, .int .i64 i, .int .i64 5]) (results_cell_row rfl _ _ (w.heap.size + 1) 131 _ (0, 0) _ (by rfl) hb5 Tryz.underlying131 rfl info131) rfl ⟨rfl, (HG.out.only ho3 (by omega)).only ho5 (by omega)⟩
          · go_wp2_with (first | ((with_reducible refine load33 rfl _ rfl (w.heap.size + 2) ?_ HF.out ?_); (· rfl)))
            refine (code_any _ A t.cn cap t.C false 5 1 i 0 6 (by omega) (by omega) (HC.out.grow HG.out)).mono ?_
            rintro _ w3 ⟨rfl, hg3⟩
            have HR3 := Lib.hid (hg3.at HR.out)
            have HG3 := Lib.hid (HG.out.trans hg3)
            clear hg3 d0 d1 d2 d3 d4 d5
            (try simp only [if_true, if_false, reduceCtorEq, Bool.true_eq_false])
            go_wp2_with (first | ((with_reducible refine store33 rfl _ _ rfl (w.heap.size + 1) (codeP t.cn t.C false 1 i 6).e (codeP t.cn t.C false 1 i 6).p (codeP t.cn t.C false 1 i 6).i (codeP t.cn t.C false 1 i 6).a ?_ ?_ HR3.out ?_); (· rfl); (· rfl); intro w5 hb5 ho5))
            refine bodyPost_ret (v := .agg (faultC (codeP t.cn t.C false 1 i 6))) (results_cell_row rfl _ _ (w.heap.size + 1) 131 _ (0, 0) _ (by rfl) hb5 Tryz.underlying131 rfl info131) rfl ⟨rfl, HG3.out.only ho5 (by omega)⟩
end Go.Proofs.YtnhmdinpfcoebaaGreatDoor.Sy
end

/-! === CfClone -/
section
/- The four Clones. -/
namespace Go.Proofs.YtnhmdinpfcoebaaGreatDoor.Sy
open Go.RowKit
set_option linter.unusedVariables false
set_option linter.unusedSimpArgs false
set_option maxRecDepth 100000
theorem info_parts {o : Option TypeInfo} {z : Option Value} {s b : Nat} (h : o.map (fun i => (i.zero, i.size, i.bytes)) = some (z, s, b)) : ∃ i, o = some i ∧ i.zero = z ∧ i.size = s ∧ i.bytes = b := by
  cases o with
  | none => cases h
  | some i =>
    simp at h
    exact ⟨i, rfl, h.1, h.2.1, h.2.2⟩
/-- All cells of a row are single. -/
def Ones (f : Nat → List Value) : Prop := ∀ j, ∀ u ∈ f j, u.oneCell' = true
theorem row_ones {f : Nat → List Value} (h : Ones f) : ∀ n, ∀ u ∈ rowCells f n, u.oneCell' = true
  | 0, u, hu => by simp [rowCells] at hu
  | n + 1, u, hu => by
    rw [rowCells, List.mem_append] at hu
    rcases hu with hu | hu
    · exact row_ones h n u hu
    · exact h n u hu
theorem info67z : (Tryz.prog.info? 67).map (fun i => (i.zero, i.size, i.bytes)) = some (some (.agg #[.int .i64 0, .int .i64 0, .int .i64 0, .int .i64 0, .int .i64 0, .slice none 0 0]), 6, 64) := by kernel_rfl
set_option maxHeartbeats 2000000 in
theorem clone22_any (w : World) (A : Option Addr) (n cap : Nat) (f : Nat → List Value) (hf : ∀ j, (f j).length = 6) (ho : Ones f) (hn : (n : Int) ≤ 100000) (hR : RowAt w A n 6 f) :
    Calls Tryz.prog 109 #[.slice A n cap] w fun e w' => ∃ v, e = .returned v ∧ w'.ownsRow w.heap.size 67 6 v n (rowCells f n) ∧ Grow w w' := by
  cases A with
  | none =>
    have h0 : n = 0 := by
      rcases Nat.eq_zero_or_pos n with h | h
      · exact h
      · obtain ⟨a, h1, _⟩ := hR h; cases h1
    subst h0
    clear hR
    have hq : Sem.run Tryz.prog (binOp .eql 68 (.slice none 0 cap) (.slice none 0 0)) w = .ok (.bool true) w := by
      have := run_equal_slice_nil (P := Tryz.prog) w 68 67 none 0 cap Tryz.underlying68
      simp [binOp, this]
    go_enter Tryz.func109, Tryz.ntmps109
    go_wp2
    go_ret
    exact ⟨_, rfl, ⟨rfl, .inl ⟨rfl, rfl⟩⟩, Grow.refl _⟩
  | some ad =>
    obtain ⟨i0, hi, hz0, hz1, hz2⟩ := info_parts info67z
    have HR := Lib.hid (hR.reads hf (by decide)); clear hR
    have HO := Lib.hid ho; clear ho
    have HF := Lib.hid hf; clear hf
    have hq : Sem.run Tryz.prog (binOp .eql 68 (.slice (some ad) n cap) (.slice none 0 0)) w = .ok (.bool false) w := by
      have := run_equal_slice_nil (P := Tryz.prog) w 68 67 (some ad) n cap Tryz.underlying68
      simp [binOp, this]
    go_enter Tryz.func109, Tryz.ntmps109
    go_wp2_with (at_builtin; refine wpList_append_any _ rfl (.tmp 5) (.tmp 6) 68 rfl w.heap.size 67 i0 (.agg #[.int .i64 0, .int .i64 0, .int .i64 0, .int .i64 0, .int .i64 0, .slice none 0 0]) 6 64 Tryz.underlying68 hi hz0 hz1 hz2 rfl (by decide) _ 0 [] (by rfl) ?c1 w.heap.size (some ad) n cap (rowCells f n) (by rfl) ?c2 ?c3 ?c4 ?c5 ?c6 ?c7)
    case c1 => exact World.ownsRow_made (base := w.heap.size) (e := 67) (size := 6) w #[] 0 (Nat.le_refl _) (by unfold maxLen; omega) rfl
    case c2 => exact HR.out.alloc (Nat.le_refl _) _
    case c3 => exact row_ones HO.out n
    case c4 => unfold maxLen; omega
    case c5 => omega
    case c6 => simp
    case c7 =>
      intro v' w1 hown1 hgrow hblk
      have hg : Grow w w1 := Below.trans (Grow.alloc w (.cells #[] 67)) (below_grown hgrow (by simp) (fun k hk => by simp [Value.ownBlock] at hk; omega))
      go_wp2
      go_ret
      exact ⟨v', rfl, hown1, hg⟩
theorem info192z : (Tryz.prog.info? 192).map (fun i => (i.zero, i.size, i.bytes)) = some (some (.agg #[.int .i64 0, .slice none 0 0]), 2, 32) := by kernel_rfl
set_option maxHeartbeats 2000000 in
theorem clone23_any (w : World) (A : Option Addr) (n cap : Nat) (f : Nat → List Value) (hf : ∀ j, (f j).length = 2) (ho : Ones f) (hn : (n : Int) ≤ 100000) (hR : RowAt w A n 2 f) :
    Calls Tryz.prog 110 #[.slice A n cap] w fun e w' => ∃ v, e = .returned v ∧ w'.ownsRow w.heap.size 192 2 v n (rowCells f n) ∧ Grow w w' := by
  cases A with
  | none =>
    have h0 : n = 0 := by
      rcases Nat.eq_zero_or_pos n with h | h
      · exact h
      · obtain ⟨a, h1, _⟩ := hR h; cases h1
    subst h0
    clear hR
    have hq : Sem.run Tryz.prog (binOp .eql 69 (.slice none 0 cap) (.slice none 0 0)) w = .ok (.bool true) w := by
      have := run_equal_slice_nil (P := Tryz.prog) w 69 192 none 0 cap Tryz.underlying69
      simp [binOp, this]
    go_enter Tryz.func110, Tryz.ntmps110
    go_wp2
    go_ret
    exact ⟨_, rfl, ⟨rfl, .inl ⟨rfl, rfl⟩⟩, Grow.refl _⟩
  | some ad =>
    obtain ⟨i0, hi, hz0, hz1, hz2⟩ := info_parts info192z
    have HR := Lib.hid (hR.reads hf (by decide)); clear hR
    have HO := Lib.hid ho; clear ho
    have HF := Lib.hid hf; clear hf
    have hq : Sem.run Tryz.prog (binOp .eql 69 (.slice (some ad) n cap) (.slice none 0 0)) w = .ok (.bool false) w := by
      have := run_equal_slice_nil (P := Tryz.prog) w 69 192 (some ad) n cap Tryz.underlying69
      simp [binOp, this]
    go_enter Tryz.func110, Tryz.ntmps110
    go_wp2_with (at_builtin; refine wpList_append_any _ rfl (.tmp 5) (.tmp 6) 69 rfl w.heap.size 192 i0 (.agg #[.int .i64 0, .slice none 0 0]) 2 32 Tryz.underlying69 hi hz0 hz1 hz2 rfl (by decide) _ 0 [] (by rfl) ?c1 w.heap.size (some ad) n cap (rowCells f n) (by rfl) ?c2 ?c3 ?c4 ?c5 ?c6 ?c7)
    case c1 => exact World.ownsRow_made (base := w.heap.size) (e := 192) (size := 2) w #[] 0 (Nat.le_refl _) (by unfold maxLen; omega) rfl
    case c2 => exact HR.out.alloc (Nat.le_refl _) _
    case c3 => exact row_ones HO.out n
    case c4 => unfold maxLen; omega
    case c5 => omega
    case c6 => simp
    case c7 =>
      intro v' w1 hown1 hgrow hblk
      have hg : Grow w w1 := Below.trans (Grow.alloc w (.cells #[] 192)) (below_grown hgrow (by simp) (fun k hk => by simp [Value.ownBlock] at hk; omega))
      go_wp2
      go_ret
      exact ⟨v', rfl, hown1, hg⟩
theorem info64z : (Tryz.prog.info? 64).map (fun i => (i.zero, i.size, i.bytes)) = some (some (.agg #[.int .i64 0, .int .i64 0, .int .i64 0, .int .i64 0, .int .i64 0, .int .u32 0]), 6, 48) := by kernel_rfl
set_option maxHeartbeats 2000000 in
theorem clone37_any (w : World) (A : Option Addr) (n cap : Nat) (f : Nat → List Value) (hf : ∀ j, (f j).length = 6) (ho : Ones f) (hn : (n : Int) ≤ 100000) (hR : RowAt w A n 6 f) :
    Calls Tryz.prog 111 #[.slice A n cap] w fun e w' => ∃ v, e = .returned v ∧ w'.ownsRow w.heap.size 64 6 v n (rowCells f n) ∧ Grow w w' := by
  cases A with
  | none =>
    have h0 : n = 0 := by
      rcases Nat.eq_zero_or_pos n with h | h
      · exact h
      · obtain ⟨a, h1, _⟩ := hR h; cases h1
    subst h0
    clear hR
    have hq : Sem.run Tryz.prog (binOp .eql 65 (.slice none 0 cap) (.slice none 0 0)) w = .ok (.bool true) w := by
      have := run_equal_slice_nil (P := Tryz.prog) w 65 64 none 0 cap Tryz.underlying65
      simp [binOp, this]
    go_enter Tryz.func111, Tryz.ntmps111
    go_wp2
    go_ret
    exact ⟨_, rfl, ⟨rfl, .inl ⟨rfl, rfl⟩⟩, Grow.refl _⟩
  | some ad =>
    obtain ⟨i0, hi, hz0, hz1, hz2⟩ := info_parts info64z
    have HR := Lib.hid (hR.reads hf (by decide)); clear hR
    have HO := Lib.hid ho; clear ho
    have HF := Lib.hid hf; clear hf
    have hq : Sem.run Tryz.prog (binOp .eql 65 (.slice (some ad) n cap) (.slice none 0 0)) w = .ok (.bool false) w := by
      have := run_equal_slice_nil (P := Tryz.prog) w 65 64 (some ad) n cap Tryz.underlying65
      simp [binOp, this]
    go_enter Tryz.func111, Tryz.ntmps111
    go_wp2_with (at_builtin; refine wpList_append_any _ rfl (.tmp 5) (.tmp 6) 65 rfl w.heap.size 64 i0 (.agg #[.int .i64 0, .int .i64 0, .int .i64 0, .int .i64 0, .int .i64 0, .int .u32 0]) 6 48 Tryz.underlying65 hi hz0 hz1 hz2 rfl (by decide) _ 0 [] (by rfl) ?c1 w.heap.size (some ad) n cap (rowCells f n) (by rfl) ?c2 ?c3 ?c4 ?c5 ?c6 ?c7)
    case c1 => exact World.ownsRow_made (base := w.heap.size) (e := 64) (size := 6) w #[] 0 (Nat.le_refl _) (by unfold maxLen; omega) rfl
    case c2 => exact HR.out.alloc (Nat.le_refl _) _
    case c3 => exact row_ones HO.out n
    case c4 => unfold maxLen; omega
    case c5 => omega
    case c6 => simp
    case c7 =>
      intro v' w1 hown1 hgrow hblk
      have hg : Grow w w1 := Below.trans (Grow.alloc w (.cells #[] 64)) (below_grown hgrow (by simp) (fun k hk => by simp [Value.ownBlock] at hk; omega))
      go_wp2
      go_ret
      exact ⟨v', rfl, hown1, hg⟩
theorem info3z : (Tryz.prog.info? 3).map (fun i => (i.zero, i.size, i.bytes)) = some (some (.int .i64 0), 1, 8) := by kernel_rfl
set_option maxHeartbeats 2000000 in
theorem clone24_any (w : World) (A : Option Addr) (n cap : Nat) (f : Nat → List Value) (hf : ∀ j, (f j).length = 1) (ho : Ones f) (hn : (n : Int) ≤ 100000) (hR : RowAt w A n 1 f) :
    Calls Tryz.prog 112 #[.slice A n cap] w fun e w' => ∃ v, e = .returned v ∧ w'.ownsRow w.heap.size 3 1 v n (rowCells f n) ∧ Grow w w' := by
  cases A with
  | none =>
    have h0 : n = 0 := by
      rcases Nat.eq_zero_or_pos n with h | h
      · exact h
      · obtain ⟨a, h1, _⟩ := hR h; cases h1
    subst h0
    clear hR
    have hq : Sem.run Tryz.prog (binOp .eql 60 (.slice none 0 cap) (.slice none 0 0)) w = .ok (.bool true) w := by
      have := run_equal_slice_nil (P := Tryz.prog) w 60 3 none 0 cap Tryz.underlying60
      simp [binOp, this]
    go_enter Tryz.func112, Tryz.ntmps112
    go_wp2
    go_ret
    exact ⟨_, rfl, ⟨rfl, .inl ⟨rfl, rfl⟩⟩, Grow.refl _⟩
  | some ad =>
    obtain ⟨i0, hi, hz0, hz1, hz2⟩ := info_parts info3z
    have HR := Lib.hid (hR.reads hf (by decide)); clear hR
    have HO := Lib.hid ho; clear ho
    have HF := Lib.hid hf; clear hf
    have hq : Sem.run Tryz.prog (binOp .eql 60 (.slice (some ad) n cap) (.slice none 0 0)) w = .ok (.bool false) w := by
      have := run_equal_slice_nil (P := Tryz.prog) w 60 3 (some ad) n cap Tryz.underlying60
      simp [binOp, this]
    go_enter Tryz.func112, Tryz.ntmps112
    go_wp2_with (at_builtin; refine wpList_append_any _ rfl (.tmp 5) (.tmp 6) 60 rfl w.heap.size 3 i0 (.int .i64 0) 1 8 Tryz.underlying60 hi hz0 hz1 hz2 rfl (by decide) _ 0 [] (by rfl) ?c1 w.heap.size (some ad) n cap (rowCells f n) (by rfl) ?c2 ?c3 ?c4 ?c5 ?c6 ?c7)
    case c1 => exact World.ownsRow_made (base := w.heap.size) (e := 3) (size := 1) w #[] 0 (Nat.le_refl _) (by unfold maxLen; omega) rfl
    case c2 => exact HR.out.alloc (Nat.le_refl _) _
    case c3 => exact row_ones HO.out n
    case c4 => unfold maxLen; omega
    case c5 => omega
    case c6 => simp
    case c7 =>
      intro v' w1 hown1 hgrow hblk
      have hg : Grow w w1 := Below.trans (Grow.alloc w (.cells #[] 3)) (below_grown hgrow (by simp) (fun k hk => by simp [Value.ownBlock] at hk; omega))
      go_wp2
      go_ret
      exact ⟨v', rfl, hown1, hg⟩

end Go.Proofs.YtnhmdinpfcoebaaGreatDoor.Sy
end

/-! === CfGreat -/
section
/- Great: the walk. -/
namespace Go.Proofs.YtnhmdinpfcoebaaGreatDoor.Sy
open Go.RowKit
set_option linter.unusedVariables false
set_option linter.unusedSimpArgs false
set_option maxRecDepth 100000
/-- Not too great. -/
structure Small (X : Cf) : Prop where
  t : X.tn ≤ 70
  l : X.ln ≤ 20
  s : X.sn ≤ 40
  q : X.qn ≤ 40
  m : X.mn ≤ 40
  tc : ∀ j, j < X.tn → (X.T j).cn ≤ 300
  lc : ∀ j, j < X.ln → (X.L j).cn ≤ 300
end Go.Proofs.YtnhmdinpfcoebaaGreatDoor.Sy
end
