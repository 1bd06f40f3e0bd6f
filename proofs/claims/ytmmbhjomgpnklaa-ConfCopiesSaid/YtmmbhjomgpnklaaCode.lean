/- Rows of values of some cells each; programs read; a cell stored. -/
import Derived.Test.YtmmbhjomgpnklaaRow
import Derived.Test.YtmmbhjomgpnklaaCost
namespace Go.Proofs.Ytmmbhjomgpnklaa
open Go.RowKit
set_option linter.unusedVariables false
set_option linter.unusedSimpArgs false
set_option maxRecDepth 100000
/-- One cell of a block that is known whole, stored. -/
theorem wpList_store_cell {P : Program} {ops : Array Oper} {rest : List Oper} {op : Oper} {a : Act} {w : World} {Q : Exit → Act → World → Prop} (hgd : op.guard = none) (ty : TypeId) (x y : Operand) (ho : op.op = .store ty x y)
    (g j : Nat) (t : TypeId) (cs : Array Value) (v : Value) (hx : a.eval x = .pointer (some ⟨g, j, none⟩)) (hy : a.eval y = v) (h1 : v.oneCell' = true) (hi : (P.info? ty).map (·.size) = some 1)
    (hold : w.heap[g]? = some (.cells cs t (0, 0))) (hj : j < cs.size)
    (h : wpList P ops Q rest (a.put op.dst undef) (w.setCell ⟨g, j, none⟩ v)) : wpList P ops Q (op :: rest) a w :=
  wpList_plain hgd fun _ hK => by
    have := run_storeCells_cells (P := P) g j [v] 0 w (fun k hk => by
      have : k = 0 := by simp at hk; exact hk
      subst this
      rw [cell_block hold]; simp [hj]) (fun k hk => free_block hold _) (fun u hu => by simp at hu; subst hu; exact h1)
    have hc : v.cells = #[v] := by cases v <;> first | rfl | cases h1
    unfold Oper.wp execOp
    cases hq : P.info? ty with
    | none => simp [hq] at hi
    | some i =>
      have hs : i.size = 1 := by simpa [hq] using hi
      simp only [Nat.add_zero] at this
      simp [ho, hx, hy, Instr.storeAt, Instr.sureAddr, storeVar, sizeOf, typeInfo, hq, hc, hs, this]
      exact hK _ _ h
theorem set_whole {w : World} {g : Nat} {t : TypeId} {cs : Array Value} (hold : w.heap[g]? = some (.cells cs t (0, 0))) (j : Nat) (v : Value) : (w.setCell ⟨g, j, none⟩ v).heap[g]? = some (.cells (cs.setIfInBounds j v) t (0, 0)) := set_block hold j v
theorem info31 : (Try.prog.info? 31).map (·.size) = some 1 := by kernel_rfl
theorem info3 : (Try.prog.info? 3).map (·.size) = some 1 := by kernel_rfl
/-- The error of a fault, stored. -/
theorem store33e {ops : Array Oper} {rest : List Oper} {op : Oper} {a : Act} {w : World} {Q : Exit → Act → World → Prop} (hgd : op.guard = none) (x y : Operand) (ho : op.op = .store 31 x y)
    (g : Nat) {e0 p i j : Int} (e : Int) (hx : a.eval x = .pointer (some ⟨g, 0, none⟩)) (hy : a.eval y = .int .i64 e) (hold : w.heap[g]? = some (.cells #[.int .i64 e0, .int .i64 p, .int .i64 i, .int .i64 j] 33 (0, 0)))
    (h : ∀ w', w'.heap[g]? = some (.cells #[.int .i64 e, .int .i64 p, .int .i64 i, .int .i64 j] 33 (0, 0)) → Only g w w' → wpList Try.prog ops Q rest (a.put op.dst undef) w') : wpList Try.prog ops Q (op :: rest) a w :=
  wpList_store_cell hgd 31 x y ho g 0 33 _ _ hx hy rfl info31 hold (by simp) (h _ (set_whole hold 0 _) ((Only.refl g w).setCell 0 _))
/-- The place of a fault, stored. -/
theorem store33a {ops : Array Oper} {rest : List Oper} {op : Oper} {a : Act} {w : World} {Q : Exit → Act → World → Prop} (hgd : op.guard = none) (x y : Operand) (ho : op.op = .store 3 x y)
    (g : Nat) {e p i j0 : Int} (j : Int) (hx : a.eval x = .pointer (some ⟨g, 3, none⟩)) (hy : a.eval y = .int .i64 j) (hold : w.heap[g]? = some (.cells #[.int .i64 e, .int .i64 p, .int .i64 i, .int .i64 j0] 33 (0, 0)))
    (h : ∀ w', w'.heap[g]? = some (.cells #[.int .i64 e, .int .i64 p, .int .i64 i, .int .i64 j] 33 (0, 0)) → Only g w w' → wpList Try.prog ops Q rest (a.put op.dst undef) w') : wpList Try.prog ops Q (op :: rest) a w :=
  wpList_store_cell hgd 3 x y ho g 3 33 _ _ hx hy rfl info3 hold (by simp) (h _ (set_whole hold 3 _) ((Only.refl g w).setCell 3 _))

/-! ### Rows of values of s cells each -/
def rowCells (f : Nat → List Value) : Nat → List Value
  | 0 => []
  | n + 1 => rowCells f n ++ f n
theorem row_len {f : Nat → List Value} {s : Nat} (hf : ∀ j, (f j).length = s) : ∀ n, (rowCells f n).length = n * s
  | 0 => by simp [rowCells]
  | n + 1 => by rw [rowCells, List.length_append, row_len hf n, hf, Nat.succ_mul]
theorem row_get {f : Nat → List Value} {s : Nat} (hf : ∀ j, (f j).length = s) (j r : Nat) (hr : r < s) : ∀ n, j < n → (rowCells f n)[j * s + r]? = (f j)[r]?
  | 0, h => absurd h (Nat.not_lt_zero _)
  | n + 1, h => by
    rw [rowCells]
    by_cases e : j = n
    · subst e
      rw [List.getElem?_append_right (by rw [row_len hf]; omega), row_len hf, show j * s + r - j * s = r by omega]
    · have h1 : (j + 1) * s ≤ n * s := Nat.mul_le_mul_right s (by omega)
      rw [Nat.succ_mul] at h1
      rw [List.getElem?_append_left (by rw [row_len hf]; omega), row_get hf j r hr n (by omega)]
/-- A row that is read: n values from A on. -/
def RowAt (w : World) (A : Option Addr) (n s : Nat) (f : Nat → List Value) : Prop := 0 < n → ∃ a, A = some a ∧ ∀ j, j < n → ∀ r u, (f j)[r]? = some u → w.cell? ((a.add (j * s)).add r) = some u
theorem add_block (a : Addr) (i : Nat) : (a.add i).block = a.block := by unfold Addr.add; split <;> rfl
theorem add_zero' (a : Addr) : a.add 0 = a := rfl
theorem add_succ' (a : Addr) (r : Nat) : a.add (r + 1) = ⟨a.block, a.off + (r + 1), none⟩ := by unfold Addr.add; rw [if_neg (by omega)]
theorem RowAt.keep {w w' : World} {A : Option Addr} {n s : Nat} {f : Nat → List Value} (h : RowAt w A n s f) (hk : ∀ a, A = some a → a.block < w.heap.size → w'.heap[a.block]? = w.heap[a.block]?) : RowAt w' A n s f := fun hn => by
  obtain ⟨a, hA, hc⟩ := h hn
  refine ⟨a, hA, fun j hj r u hu => ?_⟩
  have h1 := hc j hj r u hu
  have h2 := cell_lt h1
  rw [add_block, add_block] at h2
  exact (World.cell?_of_block (by rw [add_block, add_block]; exact hk a hA h2)).trans h1
theorem RowAt.grow {w w' : World} {A : Option Addr} {n s : Nat} {f : Nat → List Value} (h : RowAt w A n s f) (hg : Grow w w') : RowAt w' A n s f := h.keep fun a _ hlt => hg.block _ hlt
theorem RowAt.less {w : World} {A : Option Addr} {n m s : Nat} {f : Nat → List Value} (h : RowAt w A n s f) (hm : m ≤ n) : RowAt w A m s f := fun hn => by
  obtain ⟨a, hA, hc⟩ := h (by omega)
  exact ⟨a, hA, fun j hj => hc j (by omega)⟩
theorem RowAt.of_eq {w : World} {A : Option Addr} {n s : Nat} {f g : Nat → List Value} (h : RowAt w A n s f) (hf : ∀ j, j < n → f j = g j) : RowAt w A n s g := fun hn => by
  obtain ⟨a, hA, hc⟩ := h hn
  exact ⟨a, hA, fun j hj r u hu => hc j hj r u (by rw [hf j hj]; exact hu)⟩
theorem RowAt.reads {w : World} {A : Option Addr} {n s : Nat} {f : Nat → List Value} (h : RowAt w A n s f) (hf : ∀ j, (f j).length = s) (hs : 0 < s) : Reads w w.heap.size s A n (rowCells f n) :=
  ⟨row_len hf n, fun hn => by
    obtain ⟨a, hA, hc⟩ := h hn
    refine ⟨a, hA, ?_, fun j u hu => ?_⟩
    · have h0 : ∃ u, (f 0)[0]? = some u := ⟨_, List.getElem?_eq_getElem (by rw [hf]; exact hs)⟩
      obtain ⟨u, hu⟩ := h0
      have := cell_lt (hc 0 hn 0 u hu)
      rw [add_block, add_block] at this; exact this
    · have hj : j < n * s := by have := (List.getElem?_eq_some_iff.1 hu).1; rw [row_len hf] at this; exact this
      have hq : j / s < n := Nat.div_lt_of_lt_mul (by rw [Nat.mul_comm]; exact hj)
      have hjd : j = j / s * s + j % s := by rw [Nat.mul_comm]; exact (Nat.div_add_mod j s).symm
      have hr : j % s < s := Nat.mod_lt _ hs
      rw [hjd, row_get hf (j / s) (j % s) hr n hq] at hu
      have := hc (j / s) hq (j % s) u hu
      rw [add_of_add, ← hjd] at this
      exact this⟩
theorem RowAt.of_own {w : World} {B n s : Nat} {e : TypeId} {v : Value} {f : Nat → List Value} (hf : ∀ j, (f j).length = s) (h : w.ownsRow B e s v n (rowCells f n)) : ∃ A cap, v = .slice A n cap ∧ n ≤ cap ∧ RowAt w A n s f ∧ ∀ a, A = some a → B ≤ a.block ∧ a.block < w.heap.size := by
  rcases h.2 with ⟨rfl, rfl⟩ | ⟨g, cap, cur, rfl, hB, hg, hcap, _, _, htake⟩
  · exact ⟨none, 0, rfl, Nat.le_refl _, fun h => absurd h (by omega), fun a h => by cases h⟩
  · refine ⟨_, cap, rfl, hcap, fun hn => ⟨_, rfl, fun j hj r u hu => ?_⟩, fun a ha => by injection ha with ha; subst ha; exact ⟨hB, heapAt_lt hg⟩⟩
    have hc := h.cells (g := g) rfl
    have hr : r < s := by have := (List.getElem?_eq_some_iff.1 hu).1; rw [hf] at this; exact this
    rw [add_of_add]
    exact hc (j * s + r) u ((row_get hf j r hr n hj).trans hu)
/-! ### Programs -/
structure Ins where
  op : Int
  a : Int
  b : Int
  c : Int
  d : Int
  k : BitVec 32
instance : Inhabited Ins := ⟨⟨0, 0, 0, 0, 0, 0⟩⟩
def insL (i : Ins) : List Value := [.int .i64 i.op, .int .i64 i.a, .int .i64 i.b, .int .i64 i.c, .int .i64 i.d, .int .u32 i.k.toNat]
theorem insL_len (C : Nat → Ins) (j : Nat) : (insL (C j)).length = 6 := rfl
def CodeAt (w : World) (A : Option Addr) (n : Nat) (C : Nat → Ins) : Prop := RowAt w A n 6 fun j => insL (C j)
theorem CodeAt.at {w : World} {A : Option Addr} {n : Nat} {C : Nat → Ins} (h : CodeAt w A n C) (j : Nat) (hj : j < n) : ∃ a, A = some a ∧
    w.cell? (a.add (j * 6)) = some (.int .i64 (C j).op) ∧ w.cell? ⟨(a.add (j * 6)).block, (a.add (j * 6)).off + 1, none⟩ = some (.int .i64 (C j).a) ∧ w.cell? ⟨(a.add (j * 6)).block, (a.add (j * 6)).off + 2, none⟩ = some (.int .i64 (C j).b) ∧
    w.cell? ⟨(a.add (j * 6)).block, (a.add (j * 6)).off + 3, none⟩ = some (.int .i64 (C j).c) ∧ w.cell? ⟨(a.add (j * 6)).block, (a.add (j * 6)).off + 4, none⟩ = some (.int .i64 (C j).d) ∧ w.cell? ⟨(a.add (j * 6)).block, (a.add (j * 6)).off + 5, none⟩ = some (.int .u32 (C j).k.toNat) := by
  obtain ⟨a, hA, hc⟩ := h (by omega)
  have k := hc j hj
  refine ⟨a, hA, k 0 _ rfl, ?_, ?_, ?_, ?_, ?_⟩
  · have := k 1 _ rfl; rw [add_succ'] at this; exact this
  · have := k 2 _ rfl; rw [add_succ'] at this; exact this
  · have := k 3 _ rfl; rw [add_succ'] at this; exact this
  · have := k 4 _ rfl; rw [add_succ'] at this; exact this
  · have := k 5 _ rfl; rw [add_succ'] at this; exact this
def chk (i : Ins) (n : Nat) (isr : Bool) : Int := checkP i.op i.a i.b i.c i.d i.k.toNat n isr
theorem chk_any (i : Ins) (n : Nat) (isr : Bool) (hn : (n : Int) ≤ 1000000) (w : World) : Calls Try.prog 34 #[.agg #[.int .i64 i.op, .int .i64 i.a, .int .i64 i.b, .int .i64 i.c, .int .i64 i.d, .int .u32 i.k.toNat], .int .i64 n, .bool isr] w fun e w' => e = .returned (.int .i64 (chk i n isr)) ∧ Grow w w' :=
  check_any _ _ _ _ _ _ _ _ (by omega) (by have := i.k.isLt; omega) (by omega) (by omega) w
theorem chkRef_any (i : Ins) (n : Nat) (isr : Bool) (hn : (n : Int) ≤ 1000000) (w : World) : Calls Try.prog 33 #[.agg #[.int .i64 i.op, .int .i64 i.a, .int .i64 i.b, .int .i64 i.c, .int .i64 i.d, .int .u32 i.k.toNat], .int .i64 n, .bool isr] w fun e w' => e = .returned (.int .i64 (chk i n isr)) ∧ Grow w w' :=
  checkRef_any _ _ _ _ _ _ _ _ (by omega) (by have := i.k.isLt; omega) (by omega) (by omega) w
def codeF (C : Nat → Ins) (n : Nat) (isr : Bool) (k : Nat) : Ft := if chk (C k) n isr = 0 then okF else ⟨chk (C k) n isr, 0, 0, 1 + (k : Int)⟩
/-- What is wrong with a program: the error, and the place behind that of its length. -/
def codeQ (n : Nat) (C : Nat → Ins) (isr : Bool) : Ft := if 256 < n then ⟨4, 0, 0, 0⟩ else firstF (codeF C n isr) n
def codeP (n : Nat) (C : Nat → Ins) (isr : Bool) (p i at_ : Int) : Ft := if (codeQ n C isr).e = 0 then okF else ⟨(codeQ n C isr).e, p, i, at_ + (codeQ n C isr).a⟩
attribute [local irreducible] chk
set_option maxHeartbeats 4000000 in
theorem code_any (w : World) (A : Option Addr) (n c : Nat) (C : Nat → Ins) (isr : Bool) (e p i at0 at_ : Int) (h0 : 0 ≤ at_) (h1 : at_ ≤ 100) (hC : CodeAt w A n C) :
    Calls Try.prog 32 #[.slice A n c, .bool isr, .agg #[.int .i64 e, .int .i64 p, .int .i64 i, .int .i64 at0], .int .i64 at_] w fun r w' => r = .returned (.agg (faultC (codeP n C isr p i at_))) ∧ Grow w w' := by
  by_cases hn : 256 < n
  · have hn' : (n : Int) > 256 := by omega
    have hn2 : (256 : Int) < n := by omega
    have hq : codeP n C isr p i at_ = ⟨4, p, i, at_⟩ := by simp [codeP, codeQ, hn]
    rw [fault_eq hq]
    clear hC hq
    go_enter Try.func32, Try.ntmps32
    go_wp2
    refine bodyPost_ret (v := .agg #[.int .i64 4, .int .i64 p, .int .i64 i, .int .i64 at_]) (results_cell_row rfl _ _ (w.heap.size + 1) 33 _ (0, 0) _ (by rfl) (heap_alloc2_new w _ _) Try.underlying33 rfl info33) rfl ⟨rfl, (Grow.alloc _ _).trans (Grow.alloc _ _)⟩
  · have hn' : ¬ (n : Int) > 256 := by omega
    have hn2 : ¬ (256 : Int) < n := by omega
    have HC := Lib.hid hC; clear hC
    have HE := Lib.hid (show codeQ n C isr = firstF (codeF C n isr) n by simp [codeQ, hn])
    go_enter Try.func32, Try.ntmps32
    go_wp2_with fail
    have hX : ((w.alloc (.cells #[.int .i64 e, .int .i64 p, .int .i64 i, .int .i64 at_] 33)).alloc (.cells zeroF 33)).heap[w.heap.size]? = some (.cells #[.int .i64 e, .int .i64 p, .int .i64 i, .int .i64 at_] 33 (0, 0)) := (heapAt_alloc_old _ _ (by simp)).trans (heapAt_alloc_new w _)
    have hZ : ((w.alloc (.cells #[.int .i64 e, .int .i64 p, .int .i64 i, .int .i64 at_] 33)).alloc (.cells zeroF 33)).heap[w.heap.size + 1]? = some (.cells zeroF 33 (0, 0)) := heap_alloc2_new w _ _
    have hG : Grow w ((w.alloc (.cells #[.int .i64 e, .int .i64 p, .int .i64 i, .int .i64 at_] 33)).alloc (.cells zeroF 33)) := (Grow.alloc _ _).trans (Grow.alloc _ _)
    generalize (w.alloc (.cells #[.int .i64 e, .int .i64 p, .int .i64 i, .int .i64 at_] 33)).alloc (.cells zeroF 33) = w1 at hX hZ hG ⊢
    have HX := Lib.hid hX; clear hX
    have HZ := Lib.hid hZ; clear hZ
    have HG := Lib.hid hG; clear hG
    go_loopw [21, 9, 10, 11] (fun x _ _ _ wr => ∃ k : Nat, k ≤ n ∧ x = .int .i64 k ∧ (∀ j, j < k → codeF C n isr j = okF) ∧ Grow w1 wr) (fun x _ _ _ _ => n - (intOf x).toNat)
    case atStart => exact ⟨0, by omega, rfl, fun j hj => by omega, Grow.refl _⟩
    case round =>
      obtain ⟨k, hk, rfl, he, hg⟩ := hrel
      have HK := Lib.hid he; clear he
      by_cases hlt : k < n
      · obtain ⟨ca, hCA, c0, c1, c2, c3, c4, c5⟩ := CodeAt.at ((HC.out.grow HG.out).grow hg) k hlt
        rw [hCA]
        clear hCA
        have k0 : (0 : Int) ≤ (k : Int) := by omega
        have kn : (k : Int) < (n : Int) := by omega
        have HGr := Lib.hid (hg.trans (Grow.alloc wr (.cells #[.int .i64 (C k).op, .int .i64 (C k).a, .int .i64 (C k).b, .int .i64 (C k).c, .int .i64 (C k).d, .int .u32 (C k).k.toNat] 41))); clear hg
        go_wp2_with fail
        refine (chk_any (C k) n isr (by omega) _).mono ?_
        rintro _ w2 ⟨rfl, hg2⟩
        clear c0 c1 c2 c3 c4 c5
        have HG2 := Lib.hid (HGr.out.trans hg2); clear HGr hg2
        by_cases hz : chk (C k) n isr = 0
        · have HX2 := Lib.hid (show ∀ j, j < k + 1 → codeF C n isr j = okF from fun j hj => by
            rcases Nat.lt_succ_iff_lt_or_eq.1 hj with h | h
            · exact HK.out j h
            · rw [h]; simp [codeF, hz])
          rw [hz]
          clear hz
          go_wp2_with fail
          go_roundw
          case rel => exact ⟨k + 1, by omega, by go_num, HX2.out, HG2.out⟩
          case measure => simp [intOf]; omega
        · have HQ := Lib.hid (show codeP n C isr p i at_ = ⟨chk (C k) n isr, p, i, at_ + 1 + k⟩ by
            have hq := HE.out.trans (first_hit _ k HK.out (by simp [codeF, hz]) n hlt)
            have hf : codeF C n isr k = ⟨chk (C k) n isr, 0, 0, 1 + (k : Int)⟩ := by simp [codeF, hz]
            rw [hf] at hq
            simp [codeP, hq, hz]; omega)
          have hz2 : (chk (C k) n isr != 0) = true := by simp [hz]
          generalize chk (C k) n isr = x at *
          have hX2 := HG2.out.at HX.out
          have hZ2 := HG2.out.at HZ.out
          have r1 : at_ + 1 + (k : Int) ≤ 400 := by omega
          go_wp2_with (first
            | ((with_reducible refine store33e rfl _ _ rfl w.heap.size x ?_ ?_ hX2 ?_); (· rfl); (· rfl); intro w3 hX3 ho3)
            | ((with_reducible refine store33a rfl _ _ rfl w.heap.size (at_ + 1 + k) ?_ ?_ hX3 ?_); (· rfl); (· rfl); intro w4 hX4 ho4)
            | ((with_reducible refine load33 rfl _ rfl w.heap.size ?_ hX4 ?_); (· rfl))
            | ((with_reducible refine store33 rfl _ _ rfl (w.heap.size + 1) x p i (at_ + 1 + k) ?_ ?_ (ho4.at (by omega) (ho3.at (by omega) hZ2)) ?_); (· rfl); (· rfl); intro w5 hb5 ho5))
          rw [fault_eq HQ.out]
          refine bodyPost_ret (v := .agg #[.int .i64 x, .int .i64 p, .int .i64 i, .int .i64 (at_ + 1 + k)]) (results_cell_row rfl _ _ (w.heap.size + 1) 33 _ (0, 0) _ (by rfl) hb5 Try.underlying33 rfl info33) rfl ⟨rfl, (((HG.out.trans HG2.out).only ho3 (Nat.le_refl _)).only ho4 (Nat.le_refl _)).only ho5 (by omega)⟩
      · have kn : ¬ (k : Int) < (n : Int) := by omega
        have HQ := Lib.hid (show codeP n C isr p i at_ = okF by simp [codeP, HE.out.trans (first_none _ n (fun j hj => HK.out j (by omega))), okF])
        have hZ2 := hg.at HZ.out
        have HGe := Lib.hid hg; clear hg
        go_wp2_with (first
          | ((with_reducible refine store33 rfl _ _ rfl (w.heap.size + 1) 0 0 0 0 ?_ ?_ hZ2 ?_); (· rfl); (· rfl); intro w5 hb5 ho5))
        rw [fault_eq HQ.out]
        refine bodyPost_ret (v := .agg zeroF) (results_cell_row rfl _ _ (w.heap.size + 1) 33 _ (0, 0) _ (by rfl) hb5 Try.underlying33 rfl info33) rfl ⟨rfl, (HG.out.trans HGe.out).only ho5 (by omega)⟩
set_option maxHeartbeats 4000000 in
theorem refCode_any (w : World) (A : Option Addr) (n c : Nat) (C : Nat → Ins) (isr : Bool) (hC : CodeAt w A n C) :
    Calls Try.prog 21 #[.slice A n c, .bool isr] w fun r w' => r = .returned (.tuple #[.int .i64 (codeQ n C isr).e, .int .i64 (codeQ n C isr).a]) ∧ Grow w w' := by
  by_cases hn : 256 < n
  · have hn' : (n : Int) > 256 := by omega
    have hn2 : (256 : Int) < n := by omega
    rw [show codeQ n C isr = ⟨4, 0, 0, 0⟩ by simp [codeQ, hn]]
    clear hC
    go_enter Try.func21, Try.ntmps21
    go_wp2
    go_ret2
    exact ⟨rfl, Grow.refl _⟩
  · have hn' : ¬ (n : Int) > 256 := by omega
    have hn2 : ¬ (256 : Int) < n := by omega
    have HC := Lib.hid hC; clear hC
    have HE := Lib.hid (show codeQ n C isr = firstF (codeF C n isr) n by simp [codeQ, hn])
    go_enter Try.func21, Try.ntmps21
    go_wp2_with fail
    go_loopw [6, 7] (fun x _ wr => ∃ k : Nat, k ≤ n ∧ x = .int .i64 k ∧ (∀ j, j < k → codeF C n isr j = okF) ∧ Grow w wr) (fun x _ _ => n - (intOf x).toNat)
    case atStart => exact ⟨0, by omega, rfl, fun j hj => by omega, Grow.refl _⟩
    case round =>
      obtain ⟨k, hk, rfl, he, hg⟩ := hrel
      have HK := Lib.hid he; clear he
      by_cases hlt : k < n
      · obtain ⟨ca, hCA, c0, c1, c2, c3, c4, c5⟩ := CodeAt.at (HC.out.grow hg) k hlt
        rw [hCA]
        clear hCA
        have k0 : (0 : Int) ≤ (k : Int) := by omega
        have kn : (k : Int) < (n : Int) := by omega
        have HGr := Lib.hid hg; clear hg
        go_wp2_with fail
        refine (chkRef_any (C k) n isr (by omega) _).mono ?_
        rintro _ w2 ⟨rfl, hg2⟩
        clear c0 c1 c2 c3 c4 c5
        have HG2 := Lib.hid (HGr.out.trans hg2); clear HGr hg2
        by_cases hz : chk (C k) n isr = 0
        · have HX2 := Lib.hid (show ∀ j, j < k + 1 → codeF C n isr j = okF from fun j hj => by
            rcases Nat.lt_succ_iff_lt_or_eq.1 hj with h | h
            · exact HK.out j h
            · rw [h]; simp [codeF, hz])
          rw [hz]
          clear hz
          go_wp2_with fail
          go_roundw
          case rel => exact ⟨k + 1, by omega, by go_num, HX2.out, HG2.out⟩
          case measure => simp [intOf]; omega
        · have HQ := Lib.hid (show codeQ n C isr = ⟨chk (C k) n isr, 0, 0, 1 + k⟩ by
            have hq := HE.out.trans (first_hit _ k HK.out (by simp [codeF, hz]) n hlt)
            rw [hq]
            simp [codeF, hz])
          have hz2 : (chk (C k) n isr != 0) = true := by simp [hz]
          generalize chk (C k) n isr = x at *
          go_wp2
          rw [HQ.out]
          go_ret2
          exact ⟨rfl, HG2.out⟩
      · have kn : ¬ (k : Int) < (n : Int) := by omega
        have HQ := Lib.hid (show codeQ n C isr = okF from HE.out.trans (first_none _ n (fun j hj => HK.out j (by omega))))
        have HGe := Lib.hid hg; clear hg
        go_wp2
        rw [HQ.out]
        go_ret2
        exact ⟨rfl, HGe.out⟩
end Go.Proofs.Ytmmbhjomgpnklaa
