/- A system just read; what is wrong with it, plainly; a task's walk. -/
import Derived.Test.YtmmbhjomgpnklaaEq
namespace Go.Proofs.Ytmmbhjomgpnklaa
open Go.RowKit
set_option linter.unusedVariables false
set_option linter.unusedSimpArgs false
set_option maxRecDepth 100000
structure Tk where
  lv : Int
  off : Int
  per : Int
  dl : Int
  mem : Int
  cn : Nat
  C : Nat → Ins
structure Ln where
  mem : Int
  cn : Nat
  C : Nat → Ins
structure Cf where
  tn : Nat
  T : Nat → Tk
  ln : Nat
  L : Nat → Ln
  mx : Int
  sn : Nat
  S : Nat → Int
  qn : Nat
  Q : Nat → Int
  mn : Nat
  M : Nat → Int
  table : Int
  mask : BitVec 32
  filter : Int
  charge : Int
  cycle : Int
  count : Int
def tkL (t : Tk) (v : Value) : List Value := [.int .i64 t.lv, .int .i64 t.off, .int .i64 t.per, .int .i64 t.dl, .int .i64 t.mem, v]
def lnL (l : Ln) (v : Value) : List Value := [.int .i64 l.mem, v]
def CodeV (w : World) (v : Value) (n : Nat) (C : Nat → Ins) : Prop := ∃ A cap, v = .slice A n cap ∧ n ≤ cap ∧ CodeAt w A n C
def NumsV (w : World) (v : Value) (n : Nat) (M : Nat → Int) : Prop := ∃ A cap, v = .slice A n cap ∧ n ≤ cap ∧ MemAt w A n M
def TasksV (w : World) (v : Value) (n : Nat) (T : Nat → Tk) : Prop := ∃ A cap, ∃ cv : Nat → Value, v = .slice A n cap ∧ n ≤ cap ∧ RowAt w A n 6 (fun j => tkL (T j) (cv j)) ∧ ∀ j, j < n → CodeV w (cv j) (T j).cn (T j).C
def LinesV (w : World) (v : Value) (n : Nat) (L : Nat → Ln) : Prop := ∃ A cap, ∃ cv : Nat → Value, v = .slice A n cap ∧ n ≤ cap ∧ RowAt w A n 2 (fun j => lnL (L j) (cv j)) ∧ ∀ j, j < n → CodeV w (cv j) (L j).cn (L j).C
abbrev cfC (tv lv sv qv mv : Value) (X : Cf) : Array Value := #[tv, lv, .int .i64 X.mx, sv, qv, mv, .int .i64 X.table, .int .u32 X.mask.toNat, .int .u32 X.filter, .int .i64 X.charge, .int .u64 X.cycle, .int .u64 X.count]
/-- A system that is read. -/
structure ConfV (w : World) (tv lv sv qv mv : Value) (X : Cf) : Prop where
  t : TasksV w tv X.tn X.T
  l : LinesV w lv X.ln X.L
  s : NumsV w sv X.sn X.S
  q : NumsV w qv X.qn X.Q
  m : NumsV w mv X.mn X.M
theorem CodeV.grow {w w' : World} {v : Value} {n : Nat} {C : Nat → Ins} (h : CodeV w v n C) (hg : Grow w w') : CodeV w' v n C := by
  obtain ⟨A, cap, h1, h2, h3⟩ := h
  exact ⟨A, cap, h1, h2, RowAt.grow h3 hg⟩
theorem NumsV.grow {w w' : World} {v : Value} {n : Nat} {M : Nat → Int} (h : NumsV w v n M) (hg : Grow w w') : NumsV w' v n M := by
  obtain ⟨A, cap, h1, h2, h3⟩ := h
  exact ⟨A, cap, h1, h2, h3.grow hg⟩
theorem TasksV.grow {w w' : World} {v : Value} {n : Nat} {T : Nat → Tk} (h : TasksV w v n T) (hg : Grow w w') : TasksV w' v n T := by
  obtain ⟨A, cap, cv, h1, h2, h3, h4⟩ := h
  exact ⟨A, cap, cv, h1, h2, h3.grow hg, fun j hj => (h4 j hj).grow hg⟩
theorem LinesV.grow {w w' : World} {v : Value} {n : Nat} {T : Nat → Ln} (h : LinesV w v n T) (hg : Grow w w') : LinesV w' v n T := by
  obtain ⟨A, cap, cv, h1, h2, h3, h4⟩ := h
  exact ⟨A, cap, cv, h1, h2, h3.grow hg, fun j hj => (h4 j hj).grow hg⟩
theorem ConfV.grow {w w' : World} {tv lv sv qv mv : Value} {X : Cf} (h : ConfV w tv lv sv qv mv X) (hg : Grow w w') : ConfV w' tv lv sv qv mv X := ⟨h.t.grow hg, h.l.grow hg, h.s.grow hg, h.q.grow hg, h.m.grow hg⟩
theorem tasks_at {w : World} {A : Option Addr} {n : Nat} {T : Nat → Tk} {cv : Nat → Value} (h : RowAt w A n 6 (fun j => tkL (T j) (cv j))) (j : Nat) (hj : j < n) : ∃ a, A = some a ∧
    w.cell? (a.add (j * 6)) = some (.int .i64 (T j).lv) ∧ w.cell? ⟨(a.add (j * 6)).block, (a.add (j * 6)).off + 1, none⟩ = some (.int .i64 (T j).off) ∧ w.cell? ⟨(a.add (j * 6)).block, (a.add (j * 6)).off + 2, none⟩ = some (.int .i64 (T j).per) ∧
    w.cell? ⟨(a.add (j * 6)).block, (a.add (j * 6)).off + 3, none⟩ = some (.int .i64 (T j).dl) ∧ w.cell? ⟨(a.add (j * 6)).block, (a.add (j * 6)).off + 4, none⟩ = some (.int .i64 (T j).mem) ∧ w.cell? ⟨(a.add (j * 6)).block, (a.add (j * 6)).off + 5, none⟩ = some (cv j) := by
  obtain ⟨a, hA, hc⟩ := h (by omega)
  have k := hc j hj
  refine ⟨a, hA, k 0 _ rfl, ?_, ?_, ?_, ?_, ?_⟩
  · have := k 1 _ rfl; rw [add_succ'] at this; exact this
  · have := k 2 _ rfl; rw [add_succ'] at this; exact this
  · have := k 3 _ rfl; rw [add_succ'] at this; exact this
  · have := k 4 _ rfl; rw [add_succ'] at this; exact this
  · have := k 5 _ rfl; rw [add_succ'] at this; exact this
theorem lines_at {w : World} {A : Option Addr} {n : Nat} {L : Nat → Ln} {cv : Nat → Value} (h : RowAt w A n 2 (fun j => lnL (L j) (cv j))) (j : Nat) (hj : j < n) : ∃ a, A = some a ∧
    w.cell? (a.add (j * 2)) = some (.int .i64 (L j).mem) ∧ w.cell? ⟨(a.add (j * 2)).block, (a.add (j * 2)).off + 1, none⟩ = some (cv j) := by
  obtain ⟨a, hA, hc⟩ := h (by omega)
  have k := hc j hj
  refine ⟨a, hA, k 0 _ rfl, ?_⟩
  have := k 1 _ rfl; rw [add_succ'] at this; exact this
/-! ### What is wrong -/
def taskP (t : Tk) (i : Int) : Ft :=
  if inB t.lv 0 31 = false then ⟨5, 1, i, 1⟩ else if inB t.off 1 1073741824 = false then ⟨5, 1, i, 2⟩ else if inB t.per 0 1073741824 = false then ⟨5, 1, i, 3⟩ else if inB t.dl 0 1073741824 = false then ⟨5, 1, i, 4⟩
  else if inB t.mem 0 256 = false then ⟨5, 1, i, 5⟩ else codeP t.cn t.C false 1 i 6
def lineP (l : Ln) (i : Int) : Ft := if inB l.mem 0 256 = false then ⟨5, 2, i, 1⟩ else codeP l.cn l.C true 2 i 2
def tasksP (n : Nat) (T : Nat → Tk) : Ft := if 64 < n then ⟨4, 1, 0, 0⟩ else firstF (fun j => taskP (T j) j) n
def linesP (n : Nat) (L : Nat → Ln) : Ft := if 16 < n then ⟨4, 2, 0, 0⟩ else firstF (fun j => lineP (L j) j) n
def orF (f g : Ft) : Ft := if f.e = 0 then g else f
def maskOk (m : BitVec 32) (n : Nat) : Bool := decide (m.toNat / 2 ^ (min n 16) = 0)
def progP (X : Cf) : Ft := orF (tasksP X.tn X.T) (linesP X.ln X.L)
def sysP (X : Cf) : Ft := orF (progP X) (orF (numP (inB X.mx 0 32) 3) (orF (rowP X.sn X.S 4 0 255) (orF (rowP X.qn X.Q 5 1 64) (orF (rowP X.mn X.M 6 0 ((X.sn : Int) - 1)) (orF (numP (inB X.table 0 64) 7) (orF (numP (maskOk X.mask X.ln) 8) (numP (inB X.charge 0 64) 9)))))))
/-- Nothing wrong is told one way. -/
def Clean (f : Ft) : Prop := f.e = 0 → f = okF
theorem clean_codeP (n : Nat) (C : Nat → Ins) (isr : Bool) (p i a : Int) : Clean (codeP n C isr p i a) := by
  intro h
  unfold codeP at h ⊢
  split
  · rfl
  · rename_i hz; rw [if_neg hz] at h; exact absurd h hz
theorem clean_first (f : Nat → Ft) (hf : ∀ j, Clean (f j)) (n : Nat) : Clean (firstF f n) := by
  intro h
  rcases first_cases f hf n with ⟨h1, _⟩ | ⟨k, _, he, _, h1⟩
  · exact h1
  · rw [h1] at h; exact absurd h he
theorem clean_task (t : Tk) (i : Int) : Clean (taskP t i) := by
  unfold taskP
  repeat' split
  all_goals first | exact clean_codeP _ _ _ _ _ _ | (intro h; cases h)
theorem clean_line (t : Ln) (i : Int) : Clean (lineP t i) := by
  unfold lineP
  repeat' split
  all_goals first | exact clean_codeP _ _ _ _ _ _ | (intro h; cases h)
theorem clean_tasks (n : Nat) (T : Nat → Tk) : Clean (tasksP n T) := by
  unfold tasksP
  split
  · intro h; cases h
  · exact clean_first _ (fun j => clean_task _ _) n
theorem clean_lines (n : Nat) (T : Nat → Ln) : Clean (linesP n T) := by
  unfold linesP
  split
  · intro h; cases h
  · exact clean_first _ (fun j => clean_line _ _) n
theorem clean_num (b : Bool) (p : Int) : Clean (numP b p) := by
  cases b
  · intro h; cases h
  · intro h; rfl
theorem clean_row (n : Nat) (M : Nat → Int) (p lo hi : Int) : Clean (rowP n M p lo hi) := by
  unfold rowP
  split
  · intro h; cases h
  · refine clean_first _ (fun j => ?_) n
    unfold rowF
    split
    · intro h; rfl
    · intro h; cases h
theorem clean_or {f g : Ft} (hg : Clean g) : Clean (orF f g) := by
  unfold orF
  split
  · exact hg
  · intro h; rename_i hz; exact absurd h hz
attribute [local irreducible] inB codeP
set_option maxHeartbeats 8000000 in
theorem task_any (w : World) (t : Tk) (v : Value) (i : Int) (hv : CodeV w v t.cn t.C) :
    Calls Try.prog 31 #[.agg #[.int .i64 t.lv, .int .i64 t.off, .int .i64 t.per, .int .i64 t.dl, .int .i64 t.mem, v], .int .i64 i] w fun r w' => r = .returned (.agg (faultC (taskP t i))) ∧ Grow w w' := by
  obtain ⟨A, cap, rfl, hcap, hC⟩ := hv
  have HC := Lib.hid hC; clear hC
  have HP := Lib.hid (show taskP t i = taskP t i from rfl)
  unfold taskP
  have H1 := Lib.hid (fun w => rng_any w t.lv 0 31 _ rfl)
  have H2 := Lib.hid (fun w => rng_any w t.off 1 1073741824 _ rfl)
  have H3 := Lib.hid (fun w => rng_any w t.per 0 1073741824 _ rfl)
  have H4 := Lib.hid (fun w => rng_any w t.dl 0 1073741824 _ rfl)
  have H5 := Lib.hid (fun w => rng_any w t.mem 0 256 _ rfl)
  generalize inB t.lv 0 31 = b1 at *
  generalize inB t.off 1 1073741824 = b2 at *
  generalize inB t.per 0 1073741824 = b3 at *
  generalize inB t.dl 0 1073741824 = b4 at *
  generalize inB t.mem 0 256 = b5 at *
  go_enter Try.func31, Try.ntmps31
  go_wp2_with fail
  have hX : (((w.alloc (.cells #[.int .i64 t.lv, .int .i64 t.off, .int .i64 t.per, .int .i64 t.dl, .int .i64 t.mem, .slice A t.cn cap] 39)).alloc (.cells zeroF 33)).alloc (.cells #[.int .i64 5, .int .i64 1, .int .i64 i, .int .i64 0] 33)).heap[w.heap.size]? = some (.cells #[.int .i64 t.lv, .int .i64 t.off, .int .i64 t.per, .int .i64 t.dl, .int .i64 t.mem, .slice A t.cn cap] 39 (0, 0)) := (heapAt_alloc_old _ _ (by simp; omega)).trans ((heapAt_alloc_old _ _ (by simp)).trans (heapAt_alloc_new w _))
  have hR : (((w.alloc (.cells #[.int .i64 t.lv, .int .i64 t.off, .int .i64 t.per, .int .i64 t.dl, .int .i64 t.mem, .slice A t.cn cap] 39)).alloc (.cells zeroF 33)).alloc (.cells #[.int .i64 5, .int .i64 1, .int .i64 i, .int .i64 0] 33)).heap[w.heap.size + 1]? = some (.cells zeroF 33 (0, 0)) := (heapAt_alloc_old _ _ (by simp)).trans (heap_alloc2_new w _ _)
  have hF : (((w.alloc (.cells #[.int .i64 t.lv, .int .i64 t.off, .int .i64 t.per, .int .i64 t.dl, .int .i64 t.mem, .slice A t.cn cap] 39)).alloc (.cells zeroF 33)).alloc (.cells #[.int .i64 5, .int .i64 1, .int .i64 i, .int .i64 0] 33)).heap[w.heap.size + 2]? = some (.cells #[.int .i64 5, .int .i64 1, .int .i64 i, .int .i64 0] 33 (0, 0)) := by
    have := heapAt_alloc_new ((w.alloc (.cells #[.int .i64 t.lv, .int .i64 t.off, .int .i64 t.per, .int .i64 t.dl, .int .i64 t.mem, .slice A t.cn cap] 39)).alloc (.cells zeroF 33)) (.cells #[.int .i64 5, .int .i64 1, .int .i64 i, .int .i64 0] 33)
    simpa using this
  have hG : Grow w (((w.alloc (.cells #[.int .i64 t.lv, .int .i64 t.off, .int .i64 t.per, .int .i64 t.dl, .int .i64 t.mem, .slice A t.cn cap] 39)).alloc (.cells zeroF 33)).alloc (.cells #[.int .i64 5, .int .i64 1, .int .i64 i, .int .i64 0] 33)) := ((Grow.alloc _ _).trans (Grow.alloc _ _)).trans (Grow.alloc _ _)
  generalize ((w.alloc (.cells #[.int .i64 t.lv, .int .i64 t.off, .int .i64 t.per, .int .i64 t.dl, .int .i64 t.mem, .slice A t.cn cap] 39)).alloc (.cells zeroF 33)).alloc (.cells #[.int .i64 5, .int .i64 1, .int .i64 i, .int .i64 0] 33) = w1 at hX hR hF hG ⊢
  have d0 := cell_block hX 0
  have d1 := cell_block hX 1
  have d2 := cell_block hX 2
  have d3 := cell_block hX 3
  have d4 := cell_block hX 4
  have d5 := cell_block hX 5
  simp at d0 d1 d2 d3 d4 d5
  clear hX
  have HR := Lib.hid hR; clear hR
  have HF := Lib.hid hF; clear hF
  have HG := Lib.hid hG; clear hG
  have HP := Lib.hid (show True from trivial)
  refine (H1.out _).mono ?_
  rintro _ _ ⟨rfl, rfl⟩
  cases b1
  · go_wp2_with (first
      | ((with_reducible refine store33a rfl _ _ rfl (w.heap.size + 2) 1 ?_ ?_ HF.out ?_); (· rfl); (· rfl); intro w3 hX3 ho3)
      | ((with_reducible refine load33 rfl _ rfl (w.heap.size + 2) ?_ hX3 ?_); (· rfl))
      | ((with_reducible refine store33 rfl _ _ rfl (w.heap.size + 1) 5 1 i 1 ?_ ?_ (ho3.at (by omega) HR.out) ?_); (· rfl); (· rfl); intro w5 hb5 ho5))
    (try simp only [if_true, if_false, reduceCtorEq, Bool.true_eq_false])
    refine bodyPost_ret (v := .agg #[.int .i64 5, .int .i64 1, .int .i64 i, .int .i64 1]) (results_cell_row rfl _ _ (w.heap.size + 1) 33 _ (0, 0) _ (by rfl) hb5 Try.underlying33 rfl info33) rfl ⟨rfl, (HG.out.only ho3 (by omega)).only ho5 (by omega)⟩
  · go_wp2_with fail
    refine (H2.out _).mono ?_
    rintro _ _ ⟨rfl, rfl⟩
    cases b2
    · go_wp2_with (first
        | ((with_reducible refine store33a rfl _ _ rfl (w.heap.size + 2) 2 ?_ ?_ HF.out ?_); (· rfl); (· rfl); intro w3 hX3 ho3)
        | ((with_reducible refine load33 rfl _ rfl (w.heap.size + 2) ?_ hX3 ?_); (· rfl))
        | ((with_reducible refine store33 rfl _ _ rfl (w.heap.size + 1) 5 1 i 2 ?_ ?_ (ho3.at (by omega) HR.out) ?_); (· rfl); (· rfl); intro w5 hb5 ho5))
      (try simp only [if_true, if_false, reduceCtorEq, Bool.true_eq_false])
      refine bodyPost_ret (v := .agg #[.int .i64 5, .int .i64 1, .int .i64 i, .int .i64 2]) (results_cell_row rfl _ _ (w.heap.size + 1) 33 _ (0, 0) _ (by rfl) hb5 Try.underlying33 rfl info33) rfl ⟨rfl, (HG.out.only ho3 (by omega)).only ho5 (by omega)⟩
    · go_wp2_with fail
      refine (H3.out _).mono ?_
      rintro _ _ ⟨rfl, rfl⟩
      cases b3
      · go_wp2_with (first
          | ((with_reducible refine store33a rfl _ _ rfl (w.heap.size + 2) 3 ?_ ?_ HF.out ?_); (· rfl); (· rfl); intro w3 hX3 ho3)
          | ((with_reducible refine load33 rfl _ rfl (w.heap.size + 2) ?_ hX3 ?_); (· rfl))
          | ((with_reducible refine store33 rfl _ _ rfl (w.heap.size + 1) 5 1 i 3 ?_ ?_ (ho3.at (by omega) HR.out) ?_); (· rfl); (· rfl); intro w5 hb5 ho5))
        (try simp only [if_true, if_false, reduceCtorEq, Bool.true_eq_false])
        refine bodyPost_ret (v := .agg #[.int .i64 5, .int .i64 1, .int .i64 i, .int .i64 3]) (results_cell_row rfl _ _ (w.heap.size + 1) 33 _ (0, 0) _ (by rfl) hb5 Try.underlying33 rfl info33) rfl ⟨rfl, (HG.out.only ho3 (by omega)).only ho5 (by omega)⟩
      · go_wp2_with fail
        refine (H4.out _).mono ?_
        rintro _ _ ⟨rfl, rfl⟩
        cases b4
        · go_wp2_with (first
            | ((with_reducible refine store33a rfl _ _ rfl (w.heap.size + 2) 4 ?_ ?_ HF.out ?_); (· rfl); (· rfl); intro w3 hX3 ho3)
            | ((with_reducible refine load33 rfl _ rfl (w.heap.size + 2) ?_ hX3 ?_); (· rfl))
            | ((with_reducible refine store33 rfl _ _ rfl (w.heap.size + 1) 5 1 i 4 ?_ ?_ (ho3.at (by omega) HR.out) ?_); (· rfl); (· rfl); intro w5 hb5 ho5))
          (try simp only [if_true, if_false, reduceCtorEq, Bool.true_eq_false])
          refine bodyPost_ret (v := .agg #[.int .i64 5, .int .i64 1, .int .i64 i, .int .i64 4]) (results_cell_row rfl _ _ (w.heap.size + 1) 33 _ (0, 0) _ (by rfl) hb5 Try.underlying33 rfl info33) rfl ⟨rfl, (HG.out.only ho3 (by omega)).only ho5 (by omega)⟩
        · go_wp2_with fail
          refine (H5.out _).mono ?_
          rintro _ _ ⟨rfl, rfl⟩
          cases b5
          · go_wp2_with (first
              | ((with_reducible refine store33a rfl _ _ rfl (w.heap.size + 2) 5 ?_ ?_ HF.out ?_); (· rfl); (· rfl); intro w3 hX3 ho3)
              | ((with_reducible refine load33 rfl _ rfl (w.heap.size + 2) ?_ hX3 ?_); (· rfl))
              | ((with_reducible refine store33 rfl _ _ rfl (w.heap.size + 1) 5 1 i 5 ?_ ?_ (ho3.at (by omega) HR.out) ?_); (· rfl); (· rfl); intro w5 hb5 ho5))
            (try simp only [if_true, if_false, reduceCtorEq, Bool.true_eq_false])
            refine bodyPost_ret (v := .agg #[.int .i64 5, .int .i64 1, .int .i64 i, .int .i64 5]) (results_cell_row rfl _ _ (w.heap.size + 1) 33 _ (0, 0) _ (by rfl) hb5 Try.underlying33 rfl info33) rfl ⟨rfl, (HG.out.only ho3 (by omega)).only ho5 (by omega)⟩
          · go_wp2_with (first | ((with_reducible refine load33 rfl _ rfl (w.heap.size + 2) ?_ HF.out ?_); (· rfl)))
            refine (code_any _ A t.cn cap t.C false 5 1 i 0 6 (by omega) (by omega) (HC.out.grow HG.out)).mono ?_
            rintro _ w3 ⟨rfl, hg3⟩
            have HR3 := Lib.hid (hg3.at HR.out)
            have HG3 := Lib.hid (HG.out.trans hg3)
            clear hg3 d0 d1 d2 d3 d4 d5
            (try simp only [if_true, if_false, reduceCtorEq, Bool.true_eq_false])
            go_wp2_with (first | ((with_reducible refine store33 rfl _ _ rfl (w.heap.size + 1) (codeP t.cn t.C false 1 i 6).e (codeP t.cn t.C false 1 i 6).p (codeP t.cn t.C false 1 i 6).i (codeP t.cn t.C false 1 i 6).a ?_ ?_ HR3.out ?_); (· rfl); (· rfl); intro w5 hb5 ho5))
            refine bodyPost_ret (v := .agg (faultC (codeP t.cn t.C false 1 i 6))) (results_cell_row rfl _ _ (w.heap.size + 1) 33 _ (0, 0) _ (by rfl) hb5 Try.underlying33 rfl info33) rfl ⟨rfl, HG3.out.only ho5 (by omega)⟩
end Go.Proofs.Ytmmbhjomgpnklaa
