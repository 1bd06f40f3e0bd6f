/- What is wrong with tasks and lines: the walk. -/
import Derived.Test.YtmmbhjomgpnklaaSys
namespace Go.Proofs.Ytmmbhjomgpnklaa
open Go.RowKit
set_option linter.unusedVariables false
set_option linter.unusedSimpArgs false
set_option maxRecDepth 100000
attribute [local irreducible] inB codeP taskP lineP
theorem ok_lits {f : Ft} (hc : Clean f) (h : f.e = 0) : f = ⟨0, 0, 0, 0⟩ := hc h
set_option maxHeartbeats 8000000 in
theorem progs_any (w : World) (TA LA : Option Addr) (tc lc : Nat) (sv qv mv : Value) (tcv lcv : Nat → Value) (X : Cf)
    (hT : RowAt w TA X.tn 6 (fun j => tkL (X.T j) (tcv j))) (hTC : ∀ j, j < X.tn → CodeV w (tcv j) (X.T j).cn (X.T j).C) (hL : RowAt w LA X.ln 2 (fun j => lnL (X.L j) (lcv j))) (hLC : ∀ j, j < X.ln → CodeV w (lcv j) (X.L j).cn (X.L j).C) :
    Calls Try.prog 15 #[.agg (cfC (.slice TA X.tn tc) (.slice LA X.ln lc) sv qv mv X)] w fun r w' => r = .returned (.agg (faultC (progP X))) ∧ Grow w w' := by
  have HT := Lib.hid hT; clear hT
  have HTC := Lib.hid hTC; clear hTC
  have HL := Lib.hid hL; clear hL
  have HLC := Lib.hid hLC; clear hLC
  by_cases hn : 64 < X.tn
  · have hn2 : (64 : Int) < X.tn := by omega
    rw [fault_eq (show progP X = ⟨4, 1, 0, 0⟩ by simp [progP, tasksP, hn, orF])]
    go_enter Try.func15, Try.ntmps15
    go_wp2
    refine bodyPost_ret (v := .agg #[.int .i64 4, .int .i64 1, .int .i64 0, .int .i64 0]) (results_cell_row rfl _ _ (w.heap.size + 1) 33 _ (0, 0) _ (by rfl) (heap_alloc2_new w _ _) Try.underlying33 rfl info33) rfl ⟨rfl, (Grow.alloc _ _).trans (Grow.alloc _ _)⟩
  have hn2 : ¬ (64 : Int) < X.tn := by omega
  have HE := Lib.hid (show tasksP X.tn X.T = firstF (fun j => taskP (X.T j) j) X.tn by simp [tasksP, hn])
  go_enter Try.func15, Try.ntmps15
  go_wp2_with fail
  have hX : (((w.alloc (.cells (cfC (.slice TA X.tn tc) (.slice LA X.ln lc) sv qv mv X) 28)).alloc (.cells zeroF 33))).heap[w.heap.size]? = some (.cells (cfC (.slice TA X.tn tc) (.slice LA X.ln lc) sv qv mv X) 28 (0, 0)) := (heapAt_alloc_old _ _ (by simp)).trans (heapAt_alloc_new w _)
  have hR : (((w.alloc (.cells (cfC (.slice TA X.tn tc) (.slice LA X.ln lc) sv qv mv X) 28)).alloc (.cells zeroF 33))).heap[w.heap.size + 1]? = some (.cells zeroF 33 (0, 0)) := heap_alloc2_new w _ _
  have hG : Grow w (((w.alloc (.cells (cfC (.slice TA X.tn tc) (.slice LA X.ln lc) sv qv mv X) 28)).alloc (.cells zeroF 33))) := (Grow.alloc _ _).trans (Grow.alloc _ _)
  generalize ((w.alloc (.cells (cfC (.slice TA X.tn tc) (.slice LA X.ln lc) sv qv mv X) 28)).alloc (.cells zeroF 33)) = w1 at hX hR hG ⊢
  have HX := Lib.hid hX; clear hX
  have HR := Lib.hid hR; clear hR
  have HG := Lib.hid hG; clear hG
  go_loopw [18, 3, 4, 5] (fun x _ _ _ wr => ∃ k : Nat, k ≤ X.tn ∧ x = .int .i64 k ∧ (∀ j, j < k → taskP (X.T j) j = okF) ∧ Grow w1 wr) (fun x _ _ _ _ => X.tn - (intOf x).toNat)
  case atStart => exact ⟨0, by omega, rfl, fun j hj => by omega, Grow.refl _⟩
  case round =>
    obtain ⟨k, hk, rfl, he, hg⟩ := hrel
    have HK := Lib.hid he; clear he
    by_cases hlt : k < X.tn
    · obtain ⟨ta, hTA, c0, c1, c2, c3, c4, c5⟩ := tasks_at ((HT.out.grow HG.out).grow hg) k hlt
      rw [hTA]
      clear hTA
      have k0 : (0 : Int) ≤ (k : Int) := by omega
      have kn : (k : Int) < (X.tn : Int) := by omega
      obtain ⟨CA, ccap, hcv, hc1, hc2⟩ := HTC.out k hlt
      rw [hcv] at c5
      clear hcv
      have HGr := Lib.hid (hg.trans (Grow.alloc wr (.cells #[.int .i64 (X.T k).lv, .int .i64 (X.T k).off, .int .i64 (X.T k).per, .int .i64 (X.T k).dl, .int .i64 (X.T k).mem, .slice CA (X.T k).cn ccap] 39))); clear hg
      have HCV := Lib.hid (show CodeV (wr.alloc (.cells #[.int .i64 (X.T k).lv, .int .i64 (X.T k).off, .int .i64 (X.T k).per, .int .i64 (X.T k).dl, .int .i64 (X.T k).mem, .slice CA (X.T k).cn ccap] 39)) (.slice CA (X.T k).cn ccap) (X.T k).cn (X.T k).C from CodeV.grow ⟨CA, ccap, rfl, hc1, hc2⟩ (HG.out.trans HGr.out))
      clear hc1 hc2
      go_wp2_with fail
      by_cases hz : (taskP (X.T k) k).e = 0
      · have HO := Lib.hid (ok_lits (clean_task _ _) hz)
        have hp := task_any (wr.alloc (.cells #[.int .i64 (X.T k).lv, .int .i64 (X.T k).off, .int .i64 (X.T k).per, .int .i64 (X.T k).dl, .int .i64 (X.T k).mem, .slice CA (X.T k).cn ccap] 39)) (X.T k) (.slice CA (X.T k).cn ccap) k HCV.out
        rw [fault_eq HO.out] at hp
        refine hp.mono ?_
        clear hp c0 c1 c2 c3 c4 c5 hz
        rintro _ w2 ⟨rfl, hg2⟩
        have HG2 := Lib.hid ((HGr.out.trans hg2).trans (Grow.alloc w2 (.cells zeroF 33))); clear HGr hg2
        have HK2 := Lib.hid (show ∀ j : Nat, j < k + 1 → taskP (X.T j) j = okF from fun j hj => by
            rcases Nat.lt_succ_iff_lt_or_eq.1 hj with h | h
            · exact HK.out j h
            · rw [h]; exact HO.out)
        go_wp2_with fail
        go_roundw
        case rel => exact ⟨k + 1, by omega, by go_num, HK2.out, HG2.out⟩
        case measure => simp [intOf]; omega
      · have HQ := Lib.hid (show progP X = taskP (X.T k) k by
          have h := HE.out.trans (first_hit (fun j : Nat => taskP (X.T j) j) k HK.out hz X.tn hlt)
          rw [progP, h, orF, if_neg (show ¬ ((fun j : Nat => taskP (X.T j) j) k).e = 0 from hz)])
        have hp := task_any (wr.alloc (.cells #[.int .i64 (X.T k).lv, .int .i64 (X.T k).off, .int .i64 (X.T k).per, .int .i64 (X.T k).dl, .int .i64 (X.T k).mem, .slice CA (X.T k).cn ccap] 39)) (X.T k) (.slice CA (X.T k).cn ccap) k HCV.out
        generalize taskP (X.T k) k = f at *
        obtain ⟨e, p, i, a⟩ := f
        have hz2 : (e != 0) = true := by simpa using hz
        clear hz
        refine hp.mono ?_
        clear hp c0 c1 c2 c3 c4 c5
        rintro _ w2 ⟨rfl, hg2⟩
        have HG2 := Lib.hid (HGr.out.trans hg2); clear HGr hg2
        have HR2 := Lib.hid ((heapAt_alloc_old w2 (.cells #[.int .i64 e, .int .i64 p, .int .i64 i, .int .i64 a] 33) (heapAt_lt (HG2.out.at HR.out))).trans (HG2.out.at HR.out))
        have HN2 := Lib.hid (heapAt_alloc_new w2 (.cells #[.int .i64 e, .int .i64 p, .int .i64 i, .int .i64 a] 33))
        have HG3 := Lib.hid (HG2.out.trans (Grow.alloc w2 (.cells #[.int .i64 e, .int .i64 p, .int .i64 i, .int .i64 a] 33)))
        go_wp2_with (first
          | ((with_reducible refine load33 rfl _ rfl w2.heap.size ?_ HN2.out ?_); (· rfl))
          | ((with_reducible refine store33 rfl _ _ rfl (w.heap.size + 1) e p i a ?_ ?_ HR2.out ?_); (· rfl); (· rfl); intro w5 hb5 ho5))
        rw [fault_eq HQ.out]
        refine bodyPost_ret (v := .agg #[.int .i64 e, .int .i64 p, .int .i64 i, .int .i64 a]) (results_cell_row rfl _ _ (w.heap.size + 1) 33 _ (0, 0) _ (by rfl) hb5 Try.underlying33 rfl info33) rfl ⟨rfl, (HG.out.trans HG3.out).only ho5 (by omega)⟩
    · have kn : ¬ (k : Int) < (X.tn : Int) := by omega
      have HQ := Lib.hid (show tasksP X.tn X.T = okF from HE.out.trans (first_none _ X.tn (fun j hj => HK.out j (by omega))))
      have HGe := Lib.hid (HG.out.trans hg)
      have hX := hg.at HX.out
      have HR2 := Lib.hid (hg.at HR.out)
      clear HR HX HT HTC HG hg HE HK
      have HX2 := Lib.hid hX
      have d1 := cell_block hX 1
      simp at d1
      clear hX
      by_cases hm : 16 < X.ln
      · have hm2 : (16 : Int) < X.ln := by omega
        have HQ2 := Lib.hid (show progP X = ⟨4, 2, 0, 0⟩ by simp [progP, HQ.out, linesP, hm, orF, okF])
        go_wp2_with (first
          | ((with_reducible refine store33 rfl _ _ rfl (w.heap.size + 1) 4 2 0 0 ?_ ?_ HR2.out ?_); (· rfl); (· rfl); intro w5 hb5 ho5))
        rw [fault_eq HQ2.out]
        refine bodyPost_ret (v := .agg #[.int .i64 4, .int .i64 2, .int .i64 0, .int .i64 0]) (results_cell_row rfl _ _ (w.heap.size + 1) 33 _ (0, 0) _ (by rfl) hb5 Try.underlying33 rfl info33) rfl ⟨rfl, HGe.out.only ho5 (by omega)⟩
      have hm2 : ¬ (16 : Int) < X.ln := by omega
      have HE := Lib.hid (show progP X = firstF (fun j => lineP (X.L j) j) X.ln by simp [progP, HQ.out, linesP, hm, orF, okF])
      go_wp2_with fail
      clear d1
      go_loopw [39, 6, 7, 8, 9] (fun x _ _ _ _ wq => ∃ k : Nat, k ≤ X.ln ∧ x = .int .i64 k ∧ (∀ j, j < k → lineP (X.L j) j = okF) ∧ Grow wr wq) (fun x _ _ _ _ _ => X.ln - (intOf x).toNat)
      case atStart => exact ⟨0, by omega, rfl, fun j hj => by omega, Grow.refl _⟩
      case round =>
        obtain ⟨k2, hk2, rfl, he, hg⟩ := hrel
        have HK := Lib.hid he; clear he
        by_cases hlt : k2 < X.ln
        · obtain ⟨ta, hTA, c0, c1⟩ := lines_at ((HL.out.grow HGe.out).grow hg) k2 hlt
          rw [hTA]
          clear hTA
          have k0 : (0 : Int) ≤ (k2 : Int) := by omega
          have kn : (k2 : Int) < (X.ln : Int) := by omega
          obtain ⟨CA, ccap, hcv, hc1, hc2⟩ := HLC.out k2 hlt
          rw [hcv] at c1
          clear hcv
          have HGr := Lib.hid (hg.trans ((Grow.alloc wr (.cells #[.int .i64 (X.L k2).mem, .slice CA (X.L k2).cn ccap] 43)).trans (Grow.alloc _ (.cells #[.int .i64 5, .int .i64 2, .int .i64 k2, .int .i64 1] 33)))); clear hg
          have HC := Lib.hid (show CodeAt ((wr.alloc (.cells #[.int .i64 (X.L k2).mem, .slice CA (X.L k2).cn ccap] 43)).alloc (.cells #[.int .i64 5, .int .i64 2, .int .i64 k2, .int .i64 1] 33)) CA (X.L k2).cn (X.L k2).C from RowAt.grow hc2 (HGe.out.trans HGr.out))
          clear hc1 hc2
          have HR3 := Lib.hid (HGr.out.at HR2.out)
          have HF := Lib.hid (show ((wr.alloc (.cells #[.int .i64 (X.L k2).mem, .slice CA (X.L k2).cn ccap] 43)).alloc (.cells #[.int .i64 5, .int .i64 2, .int .i64 k2, .int .i64 1] 33)).heap[wr.heap.size + 1]? = some (.cells #[.int .i64 5, .int .i64 2, .int .i64 k2, .int .i64 1] 33 (0, 0)) from heap_alloc2_new wr _ _)
          have hM := (heapAt_alloc_old (wr.alloc (.cells #[.int .i64 (X.L k2).mem, .slice CA (X.L k2).cn ccap] 43)) (.cells #[.int .i64 5, .int .i64 2, .int .i64 k2, .int .i64 1] 33) (by simp)).trans (heapAt_alloc_new wr (.cells #[.int .i64 (X.L k2).mem, .slice CA (X.L k2).cn ccap] 43))
          have e0 := cell_block hM 0
          have e1 := cell_block hM 1
          simp at e0 e1
          clear hM
          have hg1 : w.heap.size + 1 < wr.heap.size + 2 := by
            have := heapAt_lt HR3.out; simpa using this
          go_wp2_with fail
          refine (rng_any _ (X.L k2).mem 0 256 _ rfl).mono ?_
          rintro _ _ ⟨rfl, rfl⟩
          clear c0 c1
          cases hb : inB (X.L k2).mem 0 256
          · have HQ2 := Lib.hid (show progP X = ⟨5, 2, k2, 1⟩ by
              have hl : lineP (X.L k2) k2 = ⟨5, 2, k2, 1⟩ := by unfold lineP; rw [if_pos hb]
              have h := HE.out.trans (first_hit (fun j : Nat => lineP (X.L j) j) k2 HK.out (by simp [hl]) X.ln hlt)
              rw [h]; exact hl)
            clear hb
            go_wp2_with (first
              | ((with_reducible refine load33 rfl _ rfl (wr.heap.size + 1) ?_ HF.out ?_); (· rfl))
              | ((with_reducible refine store33 rfl _ _ rfl (w.heap.size + 1) 5 2 k2 1 ?_ ?_ HR3.out ?_); (· rfl); (· rfl); intro w5 hb5 ho5))
            rw [fault_eq HQ2.out]
            refine bodyPost_ret (v := .agg #[.int .i64 5, .int .i64 2, .int .i64 k2, .int .i64 1]) (results_cell_row rfl _ _ (w.heap.size + 1) 33 _ (0, 0) _ (by rfl) hb5 Try.underlying33 rfl info33) rfl ⟨rfl, (HGe.out.trans HGr.out).only ho5 (by omega)⟩
          · have hl : lineP (X.L k2) k2 = codeP (X.L k2).cn (X.L k2).C true 2 k2 2 := by unfold lineP; rw [if_neg (by rw [hb]; simp)]
            have hp := code_any ((wr.alloc (.cells #[.int .i64 (X.L k2).mem, .slice CA (X.L k2).cn ccap] 43)).alloc (.cells #[.int .i64 5, .int .i64 2, .int .i64 k2, .int .i64 1] 33)) CA (X.L k2).cn ccap (X.L k2).C true 5 2 k2 1 2 (by omega) (by omega) HC.out
            rw [← hl] at hp
            clear hb hl
            go_wp2_with (first
              | ((with_reducible refine load33 rfl _ rfl (wr.heap.size + 1) ?_ HF.out ?_); (· rfl)))
            clear e0 e1
            by_cases hz : (lineP (X.L k2) k2).e = 0
            · have HO := Lib.hid (ok_lits (clean_line _ _) hz)
              rw [fault_eq HO.out] at hp
              refine hp.mono ?_
              clear hp hz
              rintro _ w2 ⟨rfl, hg2⟩
              have HG2 := Lib.hid ((HGr.out.trans hg2).trans (Grow.alloc w2 (.cells zeroF 33))); clear hg2
              have HK2 := Lib.hid (show ∀ j : Nat, j < k2 + 1 → lineP (X.L j) j = okF from fun j hj => by
                  rcases Nat.lt_succ_iff_lt_or_eq.1 hj with h | h
                  · exact HK.out j h
                  · rw [h]; exact HO.out)
              go_wp2_with fail
              go_roundw
              case rel => exact ⟨k2 + 1, by omega, by go_num, HK2.out, HG2.out⟩
              case measure => simp [intOf]; omega
            · have HQ2 := Lib.hid (show progP X = lineP (X.L k2) k2 from HE.out.trans (first_hit (fun j : Nat => lineP (X.L j) j) k2 HK.out hz X.ln hlt))
              generalize lineP (X.L k2) k2 = f at *
              obtain ⟨e, p, i, a⟩ := f
              have hz2 : (e != 0) = true := by simpa using hz
              clear hz
              refine hp.mono ?_
              clear hp
              rintro _ w2 ⟨rfl, hg2⟩
              have HG2 := Lib.hid (HGr.out.trans hg2); clear hg2
              have HR4 := Lib.hid ((heapAt_alloc_old w2 (.cells #[.int .i64 e, .int .i64 p, .int .i64 i, .int .i64 a] 33) (heapAt_lt (HG2.out.at HR2.out))).trans (HG2.out.at HR2.out))
              have HN2 := Lib.hid (heapAt_alloc_new w2 (.cells #[.int .i64 e, .int .i64 p, .int .i64 i, .int .i64 a] 33))
              have HG3 := Lib.hid (HG2.out.trans (Grow.alloc w2 (.cells #[.int .i64 e, .int .i64 p, .int .i64 i, .int .i64 a] 33)))
              go_wp2_with (first
                | ((with_reducible refine load33 rfl _ rfl w2.heap.size ?_ HN2.out ?_); (· rfl))
                | ((with_reducible refine store33 rfl _ _ rfl (w.heap.size + 1) e p i a ?_ ?_ HR4.out ?_); (· rfl); (· rfl); intro w5 hb5 ho5))
              rw [fault_eq HQ2.out]
              refine bodyPost_ret (v := .agg #[.int .i64 e, .int .i64 p, .int .i64 i, .int .i64 a]) (results_cell_row rfl _ _ (w.heap.size + 1) 33 _ (0, 0) _ (by rfl) hb5 Try.underlying33 rfl info33) rfl ⟨rfl, (HGe.out.trans HG3.out).only ho5 (by omega)⟩
        · have kn : ¬ (k2 : Int) < (X.ln : Int) := by omega
          have HQ2 := Lib.hid (show progP X = okF from HE.out.trans (first_none _ X.ln (fun j hj => HK.out j (by omega))))
          have HR3 := Lib.hid (hg.at HR2.out)
          have HGz := Lib.hid (HGe.out.trans hg); clear hg
          go_wp2_with (first
            | ((with_reducible refine store33 rfl _ _ rfl (w.heap.size + 1) 0 0 0 0 ?_ ?_ HR3.out ?_); (· rfl); (· rfl); intro w5 hb5 ho5))
          rw [fault_eq HQ2.out]
          refine bodyPost_ret (v := .agg zeroF) (results_cell_row rfl _ _ (w.heap.size + 1) 33 _ (0, 0) _ (by rfl) hb5 Try.underlying33 rfl info33) rfl ⟨rfl, HGz.out.only ho5 (by omega)⟩
end Go.Proofs.Ytmmbhjomgpnklaa
