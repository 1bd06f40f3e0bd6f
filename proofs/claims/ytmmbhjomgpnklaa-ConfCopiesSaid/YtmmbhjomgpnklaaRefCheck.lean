/- The reference's Check: the walk. -/
import Derived.Test.YtmmbhjomgpnklaaCheck
namespace Go.Proofs.Ytmmbhjomgpnklaa
open Go.RowKit
set_option linter.unusedVariables false
set_option linter.unusedSimpArgs false
set_option maxRecDepth 100000
theorem orF_ok (g : Ft) : orF okF g = g := rfl
theorem orF_no {f : Ft} (g : Ft) (h : f.e ≠ 0) : orF f g = f := by unfold orF; rw [if_neg h]
theorem sys_prog (X : Cf) (f : Ft) (h : progP X = f) (he : f.e ≠ 0) : sysP X = f := by unfold sysP; rw [h, orF_no _ he]
theorem sys_task (X : Cf) (k : Nat) (hn : ¬ 64 < X.tn) (hK : ∀ j : Nat, j < k → taskP (X.T j) j = okF) (hk : k < X.tn) (f : Ft) (hf : taskP (X.T k) k = f) (he : f.e ≠ 0) : sysP X = f := by
  refine sys_prog X f ?_ he
  have h := first_hit (fun j : Nat => taskP (X.T j) j) k hK (show (taskP (X.T k) k).e ≠ 0 by rw [hf]; exact he) X.tn hk
  rw [progP, tasksP, if_neg hn, h]
  show orF (taskP (X.T k) k) _ = f
  rw [hf, orF_no _ he]
theorem sys_line (X : Cf) (k : Nat) (ht : tasksP X.tn X.T = okF) (hn : ¬ 16 < X.ln) (hK : ∀ j : Nat, j < k → lineP (X.L j) j = okF) (hk : k < X.ln) (f : Ft) (hf : lineP (X.L k) k = f) (he : f.e ≠ 0) : sysP X = f := by
  refine sys_prog X f ?_ he
  have h := first_hit (fun j : Nat => lineP (X.L j) j) k hK (show (lineP (X.L k) k).e ≠ 0 by rw [hf]; exact he) X.ln hk
  rw [progP, ht, orF_ok, linesP, if_neg hn, h]
  exact hf
theorem codeF_a (C : Nat → Ins) (n : Nat) (isr : Bool) (j : Nat) (hj : j < 256) : 0 ≤ (codeF C n isr j).a ∧ (codeF C n isr j).a ≤ 256 := by
  unfold codeF
  split
  · simp [okF]
  · constructor <;> simp <;> omega
theorem codeQ_a (n : Nat) (C : Nat → Ins) (isr : Bool) : 0 ≤ (codeQ n C isr).a ∧ (codeQ n C isr).a ≤ 256 := by
  unfold codeQ
  split
  · simp
  · rename_i hn
    rcases first_cases (codeF C n isr) (fun j h => by
      unfold codeF at h ⊢
      split
      · rfl
      · rename_i hz; rw [if_neg hz] at h; exact absurd h hz) n with ⟨h, _⟩ | ⟨k, hk, _, _, h⟩
    · rw [h]; simp [okF]
    · rw [h]; exact codeF_a C n isr k (by omega)
theorem maskOk_def (m : BitVec 32) (n : Nat) : maskOk m n = decide (m.toNat / 2 ^ (min n 16) = 0) := rfl
theorem sysP_eq (X : Cf) : sysP X = orF (progP X) (orF (numP (inB X.mx 0 32) 3) (orF (rowP X.sn X.S 4 0 255) (orF (rowP X.qn X.Q 5 1 64) (orF (rowP X.mn X.M 6 0 ((X.sn : Int) - 1)) (orF (numP (inB X.table 0 64) 7) (orF (numP (maskOk X.mask X.ln) 8) (numP (inB X.charge 0 64) 9))))))) := rfl
attribute [local irreducible] inB codeQ rowP maskOk sysP
set_option maxHeartbeats 20000000 in
theorem refCheck_walk (w : World) (TA LA SA QA MA : Option Addr) (tc lc sc qc mc : Nat) (tcv lcv : Nat → Value) (X : Cf) (hsn : (X.sn : Int) ≤ 1000000)
    (hT : RowAt w TA X.tn 6 (fun j => tkL (X.T j) (tcv j))) (hTC : ∀ j, j < X.tn → CodeV w (tcv j) (X.T j).cn (X.T j).C) (hL : RowAt w LA X.ln 2 (fun j => lnL (X.L j) (lcv j))) (hLC : ∀ j, j < X.ln → CodeV w (lcv j) (X.L j).cn (X.L j).C)
    (hS : MemAt w SA X.sn X.S) (hQ : MemAt w QA X.qn X.Q) (hM : MemAt w MA X.mn X.M) :
    Calls Try.prog 11 #[.agg (cfC (.slice TA X.tn tc) (.slice LA X.ln lc) (.slice SA X.sn sc) (.slice QA X.qn qc) (.slice MA X.mn mc) X)] w fun r w' => r = .returned (.agg (faultC (sysP X))) ∧ Grow w w' := by
  have HT := Lib.hid hT; clear hT
  have HTC := Lib.hid hTC; clear hTC
  have HL := Lib.hid hL; clear hL
  have HLC := Lib.hid hLC; clear hLC
  have HS := Lib.hid hS; clear hS
  have HQQ := Lib.hid hQ; clear hQ
  have HM := Lib.hid hM; clear hM
  by_cases hn : 64 < X.tn
  · have hn2 : (64 : Int) < X.tn := by omega
    have HQ := Lib.hid (sys_prog X ⟨4, 1, 0, 0⟩ (by simp [progP, tasksP, hn, orF]) (by simp))
    have HR := Lib.hid (show (((w.alloc (.cells (cfC (.slice TA X.tn tc) (.slice LA X.ln lc) (.slice SA X.sn sc) (.slice QA X.qn qc) (.slice MA X.mn mc) X) 28)).alloc (.cells zeroF 33))).heap[w.heap.size + 1]? = some (.cells zeroF 33 (0, 0)) from heap_alloc2_new w _ _)
    have HG := Lib.hid (show Grow w (((w.alloc (.cells (cfC (.slice TA X.tn tc) (.slice LA X.ln lc) (.slice SA X.sn sc) (.slice QA X.qn qc) (.slice MA X.mn mc) X) 28)).alloc (.cells zeroF 33))) from (Grow.alloc _ _).trans (Grow.alloc _ _))
    go_enter Try.func11, Try.ntmps11
    go_wp2_with fail
    refine (fault_any _ 4 1 0 0).mono ?_
    rintro _ wf ⟨rfl, hgf⟩
    have HRf := Lib.hid (hgf.at HR.out)
    have HGf := Lib.hid (HG.out.trans hgf)
    clear hgf
    go_wp2_with (first
      | ((with_reducible refine store33 rfl _ _ rfl (w.heap.size + 1) 4 1 0 0 ?_ ?_ HRf.out ?_); (· rfl); (· rfl); intro w5 hb5 ho5))
    rw [fault_eq HQ.out]
    refine bodyPost_ret (v := .agg #[.int .i64 4, .int .i64 1, .int .i64 0, .int .i64 0]) (results_cell_row rfl _ _ (w.heap.size + 1) 33 _ (0, 0) _ (by rfl) hb5 Try.underlying33 rfl info33) rfl ⟨rfl, HGf.out.only ho5 (by omega)⟩
  have hn2 : ¬ (64 : Int) < X.tn := by omega
  go_enter Try.func11, Try.ntmps11
  go_wp2_with fail
  have hX : (((w.alloc (.cells (cfC (.slice TA X.tn tc) (.slice LA X.ln lc) (.slice SA X.sn sc) (.slice QA X.qn qc) (.slice MA X.mn mc) X) 28)).alloc (.cells zeroF 33))).heap[w.heap.size]? = some (.cells (cfC (.slice TA X.tn tc) (.slice LA X.ln lc) (.slice SA X.sn sc) (.slice QA X.qn qc) (.slice MA X.mn mc) X) 28 (0, 0)) := (heapAt_alloc_old _ _ (by simp)).trans (heapAt_alloc_new w _)
  have hR : (((w.alloc (.cells (cfC (.slice TA X.tn tc) (.slice LA X.ln lc) (.slice SA X.sn sc) (.slice QA X.qn qc) (.slice MA X.mn mc) X) 28)).alloc (.cells zeroF 33))).heap[w.heap.size + 1]? = some (.cells zeroF 33 (0, 0)) := heap_alloc2_new w _ _
  have hG : Grow w (((w.alloc (.cells (cfC (.slice TA X.tn tc) (.slice LA X.ln lc) (.slice SA X.sn sc) (.slice QA X.qn qc) (.slice MA X.mn mc) X) 28)).alloc (.cells zeroF 33))) := (Grow.alloc _ _).trans (Grow.alloc _ _)
  generalize ((w.alloc (.cells (cfC (.slice TA X.tn tc) (.slice LA X.ln lc) (.slice SA X.sn sc) (.slice QA X.qn qc) (.slice MA X.mn mc) X) 28)).alloc (.cells zeroF 33)) = w1 at hX hR hG ⊢
  have HX := Lib.hid hX; clear hX
  have HR := Lib.hid hR; clear hR
  have HG := Lib.hid hG; clear hG
  go_loopw [3, 4, 5, 6] (fun x _ _ _ wr => ∃ k : Nat, k ≤ X.tn ∧ x = .int .i64 k ∧ (∀ j, j < k → taskP (X.T j) j = okF) ∧ Grow w1 wr) (fun x _ _ _ _ => X.tn - (intOf x).toNat)
  case atStart => exact ⟨0, by omega, rfl, fun j hj => by omega, Grow.refl _⟩
  case round =>
    obtain ⟨k, hk, rfl, he, hg⟩ := hrel
    have HK := Lib.hid he; clear he
    have hX := hg.at HX.out
    have x0 := cell_block hX 0
    have x1 := cell_block hX 1
    simp at x0 x1
    clear hX
    by_cases hlt : k < X.tn
    · obtain ⟨ta, hTA, c0, c1, c2, c3, c4, c5⟩ := tasks_at ((HT.out.grow HG.out).grow hg) k hlt
      rw [hTA] at x0
      clear hTA x1
      have k0 : (0 : Int) ≤ (k : Int) := by omega
      have kn : (k : Int) < (X.tn : Int) := by omega
      obtain ⟨CA, ccap, hcv, hc1, hc2⟩ := HTC.out k hlt
      rw [hcv] at c5
      clear hcv
      have hE := heapAt_alloc_new wr (.cells #[.int .i64 (X.T k).lv, .int .i64 (X.T k).off, .int .i64 (X.T k).per, .int .i64 (X.T k).dl, .int .i64 (X.T k).mem, .slice CA (X.T k).cn ccap] 39)
      have HE := Lib.hid hE; clear hE
      have HGr := Lib.hid (hg.trans (Grow.alloc wr (.cells #[.int .i64 (X.T k).lv, .int .i64 (X.T k).off, .int .i64 (X.T k).per, .int .i64 (X.T k).dl, .int .i64 (X.T k).mem, .slice CA (X.T k).cn ccap] 39))); clear hg
      have HC := Lib.hid (show CodeAt (wr.alloc (.cells #[.int .i64 (X.T k).lv, .int .i64 (X.T k).off, .int .i64 (X.T k).per, .int .i64 (X.T k).dl, .int .i64 (X.T k).mem, .slice CA (X.T k).cn ccap] 39)) CA (X.T k).cn (X.T k).C from RowAt.grow hc2 (HG.out.trans HGr.out))
      clear hc1 hc2
      have HTP := Lib.hid (show taskP (X.T k) k = (if inB (X.T k).lv 0 31 = false then ⟨5, 1, k, 1⟩ else if inB (X.T k).off 1 1073741824 = false then ⟨5, 1, k, 2⟩ else if inB (X.T k).per 0 1073741824 = false then ⟨5, 1, k, 3⟩ else if inB (X.T k).dl 0 1073741824 = false then ⟨5, 1, k, 4⟩ else if inB (X.T k).mem 0 256 = false then ⟨5, 1, k, 5⟩ else codeP (X.T k).cn (X.T k).C false 1 k 6) from rfl)
      have H1 := Lib.hid (fun w => outr_any w (X.T k).lv 0 31 _ rfl)
      have H2 := Lib.hid (fun w => outr_any w (X.T k).off 1 1073741824 _ rfl)
      have H3 := Lib.hid (fun w => outr_any w (X.T k).per 0 1073741824 _ rfl)
      have H4 := Lib.hid (fun w => outr_any w (X.T k).dl 0 1073741824 _ rfl)
      have H5 := Lib.hid (fun w => outr_any w (X.T k).mem 0 256 _ rfl)
      generalize inB (X.T k).lv 0 31 = b1 at *
      generalize inB (X.T k).off 1 1073741824 = b2 at *
      generalize inB (X.T k).per 0 1073741824 = b3 at *
      generalize inB (X.T k).dl 0 1073741824 = b4 at *
      generalize inB (X.T k).mem 0 256 = b5 at *
      go_wp2_with fail
      clear c0 c1 c2 c3 c4 c5 x0
      generalize wr.alloc (.cells #[.int .i64 (X.T k).lv, .int .i64 (X.T k).off, .int .i64 (X.T k).per, .int .i64 (X.T k).dl, .int .i64 (X.T k).mem, .slice CA (X.T k).cn ccap] 39) = w4 at *
      have e0 := cell_block HE.out 0
      have e1 := cell_block HE.out 1
      have e2 := cell_block HE.out 2
      have e3 := cell_block HE.out 3
      have e4 := cell_block HE.out 4
      have e5 := cell_block HE.out 5
      simp at e0 e1 e2 e3 e4 e5
      clear HE
      go_wp2_with fail
      refine (H1.out _).mono ?_
      rintro _ _ ⟨rfl, rfl⟩
      cases b1
      · have HQ := Lib.hid (sys_task X k hn HK.out hlt ⟨5, 1, k, 1⟩ (by rw [HTP.out]; simp) (by simp))
        have HR3 := Lib.hid (HGr.out.at HR.out)
        have HG4 := Lib.hid (HG.out.trans HGr.out)
        clear e0 e1 e2 e3 e4 e5
        go_wp2_with fail
        refine (fault_any _ 5 1 k 1).mono ?_
        rintro _ wf ⟨rfl, hgf⟩
        have HRf := Lib.hid (hgf.at HR3.out)
        have HGf := Lib.hid (HG4.out.trans hgf)
        clear hgf
        go_wp2_with (first
          | ((with_reducible refine store33 rfl _ _ rfl (w.heap.size + 1) 5 1 k 1 ?_ ?_ HRf.out ?_); (· rfl); (· rfl); intro w5 hb5 ho5))
        rw [fault_eq HQ.out]
        refine bodyPost_ret (v := .agg #[.int .i64 5, .int .i64 1, .int .i64 k, .int .i64 1]) (results_cell_row rfl _ _ (w.heap.size + 1) 33 _ (0, 0) _ (by rfl) hb5 Try.underlying33 rfl info33) rfl ⟨rfl, HGf.out.only ho5 (by omega)⟩
      · go_wp2_with fail
        refine (H2.out _).mono ?_
        rintro _ _ ⟨rfl, rfl⟩
        cases b2
        · have HQ := Lib.hid (sys_task X k hn HK.out hlt ⟨5, 1, k, 2⟩ (by rw [HTP.out]; simp) (by simp))
          have HR3 := Lib.hid (HGr.out.at HR.out)
          have HG4 := Lib.hid (HG.out.trans HGr.out)
          clear e0 e1 e2 e3 e4 e5
          go_wp2_with fail
          refine (fault_any _ 5 1 k 2).mono ?_
          rintro _ wf ⟨rfl, hgf⟩
          have HRf := Lib.hid (hgf.at HR3.out)
          have HGf := Lib.hid (HG4.out.trans hgf)
          clear hgf
          go_wp2_with (first
            | ((with_reducible refine store33 rfl _ _ rfl (w.heap.size + 1) 5 1 k 2 ?_ ?_ HRf.out ?_); (· rfl); (· rfl); intro w5 hb5 ho5))
          rw [fault_eq HQ.out]
          refine bodyPost_ret (v := .agg #[.int .i64 5, .int .i64 1, .int .i64 k, .int .i64 2]) (results_cell_row rfl _ _ (w.heap.size + 1) 33 _ (0, 0) _ (by rfl) hb5 Try.underlying33 rfl info33) rfl ⟨rfl, HGf.out.only ho5 (by omega)⟩
        · go_wp2_with fail
          refine (H3.out _).mono ?_
          rintro _ _ ⟨rfl, rfl⟩
          cases b3
          · have HQ := Lib.hid (sys_task X k hn HK.out hlt ⟨5, 1, k, 3⟩ (by rw [HTP.out]; simp) (by simp))
            have HR3 := Lib.hid (HGr.out.at HR.out)
            have HG4 := Lib.hid (HG.out.trans HGr.out)
            clear e0 e1 e2 e3 e4 e5
            go_wp2_with fail
            refine (fault_any _ 5 1 k 3).mono ?_
            rintro _ wf ⟨rfl, hgf⟩
            have HRf := Lib.hid (hgf.at HR3.out)
            have HGf := Lib.hid (HG4.out.trans hgf)
            clear hgf
            go_wp2_with (first
              | ((with_reducible refine store33 rfl _ _ rfl (w.heap.size + 1) 5 1 k 3 ?_ ?_ HRf.out ?_); (· rfl); (· rfl); intro w5 hb5 ho5))
            rw [fault_eq HQ.out]
            refine bodyPost_ret (v := .agg #[.int .i64 5, .int .i64 1, .int .i64 k, .int .i64 3]) (results_cell_row rfl _ _ (w.heap.size + 1) 33 _ (0, 0) _ (by rfl) hb5 Try.underlying33 rfl info33) rfl ⟨rfl, HGf.out.only ho5 (by omega)⟩
          · go_wp2_with fail
            refine (H4.out _).mono ?_
            rintro _ _ ⟨rfl, rfl⟩
            cases b4
            · have HQ := Lib.hid (sys_task X k hn HK.out hlt ⟨5, 1, k, 4⟩ (by rw [HTP.out]; simp) (by simp))
              have HR3 := Lib.hid (HGr.out.at HR.out)
              have HG4 := Lib.hid (HG.out.trans HGr.out)
              clear e0 e1 e2 e3 e4 e5
              go_wp2_with fail
              refine (fault_any _ 5 1 k 4).mono ?_
              rintro _ wf ⟨rfl, hgf⟩
              have HRf := Lib.hid (hgf.at HR3.out)
              have HGf := Lib.hid (HG4.out.trans hgf)
              clear hgf
              go_wp2_with (first
                | ((with_reducible refine store33 rfl _ _ rfl (w.heap.size + 1) 5 1 k 4 ?_ ?_ HRf.out ?_); (· rfl); (· rfl); intro w5 hb5 ho5))
              rw [fault_eq HQ.out]
              refine bodyPost_ret (v := .agg #[.int .i64 5, .int .i64 1, .int .i64 k, .int .i64 4]) (results_cell_row rfl _ _ (w.heap.size + 1) 33 _ (0, 0) _ (by rfl) hb5 Try.underlying33 rfl info33) rfl ⟨rfl, HGf.out.only ho5 (by omega)⟩
            · go_wp2_with fail
              refine (H5.out _).mono ?_
              rintro _ _ ⟨rfl, rfl⟩
              cases b5
              · have HQ := Lib.hid (sys_task X k hn HK.out hlt ⟨5, 1, k, 5⟩ (by rw [HTP.out]; simp) (by simp))
                have HR3 := Lib.hid (HGr.out.at HR.out)
                have HG4 := Lib.hid (HG.out.trans HGr.out)
                clear e0 e1 e2 e3 e4 e5
                go_wp2_with fail
                refine (fault_any _ 5 1 k 5).mono ?_
                rintro _ wf ⟨rfl, hgf⟩
                have HRf := Lib.hid (hgf.at HR3.out)
                have HGf := Lib.hid (HG4.out.trans hgf)
                clear hgf
                go_wp2_with (first
                  | ((with_reducible refine store33 rfl _ _ rfl (w.heap.size + 1) 5 1 k 5 ?_ ?_ HRf.out ?_); (· rfl); (· rfl); intro w5 hb5 ho5))
                rw [fault_eq HQ.out]
                refine bodyPost_ret (v := .agg #[.int .i64 5, .int .i64 1, .int .i64 k, .int .i64 5]) (results_cell_row rfl _ _ (w.heap.size + 1) 33 _ (0, 0) _ (by rfl) hb5 Try.underlying33 rfl info33) rfl ⟨rfl, HGf.out.only ho5 (by omega)⟩
              · have hQ : taskP (X.T k) k = codeP (X.T k).cn (X.T k).C false 1 k 6 := by rw [HTP.out]; simp
                clear HTP
                have HTP := Lib.hid hQ; clear hQ
                go_wp2_with fail
                refine (refCode_any _ CA (X.T k).cn ccap (X.T k).C false HC.out).mono ?_
                rintro _ w3 ⟨rfl, hg3⟩
                have HG3 := Lib.hid (HGr.out.trans hg3)
                clear hg3 e0 e1 e2 e3 e4 e5
                by_cases hz : (codeQ (X.T k).cn (X.T k).C false).e = 0
                · have HO := Lib.hid (show taskP (X.T k) k = okF by rw [HTP.out, codeP, if_pos hz])
                  have HK2 := Lib.hid (show ∀ j : Nat, j < k + 1 → taskP (X.T j) j = okF from fun j hj => by
                      rcases Nat.lt_succ_iff_lt_or_eq.1 hj with h | h
                      · exact HK.out j h
                      · rw [h]; exact HO.out)
                  generalize (codeQ (X.T k).cn (X.T k).C false).a = qa at *
                  rw [hz]
                  go_wp2_with fail
                  go_roundw
                  case rel => exact ⟨k + 1, by omega, by go_num, HK2.out, HG3.out⟩
                  case measure => simp [intOf]; omega
                · have HQ := Lib.hid (sys_task X k hn HK.out hlt ⟨(codeQ (X.T k).cn (X.T k).C false).e, 1, k, 6 + (codeQ (X.T k).cn (X.T k).C false).a⟩ (by rw [HTP.out, codeP, if_neg hz]) hz)
                  have HR3 := Lib.hid (HG3.out.at HR.out)
                  have HG4 := Lib.hid (HG.out.trans HG3.out)
                  have ha := codeQ_a (X.T k).cn (X.T k).C false
                  generalize (codeQ (X.T k).cn (X.T k).C false).a = qa at *
                  generalize (codeQ (X.T k).cn (X.T k).C false).e = qe at *
                  have hz2 : (qe != 0) = true := by simpa using hz
                  have hq1 : (6 : Int) + qa ≤ 1000 := by omega
                  have hq2 : (0 : Int) ≤ 6 + qa := by omega
                  go_wp2_with fail
                  refine (fault_any _ qe 1 k (6 + qa)).mono ?_
                  rintro _ wf ⟨rfl, hgf⟩
                  have HRf := Lib.hid (hgf.at HR3.out)
                  have HGf := Lib.hid (HG4.out.trans hgf)
                  clear hgf
                  go_wp2_with (first
                    | ((with_reducible refine store33 rfl _ _ rfl (w.heap.size + 1) qe 1 k (6 + qa) ?_ ?_ HRf.out ?_); (· rfl); (· rfl); intro w5 hb5 ho5))
                  rw [fault_eq HQ.out]
                  refine bodyPost_ret (v := .agg #[.int .i64 qe, .int .i64 1, .int .i64 k, .int .i64 (6 + qa)]) (results_cell_row rfl _ _ (w.heap.size + 1) 33 _ (0, 0) _ (by rfl) hb5 Try.underlying33 rfl info33) rfl ⟨rfl, HGf.out.only ho5 (by omega)⟩
    · have kn : ¬ (k : Int) < (X.tn : Int) := by omega
      have HTS := Lib.hid (show tasksP X.tn X.T = okF by rw [tasksP, if_neg hn]; exact first_none _ X.tn (fun j hj => HK.out j (by omega)))
      have HGe := Lib.hid (HG.out.trans hg)
      have HX2 := Lib.hid (hg.at HX.out)
      have HR2 := Lib.hid (hg.at HR.out)
      clear HR HX HT HTC HG hg HK
      by_cases hm : 16 < X.ln
      · have hm2 : (16 : Int) < X.ln := by omega
        have HQ := Lib.hid (sys_prog X ⟨4, 2, 0, 0⟩ (by simp [progP, HTS.out, linesP, hm, orF_ok]) (by simp))
        go_wp2_with fail
        refine (fault_any _ 4 2 0 0).mono ?_
        rintro _ wf ⟨rfl, hgf⟩
        have HRf := Lib.hid (hgf.at HR2.out)
        have HGf := Lib.hid (HGe.out.trans hgf)
        clear hgf
        go_wp2_with (first
          | ((with_reducible refine store33 rfl _ _ rfl (w.heap.size + 1) 4 2 0 0 ?_ ?_ HRf.out ?_); (· rfl); (· rfl); intro w5 hb5 ho5))
        rw [fault_eq HQ.out]
        refine bodyPost_ret (v := .agg #[.int .i64 4, .int .i64 2, .int .i64 0, .int .i64 0]) (results_cell_row rfl _ _ (w.heap.size + 1) 33 _ (0, 0) _ (by rfl) hb5 Try.underlying33 rfl info33) rfl ⟨rfl, HGf.out.only ho5 (by omega)⟩
      have hm2 : ¬ (16 : Int) < X.ln := by omega
      go_wp2_with fail
      clear x0 x1
      go_loopw [7, 8, 9] (fun x _ _ wq => ∃ k : Nat, k ≤ X.ln ∧ x = .int .i64 k ∧ (∀ j, j < k → lineP (X.L j) j = okF) ∧ Grow wr wq) (fun x _ _ _ => X.ln - (intOf x).toNat)
      case atStart => exact ⟨0, by omega, rfl, fun j hj => by omega, Grow.refl _⟩
      case round =>
        obtain ⟨k2, hk2, rfl, he, hg⟩ := hrel
        have HK := Lib.hid he; clear he
        have hX := hg.at HX2.out
        have x0 := cell_block hX 0
        have x1 := cell_block hX 1
        have x2 := cell_block hX 2
        simp at x0 x1 x2
        by_cases hlt : k2 < X.ln
        · obtain ⟨ta, hTA, c0, c1⟩ := lines_at ((HL.out.grow HGe.out).grow hg) k2 hlt
          rw [hTA] at x1
          clear hTA hX x0 x2
          have k0 : (0 : Int) ≤ (k2 : Int) := by omega
          have kn : (k2 : Int) < (X.ln : Int) := by omega
          obtain ⟨CA, ccap, hcv, hc1, hc2⟩ := HLC.out k2 hlt
          rw [hcv] at c1
          clear hcv
          have HGq := Lib.hid hg
          have HGr := Lib.hid (HGe.out.trans hg); clear hg
          have HC := Lib.hid (show CodeAt wr CA (X.L k2).cn (X.L k2).C from RowAt.grow hc2 HGr.out)
          clear hc1 hc2
          have HR3 := Lib.hid (HGq.out.at HR2.out)
          go_wp2_with fail
          refine (outr_any _ (X.L k2).mem 0 256 _ rfl).mono ?_
          rintro _ _ ⟨rfl, rfl⟩
          cases hb : inB (X.L k2).mem 0 256
          · have HQ := Lib.hid (sys_line X k2 HTS.out hm HK.out hlt ⟨5, 2, k2, 1⟩ (by unfold lineP; rw [if_pos hb]) (by simp))
            clear hb c0 c1
            go_wp2_with fail
            refine (fault_any _ 5 2 k2 1).mono ?_
            rintro _ wf ⟨rfl, hgf⟩
            have HRf := Lib.hid (hgf.at HR3.out)
            have HGf := Lib.hid (HGr.out.trans hgf)
            clear hgf
            go_wp2_with (first
              | ((with_reducible refine store33 rfl _ _ rfl (w.heap.size + 1) 5 2 k2 1 ?_ ?_ HRf.out ?_); (· rfl); (· rfl); intro w5 hb5 ho5))
            rw [fault_eq HQ.out]
            refine bodyPost_ret (v := .agg #[.int .i64 5, .int .i64 2, .int .i64 k2, .int .i64 1]) (results_cell_row rfl _ _ (w.heap.size + 1) 33 _ (0, 0) _ (by rfl) hb5 Try.underlying33 rfl info33) rfl ⟨rfl, HGf.out.only ho5 (by omega)⟩
          · have HTP := Lib.hid (show lineP (X.L k2) k2 = codeP (X.L k2).cn (X.L k2).C true 2 k2 2 by unfold lineP; rw [if_neg (by rw [hb]; simp)])
            clear hb
            go_wp2_with fail
            refine (refCode_any _ CA (X.L k2).cn ccap (X.L k2).C true HC.out).mono ?_
            rintro _ w3 ⟨rfl, hg3⟩
            have HG3 := Lib.hid (HGq.out.trans hg3)
            clear hg3 c0 c1
            by_cases hz : (codeQ (X.L k2).cn (X.L k2).C true).e = 0
            · have HO := Lib.hid (show lineP (X.L k2) k2 = okF by rw [HTP.out, codeP, if_pos hz])
              have HK2 := Lib.hid (show ∀ j : Nat, j < k2 + 1 → lineP (X.L j) j = okF from fun j hj => by
                  rcases Nat.lt_succ_iff_lt_or_eq.1 hj with h | h
                  · exact HK.out j h
                  · rw [h]; exact HO.out)
              generalize (codeQ (X.L k2).cn (X.L k2).C true).a = qa at *
              rw [hz]
              go_wp2_with fail
              go_roundw
              case rel => exact ⟨k2 + 1, by omega, by go_num, HK2.out, HG3.out⟩
              case measure => simp [intOf]; omega
            · have HQ := Lib.hid (sys_line X k2 HTS.out hm HK.out hlt ⟨(codeQ (X.L k2).cn (X.L k2).C true).e, 2, k2, 2 + (codeQ (X.L k2).cn (X.L k2).C true).a⟩ (by rw [HTP.out, codeP, if_neg hz]) hz)
              have HR4 := Lib.hid (HG3.out.at HR2.out)
              have HG4 := Lib.hid (HGe.out.trans HG3.out)
              have ha := codeQ_a (X.L k2).cn (X.L k2).C true
              generalize (codeQ (X.L k2).cn (X.L k2).C true).a = qa at *
              generalize (codeQ (X.L k2).cn (X.L k2).C true).e = qe at *
              have hz2 : (qe != 0) = true := by simpa using hz
              have hq1 : (2 : Int) + qa ≤ 1000 := by omega
              have hq2 : (0 : Int) ≤ 2 + qa := by omega
              go_wp2_with fail
              refine (fault_any _ qe 2 k2 (2 + qa)).mono ?_
              rintro _ wf ⟨rfl, hgf⟩
              have HRf := Lib.hid (hgf.at HR4.out)
              have HGf := Lib.hid (HG4.out.trans hgf)
              clear hgf
              go_wp2_with (first
                | ((with_reducible refine store33 rfl _ _ rfl (w.heap.size + 1) qe 2 k2 (2 + qa) ?_ ?_ HRf.out ?_); (· rfl); (· rfl); intro w5 hb5 ho5))
              rw [fault_eq HQ.out]
              refine bodyPost_ret (v := .agg #[.int .i64 qe, .int .i64 2, .int .i64 k2, .int .i64 (2 + qa)]) (results_cell_row rfl _ _ (w.heap.size + 1) 33 _ (0, 0) _ (by rfl) hb5 Try.underlying33 rfl info33) rfl ⟨rfl, HGf.out.only ho5 (by omega)⟩
        · have kn : ¬ (k2 : Int) < (X.ln : Int) := by omega
          have HSY : Hid (sysP X = (orF (numP (inB X.mx 0 32) 3) (orF (rowP X.sn X.S 4 0 255) (orF (rowP X.qn X.Q 5 1 64) (orF (rowP X.mn X.M 6 0 ((X.sn : Int) - 1)) (orF (numP (inB X.table 0 64) 7) (orF (numP (maskOk X.mask X.ln) 8) (numP (inB X.charge 0 64) 9)))))))) := Lib.hid (by
            have hp : progP X = okF := by rw [progP, HTS.out, orF_ok, linesP, if_neg hm]; exact first_none _ X.ln (fun j hj => HK.out j (by omega))
            rw [sysP_eq, hp, orF_ok])
          have HGz := Lib.hid (HGe.out.trans hg)
          have HRz := Lib.hid (hg.at HR2.out)
          have HXz := Lib.hid hX
          clear x0 x1 x2 hX
          clear HR2 HX2 HGe hg HK HTS HL HLC
          have x0 := cell_block HXz.out 0
          have x1 := cell_block HXz.out 1
          have x2 := cell_block HXz.out 2
          have x3 := cell_block HXz.out 3
          have x4 := cell_block HXz.out 4
          have x5 := cell_block HXz.out 5
          have x6 := cell_block HXz.out 6
          have x7 := cell_block HXz.out 7
          have x9 := cell_block HXz.out 9
          simp at x0 x1 x2 x3 x4 x5 x6 x7 x9
          have HWR := Lib.hid (show IntKind.i64.wrap ((X.sn : Int) - 1) = (X.sn : Int) - 1 from (by rw [IntKind.wrap_i64]; omega))
          go_wp2_with fail
          refine (outr_any _ X.mx 0 32 _ rfl).mono ?_
          rintro _ w9 ⟨rfl, hw9⟩
          obtain rfl := hw9.symm
          clear hw9
          cases hb : inB X.mx 0 32
          · have HQ := Lib.hid (show sysP X = ⟨5, 3, 0, 0⟩ from HSY.out.trans (by rw [hb]; rfl))
            clear hb x0 x1 x2 x3 x4 x5 x6 x7 x9
            go_wp2_with fail
            refine (fault_any _ 5 3 0 0).mono ?_
            rintro _ wf ⟨rfl, hgf⟩
            have HRf := Lib.hid (hgf.at HRz.out)
            have HGf := Lib.hid (HGz.out.trans hgf)
            clear hgf
            go_wp2_with (first
              | ((with_reducible refine store33 rfl _ _ rfl (w.heap.size + 1) 5 3 0 0 ?_ ?_ HRf.out ?_); (· rfl); (· rfl); intro w5 hb5 ho5))
            rw [fault_eq HQ.out]
            refine bodyPost_ret (v := .agg #[.int .i64 5, .int .i64 3, .int .i64 0, .int .i64 0]) (results_cell_row rfl _ _ (w.heap.size + 1) 33 _ (0, 0) _ (by rfl) hb5 Try.underlying33 rfl info33) rfl ⟨rfl, HGf.out.only ho5 (by omega)⟩
          · have HS1 : Hid (sysP X = (orF (rowP X.sn X.S 4 0 255) (orF (rowP X.qn X.Q 5 1 64) (orF (rowP X.mn X.M 6 0 ((X.sn : Int) - 1)) (orF (numP (inB X.table 0 64) 7) (orF (numP (maskOk X.mask X.ln) 8) (numP (inB X.charge 0 64) 9))))))) := Lib.hid (HSY.out.trans (by rw [hb, show numP true 3 = okF from rfl, orF_ok]))
            clear hb HSY
            have HSY := HS1; clear HS1
            go_wp2_with fail
            refine (refRow_any _ SA X.sn sc X.S 4 0 255 (HS.out.grow HGz.out)).mono ?_
            rintro _ wa ⟨rfl, hga⟩
            by_cases hz : (rowP X.sn X.S 4 0 255).e = 0
            · have HO := Lib.hid (show (rowP X.sn X.S 4 0 255) = okF from clean_row _ _ _ _ _ hz)
              have HO2 := Lib.hid (ok_lits (clean_row _ _ _ _ _) hz)
              rw [fault_eq HO2.out]
              have HS1 : Hid (sysP X = (orF (rowP X.qn X.Q 5 1 64) (orF (rowP X.mn X.M 6 0 ((X.sn : Int) - 1)) (orF (numP (inB X.table 0 64) 7) (orF (numP (maskOk X.mask X.ln) 8) (numP (inB X.charge 0 64) 9)))))) := Lib.hid (HSY.out.trans (by rw [HO.out, orF_ok]))
              have HGy := Lib.hid ((HGz.out.trans hga).trans (Grow.alloc wa (.cells zeroF 33)))
              have HRy := Lib.hid ((Grow.alloc wa (.cells zeroF 33)).at (hga.at HRz.out))
              have HXy := Lib.hid ((Grow.alloc wa (.cells zeroF 33)).at (hga.at HXz.out))
              have HXa := Lib.hid (hga.at HXz.out)
              have hltb := heapAt_lt HXa.out
              clear hz hga HRz HGz HXz HSY HO HO2 x0 x1 x2 x3 x4 x5 x6 x7 x9
              have x0 := cell_block HXa.out 0
              have x1 := cell_block HXa.out 1
              have x2 := cell_block HXa.out 2
              have x3 := cell_block HXa.out 3
              have x4 := cell_block HXa.out 4
              have x5 := cell_block HXa.out 5
              have x6 := cell_block HXa.out 6
              have x7 := cell_block HXa.out 7
              have x9 := cell_block HXa.out 9
              simp at x0 x1 x2 x3 x4 x5 x6 x7 x9
              go_wp2_with fail
              clear x0 x1 x2 x3 x4 x5 x6 x7 x9 hltb
              generalize wa.alloc (.cells zeroF 33) = wz at *
              have HSY := HS1; clear HS1
              have HGz := HGy; clear HGy
              have HRz := HRy; clear HRy
              have HXz := HXy; clear HXy
              have x0 := cell_block HXz.out 0
              have x1 := cell_block HXz.out 1
              have x2 := cell_block HXz.out 2
              have x3 := cell_block HXz.out 3
              have x4 := cell_block HXz.out 4
              have x5 := cell_block HXz.out 5
              have x6 := cell_block HXz.out 6
              have x7 := cell_block HXz.out 7
              have x9 := cell_block HXz.out 9
              simp at x0 x1 x2 x3 x4 x5 x6 x7 x9
              go_wp2_with fail
              refine (refRow_any _ QA X.qn qc X.Q 5 1 64 (HQQ.out.grow HGz.out)).mono ?_
              rintro _ wa ⟨rfl, hga⟩
              by_cases hz : (rowP X.qn X.Q 5 1 64).e = 0
              · have HO := Lib.hid (show (rowP X.qn X.Q 5 1 64) = okF from clean_row _ _ _ _ _ hz)
                have HO2 := Lib.hid (ok_lits (clean_row _ _ _ _ _) hz)
                rw [fault_eq HO2.out]
                have HS1 : Hid (sysP X = (orF (rowP X.mn X.M 6 0 ((X.sn : Int) - 1)) (orF (numP (inB X.table 0 64) 7) (orF (numP (maskOk X.mask X.ln) 8) (numP (inB X.charge 0 64) 9))))) := Lib.hid (HSY.out.trans (by rw [HO.out, orF_ok]))
                have HGy := Lib.hid ((HGz.out.trans hga).trans (Grow.alloc wa (.cells zeroF 33)))
                have HRy := Lib.hid ((Grow.alloc wa (.cells zeroF 33)).at (hga.at HRz.out))
                have HXy := Lib.hid ((Grow.alloc wa (.cells zeroF 33)).at (hga.at HXz.out))
                have HXa := Lib.hid (hga.at HXz.out)
                have hltb := heapAt_lt HXa.out
                clear hz hga HRz HGz HXz HSY HO HO2 x0 x1 x2 x3 x4 x5 x6 x7 x9
                have x0 := cell_block HXa.out 0
                have x1 := cell_block HXa.out 1
                have x2 := cell_block HXa.out 2
                have x3 := cell_block HXa.out 3
                have x4 := cell_block HXa.out 4
                have x5 := cell_block HXa.out 5
                have x6 := cell_block HXa.out 6
                have x7 := cell_block HXa.out 7
                have x9 := cell_block HXa.out 9
                simp at x0 x1 x2 x3 x4 x5 x6 x7 x9
                go_wp2_with fail
                clear x0 x1 x2 x3 x4 x5 x6 x7 x9 hltb
                generalize wa.alloc (.cells zeroF 33) = wz at *
                have HSY := HS1; clear HS1
                have HGz := HGy; clear HGy
                have HRz := HRy; clear HRy
                have HXz := HXy; clear HXy
                have x0 := cell_block HXz.out 0
                have x1 := cell_block HXz.out 1
                have x2 := cell_block HXz.out 2
                have x3 := cell_block HXz.out 3
                have x4 := cell_block HXz.out 4
                have x5 := cell_block HXz.out 5
                have x6 := cell_block HXz.out 6
                have x7 := cell_block HXz.out 7
                have x9 := cell_block HXz.out 9
                simp at x0 x1 x2 x3 x4 x5 x6 x7 x9
                go_wp2_with fail
                refine (refRow_any _ MA X.mn mc X.M 6 0 ((X.sn : Int) - 1) (HM.out.grow HGz.out)).mono ?_
                rintro _ wa ⟨rfl, hga⟩
                by_cases hz : (rowP X.mn X.M 6 0 ((X.sn : Int) - 1)).e = 0
                · have HO := Lib.hid (show (rowP X.mn X.M 6 0 ((X.sn : Int) - 1)) = okF from clean_row _ _ _ _ _ hz)
                  have HO2 := Lib.hid (ok_lits (clean_row _ _ _ _ _) hz)
                  rw [fault_eq HO2.out]
                  have HS1 : Hid (sysP X = (orF (numP (inB X.table 0 64) 7) (orF (numP (maskOk X.mask X.ln) 8) (numP (inB X.charge 0 64) 9)))) := Lib.hid (HSY.out.trans (by rw [HO.out, orF_ok]))
                  have HGy := Lib.hid ((HGz.out.trans hga).trans (Grow.alloc wa (.cells zeroF 33)))
                  have HRy := Lib.hid ((Grow.alloc wa (.cells zeroF 33)).at (hga.at HRz.out))
                  have HXy := Lib.hid ((Grow.alloc wa (.cells zeroF 33)).at (hga.at HXz.out))
                  have HXa := Lib.hid (hga.at HXz.out)
                  have hltb := heapAt_lt HXa.out
                  clear hz hga HRz HGz HXz HSY HO HO2 x0 x1 x2 x3 x4 x5 x6 x7 x9
                  have x0 := cell_block HXa.out 0
                  have x1 := cell_block HXa.out 1
                  have x2 := cell_block HXa.out 2
                  have x3 := cell_block HXa.out 3
                  have x4 := cell_block HXa.out 4
                  have x5 := cell_block HXa.out 5
                  have x6 := cell_block HXa.out 6
                  have x7 := cell_block HXa.out 7
                  have x9 := cell_block HXa.out 9
                  simp at x0 x1 x2 x3 x4 x5 x6 x7 x9
                  go_wp2_with fail
                  clear x0 x1 x2 x3 x4 x5 x6 x7 x9 hltb
                  generalize wa.alloc (.cells zeroF 33) = wz at *
                  have HSY := HS1; clear HS1
                  have HGz := HGy; clear HGy
                  have HRz := HRy; clear HRy
                  have HXz := HXy; clear HXy
                  have x0 := cell_block HXz.out 0
                  have x1 := cell_block HXz.out 1
                  have x2 := cell_block HXz.out 2
                  have x3 := cell_block HXz.out 3
                  have x4 := cell_block HXz.out 4
                  have x5 := cell_block HXz.out 5
                  have x6 := cell_block HXz.out 6
                  have x7 := cell_block HXz.out 7
                  have x9 := cell_block HXz.out 9
                  simp at x0 x1 x2 x3 x4 x5 x6 x7 x9
                  go_wp2_with fail
                  refine (outr_any _ X.table 0 64 _ rfl).mono ?_
                  rintro _ w9 ⟨rfl, hw9⟩
                  obtain rfl := hw9.symm
                  clear hw9
                  cases hb : inB X.table 0 64
                  · have HQ := Lib.hid (show sysP X = ⟨5, 7, 0, 0⟩ from HSY.out.trans (by rw [hb]; rfl))
                    clear hb x0 x1 x2 x3 x4 x5 x6 x7 x9
                    go_wp2_with fail
                    refine (fault_any _ 5 7 0 0).mono ?_
                    rintro _ wf ⟨rfl, hgf⟩
                    have HRf := Lib.hid (hgf.at HRz.out)
                    have HGf := Lib.hid (HGz.out.trans hgf)
                    clear hgf
                    go_wp2_with (first
                      | ((with_reducible refine store33 rfl _ _ rfl (w.heap.size + 1) 5 7 0 0 ?_ ?_ HRf.out ?_); (· rfl); (· rfl); intro w5 hb5 ho5))
                    rw [fault_eq HQ.out]
                    refine bodyPost_ret (v := .agg #[.int .i64 5, .int .i64 7, .int .i64 0, .int .i64 0]) (results_cell_row rfl _ _ (w.heap.size + 1) 33 _ (0, 0) _ (by rfl) hb5 Try.underlying33 rfl info33) rfl ⟨rfl, HGf.out.only ho5 (by omega)⟩
                  · have HS1 : Hid (sysP X = (orF (numP (maskOk X.mask X.ln) 8) (numP (inB X.charge 0 64) 9))) := Lib.hid (HSY.out.trans (by rw [hb, show numP true 7 = okF from rfl, orF_ok]))
                    clear hb HSY
                    have HSY := HS1; clear HS1
                    have hq0 : ((X.mask.toNat : Int)) = ((X.mask.toNat / 2 ^ 0 : Nat) : Int) := by simp
                    go_wp2_with fail
                    go_loopw [14, 13] (fun x m wq => ∃ c : Nat, c ≤ X.ln ∧ x = .int .i64 c ∧ m = .int .u32 ((X.mask.toNat / 2 ^ c : Nat) : Int) ∧ wq = wz) (fun x _ _ => X.ln - (intOf x).toNat)
                    case atStart => exact ⟨0, by omega, rfl, by rw [← hq0], rfl⟩
                    case round =>
                      clear hq0
                      obtain ⟨c, hc, rfl, rfl, rfl⟩ := hrel
                      by_cases hcl : c < X.ln
                      · have k0 : (0 : Int) ≤ (c : Int) := by omega
                        have kn : (c : Int) < (X.ln : Int) := by omega
                        have HMV := Lib.hid (show ((X.mask.toNat / 2 ^ c / 2 : Nat) : Int) = ((X.mask.toNat / 2 ^ (c + 1) : Nat) : Int) by rw [Nat.div_div_eq_div_mul, Nat.pow_succ])
                        have hm0 : X.mask.toNat / 2 ^ c < 4294967296 := Nat.lt_of_le_of_lt (Nat.div_le_self _ _) X.mask.isLt
                        generalize X.mask.toNat / 2 ^ c = mc at *
                        go_wp2_with fail
                        go_roundw
                        case rel => exact ⟨c + 1, by omega, by go_num, by rw [← HMV.out]; simp, trivial⟩
                        case measure => simp [intOf]; omega
                      · have kn : ¬ (c : Int) < (X.ln : Int) := by omega
                        obtain rfl : c = X.ln := by omega
                        have HMO := Lib.hid (show maskOk X.mask X.ln = decide (X.mask.toNat / 2 ^ X.ln = 0) by rw [maskOk_def, Nat.min_eq_left (by omega)])
                        generalize X.mask.toNat / 2 ^ X.ln = mv at *
                        by_cases hz : mv = 0
                        · subst hz
                          have HS1 : Hid (sysP X = (numP (inB X.charge 0 64) 9)) := Lib.hid (HSY.out.trans (by rw [HMO.out]; rfl))
                          have hb : inB X.charge 0 64 = inB X.charge 0 64 := rfl
                          go_wp2_with fail
                          refine (outr_any _ X.charge 0 64 _ rfl).mono ?_
                          rintro _ _ ⟨rfl, rfl⟩
                          cases hb : inB X.charge 0 64
                          · have HQ := Lib.hid (show sysP X = ⟨5, 9, 0, 0⟩ from HS1.out.trans (by rw [hb]; rfl))
                            clear hb x0 x1 x2 x3 x4 x5 x6 x7 x9
                            go_wp2_with fail
                            refine (fault_any _ 5 9 0 0).mono ?_
                            rintro _ wf ⟨rfl, hgf⟩
                            have HRf := Lib.hid (hgf.at HRz.out)
                            have HGf := Lib.hid (HGz.out.trans hgf)
                            clear hgf
                            go_wp2_with (first
                              | ((with_reducible refine store33 rfl _ _ rfl (w.heap.size + 1) 5 9 0 0 ?_ ?_ HRf.out ?_); (· rfl); (· rfl); intro w5 hb5 ho5))
                            rw [fault_eq HQ.out]
                            refine bodyPost_ret (v := .agg #[.int .i64 5, .int .i64 9, .int .i64 0, .int .i64 0]) (results_cell_row rfl _ _ (w.heap.size + 1) 33 _ (0, 0) _ (by rfl) hb5 Try.underlying33 rfl info33) rfl ⟨rfl, HGf.out.only ho5 (by omega)⟩
                          · have HQ := Lib.hid (show sysP X = ⟨0, 0, 0, 0⟩ from HS1.out.trans (by rw [hb]; rfl))
                            clear hb x0 x1 x2 x3 x4 x5 x6 x7 x9
                            go_wp2_with (first
                              | ((with_reducible refine store33 rfl _ _ rfl (w.heap.size + 1) 0 0 0 0 ?_ ?_ HRz.out ?_); (· rfl); (· rfl); intro w5 hb5 ho5))
                            rw [fault_eq HQ.out]
                            refine bodyPost_ret (v := .agg zeroF) (results_cell_row rfl _ _ (w.heap.size + 1) 33 _ (0, 0) _ (by rfl) hb5 Try.underlying33 rfl info33) rfl ⟨rfl, HGz.out.only ho5 (by omega)⟩
                        · have HQ := Lib.hid (show sysP X = ⟨5, 8, 0, 0⟩ from HSY.out.trans (by rw [HMO.out, decide_eq_false hz]; rfl))
                          have hz2 : ((mv : Int) != 0) = true := by simp; omega
                          go_wp2_with fail
                          refine (fault_any _ 5 8 0 0).mono ?_
                          rintro _ wf ⟨rfl, hgf⟩
                          have HRf := Lib.hid (hgf.at HRz.out)
                          have HGf := Lib.hid (HGz.out.trans hgf)
                          clear hgf
                          go_wp2_with (first
                            | ((with_reducible refine store33 rfl _ _ rfl (w.heap.size + 1) 5 8 0 0 ?_ ?_ HRf.out ?_); (· rfl); (· rfl); intro w5 hb5 ho5))
                          rw [fault_eq HQ.out]
                          refine bodyPost_ret (v := .agg #[.int .i64 5, .int .i64 8, .int .i64 0, .int .i64 0]) (results_cell_row rfl _ _ (w.heap.size + 1) 33 _ (0, 0) _ (by rfl) hb5 Try.underlying33 rfl info33) rfl ⟨rfl, HGf.out.only ho5 (by omega)⟩
                · have HQ := Lib.hid (HSY.out.trans (orF_no _ hz))
                  have HGy := Lib.hid (HGz.out.trans hga)
                  have HRy := Lib.hid (hga.at HRz.out)
                  clear hga x0 x1 x2 x3 x4 x5 x6 x7 x9
                  generalize rowP X.mn X.M 6 0 ((X.sn : Int) - 1) = f at *
                  obtain ⟨e, p, i, a⟩ := f
                  have hz2 : (e != 0) = true := by simpa using hz
                  clear hz
                  have HR2 := Lib.hid ((heapAt_alloc_old wa (.cells #[.int .i64 e, .int .i64 p, .int .i64 i, .int .i64 a] 33) (heapAt_lt HRy.out)).trans HRy.out)
                  have HN2 := Lib.hid (heapAt_alloc_new wa (.cells #[.int .i64 e, .int .i64 p, .int .i64 i, .int .i64 a] 33))
                  have HG3 := Lib.hid (HGy.out.trans (Grow.alloc wa (.cells #[.int .i64 e, .int .i64 p, .int .i64 i, .int .i64 a] 33)))
                  go_wp2_with (first
                    | ((with_reducible refine load33 rfl _ rfl wa.heap.size ?_ HN2.out ?_); (· rfl))
                    | ((with_reducible refine store33 rfl _ _ rfl (w.heap.size + 1) e p i a ?_ ?_ HR2.out ?_); (· rfl); (· rfl); intro w5 hb5 ho5))
                  rw [fault_eq HQ.out]
                  refine bodyPost_ret (v := .agg #[.int .i64 e, .int .i64 p, .int .i64 i, .int .i64 a]) (results_cell_row rfl _ _ (w.heap.size + 1) 33 _ (0, 0) _ (by rfl) hb5 Try.underlying33 rfl info33) rfl ⟨rfl, HG3.out.only ho5 (by omega)⟩
              · have HQ := Lib.hid (HSY.out.trans (orF_no _ hz))
                have HGy := Lib.hid (HGz.out.trans hga)
                have HRy := Lib.hid (hga.at HRz.out)
                clear hga x0 x1 x2 x3 x4 x5 x6 x7 x9
                generalize rowP X.qn X.Q 5 1 64 = f at *
                obtain ⟨e, p, i, a⟩ := f
                have hz2 : (e != 0) = true := by simpa using hz
                clear hz
                have HR2 := Lib.hid ((heapAt_alloc_old wa (.cells #[.int .i64 e, .int .i64 p, .int .i64 i, .int .i64 a] 33) (heapAt_lt HRy.out)).trans HRy.out)
                have HN2 := Lib.hid (heapAt_alloc_new wa (.cells #[.int .i64 e, .int .i64 p, .int .i64 i, .int .i64 a] 33))
                have HG3 := Lib.hid (HGy.out.trans (Grow.alloc wa (.cells #[.int .i64 e, .int .i64 p, .int .i64 i, .int .i64 a] 33)))
                go_wp2_with (first
                  | ((with_reducible refine load33 rfl _ rfl wa.heap.size ?_ HN2.out ?_); (· rfl))
                  | ((with_reducible refine store33 rfl _ _ rfl (w.heap.size + 1) e p i a ?_ ?_ HR2.out ?_); (· rfl); (· rfl); intro w5 hb5 ho5))
                rw [fault_eq HQ.out]
                refine bodyPost_ret (v := .agg #[.int .i64 e, .int .i64 p, .int .i64 i, .int .i64 a]) (results_cell_row rfl _ _ (w.heap.size + 1) 33 _ (0, 0) _ (by rfl) hb5 Try.underlying33 rfl info33) rfl ⟨rfl, HG3.out.only ho5 (by omega)⟩
            · have HQ := Lib.hid (HSY.out.trans (orF_no _ hz))
              have HGy := Lib.hid (HGz.out.trans hga)
              have HRy := Lib.hid (hga.at HRz.out)
              clear hga x0 x1 x2 x3 x4 x5 x6 x7 x9
              generalize rowP X.sn X.S 4 0 255 = f at *
              obtain ⟨e, p, i, a⟩ := f
              have hz2 : (e != 0) = true := by simpa using hz
              clear hz
              have HR2 := Lib.hid ((heapAt_alloc_old wa (.cells #[.int .i64 e, .int .i64 p, .int .i64 i, .int .i64 a] 33) (heapAt_lt HRy.out)).trans HRy.out)
              have HN2 := Lib.hid (heapAt_alloc_new wa (.cells #[.int .i64 e, .int .i64 p, .int .i64 i, .int .i64 a] 33))
              have HG3 := Lib.hid (HGy.out.trans (Grow.alloc wa (.cells #[.int .i64 e, .int .i64 p, .int .i64 i, .int .i64 a] 33)))
              go_wp2_with (first
                | ((with_reducible refine load33 rfl _ rfl wa.heap.size ?_ HN2.out ?_); (· rfl))
                | ((with_reducible refine store33 rfl _ _ rfl (w.heap.size + 1) e p i a ?_ ?_ HR2.out ?_); (· rfl); (· rfl); intro w5 hb5 ho5))
              rw [fault_eq HQ.out]
              refine bodyPost_ret (v := .agg #[.int .i64 e, .int .i64 p, .int .i64 i, .int .i64 a]) (results_cell_row rfl _ _ (w.heap.size + 1) 33 _ (0, 0) _ (by rfl) hb5 Try.underlying33 rfl info33) rfl ⟨rfl, HG3.out.only ho5 (by omega)⟩
end Go.Proofs.Ytmmbhjomgpnklaa
