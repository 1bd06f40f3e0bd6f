/- Same of the reference: the walk. -/
import Derived.Test.YtmmbhjomgpnklaaSameD
namespace Go.Proofs.Ytmmbhjomgpnklaa
open Go.RowKit
set_option linter.unusedVariables false
set_option linter.unusedSimpArgs false
set_option maxRecDepth 100000
attribute [local simp] RelKnown Is
set_option maxHeartbeats 20000000 in
theorem refSameX_any (w : World) (TA LA SA QA MA : Option Addr) (tc lc sc qc mc : Nat) (tcv lcv : Nat → Value) (X : Cf) (TB LB SB QB MB : Option Addr) (td ld sd qd md : Nat) (tdv ldv : Nat → Value) (Y : Cf) (hsm : Small X) (r : Bool) (hr : r = true ↔ SameX X Y)
    (hT : RowAt w TA X.tn 6 (fun j => tkL (X.T j) (tcv j))) (hTC : ∀ j, j < X.tn → CodeV w (tcv j) (X.T j).cn (X.T j).C) (hL : RowAt w LA X.ln 2 (fun j => lnL (X.L j) (lcv j))) (hLC : ∀ j, j < X.ln → CodeV w (lcv j) (X.L j).cn (X.L j).C)
    (hS : MemAt w SA X.sn X.S) (hQ : MemAt w QA X.qn X.Q) (hM : MemAt w MA X.mn X.M)
    (gT : RowAt w TB Y.tn 6 (fun j => tkL (Y.T j) (tdv j))) (gTC : ∀ j, j < Y.tn → CodeV w (tdv j) (Y.T j).cn (Y.T j).C) (gL : RowAt w LB Y.ln 2 (fun j => lnL (Y.L j) (ldv j))) (gLC : ∀ j, j < Y.ln → CodeV w (ldv j) (Y.L j).cn (Y.L j).C)
    (gS : MemAt w SB Y.sn Y.S) (gQ : MemAt w QB Y.qn Y.Q) (gM : MemAt w MB Y.mn Y.M) :
    Calls Try.prog 13 #[.agg (cfC (.slice TA X.tn tc) (.slice LA X.ln lc) (.slice SA X.sn sc) (.slice QA X.qn qc) (.slice MA X.mn mc) X), .agg (cfC (.slice TB Y.tn td) (.slice LB Y.ln ld) (.slice SB Y.sn sd) (.slice QB Y.qn qd) (.slice MB Y.mn md) Y)] w fun e w' => e = .returned (.bool r) ∧ Grow w w' := by
  have HXT := Lib.hid hT; clear hT
  have HXTC := Lib.hid hTC; clear hTC
  have HXL := Lib.hid hL; clear hL
  have HXLC := Lib.hid hLC; clear hLC
  have HXS := Lib.hid hS; clear hS
  have HXQ := Lib.hid hQ; clear hQ
  have HXM := Lib.hid hM; clear hM
  have HYT := Lib.hid gT; clear gT
  have HYTC := Lib.hid gTC; clear gTC
  have HYL := Lib.hid gL; clear gL
  have HYLC := Lib.hid gLC; clear gLC
  have HYS := Lib.hid gS; clear gS
  have HYQ := Lib.hid gQ; clear gQ
  have HYM := Lib.hid gM; clear gM
  have HR := Lib.hid hr; clear hr
  have HSM := Lib.hid hsm; clear hsm
  by_cases htn : X.tn = Y.tn
  case neg =>
    have hne := htn
    have hb : ((X.tn : Int) != (Y.tn : Int)) = true := by
      have h2 : ¬ ((X.tn : Int) = (Y.tn : Int)) := by omega
      simpa using h2
    have hrf : r = false := by
      cases hq : r with
      | false => rfl
      | true => exact absurd ((HR.out.1 hq).tn) hne
    subst hrf
    clear hne
    go_enter Try.func13, Try.ntmps13
    go_wp2
    go_ret
    exact ⟨rfl, (Grow.alloc _ _).trans (Grow.alloc _ _)⟩
  have HTN := Lib.hid htn
  have hbt : ((X.tn : Int) != (Y.tn : Int)) = false := by simp [htn]
  clear htn
  by_cases hln : X.ln = Y.ln
  case neg =>
    have hne := hln
    have hb : ((X.ln : Int) != (Y.ln : Int)) = true := by
      have h2 : ¬ ((X.ln : Int) = (Y.ln : Int)) := by omega
      simpa using h2
    have hrf : r = false := by
      cases hq : r with
      | false => rfl
      | true => exact absurd ((HR.out.1 hq).ln) hne
    subst hrf
    clear hne
    go_enter Try.func13, Try.ntmps13
    go_wp2
    go_ret
    exact ⟨rfl, (Grow.alloc _ _).trans (Grow.alloc _ _)⟩
  have HLN := Lib.hid hln
  have hbl : ((X.ln : Int) != (Y.ln : Int)) = false := by simp [hln]
  clear hln
  go_enter Try.func13, Try.ntmps13
  go_wp2_with fail
  have hX : (((w.alloc (.cells (cfC (.slice TA X.tn tc) (.slice LA X.ln lc) (.slice SA X.sn sc) (.slice QA X.qn qc) (.slice MA X.mn mc) X) 28)).alloc (.cells (cfC (.slice TB Y.tn td) (.slice LB Y.ln ld) (.slice SB Y.sn sd) (.slice QB Y.qn qd) (.slice MB Y.mn md) Y) 28))).heap[w.heap.size]? = some (.cells (cfC (.slice TA X.tn tc) (.slice LA X.ln lc) (.slice SA X.sn sc) (.slice QA X.qn qc) (.slice MA X.mn mc) X) 28 (0, 0)) := (heapAt_alloc_old _ _ (by simp)).trans (heapAt_alloc_new w _)
  have hY : (((w.alloc (.cells (cfC (.slice TA X.tn tc) (.slice LA X.ln lc) (.slice SA X.sn sc) (.slice QA X.qn qc) (.slice MA X.mn mc) X) 28)).alloc (.cells (cfC (.slice TB Y.tn td) (.slice LB Y.ln ld) (.slice SB Y.sn sd) (.slice QB Y.qn qd) (.slice MB Y.mn md) Y) 28))).heap[w.heap.size + 1]? = some (.cells (cfC (.slice TB Y.tn td) (.slice LB Y.ln ld) (.slice SB Y.sn sd) (.slice QB Y.qn qd) (.slice MB Y.mn md) Y) 28 (0, 0)) := heap_alloc2_new w _ _
  have hG : Grow w (((w.alloc (.cells (cfC (.slice TA X.tn tc) (.slice LA X.ln lc) (.slice SA X.sn sc) (.slice QA X.qn qc) (.slice MA X.mn mc) X) 28)).alloc (.cells (cfC (.slice TB Y.tn td) (.slice LB Y.ln ld) (.slice SB Y.sn sd) (.slice QB Y.qn qd) (.slice MB Y.mn md) Y) 28))) := (Grow.alloc _ _).trans (Grow.alloc _ _)
  generalize ((w.alloc (.cells (cfC (.slice TA X.tn tc) (.slice LA X.ln lc) (.slice SA X.sn sc) (.slice QA X.qn qc) (.slice MA X.mn mc) X) 28)).alloc (.cells (cfC (.slice TB Y.tn td) (.slice LB Y.ln ld) (.slice SB Y.sn sd) (.slice QB Y.qn qd) (.slice MB Y.mn md) Y) 28)) = w1 at hX hY hG ⊢
  have HX := Lib.hid hX; clear hX
  have HY := Lib.hid hY; clear hY
  have HG := Lib.hid hG; clear hG
  clear hbt hbl
  go_loopw [5, 6, 7] (fun x _ _ wr => ∃ k : Nat, k ≤ X.tn ∧ x = .int .i64 k ∧ (∀ j, j < k → SameTk (X.T j) (Y.T j)) ∧ Grow w1 wr) (fun x _ _ _ => X.tn - (intOf x).toNat)
  case atStart => exact ⟨0, by omega, rfl, fun j hj => by omega, Grow.refl _⟩
  case round =>
    obtain ⟨k, hk, rfl, he, hg⟩ := hrel
    have HE := Lib.hid he; clear he
    by_cases hlt : k < X.tn
    · obtain ⟨ta, hTA, c0, c1, c2, c3, c4, c5⟩ := tasks_at ((HXT.out.grow HG.out).grow hg) k hlt
      obtain ⟨CA, ca, hcv, hc1, hc2⟩ := HXTC.out k hlt
      obtain ⟨CB, cb, hcw, hd1, hd2⟩ := HYTC.out k (by have := HTN.out; omega)
      rw [hcv] at c5
      clear hcv
      have HG6 := Lib.hid (hg.trans (Grow.alloc wr (.cells #[.int .i64 (X.T k).lv, .int .i64 (X.T k).off, .int .i64 (X.T k).per, .int .i64 (X.T k).dl, .int .i64 (X.T k).mem, .slice CA (X.T k).cn ca] 39)))
      have HGr := Lib.hid (HG6.out.trans (Grow.alloc (wr.alloc (.cells #[.int .i64 (X.T k).lv, .int .i64 (X.T k).off, .int .i64 (X.T k).per, .int .i64 (X.T k).dl, .int .i64 (X.T k).mem, .slice CA (X.T k).cn ca] 39)) (.cells #[.int .i64 (Y.T k).lv, .int .i64 (Y.T k).off, .int .i64 (Y.T k).per, .int .i64 (Y.T k).dl, .int .i64 (Y.T k).mem, .slice CB (Y.T k).cn cb] 39)))
      obtain ⟨tb, hTB, d0, d1, d2, d3, d4, d5⟩ := tasks_at ((HYT.out.grow HG.out).grow HG6.out) k (by have := HTN.out; omega)
      rw [hcw] at d5
      clear hcw
      have y0 : (wr.alloc (.cells #[.int .i64 (X.T k).lv, .int .i64 (X.T k).off, .int .i64 (X.T k).per, .int .i64 (X.T k).dl, .int .i64 (X.T k).mem, .slice CA (X.T k).cn ca] 39)).cell? ⟨w.heap.size + 1, 0, none⟩ = some (.slice TB Y.tn td) := cell_block (HG6.out.at HY.out) 0
      have x0 := cell_block (hg.at HX.out) 0
      simp at x0
      have HCX := Lib.hid (show CodeAt ((wr.alloc (.cells #[.int .i64 (X.T k).lv, .int .i64 (X.T k).off, .int .i64 (X.T k).per, .int .i64 (X.T k).dl, .int .i64 (X.T k).mem, .slice CA (X.T k).cn ca] 39)).alloc (.cells #[.int .i64 (Y.T k).lv, .int .i64 (Y.T k).off, .int .i64 (Y.T k).per, .int .i64 (Y.T k).dl, .int .i64 (Y.T k).mem, .slice CB (Y.T k).cn cb] 39)) CA (X.T k).cn (X.T k).C from RowAt.grow hc2 (HG.out.trans HGr.out))
      have HCY := Lib.hid (show CodeAt ((wr.alloc (.cells #[.int .i64 (X.T k).lv, .int .i64 (X.T k).off, .int .i64 (X.T k).per, .int .i64 (X.T k).dl, .int .i64 (X.T k).mem, .slice CA (X.T k).cn ca] 39)).alloc (.cells #[.int .i64 (Y.T k).lv, .int .i64 (Y.T k).off, .int .i64 (Y.T k).per, .int .i64 (Y.T k).dl, .int .i64 (Y.T k).mem, .slice CB (Y.T k).cn cb] 39)) CB (Y.T k).cn (Y.T k).C from RowAt.grow hd2 (HG.out.trans HGr.out))
      rw [hTB] at y0
      rw [hTA] at x0
      clear hTA hTB hc1 hc2 hd1 hd2
      have k0 : (0 : Int) ≤ (k : Int) := by omega
      have kn : (k : Int) < (X.tn : Int) := by omega
      have k70 : (X.tn : Int) ≤ 70 := by have := HSM.out.t; omega
      have kn2 : (k : Int) < (Y.tn : Int) := by have := HTN.out; omega
      by_cases h_lv : (X.T k).lv = (Y.T k).lv
      case neg =>
        have hne := h_lv
        have hb : ((X.T k).lv != (Y.T k).lv) = true := by simpa using h_lv
        have hrf : r = false := by
          cases hq : r with
          | false => rfl
          | true => exact absurd (((HR.out.1 hq).t k hlt).lv) hne
        subst hrf
        clear HE hne h_lv
        go_wp2
        go_ret
        exact ⟨rfl, HG.out.trans HGr.out⟩
      have hb_lv : ((X.T k).lv != (Y.T k).lv) = false := by simpa using h_lv
      have H_lv := Lib.hid h_lv; clear h_lv
      by_cases h_off : (X.T k).off = (Y.T k).off
      case neg =>
        have hne := h_off
        have hb : ((X.T k).off != (Y.T k).off) = true := by simpa using h_off
        have hrf : r = false := by
          cases hq : r with
          | false => rfl
          | true => exact absurd (((HR.out.1 hq).t k hlt).off) hne
        subst hrf
        clear HE hne h_off
        go_wp2
        go_ret
        exact ⟨rfl, HG.out.trans HGr.out⟩
      have hb_off : ((X.T k).off != (Y.T k).off) = false := by simpa using h_off
      have H_off := Lib.hid h_off; clear h_off
      by_cases h_per : (X.T k).per = (Y.T k).per
      case neg =>
        have hne := h_per
        have hb : ((X.T k).per != (Y.T k).per) = true := by simpa using h_per
        have hrf : r = false := by
          cases hq : r with
          | false => rfl
          | true => exact absurd (((HR.out.1 hq).t k hlt).per) hne
        subst hrf
        clear HE hne h_per
        go_wp2
        go_ret
        exact ⟨rfl, HG.out.trans HGr.out⟩
      have hb_per : ((X.T k).per != (Y.T k).per) = false := by simpa using h_per
      have H_per := Lib.hid h_per; clear h_per
      by_cases h_dl : (X.T k).dl = (Y.T k).dl
      case neg =>
        have hne := h_dl
        have hb : ((X.T k).dl != (Y.T k).dl) = true := by simpa using h_dl
        have hrf : r = false := by
          cases hq : r with
          | false => rfl
          | true => exact absurd (((HR.out.1 hq).t k hlt).dl) hne
        subst hrf
        clear HE hne h_dl
        go_wp2
        go_ret
        exact ⟨rfl, HG.out.trans HGr.out⟩
      have hb_dl : ((X.T k).dl != (Y.T k).dl) = false := by simpa using h_dl
      have H_dl := Lib.hid h_dl; clear h_dl
      by_cases h_mem : (X.T k).mem = (Y.T k).mem
      case neg =>
        have hne := h_mem
        have hb : ((X.T k).mem != (Y.T k).mem) = true := by simpa using h_mem
        have hrf : r = false := by
          cases hq : r with
          | false => rfl
          | true => exact absurd (((HR.out.1 hq).t k hlt).mem) hne
        subst hrf
        clear HE hne h_mem
        go_wp2
        go_ret
        exact ⟨rfl, HG.out.trans HGr.out⟩
      have hb_mem : ((X.T k).mem != (Y.T k).mem) = false := by simpa using h_mem
      have H_mem := Lib.hid h_mem; clear h_mem
      have hSC := refSame_any ((wr.alloc (.cells #[.int .i64 (X.T k).lv, .int .i64 (X.T k).off, .int .i64 (X.T k).per, .int .i64 (X.T k).dl, .int .i64 (X.T k).mem, .slice CA (X.T k).cn ca] 39)).alloc (.cells #[.int .i64 (Y.T k).lv, .int .i64 (Y.T k).off, .int .i64 (Y.T k).per, .int .i64 (Y.T k).dl, .int .i64 (Y.T k).mem, .slice CB (Y.T k).cn cb] 39)) CA CB (X.T k).cn (Y.T k).cn ca cb (X.T k).C (Y.T k).C
      go_wp2_with fail
      cases hb : (Classical.propDecidable (SameC (X.T k).cn (Y.T k).cn (X.T k).C (Y.T k).C)).decide
      · have hne : ¬ SameC (X.T k).cn (Y.T k).cn (X.T k).C (Y.T k).C := by simpa using hb
        refine (hSC false ⟨fun h => (by cases h), fun h => absurd h hne⟩ (by have := HSM.out.tc k hlt; omega) HCX.out HCY.out).mono ?_
        rintro _ w3 ⟨rfl, hg3⟩
        have HG3 := Lib.hid (HGr.out.trans hg3)
        have hrf : r = false := by
          cases hq : r with
          | false => rfl
          | true => exact absurd (((HR.out.1 hq).t k hlt).c) hne
        subst hrf
        clear hg3 hSC HE hb hne hb_lv hb_off hb_per hb_dl hb_mem
        go_wp2
        go_ret
        exact ⟨rfl, HG.out.trans HG3.out⟩
      · have hsc : SameC (X.T k).cn (Y.T k).cn (X.T k).C (Y.T k).C := by simpa using hb
        refine (hSC true ⟨fun _ => hsc, fun _ => rfl⟩ (by have := HSM.out.tc k hlt; omega) HCX.out HCY.out).mono ?_
        rintro _ w3 ⟨rfl, hg3⟩
        have HG3 := Lib.hid (HGr.out.trans hg3)
        have HE2 := Lib.hid (show ∀ j, j < k + 1 → SameTk (X.T j) (Y.T j) from fun j hj => by
            rcases Nat.lt_succ_iff_lt_or_eq.1 hj with h | h
            · exact HE.out j h
            · rw [h]; exact ⟨H_lv.out, H_off.out, H_per.out, H_dl.out, H_mem.out, hsc⟩)
        clear hg3 hSC HE hb hsc hb_lv hb_off hb_per hb_dl hb_mem
        go_wp2_with fail
        go_roundw
        case rel => exact ⟨k + 1, by omega, by go_num, HE2.out, HG3.out⟩
        case measure => simp [intOf]; omega
    · have kn : ¬ (k : Int) < (X.tn : Int) := by omega
      have HTE := Lib.hid (show ∀ j, j < X.tn → SameTk (X.T j) (Y.T j) from fun j hj => HE.out j (by omega))
      have HGe := Lib.hid (HG.out.trans hg)
      have HXe := Lib.hid (hg.at HX.out)
      have HYe := Lib.hid (hg.at HY.out)
      clear HE HX HY
      have x0 := cell_block HXe.out 0
      have x1 := cell_block HXe.out 1
      simp at x0 x1
      go_wp2_with fail
      clear x0 x1
      go_loopw [8] (fun x wq => ∃ k : Nat, k ≤ X.ln ∧ x = .int .i64 k ∧ (∀ j, j < k → SameLn (X.L j) (Y.L j)) ∧ Grow wr wq) (fun x _ => X.ln - (intOf x).toNat)
      case atStart => exact ⟨0, by omega, rfl, fun j hj => by omega, Grow.refl _⟩
      case round =>
        obtain ⟨k2, hk2, rfl, he, hg⟩ := hrel
        have HE := Lib.hid he; clear he
        by_cases hlt : k2 < X.ln
        · have hlt2 : k2 < Y.ln := by have := HLN.out; omega
          have hX := hg.at HXe.out
          have x1 := cell_block hX 1
          simp at x1
          obtain ⟨ta, hTA, p0, p1⟩ := lines_at ((HXL.out.grow HGe.out).grow hg) k2 hlt
          obtain ⟨CA, ca, hcv, hc1, hc2⟩ := HXLC.out k2 hlt
          obtain ⟨CB, cb, hcw, hd1, hd2⟩ := HYLC.out k2 hlt2
          rw [hcv] at p1
          clear hcv
          obtain ⟨tb, hTB, q0, q1⟩ := lines_at ((HYL.out.grow HGe.out).grow hg) k2 hlt2
          rw [hcw] at q1
          clear hcw
          have hyw := hg.at HYe.out
          rw [hTB] at hyw
          have HYw := Lib.hid hyw; clear hyw hTB
          rw [hTA] at hX x1
          have HXw := Lib.hid hX; clear hX hTA
          have HG4 := Lib.hid hg; clear hg
          have P0 := Lib.hid p0; clear p0
          have P1 := Lib.hid p1; clear p1
          have Q0 := Lib.hid q0; clear q0
          have Q1 := Lib.hid q1; clear q1
          have HCX := Lib.hid (show CodeAt wr CA (X.L k2).cn (X.L k2).C from RowAt.grow hc2 (HGe.out.trans HG4.out))
          have HCY := Lib.hid (show CodeAt wr CB (Y.L k2).cn (Y.L k2).C from RowAt.grow hd2 (HGe.out.trans HG4.out))
          clear hc1 hc2 hd1 hd2
          have k0 : (0 : Int) ≤ (k2 : Int) := by omega
          have kn : (k2 : Int) < (X.ln : Int) := by omega
          have kn2 : (k2 : Int) < (Y.ln : Int) := by omega
          have k20 : (X.ln : Int) ≤ 20 := by have := HSM.out.l; omega
          have HCN := Lib.hid (show ((X.L k2).cn : Int) ≤ 1000000 by have := HSM.out.lc k2 hlt; omega)
          go_wp2_with fail
          clear x1
          by_cases h_mem : (X.L k2).mem = (Y.L k2).mem
          case neg =>
            have hne := h_mem
            have hb : ((X.L k2).mem != (Y.L k2).mem) = true := by simpa using h_mem
            have hrf : r = false := by
              cases hq : r with
              | false => rfl
              | true => exact absurd (((HR.out.1 hq).l k2 hlt).mem) hne
            subst hrf
            clear hne h_mem HE
            refine wp_region_rel _ Grow (fun wz => Grow wr wz) [([(2, none)], none), ([(90, some 0)], none), ([(8, none)], none), ([(91, some 1), (92, some 0)], none), ([(93, some 0)], none), ([(94, some 0)], none), ([(3, none)], none), ([(96, some 0)], none), ([(8, none)], none), ([(97, some 1), (98, some 0)], none), ([(99, some 0)], none), ([(100, some 0)], none), ([(95, some 6), (101, some 0)], none), ([(102, some 0)], none), ([(103, some 0), (2, none)], some (103, false)), ([(103, some 1), (104, some 0)], some (103, false)), ([(103, some 2), (8, none)], some (103, false)), ([(103, some 3), (105, some 1), (106, some 0)], some (103, false)), ([(103, some 4), (107, some 0)], some (103, false)), ([(103, some 5), (108, some 0)], some (103, false)), ([(103, some 6), (3, none)], some (103, false)), ([(103, some 7), (110, some 0)], some (103, false)), ([(103, some 8), (8, none)], some (103, false)), ([(103, some 9), (111, some 1), (112, some 0)], some (103, false)), ([(103, some 10), (113, some 0)], some (103, false)), ([(103, some 11), (114, some 0)], some (103, false)), ([(103, some 12), (109, some 6), (115, some 0)], some (103, false)), ([(103, some 13), (116, some 0)], some (103, false)), ([(103, some 14), (117, some 0)], none)] (by kernel_rfl) (by kernel_rfl) (Grow.drewN wr 1) ?_
            (refine rel_pure ?_; apply Exists.intro; refine ⟨fun aR wQ hF hk => ?_, ?_⟩; focus (first | exact rel_no hk.1 rfl rfl | ((first | (refine rel_none fun K hK => ?_) | (refine rel_yes hk.1 fun K hK => ?_)); (try simp at hk); go_simp; exact hK _ _ (Grow.refl _) hF rfl)))
            (refine rel_pure ?_; apply Exists.intro; refine ⟨fun aR wQ hF hk => ?_, ?_⟩; focus (refine rel_none fun K hK => ?_; (try simp at hk); have d := cell_block (hF.at HXw.out) 1; simp at d; go_simp; exact hK _ _ (Grow.refl _) hF rfl))
            (refine rel_pure ?_; apply Exists.intro; refine ⟨fun aR wQ hF hk => ?_, ?_⟩; focus (first | exact rel_no hk.1 rfl rfl | ((first | (refine rel_none fun K hK => ?_) | (refine rel_yes hk.1 fun K hK => ?_)); (try simp at hk); go_simp; exact hK _ _ (Grow.refl _) hF rfl)))
            (refine rel_pure ?_; apply Exists.intro; refine ⟨fun aR wQ hF hk => ?_, ?_⟩; focus (first | exact rel_no hk.1 rfl rfl | ((first | (refine rel_none fun K hK => ?_) | (refine rel_yes hk.1 fun K hK => ?_)); (try simp at hk); go_simp; exact hK _ _ (Grow.refl _) hF rfl)))
            (refine rel_pure ?_; apply Exists.intro; refine ⟨fun aR wQ hF hk => ?_, ?_⟩; focus (first | exact rel_no hk.1 rfl rfl | ((first | (refine rel_none fun K hK => ?_) | (refine rel_yes hk.1 fun K hK => ?_)); (try simp at hk); go_simp; exact hK _ _ (Grow.refl _) hF rfl)))
            (refine rel_pure ?_; apply Exists.intro; refine ⟨fun aR wQ hF hk => ?_, ?_⟩; focus (refine rel_none fun K hK => ?_; (try simp at hk); have d := (Below.cell hF (cell_lt P0.out)).trans P0.out; go_simp; exact hK _ _ (Grow.refl _) hF rfl))
            (refine rel_pure ?_; apply Exists.intro; refine ⟨fun aR wQ hF hk => ?_, ?_⟩; focus (first | exact rel_no hk.1 rfl rfl | ((first | (refine rel_none fun K hK => ?_) | (refine rel_yes hk.1 fun K hK => ?_)); (try simp at hk); go_simp; exact hK _ _ (Grow.refl _) hF rfl)))
            (refine rel_pure ?_; apply Exists.intro; refine ⟨fun aR wQ hF hk => ?_, ?_⟩; focus (refine rel_none fun K hK => ?_; (try simp at hk); have d := cell_block (hF.at HYw.out) 1; simp at d; go_simp; exact hK _ _ (Grow.refl _) hF rfl))
            (refine rel_pure ?_; apply Exists.intro; refine ⟨fun aR wQ hF hk => ?_, ?_⟩; focus (first | exact rel_no hk.1 rfl rfl | ((first | (refine rel_none fun K hK => ?_) | (refine rel_yes hk.1 fun K hK => ?_)); (try simp at hk); go_simp; exact hK _ _ (Grow.refl _) hF rfl)))
            (refine rel_pure ?_; apply Exists.intro; refine ⟨fun aR wQ hF hk => ?_, ?_⟩; focus (first | exact rel_no hk.1 rfl rfl | ((first | (refine rel_none fun K hK => ?_) | (refine rel_yes hk.1 fun K hK => ?_)); (try simp at hk); go_simp; exact hK _ _ (Grow.refl _) hF rfl)))
            (refine rel_pure ?_; apply Exists.intro; refine ⟨fun aR wQ hF hk => ?_, ?_⟩; focus (first | exact rel_no hk.1 rfl rfl | ((first | (refine rel_none fun K hK => ?_) | (refine rel_yes hk.1 fun K hK => ?_)); (try simp at hk); go_simp; exact hK _ _ (Grow.refl _) hF rfl)))
            (refine rel_pure ?_; apply Exists.intro; refine ⟨fun aR wQ hF hk => ?_, ?_⟩; focus (refine rel_none fun K hK => ?_; (try simp at hk); have d := (Below.cell hF (cell_lt Q0.out)).trans Q0.out; go_simp; exact hK _ _ (Grow.refl _) hF rfl))
            (refine rel_pure ?_; apply Exists.intro; refine ⟨fun aR wQ hF hk => ?_, ?_⟩; focus (first | exact rel_no hk.1 rfl rfl | ((first | (refine rel_none fun K hK => ?_) | (refine rel_yes hk.1 fun K hK => ?_)); (try simp at hk); go_simp; exact hK _ _ (Grow.refl _) hF rfl)))
            (refine rel_pure ?_; apply Exists.intro; refine ⟨fun aR wQ hF hk => ?_, ?_⟩; focus (first | exact rel_no hk.1 rfl rfl | ((first | (refine rel_none fun K hK => ?_) | (refine rel_yes hk.1 fun K hK => ?_)); (try simp at hk); go_simp; exact hK _ _ (Grow.refl _) hF rfl)))
            (refine rel_pure ?_; apply Exists.intro; refine ⟨fun aR wQ hF hk => ?_, ?_⟩; focus (first | exact rel_no hk.1 rfl rfl | ((first | (refine rel_none fun K hK => ?_) | (refine rel_yes hk.1 fun K hK => ?_)); (try simp at hk); go_simp; exact hK _ _ (Grow.refl _) hF rfl)))
            (refine rel_pure ?_; apply Exists.intro; refine ⟨fun aR wQ hF hk => ?_, ?_⟩; focus (first | exact rel_no hk.1 rfl rfl | ((first | (refine rel_none fun K hK => ?_) | (refine rel_yes hk.1 fun K hK => ?_)); (try simp at hk); go_simp; exact hK _ _ (Grow.refl _) hF rfl)))
            (refine rel_pure ?_; apply Exists.intro; refine ⟨fun aR wQ hF hk => ?_, ?_⟩; focus (first | exact rel_no hk.1 rfl rfl | ((first | (refine rel_none fun K hK => ?_) | (refine rel_yes hk.1 fun K hK => ?_)); (try simp at hk); go_simp; exact hK _ _ (Grow.refl _) hF rfl)))
            (refine rel_pure ?_; apply Exists.intro; refine ⟨fun aR wQ hF hk => ?_, ?_⟩; focus (first | exact rel_no hk.1 rfl rfl | ((first | (refine rel_none fun K hK => ?_) | (refine rel_yes hk.1 fun K hK => ?_)); (try simp at hk); go_simp; exact hK _ _ (Grow.refl _) hF rfl)))
            (refine rel_pure ?_; apply Exists.intro; refine ⟨fun aR wQ hF hk => ?_, ?_⟩; focus (first | exact rel_no hk.1 rfl rfl | ((first | (refine rel_none fun K hK => ?_) | (refine rel_yes hk.1 fun K hK => ?_)); (try simp at hk); go_simp; exact hK _ _ (Grow.refl _) hF rfl)))
            (refine rel_pure ?_; apply Exists.intro; refine ⟨fun aR wQ hF hk => ?_, ?_⟩; focus (first | exact rel_no hk.1 rfl rfl | ((first | (refine rel_none fun K hK => ?_) | (refine rel_yes hk.1 fun K hK => ?_)); (try simp at hk); go_simp; exact hK _ _ (Grow.refl _) hF rfl)))
            (refine rel_pure ?_; apply Exists.intro; refine ⟨fun aR wQ hF hk => ?_, ?_⟩; focus (first | exact rel_no hk.1 rfl rfl | ((first | (refine rel_none fun K hK => ?_) | (refine rel_yes hk.1 fun K hK => ?_)); (try simp at hk); go_simp; exact hK _ _ (Grow.refl _) hF rfl)))
            (refine rel_pure ?_; apply Exists.intro; refine ⟨fun aR wQ hF hk => ?_, ?_⟩; focus (first | exact rel_no hk.1 rfl rfl | ((first | (refine rel_none fun K hK => ?_) | (refine rel_yes hk.1 fun K hK => ?_)); (try simp at hk); go_simp; exact hK _ _ (Grow.refl _) hF rfl)))
            (refine rel_pure ?_; apply Exists.intro; refine ⟨fun aR wQ hF hk => ?_, ?_⟩; focus (first | exact rel_no hk.1 rfl rfl | ((first | (refine rel_none fun K hK => ?_) | (refine rel_yes hk.1 fun K hK => ?_)); (try simp at hk); go_simp; exact hK _ _ (Grow.refl _) hF rfl)))
            (refine rel_pure ?_; apply Exists.intro; refine ⟨fun aR wQ hF hk => ?_, ?_⟩; focus (first | exact rel_no hk.1 rfl rfl | ((first | (refine rel_none fun K hK => ?_) | (refine rel_yes hk.1 fun K hK => ?_)); (try simp at hk); go_simp; exact hK _ _ (Grow.refl _) hF rfl)))
            (refine rel_pure ?_; apply Exists.intro; refine ⟨fun aR wQ hF hk => ?_, ?_⟩; focus (first | exact rel_no hk.1 rfl rfl | ((first | (refine rel_none fun K hK => ?_) | (refine rel_yes hk.1 fun K hK => ?_)); (try simp at hk); go_simp; exact hK _ _ (Grow.refl _) hF rfl)))
            (refine rel_pure ?_; apply Exists.intro; refine ⟨fun aR wQ hF hk => ?_, ?_⟩; focus (first | exact rel_no hk.1 rfl rfl | ((first | (refine rel_none fun K hK => ?_) | (refine rel_yes hk.1 fun K hK => ?_)); (try simp at hk); go_simp; exact hK _ _ (Grow.refl _) hF rfl)))
            (refine rel_pure ?_; apply Exists.intro; refine ⟨fun aR wQ hF hk => ?_, ?_⟩; focus (first | exact rel_no hk.1 rfl rfl | ((first | (refine rel_none fun K hK => ?_) | (refine rel_yes hk.1 fun K hK => ?_)); (try simp at hk); go_simp; exact hK _ _ (Grow.refl _) hF rfl)))
            (refine rel_pure ?_; apply Exists.intro; refine ⟨fun aR wQ hF hk => ?_, ?_⟩; focus (first | exact rel_no hk.1 rfl rfl | ((first | (refine rel_none fun K hK => ?_) | (refine rel_yes hk.1 fun K hK => ?_)); (try simp at hk); go_simp; exact hK _ _ (Grow.refl _) hF rfl)))
            (refine rel_pure ?_; apply Exists.intro; refine ⟨fun aR wQ hF hk => ?_, ?_⟩; focus (first | exact rel_no hk.1 rfl rfl | ((first | (refine rel_none fun K hK => ?_) | (refine rel_yes hk.1 fun K hK => ?_)); (try simp at hk); go_simp; exact hK _ _ (Grow.refl _) hF rfl)))
            refine rel_done fun wR hF => ?_
            repeat (first | (refine fun v hv => ?_; obtain rfl : v = _ := hv) | (refine fun v hv => ?_))
            simp only [Act.put, List.setIfInBounds_toArray, List.set_cons_zero, List.set_cons_succ]
            refine rel_nil ?_
            have HGf := Lib.hid ((HGe.out.trans HG4.out).trans hF)
            clear hF
            go_wp2
            go_ret
            exact ⟨rfl, HGf.out⟩
          have hb : ((X.L k2).mem != (Y.L k2).mem) = false := by simp [h_mem]
          have H_mem := Lib.hid h_mem; clear h_mem
          cases hbb : (Classical.propDecidable (SameC (X.L k2).cn (Y.L k2).cn (X.L k2).C (Y.L k2).C)).decide
          · have hne : ¬ SameC (X.L k2).cn (Y.L k2).cn (X.L k2).C (Y.L k2).C := by simpa using hbb
            have HEQ := Lib.hid (show false = true ↔ SameC (X.L k2).cn (Y.L k2).cn (X.L k2).C (Y.L k2).C from ⟨fun h => (by cases h), fun h => absurd h hne⟩)
            have hrf : r = false := by
              cases hq : r with
              | false => rfl
              | true => exact absurd (((HR.out.1 hq).l k2 hlt).c) hne
            subst hrf
            clear hne hbb HE
            refine wp_region_rel _ Grow (fun wz => Grow wr wz) [([(2, none)], none), ([(90, some 0)], none), ([(8, none)], none), ([(91, some 1), (92, some 0)], none), ([(93, some 0)], none), ([(94, some 0)], none), ([(3, none)], none), ([(96, some 0)], none), ([(8, none)], none), ([(97, some 1), (98, some 0)], none), ([(99, some 0)], none), ([(100, some 0)], none), ([(95, some 6), (101, some 0)], none), ([(102, some 0)], none), ([(103, some 0), (2, none)], some (103, false)), ([(103, some 1), (104, some 0)], some (103, false)), ([(103, some 2), (8, none)], some (103, false)), ([(103, some 3), (105, some 1), (106, some 0)], some (103, false)), ([(103, some 4), (107, some 0)], some (103, false)), ([(103, some 5), (108, some 0)], some (103, false)), ([(103, some 6), (3, none)], some (103, false)), ([(103, some 7), (110, some 0)], some (103, false)), ([(103, some 8), (8, none)], some (103, false)), ([(103, some 9), (111, some 1), (112, some 0)], some (103, false)), ([(103, some 10), (113, some 0)], some (103, false)), ([(103, some 11), (114, some 0)], some (103, false)), ([(103, some 12), (109, some 6), (115, some 0)], some (103, false)), ([(103, some 13), (116, some 0)], some (103, false)), ([(103, some 14), (117, some 0)], none)] (by kernel_rfl) (by kernel_rfl) (Grow.drewN wr 1) ?_
            (refine rel_pure ?_; apply Exists.intro; refine ⟨fun aR wQ hF hk => ?_, ?_⟩; focus (first | exact rel_no hk.1 rfl rfl | ((first | (refine rel_none fun K hK => ?_) | (refine rel_yes hk.1 fun K hK => ?_)); (try simp at hk); go_simp; exact hK _ _ (Grow.refl _) hF rfl)))
            (refine rel_pure ?_; apply Exists.intro; refine ⟨fun aR wQ hF hk => ?_, ?_⟩; focus (refine rel_none fun K hK => ?_; (try simp at hk); have d := cell_block (hF.at HXw.out) 1; simp at d; go_simp; exact hK _ _ (Grow.refl _) hF rfl))
            (refine rel_pure ?_; apply Exists.intro; refine ⟨fun aR wQ hF hk => ?_, ?_⟩; focus (first | exact rel_no hk.1 rfl rfl | ((first | (refine rel_none fun K hK => ?_) | (refine rel_yes hk.1 fun K hK => ?_)); (try simp at hk); go_simp; exact hK _ _ (Grow.refl _) hF rfl)))
            (refine rel_pure ?_; apply Exists.intro; refine ⟨fun aR wQ hF hk => ?_, ?_⟩; focus (first | exact rel_no hk.1 rfl rfl | ((first | (refine rel_none fun K hK => ?_) | (refine rel_yes hk.1 fun K hK => ?_)); (try simp at hk); go_simp; exact hK _ _ (Grow.refl _) hF rfl)))
            (refine rel_pure ?_; apply Exists.intro; refine ⟨fun aR wQ hF hk => ?_, ?_⟩; focus (first | exact rel_no hk.1 rfl rfl | ((first | (refine rel_none fun K hK => ?_) | (refine rel_yes hk.1 fun K hK => ?_)); (try simp at hk); go_simp; exact hK _ _ (Grow.refl _) hF rfl)))
            (refine rel_pure ?_; apply Exists.intro; refine ⟨fun aR wQ hF hk => ?_, ?_⟩; focus (refine rel_none fun K hK => ?_; (try simp at hk); have d := (Below.cell hF (cell_lt P0.out)).trans P0.out; go_simp; exact hK _ _ (Grow.refl _) hF rfl))
            (refine rel_pure ?_; apply Exists.intro; refine ⟨fun aR wQ hF hk => ?_, ?_⟩; focus (first | exact rel_no hk.1 rfl rfl | ((first | (refine rel_none fun K hK => ?_) | (refine rel_yes hk.1 fun K hK => ?_)); (try simp at hk); go_simp; exact hK _ _ (Grow.refl _) hF rfl)))
            (refine rel_pure ?_; apply Exists.intro; refine ⟨fun aR wQ hF hk => ?_, ?_⟩; focus (refine rel_none fun K hK => ?_; (try simp at hk); have d := cell_block (hF.at HYw.out) 1; simp at d; go_simp; exact hK _ _ (Grow.refl _) hF rfl))
            (refine rel_pure ?_; apply Exists.intro; refine ⟨fun aR wQ hF hk => ?_, ?_⟩; focus (first | exact rel_no hk.1 rfl rfl | ((first | (refine rel_none fun K hK => ?_) | (refine rel_yes hk.1 fun K hK => ?_)); (try simp at hk); go_simp; exact hK _ _ (Grow.refl _) hF rfl)))
            (refine rel_pure ?_; apply Exists.intro; refine ⟨fun aR wQ hF hk => ?_, ?_⟩; focus (first | exact rel_no hk.1 rfl rfl | ((first | (refine rel_none fun K hK => ?_) | (refine rel_yes hk.1 fun K hK => ?_)); (try simp at hk); go_simp; exact hK _ _ (Grow.refl _) hF rfl)))
            (refine rel_pure ?_; apply Exists.intro; refine ⟨fun aR wQ hF hk => ?_, ?_⟩; focus (first | exact rel_no hk.1 rfl rfl | ((first | (refine rel_none fun K hK => ?_) | (refine rel_yes hk.1 fun K hK => ?_)); (try simp at hk); go_simp; exact hK _ _ (Grow.refl _) hF rfl)))
            (refine rel_pure ?_; apply Exists.intro; refine ⟨fun aR wQ hF hk => ?_, ?_⟩; focus (refine rel_none fun K hK => ?_; (try simp at hk); have d := (Below.cell hF (cell_lt Q0.out)).trans Q0.out; go_simp; exact hK _ _ (Grow.refl _) hF rfl))
            (refine rel_pure ?_; apply Exists.intro; refine ⟨fun aR wQ hF hk => ?_, ?_⟩; focus (first | exact rel_no hk.1 rfl rfl | ((first | (refine rel_none fun K hK => ?_) | (refine rel_yes hk.1 fun K hK => ?_)); (try simp at hk); go_simp; exact hK _ _ (Grow.refl _) hF rfl)))
            (refine rel_pure ?_; apply Exists.intro; refine ⟨fun aR wQ hF hk => ?_, ?_⟩; focus (first | exact rel_no hk.1 rfl rfl | ((first | (refine rel_none fun K hK => ?_) | (refine rel_yes hk.1 fun K hK => ?_)); (try simp at hk); go_simp; exact hK _ _ (Grow.refl _) hF rfl)))
            (refine rel_pure ?_; apply Exists.intro; refine ⟨fun aR wQ hF hk => ?_, ?_⟩; focus (first | exact rel_no hk.1 rfl rfl | ((first | (refine rel_none fun K hK => ?_) | (refine rel_yes hk.1 fun K hK => ?_)); (try simp at hk); go_simp; exact hK _ _ (Grow.refl _) hF rfl)))
            (refine rel_pure ?_; apply Exists.intro; refine ⟨fun aR wQ hF hk => ?_, ?_⟩; focus (refine rel_yes hk.1 fun K hK => ?_; (try simp at hk); have d := cell_block (hF.at HXw.out) 1; simp at d; go_simp; exact hK _ _ (Grow.refl _) hF rfl))
            (refine rel_pure ?_; apply Exists.intro; refine ⟨fun aR wQ hF hk => ?_, ?_⟩; focus (first | exact rel_no hk.1 rfl rfl | ((first | (refine rel_none fun K hK => ?_) | (refine rel_yes hk.1 fun K hK => ?_)); (try simp at hk); go_simp; exact hK _ _ (Grow.refl _) hF rfl)))
            (refine rel_pure ?_; apply Exists.intro; refine ⟨fun aR wQ hF hk => ?_, ?_⟩; focus (first | exact rel_no hk.1 rfl rfl | ((first | (refine rel_none fun K hK => ?_) | (refine rel_yes hk.1 fun K hK => ?_)); (try simp at hk); go_simp; exact hK _ _ (Grow.refl _) hF rfl)))
            (refine rel_pure ?_; apply Exists.intro; refine ⟨fun aR wQ hF hk => ?_, ?_⟩; focus (first | exact rel_no hk.1 rfl rfl | ((first | (refine rel_none fun K hK => ?_) | (refine rel_yes hk.1 fun K hK => ?_)); (try simp at hk); go_simp; exact hK _ _ (Grow.refl _) hF rfl)))
            (refine rel_pure ?_; apply Exists.intro; refine ⟨fun aR wQ hF hk => ?_, ?_⟩; focus (refine rel_yes hk.1 fun K hK => ?_; (try simp at hk); have d := (Below.cell hF (cell_lt P1.out)).trans P1.out; go_simp; exact hK _ _ (Grow.refl _) hF rfl))
            (refine rel_pure ?_; apply Exists.intro; refine ⟨fun aR wQ hF hk => ?_, ?_⟩; focus (first | exact rel_no hk.1 rfl rfl | ((first | (refine rel_none fun K hK => ?_) | (refine rel_yes hk.1 fun K hK => ?_)); (try simp at hk); go_simp; exact hK _ _ (Grow.refl _) hF rfl)))
            (refine rel_pure ?_; apply Exists.intro; refine ⟨fun aR wQ hF hk => ?_, ?_⟩; focus (refine rel_yes hk.1 fun K hK => ?_; (try simp at hk); have d := cell_block (hF.at HYw.out) 1; simp at d; go_simp; exact hK _ _ (Grow.refl _) hF rfl))
            (refine rel_pure ?_; apply Exists.intro; refine ⟨fun aR wQ hF hk => ?_, ?_⟩; focus (first | exact rel_no hk.1 rfl rfl | ((first | (refine rel_none fun K hK => ?_) | (refine rel_yes hk.1 fun K hK => ?_)); (try simp at hk); go_simp; exact hK _ _ (Grow.refl _) hF rfl)))
            (refine rel_pure ?_; apply Exists.intro; refine ⟨fun aR wQ hF hk => ?_, ?_⟩; focus (first | exact rel_no hk.1 rfl rfl | ((first | (refine rel_none fun K hK => ?_) | (refine rel_yes hk.1 fun K hK => ?_)); (try simp at hk); go_simp; exact hK _ _ (Grow.refl _) hF rfl)))
            (refine rel_pure ?_; apply Exists.intro; refine ⟨fun aR wQ hF hk => ?_, ?_⟩; focus (first | exact rel_no hk.1 rfl rfl | ((first | (refine rel_none fun K hK => ?_) | (refine rel_yes hk.1 fun K hK => ?_)); (try simp at hk); go_simp; exact hK _ _ (Grow.refl _) hF rfl)))
            (refine rel_pure ?_; apply Exists.intro; refine ⟨fun aR wQ hF hk => ?_, ?_⟩; focus (refine rel_yes hk.1 fun K hK => ?_; (try simp at hk); have d := (Below.cell hF (cell_lt Q1.out)).trans Q1.out; go_simp; exact hK _ _ (Grow.refl _) hF rfl))
            (refine rel_pure ?_; apply Exists.intro; refine ⟨fun aR wQ hF hk => ?_, ?_⟩; focus (refine rel_yes hk.1 fun K hK => ?_; (try simp at hk); go_simp; refine (refSame_any wQ CA CB (X.L k2).cn (Y.L k2).cn ca cb (X.L k2).C (Y.L k2).C false HEQ.out HCN.out (RowAt.grow HCX.out hF) (RowAt.grow HCY.out hF)).mono ?_; rintro e w' ⟨rfl, hg⟩; exact hK _ _ hg ((hF.trans hg)) rfl))
            (refine rel_pure ?_; apply Exists.intro; refine ⟨fun aR wQ hF hk => ?_, ?_⟩; focus (first | exact rel_no hk.1 rfl rfl | ((first | (refine rel_none fun K hK => ?_) | (refine rel_yes hk.1 fun K hK => ?_)); (try simp at hk); go_simp; exact hK _ _ (Grow.refl _) hF rfl)))
            (refine rel_pure ?_; apply Exists.intro; refine ⟨fun aR wQ hF hk => ?_, ?_⟩; focus (first | exact rel_no hk.1 rfl rfl | ((first | (refine rel_none fun K hK => ?_) | (refine rel_yes hk.1 fun K hK => ?_)); (try simp at hk); go_simp; exact hK _ _ (Grow.refl _) hF rfl)))
            refine rel_done fun wR hF => ?_
            repeat (first | (refine fun v hv => ?_; obtain rfl : v = _ := hv) | (refine fun v hv => ?_))
            simp only [Act.put, List.setIfInBounds_toArray, List.set_cons_zero, List.set_cons_succ]
            refine rel_nil ?_
            have HGf := Lib.hid ((HGe.out.trans HG4.out).trans hF)
            clear hF
            go_wp2
            go_ret
            exact ⟨rfl, HGf.out⟩
          · have hsc : SameC (X.L k2).cn (Y.L k2).cn (X.L k2).C (Y.L k2).C := by simpa using hbb
            have HEQ := Lib.hid (show true = true ↔ SameC (X.L k2).cn (Y.L k2).cn (X.L k2).C (Y.L k2).C from ⟨fun _ => hsc, fun _ => rfl⟩)
            have HE2 := Lib.hid (show ∀ j, j < k2 + 1 → SameLn (X.L j) (Y.L j) from fun j hj => by
                rcases Nat.lt_succ_iff_lt_or_eq.1 hj with h | h
                · exact HE.out j h
                · rw [h]; exact ⟨H_mem.out, hsc⟩)
            clear hsc hbb HE
            refine wp_region_rel _ Grow (fun wz => Grow wr wz) [([(2, none)], none), ([(90, some 0)], none), ([(8, none)], none), ([(91, some 1), (92, some 0)], none), ([(93, some 0)], none), ([(94, some 0)], none), ([(3, none)], none), ([(96, some 0)], none), ([(8, none)], none), ([(97, some 1), (98, some 0)], none), ([(99, some 0)], none), ([(100, some 0)], none), ([(95, some 6), (101, some 0)], none), ([(102, some 0)], none), ([(103, some 0), (2, none)], some (103, false)), ([(103, some 1), (104, some 0)], some (103, false)), ([(103, some 2), (8, none)], some (103, false)), ([(103, some 3), (105, some 1), (106, some 0)], some (103, false)), ([(103, some 4), (107, some 0)], some (103, false)), ([(103, some 5), (108, some 0)], some (103, false)), ([(103, some 6), (3, none)], some (103, false)), ([(103, some 7), (110, some 0)], some (103, false)), ([(103, some 8), (8, none)], some (103, false)), ([(103, some 9), (111, some 1), (112, some 0)], some (103, false)), ([(103, some 10), (113, some 0)], some (103, false)), ([(103, some 11), (114, some 0)], some (103, false)), ([(103, some 12), (109, some 6), (115, some 0)], some (103, false)), ([(103, some 13), (116, some 0)], some (103, false)), ([(103, some 14), (117, some 0)], none)] (by kernel_rfl) (by kernel_rfl) (Grow.drewN wr 1) ?_
            (refine rel_pure ?_; apply Exists.intro; refine ⟨fun aR wQ hF hk => ?_, ?_⟩; focus (first | exact rel_no hk.1 rfl rfl | ((first | (refine rel_none fun K hK => ?_) | (refine rel_yes hk.1 fun K hK => ?_)); (try simp at hk); go_simp; exact hK _ _ (Grow.refl _) hF rfl)))
            (refine rel_pure ?_; apply Exists.intro; refine ⟨fun aR wQ hF hk => ?_, ?_⟩; focus (refine rel_none fun K hK => ?_; (try simp at hk); have d := cell_block (hF.at HXw.out) 1; simp at d; go_simp; exact hK _ _ (Grow.refl _) hF rfl))
            (refine rel_pure ?_; apply Exists.intro; refine ⟨fun aR wQ hF hk => ?_, ?_⟩; focus (first | exact rel_no hk.1 rfl rfl | ((first | (refine rel_none fun K hK => ?_) | (refine rel_yes hk.1 fun K hK => ?_)); (try simp at hk); go_simp; exact hK _ _ (Grow.refl _) hF rfl)))
            (refine rel_pure ?_; apply Exists.intro; refine ⟨fun aR wQ hF hk => ?_, ?_⟩; focus (first | exact rel_no hk.1 rfl rfl | ((first | (refine rel_none fun K hK => ?_) | (refine rel_yes hk.1 fun K hK => ?_)); (try simp at hk); go_simp; exact hK _ _ (Grow.refl _) hF rfl)))
            (refine rel_pure ?_; apply Exists.intro; refine ⟨fun aR wQ hF hk => ?_, ?_⟩; focus (first | exact rel_no hk.1 rfl rfl | ((first | (refine rel_none fun K hK => ?_) | (refine rel_yes hk.1 fun K hK => ?_)); (try simp at hk); go_simp; exact hK _ _ (Grow.refl _) hF rfl)))
            (refine rel_pure ?_; apply Exists.intro; refine ⟨fun aR wQ hF hk => ?_, ?_⟩; focus (refine rel_none fun K hK => ?_; (try simp at hk); have d := (Below.cell hF (cell_lt P0.out)).trans P0.out; go_simp; exact hK _ _ (Grow.refl _) hF rfl))
            (refine rel_pure ?_; apply Exists.intro; refine ⟨fun aR wQ hF hk => ?_, ?_⟩; focus (first | exact rel_no hk.1 rfl rfl | ((first | (refine rel_none fun K hK => ?_) | (refine rel_yes hk.1 fun K hK => ?_)); (try simp at hk); go_simp; exact hK _ _ (Grow.refl _) hF rfl)))
            (refine rel_pure ?_; apply Exists.intro; refine ⟨fun aR wQ hF hk => ?_, ?_⟩; focus (refine rel_none fun K hK => ?_; (try simp at hk); have d := cell_block (hF.at HYw.out) 1; simp at d; go_simp; exact hK _ _ (Grow.refl _) hF rfl))
            (refine rel_pure ?_; apply Exists.intro; refine ⟨fun aR wQ hF hk => ?_, ?_⟩; focus (first | exact rel_no hk.1 rfl rfl | ((first | (refine rel_none fun K hK => ?_) | (refine rel_yes hk.1 fun K hK => ?_)); (try simp at hk); go_simp; exact hK _ _ (Grow.refl _) hF rfl)))
            (refine rel_pure ?_; apply Exists.intro; refine ⟨fun aR wQ hF hk => ?_, ?_⟩; focus (first | exact rel_no hk.1 rfl rfl | ((first | (refine rel_none fun K hK => ?_) | (refine rel_yes hk.1 fun K hK => ?_)); (try simp at hk); go_simp; exact hK _ _ (Grow.refl _) hF rfl)))
            (refine rel_pure ?_; apply Exists.intro; refine ⟨fun aR wQ hF hk => ?_, ?_⟩; focus (first | exact rel_no hk.1 rfl rfl | ((first | (refine rel_none fun K hK => ?_) | (refine rel_yes hk.1 fun K hK => ?_)); (try simp at hk); go_simp; exact hK _ _ (Grow.refl _) hF rfl)))
            (refine rel_pure ?_; apply Exists.intro; refine ⟨fun aR wQ hF hk => ?_, ?_⟩; focus (refine rel_none fun K hK => ?_; (try simp at hk); have d := (Below.cell hF (cell_lt Q0.out)).trans Q0.out; go_simp; exact hK _ _ (Grow.refl _) hF rfl))
            (refine rel_pure ?_; apply Exists.intro; refine ⟨fun aR wQ hF hk => ?_, ?_⟩; focus (first | exact rel_no hk.1 rfl rfl | ((first | (refine rel_none fun K hK => ?_) | (refine rel_yes hk.1 fun K hK => ?_)); (try simp at hk); go_simp; exact hK _ _ (Grow.refl _) hF rfl)))
            (refine rel_pure ?_; apply Exists.intro; refine ⟨fun aR wQ hF hk => ?_, ?_⟩; focus (first | exact rel_no hk.1 rfl rfl | ((first | (refine rel_none fun K hK => ?_) | (refine rel_yes hk.1 fun K hK => ?_)); (try simp at hk); go_simp; exact hK _ _ (Grow.refl _) hF rfl)))
            (refine rel_pure ?_; apply Exists.intro; refine ⟨fun aR wQ hF hk => ?_, ?_⟩; focus (first | exact rel_no hk.1 rfl rfl | ((first | (refine rel_none fun K hK => ?_) | (refine rel_yes hk.1 fun K hK => ?_)); (try simp at hk); go_simp; exact hK _ _ (Grow.refl _) hF rfl)))
            (refine rel_pure ?_; apply Exists.intro; refine ⟨fun aR wQ hF hk => ?_, ?_⟩; focus (refine rel_yes hk.1 fun K hK => ?_; (try simp at hk); have d := cell_block (hF.at HXw.out) 1; simp at d; go_simp; exact hK _ _ (Grow.refl _) hF rfl))
            (refine rel_pure ?_; apply Exists.intro; refine ⟨fun aR wQ hF hk => ?_, ?_⟩; focus (first | exact rel_no hk.1 rfl rfl | ((first | (refine rel_none fun K hK => ?_) | (refine rel_yes hk.1 fun K hK => ?_)); (try simp at hk); go_simp; exact hK _ _ (Grow.refl _) hF rfl)))
            (refine rel_pure ?_; apply Exists.intro; refine ⟨fun aR wQ hF hk => ?_, ?_⟩; focus (first | exact rel_no hk.1 rfl rfl | ((first | (refine rel_none fun K hK => ?_) | (refine rel_yes hk.1 fun K hK => ?_)); (try simp at hk); go_simp; exact hK _ _ (Grow.refl _) hF rfl)))
            (refine rel_pure ?_; apply Exists.intro; refine ⟨fun aR wQ hF hk => ?_, ?_⟩; focus (first | exact rel_no hk.1 rfl rfl | ((first | (refine rel_none fun K hK => ?_) | (refine rel_yes hk.1 fun K hK => ?_)); (try simp at hk); go_simp; exact hK _ _ (Grow.refl _) hF rfl)))
            (refine rel_pure ?_; apply Exists.intro; refine ⟨fun aR wQ hF hk => ?_, ?_⟩; focus (refine rel_yes hk.1 fun K hK => ?_; (try simp at hk); have d := (Below.cell hF (cell_lt P1.out)).trans P1.out; go_simp; exact hK _ _ (Grow.refl _) hF rfl))
            (refine rel_pure ?_; apply Exists.intro; refine ⟨fun aR wQ hF hk => ?_, ?_⟩; focus (first | exact rel_no hk.1 rfl rfl | ((first | (refine rel_none fun K hK => ?_) | (refine rel_yes hk.1 fun K hK => ?_)); (try simp at hk); go_simp; exact hK _ _ (Grow.refl _) hF rfl)))
            (refine rel_pure ?_; apply Exists.intro; refine ⟨fun aR wQ hF hk => ?_, ?_⟩; focus (refine rel_yes hk.1 fun K hK => ?_; (try simp at hk); have d := cell_block (hF.at HYw.out) 1; simp at d; go_simp; exact hK _ _ (Grow.refl _) hF rfl))
            (refine rel_pure ?_; apply Exists.intro; refine ⟨fun aR wQ hF hk => ?_, ?_⟩; focus (first | exact rel_no hk.1 rfl rfl | ((first | (refine rel_none fun K hK => ?_) | (refine rel_yes hk.1 fun K hK => ?_)); (try simp at hk); go_simp; exact hK _ _ (Grow.refl _) hF rfl)))
            (refine rel_pure ?_; apply Exists.intro; refine ⟨fun aR wQ hF hk => ?_, ?_⟩; focus (first | exact rel_no hk.1 rfl rfl | ((first | (refine rel_none fun K hK => ?_) | (refine rel_yes hk.1 fun K hK => ?_)); (try simp at hk); go_simp; exact hK _ _ (Grow.refl _) hF rfl)))
            (refine rel_pure ?_; apply Exists.intro; refine ⟨fun aR wQ hF hk => ?_, ?_⟩; focus (first | exact rel_no hk.1 rfl rfl | ((first | (refine rel_none fun K hK => ?_) | (refine rel_yes hk.1 fun K hK => ?_)); (try simp at hk); go_simp; exact hK _ _ (Grow.refl _) hF rfl)))
            (refine rel_pure ?_; apply Exists.intro; refine ⟨fun aR wQ hF hk => ?_, ?_⟩; focus (refine rel_yes hk.1 fun K hK => ?_; (try simp at hk); have d := (Below.cell hF (cell_lt Q1.out)).trans Q1.out; go_simp; exact hK _ _ (Grow.refl _) hF rfl))
            (refine rel_pure ?_; apply Exists.intro; refine ⟨fun aR wQ hF hk => ?_, ?_⟩; focus (refine rel_yes hk.1 fun K hK => ?_; (try simp at hk); go_simp; refine (refSame_any wQ CA CB (X.L k2).cn (Y.L k2).cn ca cb (X.L k2).C (Y.L k2).C true HEQ.out HCN.out (RowAt.grow HCX.out hF) (RowAt.grow HCY.out hF)).mono ?_; rintro e w' ⟨rfl, hg⟩; exact hK _ _ hg ((hF.trans hg)) rfl))
            (refine rel_pure ?_; apply Exists.intro; refine ⟨fun aR wQ hF hk => ?_, ?_⟩; focus (first | exact rel_no hk.1 rfl rfl | ((first | (refine rel_none fun K hK => ?_) | (refine rel_yes hk.1 fun K hK => ?_)); (try simp at hk); go_simp; exact hK _ _ (Grow.refl _) hF rfl)))
            (refine rel_pure ?_; apply Exists.intro; refine ⟨fun aR wQ hF hk => ?_, ?_⟩; focus (first | exact rel_no hk.1 rfl rfl | ((first | (refine rel_none fun K hK => ?_) | (refine rel_yes hk.1 fun K hK => ?_)); (try simp at hk); go_simp; exact hK _ _ (Grow.refl _) hF rfl)))
            refine rel_done fun wR hF => ?_
            repeat (first | (refine fun v hv => ?_; obtain rfl : v = _ := hv) | (refine fun v hv => ?_))
            simp only [Act.put, List.setIfInBounds_toArray, List.set_cons_zero, List.set_cons_succ]
            refine rel_nil ?_
            have HGf := Lib.hid (HG4.out.trans hF)
            clear hF
            go_wp2_with fail
            go_roundw
            case rel => exact ⟨k2 + 1, by omega, by go_num, HE2.out, HGf.out⟩
            case measure => simp [intOf]; omega
        · have kn : ¬ (k2 : Int) < (X.ln : Int) := by omega
          have HLE := Lib.hid (show ∀ j, j < X.ln → SameLn (X.L j) (Y.L j) from fun j hj => HE.out j (by omega))
          have HGz := Lib.hid (HGe.out.trans hg)
          have HXz := Lib.hid (hg.at HXe.out)
          have HYz := Lib.hid (hg.at HYe.out)
          clear HE HXe HYe HGe hg
          have x1 := cell_block HXz.out 1
          simp at x1
          have x3 := cell_block HXz.out 3
          have y3 := cell_block HYz.out 3
          simp at x3 y3
          go_wp2_with (first
              | ((with_reducible refine wpList_skip ?_ ?_); (· rfl)))
          clear x3 y3 x1
          cases hb : (Classical.propDecidable (SameM X.sn Y.sn X.S Y.S)).decide
          · have hne : ¬ SameM X.sn Y.sn X.S Y.S := by simpa using hb
            refine (refInts_any _ SA SB X.sn Y.sn sc sd X.S Y.S false ⟨fun h => (by cases h), fun h => absurd h hne⟩ (by have := HSM.out.s; omega) (HXS.out.grow HGz.out) (HYS.out.grow HGz.out)).mono ?_
            rintro _ w3 ⟨rfl, hg3⟩
            have HG3 := Lib.hid (HGz.out.trans hg3)
            have hrf : r = false := by
              cases hq : r with
              | false => rfl
              | true => exact absurd ((HR.out.1 hq).s) hne
            subst hrf
            clear hg3 hb hne
            go_wp2
            go_ret
            exact ⟨rfl, HG3.out⟩
          have H_S := Lib.hid (show SameM X.sn Y.sn X.S Y.S by simpa using hb)
          refine (refInts_any _ SA SB X.sn Y.sn sc sd X.S Y.S true ⟨fun _ => H_S.out, fun _ => rfl⟩ (by have := HSM.out.s; omega) (HXS.out.grow HGz.out) (HYS.out.grow HGz.out)).mono ?_
          rintro _ w3 ⟨rfl, hg3⟩
          have HG3 := Lib.hid (HGz.out.trans hg3)
          have HXz2 := Lib.hid (hg3.at HXz.out)
          have HYz2 := Lib.hid (hg3.at HYz.out)
          clear hg3 hb HGz HXz HYz
          have HGz := HG3; clear HG3
          have HXz := HXz2; clear HXz2
          have HYz := HYz2; clear HYz2
          have x4 := cell_block HXz.out 4
          have y4 := cell_block HYz.out 4
          simp at x4 y4
          go_wp2_with (first
              | ((with_reducible refine wpList_skip ?_ ?_); (· rfl)))
          clear x4 y4 
          cases hb : (Classical.propDecidable (SameM X.qn Y.qn X.Q Y.Q)).decide
          · have hne : ¬ SameM X.qn Y.qn X.Q Y.Q := by simpa using hb
            refine (refInts_any _ QA QB X.qn Y.qn qc qd X.Q Y.Q false ⟨fun h => (by cases h), fun h => absurd h hne⟩ (by have := HSM.out.q; omega) (HXQ.out.grow HGz.out) (HYQ.out.grow HGz.out)).mono ?_
            rintro _ w3 ⟨rfl, hg3⟩
            have HG3 := Lib.hid (HGz.out.trans hg3)
            have hrf : r = false := by
              cases hq : r with
              | false => rfl
              | true => exact absurd ((HR.out.1 hq).q) hne
            subst hrf
            clear hg3 hb hne
            go_wp2
            go_ret
            exact ⟨rfl, HG3.out⟩
          have H_Q := Lib.hid (show SameM X.qn Y.qn X.Q Y.Q by simpa using hb)
          refine (refInts_any _ QA QB X.qn Y.qn qc qd X.Q Y.Q true ⟨fun _ => H_Q.out, fun _ => rfl⟩ (by have := HSM.out.q; omega) (HXQ.out.grow HGz.out) (HYQ.out.grow HGz.out)).mono ?_
          rintro _ w3 ⟨rfl, hg3⟩
          have HG3 := Lib.hid (HGz.out.trans hg3)
          have HXz2 := Lib.hid (hg3.at HXz.out)
          have HYz2 := Lib.hid (hg3.at HYz.out)
          clear hg3 hb HGz HXz HYz
          have HGz := HG3; clear HG3
          have HXz := HXz2; clear HXz2
          have HYz := HYz2; clear HYz2
          have x5 := cell_block HXz.out 5
          have y5 := cell_block HYz.out 5
          simp at x5 y5
          go_wp2_with (first
              | ((with_reducible refine wpList_skip ?_ ?_); (· rfl)))
          clear x5 y5 
          cases hb : (Classical.propDecidable (SameM X.mn Y.mn X.M Y.M)).decide
          · have hne : ¬ SameM X.mn Y.mn X.M Y.M := by simpa using hb
            refine (refInts_any _ MA MB X.mn Y.mn mc md X.M Y.M false ⟨fun h => (by cases h), fun h => absurd h hne⟩ (by have := HSM.out.m; omega) (HXM.out.grow HGz.out) (HYM.out.grow HGz.out)).mono ?_
            rintro _ w3 ⟨rfl, hg3⟩
            have HG3 := Lib.hid (HGz.out.trans hg3)
            have hrf : r = false := by
              cases hq : r with
              | false => rfl
              | true => exact absurd ((HR.out.1 hq).m) hne
            subst hrf
            clear hg3 hb hne
            go_wp2
            go_ret
            exact ⟨rfl, HG3.out⟩
          have H_M := Lib.hid (show SameM X.mn Y.mn X.M Y.M by simpa using hb)
          refine (refInts_any _ MA MB X.mn Y.mn mc md X.M Y.M true ⟨fun _ => H_M.out, fun _ => rfl⟩ (by have := HSM.out.m; omega) (HXM.out.grow HGz.out) (HYM.out.grow HGz.out)).mono ?_
          rintro _ w3 ⟨rfl, hg3⟩
          have HG3 := Lib.hid (HGz.out.trans hg3)
          have HXz2 := Lib.hid (hg3.at HXz.out)
          have HYz2 := Lib.hid (hg3.at HYz.out)
          clear hg3 hb HGz HXz HYz
          have HGz := HG3; clear HG3
          have HXz := HXz2; clear HXz2
          have HYz := HYz2; clear HYz2
          have x2 := cell_block HXz.out 2
          have y2 := cell_block HYz.out 2
          have x6 := cell_block HXz.out 6
          have y6 := cell_block HYz.out 6
          have x7 := cell_block HXz.out 7
          have y7 := cell_block HYz.out 7
          have x8 := cell_block HXz.out 8
          have y8 := cell_block HYz.out 8
          have x9 := cell_block HXz.out 9
          have y9 := cell_block HYz.out 9
          have x10 := cell_block HXz.out 10
          have y10 := cell_block HYz.out 10
          have x11 := cell_block HXz.out 11
          have y11 := cell_block HYz.out 11
          simp at x2 y2 x6 y6 x7 y7 x8 y8 x9 y9 x10 y10 x11 y11
          by_cases h_mx : X.mx = Y.mx
          case neg =>
            have hne := h_mx
            have hb : (X.mx == Y.mx) = false := by simpa using hne
            have hrf : r = false := by
              cases hq : r with
              | false => rfl
              | true => exact absurd ((HR.out.1 hq).mx) hne
            subst hrf
            clear hne h_mx x6 y6 x7 y7 x8 y8 x9 y9 x10 y10 x11 y11
            go_wp2_with (first
                | ((with_reducible refine wpList_eql_at 3 _ _ _ rfl .i64 X.mx Y.mx false hb Try.underlying3 ?_ ?_ ?_ ?_); (· rfl); (· rfl); (· rfl))
                | ((with_reducible refine wpList_skip ?_ ?_); (· rfl)))
            go_ret
            exact ⟨rfl, HGz.out⟩
          have hb_mx : (X.mx == Y.mx) = true := by simp [h_mx]
          have H_mx := Lib.hid h_mx; clear h_mx
          by_cases h_table : X.table = Y.table
          case neg =>
            have hne := h_table
            have hb : (X.table == Y.table) = false := by simpa using hne
            have hrf : r = false := by
              cases hq : r with
              | false => rfl
              | true => exact absurd ((HR.out.1 hq).table) hne
            subst hrf
            clear hne h_table x7 y7 x8 y8 x9 y9 x10 y10 x11 y11
            go_wp2_with (first
                | ((with_reducible refine wpList_eql_at 3 _ _ _ rfl .i64 X.mx Y.mx true hb_mx Try.underlying3 ?_ ?_ ?_ ?_); (· rfl); (· rfl); (· rfl))
                | ((with_reducible refine wpList_eql_at 3 _ _ _ rfl .i64 X.table Y.table false hb Try.underlying3 ?_ ?_ ?_ ?_); (· rfl); (· rfl); (· rfl))
                | ((with_reducible refine wpList_skip ?_ ?_); (· rfl)))
            go_ret
            exact ⟨rfl, HGz.out⟩
          have hb_table : (X.table == Y.table) = true := by simp [h_table]
          have H_table := Lib.hid h_table; clear h_table
          by_cases h_mask : X.mask = Y.mask
          case neg =>
            have hne := h_mask
            have hb : ((X.mask.toNat : Int) == (Y.mask.toNat : Int)) = false := by
              have h1 : X.mask.toNat ≠ Y.mask.toNat := fun h => hne (BitVec.eq_of_toNat_eq h)
              have h2 : ¬ ((X.mask.toNat : Int) = (Y.mask.toNat : Int)) := by omega
              simpa using h2
            have hrf : r = false := by
              cases hq : r with
              | false => rfl
              | true => exact absurd ((HR.out.1 hq).mask) hne
            subst hrf
            clear hne h_mask x8 y8 x9 y9 x10 y10 x11 y11
            go_wp2_with (first
                | ((with_reducible refine wpList_eql_at 3 _ _ _ rfl .i64 X.mx Y.mx true hb_mx Try.underlying3 ?_ ?_ ?_ ?_); (· rfl); (· rfl); (· rfl))
                | ((with_reducible refine wpList_eql_at 3 _ _ _ rfl .i64 X.table Y.table true hb_table Try.underlying3 ?_ ?_ ?_ ?_); (· rfl); (· rfl); (· rfl))
                | ((with_reducible refine wpList_eql_at 25 _ _ _ rfl .u32 (X.mask.toNat : Int) (Y.mask.toNat : Int) false hb Try.underlying25 ?_ ?_ ?_ ?_); (· rfl); (· rfl); (· rfl))
                | ((with_reducible refine wpList_skip ?_ ?_); (· rfl)))
            go_ret
            exact ⟨rfl, HGz.out⟩
          have hb_mask : ((X.mask.toNat : Int) == (Y.mask.toNat : Int)) = true := by simp [h_mask]
          have H_mask := Lib.hid h_mask; clear h_mask
          by_cases h_filter : X.filter = Y.filter
          case neg =>
            have hne := h_filter
            have hb : (X.filter == Y.filter) = false := by simpa using hne
            have hrf : r = false := by
              cases hq : r with
              | false => rfl
              | true => exact absurd ((HR.out.1 hq).filter) hne
            subst hrf
            clear hne h_filter x9 y9 x10 y10 x11 y11
            go_wp2_with (first
                | ((with_reducible refine wpList_eql_at 3 _ _ _ rfl .i64 X.mx Y.mx true hb_mx Try.underlying3 ?_ ?_ ?_ ?_); (· rfl); (· rfl); (· rfl))
                | ((with_reducible refine wpList_eql_at 3 _ _ _ rfl .i64 X.table Y.table true hb_table Try.underlying3 ?_ ?_ ?_ ?_); (· rfl); (· rfl); (· rfl))
                | ((with_reducible refine wpList_eql_at 25 _ _ _ rfl .u32 (X.mask.toNat : Int) (Y.mask.toNat : Int) true hb_mask Try.underlying25 ?_ ?_ ?_ ?_); (· rfl); (· rfl); (· rfl))
                | ((with_reducible refine wpList_eql_at 25 _ _ _ rfl .u32 X.filter Y.filter false hb Try.underlying25 ?_ ?_ ?_ ?_); (· rfl); (· rfl); (· rfl))
                | ((with_reducible refine wpList_skip ?_ ?_); (· rfl)))
            go_ret
            exact ⟨rfl, HGz.out⟩
          have hb_filter : (X.filter == Y.filter) = true := by simp [h_filter]
          have H_filter := Lib.hid h_filter; clear h_filter
          by_cases h_charge : X.charge = Y.charge
          case neg =>
            have hne := h_charge
            have hb : (X.charge == Y.charge) = false := by simpa using hne
            have hrf : r = false := by
              cases hq : r with
              | false => rfl
              | true => exact absurd ((HR.out.1 hq).charge) hne
            subst hrf
            clear hne h_charge x10 y10 x11 y11
            go_wp2_with (first
                | ((with_reducible refine wpList_eql_at 3 _ _ _ rfl .i64 X.mx Y.mx true hb_mx Try.underlying3 ?_ ?_ ?_ ?_); (· rfl); (· rfl); (· rfl))
                | ((with_reducible refine wpList_eql_at 3 _ _ _ rfl .i64 X.table Y.table true hb_table Try.underlying3 ?_ ?_ ?_ ?_); (· rfl); (· rfl); (· rfl))
                | ((with_reducible refine wpList_eql_at 25 _ _ _ rfl .u32 (X.mask.toNat : Int) (Y.mask.toNat : Int) true hb_mask Try.underlying25 ?_ ?_ ?_ ?_); (· rfl); (· rfl); (· rfl))
                | ((with_reducible refine wpList_eql_at 25 _ _ _ rfl .u32 X.filter Y.filter true hb_filter Try.underlying25 ?_ ?_ ?_ ?_); (· rfl); (· rfl); (· rfl))
                | ((with_reducible refine wpList_eql_at 3 _ _ _ rfl .i64 X.charge Y.charge false hb Try.underlying3 ?_ ?_ ?_ ?_); (· rfl); (· rfl); (· rfl))
                | ((with_reducible refine wpList_skip ?_ ?_); (· rfl)))
            go_ret
            exact ⟨rfl, HGz.out⟩
          have hb_charge : (X.charge == Y.charge) = true := by simp [h_charge]
          have H_charge := Lib.hid h_charge; clear h_charge
          by_cases h_cycle : X.cycle = Y.cycle
          case neg =>
            have hne := h_cycle
            have hb : (X.cycle == Y.cycle) = false := by simpa using hne
            have hrf : r = false := by
              cases hq : r with
              | false => rfl
              | true => exact absurd ((HR.out.1 hq).cycle) hne
            subst hrf
            clear hne h_cycle x11 y11
            go_wp2_with (first
                | ((with_reducible refine wpList_eql_at 3 _ _ _ rfl .i64 X.mx Y.mx true hb_mx Try.underlying3 ?_ ?_ ?_ ?_); (· rfl); (· rfl); (· rfl))
                | ((with_reducible refine wpList_eql_at 3 _ _ _ rfl .i64 X.table Y.table true hb_table Try.underlying3 ?_ ?_ ?_ ?_); (· rfl); (· rfl); (· rfl))
                | ((with_reducible refine wpList_eql_at 25 _ _ _ rfl .u32 (X.mask.toNat : Int) (Y.mask.toNat : Int) true hb_mask Try.underlying25 ?_ ?_ ?_ ?_); (· rfl); (· rfl); (· rfl))
                | ((with_reducible refine wpList_eql_at 25 _ _ _ rfl .u32 X.filter Y.filter true hb_filter Try.underlying25 ?_ ?_ ?_ ?_); (· rfl); (· rfl); (· rfl))
                | ((with_reducible refine wpList_eql_at 3 _ _ _ rfl .i64 X.charge Y.charge true hb_charge Try.underlying3 ?_ ?_ ?_ ?_); (· rfl); (· rfl); (· rfl))
                | ((with_reducible refine wpList_eql_at 26 _ _ _ rfl .u64 X.cycle Y.cycle false hb Try.underlying26 ?_ ?_ ?_ ?_); (· rfl); (· rfl); (· rfl))
                | ((with_reducible refine wpList_skip ?_ ?_); (· rfl)))
            go_ret
            exact ⟨rfl, HGz.out⟩
          have hb_cycle : (X.cycle == Y.cycle) = true := by simp [h_cycle]
          have H_cycle := Lib.hid h_cycle; clear h_cycle
          by_cases h_count : X.count = Y.count
          case neg =>
            have hne := h_count
            have hb : (X.count == Y.count) = false := by simpa using hne
            have hrf : r = false := by
              cases hq : r with
              | false => rfl
              | true => exact absurd ((HR.out.1 hq).count) hne
            subst hrf
            clear hne h_count 
            go_wp2_with (first
                | ((with_reducible refine wpList_eql_at 3 _ _ _ rfl .i64 X.mx Y.mx true hb_mx Try.underlying3 ?_ ?_ ?_ ?_); (· rfl); (· rfl); (· rfl))
                | ((with_reducible refine wpList_eql_at 3 _ _ _ rfl .i64 X.table Y.table true hb_table Try.underlying3 ?_ ?_ ?_ ?_); (· rfl); (· rfl); (· rfl))
                | ((with_reducible refine wpList_eql_at 25 _ _ _ rfl .u32 (X.mask.toNat : Int) (Y.mask.toNat : Int) true hb_mask Try.underlying25 ?_ ?_ ?_ ?_); (· rfl); (· rfl); (· rfl))
                | ((with_reducible refine wpList_eql_at 25 _ _ _ rfl .u32 X.filter Y.filter true hb_filter Try.underlying25 ?_ ?_ ?_ ?_); (· rfl); (· rfl); (· rfl))
                | ((with_reducible refine wpList_eql_at 3 _ _ _ rfl .i64 X.charge Y.charge true hb_charge Try.underlying3 ?_ ?_ ?_ ?_); (· rfl); (· rfl); (· rfl))
                | ((with_reducible refine wpList_eql_at 26 _ _ _ rfl .u64 X.cycle Y.cycle true hb_cycle Try.underlying26 ?_ ?_ ?_ ?_); (· rfl); (· rfl); (· rfl))
                | ((with_reducible refine wpList_eql_at 26 _ _ _ rfl .u64 X.count Y.count false hb Try.underlying26 ?_ ?_ ?_ ?_); (· rfl); (· rfl); (· rfl))
                | ((with_reducible refine wpList_skip ?_ ?_); (· rfl)))
            go_ret
            exact ⟨rfl, HGz.out⟩
          have hb_count : (X.count == Y.count) = true := by simp [h_count]
          have H_count := Lib.hid h_count; clear h_count
          have hrt : r = true := HR.out.2 ⟨HTN.out, HLN.out, HTE.out, HLE.out, H_mx.out, H_S.out, H_Q.out, H_M.out, H_table.out, H_mask.out, H_filter.out, H_charge.out, H_cycle.out, H_count.out⟩
          subst hrt
          go_wp2_with (first
              | ((with_reducible refine wpList_eql_at 3 _ _ _ rfl .i64 X.mx Y.mx true hb_mx Try.underlying3 ?_ ?_ ?_ ?_); (· rfl); (· rfl); (· rfl))
              | ((with_reducible refine wpList_eql_at 3 _ _ _ rfl .i64 X.table Y.table true hb_table Try.underlying3 ?_ ?_ ?_ ?_); (· rfl); (· rfl); (· rfl))
              | ((with_reducible refine wpList_eql_at 25 _ _ _ rfl .u32 (X.mask.toNat : Int) (Y.mask.toNat : Int) true hb_mask Try.underlying25 ?_ ?_ ?_ ?_); (· rfl); (· rfl); (· rfl))
              | ((with_reducible refine wpList_eql_at 25 _ _ _ rfl .u32 X.filter Y.filter true hb_filter Try.underlying25 ?_ ?_ ?_ ?_); (· rfl); (· rfl); (· rfl))
              | ((with_reducible refine wpList_eql_at 3 _ _ _ rfl .i64 X.charge Y.charge true hb_charge Try.underlying3 ?_ ?_ ?_ ?_); (· rfl); (· rfl); (· rfl))
              | ((with_reducible refine wpList_eql_at 26 _ _ _ rfl .u64 X.cycle Y.cycle true hb_cycle Try.underlying26 ?_ ?_ ?_ ?_); (· rfl); (· rfl); (· rfl))
              | ((with_reducible refine wpList_eql_at 26 _ _ _ rfl .u64 X.count Y.count true hb_count Try.underlying26 ?_ ?_ ?_ ?_); (· rfl); (· rfl); (· rfl))
              | ((with_reducible refine wpList_skip ?_ ?_); (· rfl)))
          go_ret
          exact ⟨rfl, HGz.out⟩
end Go.Proofs.Ytmmbhjomgpnklaa
