/- Are both alike: walked. -/
import Derived.Test.YtdfadggdegojnaaDoorRefOps2
import Derived.Test.YtdfadggdegojnaaDoorTurns
namespace Go.Proofs.YtdfadggdegojnaaDoor
open Go.RowKit
set_option linter.unusedVariables false
set_option linter.unusedSimpArgs false
set_option maxRecDepth 100000
attribute [local irreducible] ctz qCells lvl cutR pushR firstR total hd but refCells lead rowAt
attribute [local simp] RelKnown Is
set_option maxHeartbeats 8000000 in
theorem alike_any (w : World) (b m : Nat) (L : Rows) (s : QS) (t : Int) (hT : TabAt w) (hp : Rep s L) (hq : RQ w b L) (h : RS w m L) : Calls Tryd.prog 19 #[.pointer (some ⟨b, 0, none⟩), .pointer (some ⟨m, 0, none⟩), .int .i64 t] w fun e w' => e = .returned (.bool true) ∧ Grow w w' := by
  have HSH := Lib.hid hp.short
  have HQ := Lib.hid hq; clear hq
  obtain ⟨v, hv⟩ : ∃ v, lvl L t = v := ⟨_, rfl⟩
  have HLV := Lib.hid fun (w1 : World) (hg : Grow w w1) => refLevel_s w1 m L t v hv hp.short (h.grow hg)
  have HV := Lib.hid hv; clear hv
  have HS := Lib.hid h
  obtain ⟨V, h⟩ := h
  have HR := Lib.hid h; clear h
  have HRL := Lib.hid fun (w1 : World) (hg : Grow w w1) => refLen_any w1 m L V hp.short (HR.out.grow hg)
  have HRF := Lib.hid fun (w1 : World) (hg : Grow w w1) => refFirst_any w1 m L V hp.short (HR.out.grow hg)
  obtain ⟨tt, htt⟩ : ∃ tt : Int, (total L : Int) = tt := ⟨_, rfl⟩
  cases hl : lead L with
  | none =>
    have HF := Lib.hid (first_no w b L hl HQ.out)
    have hf := firstR_none hl
    rw [hf] at HRF
    clear hf hl hp
    go_enter Tryd.func19, Tryd.ntmps19
    go_wp2_with fail
    refine HF.out.mono ?_
    rintro e w1 ⟨rfl, hw1⟩
    have HG := Lib.hid (show Grow w w1 by rw [hw1]; exact Grow.refl _)
    clear hw1
    go_wp2_with fail
    refine (HRF.out w1 HG.out).mono ?_
    rintro e w1 ⟨rfl, rfl⟩
    go_wp2_with fail
    refine (len_r w1 b L (HQ.out.below HG.out)).mono ?_
    rintro e w1 ⟨rfl, rfl⟩
    go_wp2_with fail
    refine (HRL.out w1 HG.out).mono ?_
    rintro e w1 ⟨rfl, rfl⟩
    go_wp2_with fail
    refine (level_r w1 b t L v HV.out.symm (HQ.out.below HG.out)).mono ?_
    rintro e w1 ⟨rfl, rfl⟩
    go_wp2_with fail
    refine (HLV.out w1 HG.out).mono ?_
    rintro e w2 ⟨rfl, hg⟩
    replace HG := Lib.hid (HG.out.trans hg); clear hg
    go_wp2_with fail
    go_loopw [54, 10] (fun i _ wr => ∃ k : Nat, k ≤ 32 ∧ i = .int .i64 k ∧ Grow w wr) (fun i _ _ => 32 - (intOf i).toNat)
    case atStart => exact ⟨0, by omega, rfl, HG.out⟩
    case round =>
      obtain ⟨k, hk, rfl, hgr⟩ := hrel
      have hGr := Lib.hid hgr; clear hgr
      by_cases hlt : k < 32
      · obtain ⟨A, cap, hv, hc, hM⟩ := HR.out.form k hlt
        have HM := Lib.hid hM; clear hM
        have hl := HSH.out k hlt
        have hl1 : ((L k).length : Int) ≤ 1000 := by omega
        have hc1 : ((L k).length : Int) ≤ cap := by omega
        have k0 : (0 : Int) ≤ (k : Int) := by omega
        have kn : (k : Int) < 32 := by omega
        have hV := Lib.hid hv; clear hv
        have HRA := Lib.hid (show L k = rowAt L (k : Int) by unfold rowAt; rw [if_pos ⟨k0, kn⟩]; rfl)
        go_wp2_with fail
        refine wp_region_rel _ Grow (fun w' => Grow wr w') [([(0, none)], none), ([(10, none)], none), ([(57, some 1), (58, some 0)], none), ([(1, none)], none), ([(10, none)], none), ([(60, some 1)], none), ([(62, some 0)], none), ([(63, some 0), (61, some 2)], none), ([(64, some 0)], none), ([(59, some 6), (65, some 0)], none), ([(66, some 0)], none)] (by kernel_rfl) (by kernel_rfl) (Grow.drewN wr 1) ?_
        (refine rel_pure ?_; apply Exists.intro; refine ⟨fun aR wQ hF hk => ?_, ?_⟩; focus (first | exact rel_no hk.1 rfl rfl | ((first | (refine rel_none fun K hK => ?_) | (refine rel_yes hk.1 fun K hK => ?_)); (try simp at hk); go_simp; exact hK _ _ (Grow.refl _) hF rfl)))
        (refine rel_pure ?_; apply Exists.intro; refine ⟨fun aR wQ hF hk => ?_, ?_⟩; focus (first | exact rel_no hk.1 rfl rfl | ((first | (refine rel_none fun K hK => ?_) | (refine rel_yes hk.1 fun K hK => ?_)); (try simp at hk); go_simp; exact hK _ _ (Grow.refl _) hF rfl)))
        (refine rel_some (fun v w2 => ∃ (A' : Option Addr) (c' : Nat), v = .slice A' (L k).length c' ∧ (L k).length ≤ c' ∧ MemAt w2 A' (L k).length (rowM (L k))) (fun v w1 w2 hg ⟨A', c', h1, h2, h3⟩ => ⟨A', c', h1, h2, h3.grow hg⟩) (fun aR wQ hF hk => ?_) ?_; focus (refine rel_none fun K hK => ?_; (try simp at hk); go_simp; refine (at_any wQ b k L (L k) HRA.out (HQ.out.below (hGr.out.trans hF))).mono ?_; rintro e w' ⟨A', c', rfl, hown, hc', hg⟩; exact hK _ _ hg (Grow.trans hF hg) ⟨A', c', rfl, hc', hown.at⟩))
        (refine rel_pure ?_; apply Exists.intro; refine ⟨fun aR wQ hF hk => ?_, ?_⟩; focus (first | exact rel_no hk.1 rfl rfl | ((first | (refine rel_none fun K hK => ?_) | (refine rel_yes hk.1 fun K hK => ?_)); (try simp at hk); go_simp; exact hK _ _ (Grow.refl _) hF rfl)))
        (refine rel_pure ?_; apply Exists.intro; refine ⟨fun aR wQ hF hk => ?_, ?_⟩; focus (first | exact rel_no hk.1 rfl rfl | ((first | (refine rel_none fun K hK => ?_) | (refine rel_yes hk.1 fun K hK => ?_)); (try simp at hk); go_simp; exact hK _ _ (Grow.refl _) hF rfl)))
        (refine rel_pure ?_; apply Exists.intro; refine ⟨fun aR wQ hF hk => ?_, ?_⟩; focus (first | exact rel_no hk.1 rfl rfl | ((first | (refine rel_none fun K hK => ?_) | (refine rel_yes hk.1 fun K hK => ?_)); (try simp at hk); go_simp; exact hK _ _ (Grow.refl _) hF rfl)))
        (refine rel_pure ?_; apply Exists.intro; refine ⟨fun aR wQ hF hk => ?_, ?_⟩; focus (first | exact rel_no hk.1 rfl rfl | ((first | (refine rel_none fun K hK => ?_) | (refine rel_yes hk.1 fun K hK => ?_)); (try simp at hk); go_simp; exact hK _ _ (Grow.refl _) hF rfl)))
        (refine rel_pure ?_; apply Exists.intro; refine ⟨fun aR wQ hF hk => ?_, ?_⟩; focus (first | exact rel_no hk.1 rfl rfl | ((first | (refine rel_none fun K hK => ?_) | (refine rel_yes hk.1 fun K hK => ?_)); (try simp at hk); go_simp; exact hK _ _ (Grow.refl _) hF rfl)))
        (refine rel_pure ?_; apply Exists.intro; refine ⟨fun aR wQ hF hk => ?_, ?_⟩; focus (refine rel_none fun K hK => ?_; (try simp at hk); have c1 := (HR.out.grow (hGr.out.trans hF)).cell k hlt; rw [hV.out] at c1; go_simp; exact hK _ _ (Grow.refl _) hF rfl))
        (refine rel_pure ?_; apply Exists.intro; refine ⟨fun aR wQ hF hk => ?_, ?_⟩; focus (refine rel_none fun K hK => ?_; obtain ⟨⟨A', c', hA', hc', hM'⟩, h65, _⟩ := hk; (try simp at hA' h65); go_simp; refine (ints_same wQ A' A (L k).length c' cap (rowM (L k)) hl1 (by omega) hc1 hM' (HM.out.at.grow (hGr.out.trans hF))).mono ?_; rintro e w' ⟨rfl, hg⟩; exact hK _ _ hg (Grow.trans hF hg) rfl))
        (refine rel_pure ?_; apply Exists.intro; refine ⟨fun aR wQ hF hk => ?_, ?_⟩; focus (first | exact rel_no hk.1 rfl rfl | ((first | (refine rel_none fun K hK => ?_) | (refine rel_yes hk.1 fun K hK => ?_)); (try simp at hk); go_simp; exact hK _ _ (Grow.refl _) hF rfl)))
        refine rel_done fun wR hF => ?_
        repeat (first | (refine fun v hv => ?_; obtain rfl : v = _ := hv) | (refine fun v hv => ?_))
        simp only [Act.put, List.setIfInBounds_toArray, List.set_cons_zero, List.set_cons_succ]
        refine rel_nil ?_
        have HG2 := Lib.hid (hGr.out.trans hF)
        clear hF
        go_wp2_with fail
        go_roundw
        case rel => exact ⟨k + 1, by omega, by go_num, HG2.out⟩
        case measure => simp [intOf]; omega
      · have kn : ¬ (k : Int) < 32 := by omega
        go_wp2_with fail
        refine (at_out wr b (-1) (by omega)).mono ?_
        rintro e wr ⟨rfl, rfl⟩
        go_wp2_with fail
        refine (at_out wr b 32 (by omega)).mono ?_
        rintro e wr ⟨rfl, rfl⟩
        go_wp2
        go_ret
        exact ⟨rfl, hGr.out⟩
  | some l =>
    have HF := Lib.hid (first_yes w b l L hl hT HQ.out)
    obtain ⟨_, _, _, f0, f1⟩ := hp.some1 hl
    obtain ⟨f, hf⟩ : ∃ f, firstR L = f := ⟨_, rfl⟩
    rw [hf] at f0 f1 HF HRF
    clear hf hl hp
    have f2 : f ≥ 0 := f0
    go_enter Tryd.func19, Tryd.ntmps19
    go_wp2_with fail
    refine HF.out.mono ?_
    rintro e w1 ⟨rfl, kk, hw1⟩
    have HG := Lib.hid (show Grow w w1 by rw [hw1]; exact Grow.drewN _ _)
    clear hw1
    go_wp2_with fail
    refine (HRF.out w1 HG.out).mono ?_
    rintro e w1 ⟨rfl, rfl⟩
    go_wp2_with fail
    refine (len_r w1 b L (HQ.out.below HG.out)).mono ?_
    rintro e w1 ⟨rfl, rfl⟩
    go_wp2_with fail
    refine (HRL.out w1 HG.out).mono ?_
    rintro e w1 ⟨rfl, rfl⟩
    go_wp2_with fail
    refine (level_r w1 b t L v HV.out.symm (HQ.out.below HG.out)).mono ?_
    rintro e w1 ⟨rfl, rfl⟩
    go_wp2_with fail
    refine (HLV.out w1 HG.out).mono ?_
    rintro e w2 ⟨rfl, hg⟩
    replace HG := Lib.hid (HG.out.trans hg); clear hg
    go_wp2_with fail
    go_loopw [54, 10] (fun i _ wr => ∃ k : Nat, k ≤ 32 ∧ i = .int .i64 k ∧ Grow w wr) (fun i _ _ => 32 - (intOf i).toNat)
    case atStart => exact ⟨0, by omega, rfl, HG.out⟩
    case round =>
      obtain ⟨k, hk, rfl, hgr⟩ := hrel
      have hGr := Lib.hid hgr; clear hgr
      by_cases hlt : k < 32
      · obtain ⟨A, cap, hv, hc, hM⟩ := HR.out.form k hlt
        have HM := Lib.hid hM; clear hM
        have hl := HSH.out k hlt
        have hl1 : ((L k).length : Int) ≤ 1000 := by omega
        have hc1 : ((L k).length : Int) ≤ cap := by omega
        have k0 : (0 : Int) ≤ (k : Int) := by omega
        have kn : (k : Int) < 32 := by omega
        have hV := Lib.hid hv; clear hv
        have HRA := Lib.hid (show L k = rowAt L (k : Int) by unfold rowAt; rw [if_pos ⟨k0, kn⟩]; rfl)
        go_wp2_with fail
        refine wp_region_rel _ Grow (fun w' => Grow wr w') [([(0, none)], none), ([(10, none)], none), ([(57, some 1), (58, some 0)], none), ([(1, none)], none), ([(10, none)], none), ([(60, some 1)], none), ([(62, some 0)], none), ([(63, some 0), (61, some 2)], none), ([(64, some 0)], none), ([(59, some 6), (65, some 0)], none), ([(66, some 0)], none)] (by kernel_rfl) (by kernel_rfl) (Grow.drewN wr 1) ?_
        (refine rel_pure ?_; apply Exists.intro; refine ⟨fun aR wQ hF hk => ?_, ?_⟩; focus (first | exact rel_no hk.1 rfl rfl | ((first | (refine rel_none fun K hK => ?_) | (refine rel_yes hk.1 fun K hK => ?_)); (try simp at hk); go_simp; exact hK _ _ (Grow.refl _) hF rfl)))
        (refine rel_pure ?_; apply Exists.intro; refine ⟨fun aR wQ hF hk => ?_, ?_⟩; focus (first | exact rel_no hk.1 rfl rfl | ((first | (refine rel_none fun K hK => ?_) | (refine rel_yes hk.1 fun K hK => ?_)); (try simp at hk); go_simp; exact hK _ _ (Grow.refl _) hF rfl)))
        (refine rel_some (fun v w2 => ∃ (A' : Option Addr) (c' : Nat), v = .slice A' (L k).length c' ∧ (L k).length ≤ c' ∧ MemAt w2 A' (L k).length (rowM (L k))) (fun v w1 w2 hg ⟨A', c', h1, h2, h3⟩ => ⟨A', c', h1, h2, h3.grow hg⟩) (fun aR wQ hF hk => ?_) ?_; focus (refine rel_none fun K hK => ?_; (try simp at hk); go_simp; refine (at_any wQ b k L (L k) HRA.out (HQ.out.below (hGr.out.trans hF))).mono ?_; rintro e w' ⟨A', c', rfl, hown, hc', hg⟩; exact hK _ _ hg (Grow.trans hF hg) ⟨A', c', rfl, hc', hown.at⟩))
        (refine rel_pure ?_; apply Exists.intro; refine ⟨fun aR wQ hF hk => ?_, ?_⟩; focus (first | exact rel_no hk.1 rfl rfl | ((first | (refine rel_none fun K hK => ?_) | (refine rel_yes hk.1 fun K hK => ?_)); (try simp at hk); go_simp; exact hK _ _ (Grow.refl _) hF rfl)))
        (refine rel_pure ?_; apply Exists.intro; refine ⟨fun aR wQ hF hk => ?_, ?_⟩; focus (first | exact rel_no hk.1 rfl rfl | ((first | (refine rel_none fun K hK => ?_) | (refine rel_yes hk.1 fun K hK => ?_)); (try simp at hk); go_simp; exact hK _ _ (Grow.refl _) hF rfl)))
        (refine rel_pure ?_; apply Exists.intro; refine ⟨fun aR wQ hF hk => ?_, ?_⟩; focus (first | exact rel_no hk.1 rfl rfl | ((first | (refine rel_none fun K hK => ?_) | (refine rel_yes hk.1 fun K hK => ?_)); (try simp at hk); go_simp; exact hK _ _ (Grow.refl _) hF rfl)))
        (refine rel_pure ?_; apply Exists.intro; refine ⟨fun aR wQ hF hk => ?_, ?_⟩; focus (first | exact rel_no hk.1 rfl rfl | ((first | (refine rel_none fun K hK => ?_) | (refine rel_yes hk.1 fun K hK => ?_)); (try simp at hk); go_simp; exact hK _ _ (Grow.refl _) hF rfl)))
        (refine rel_pure ?_; apply Exists.intro; refine ⟨fun aR wQ hF hk => ?_, ?_⟩; focus (first | exact rel_no hk.1 rfl rfl | ((first | (refine rel_none fun K hK => ?_) | (refine rel_yes hk.1 fun K hK => ?_)); (try simp at hk); go_simp; exact hK _ _ (Grow.refl _) hF rfl)))
        (refine rel_pure ?_; apply Exists.intro; refine ⟨fun aR wQ hF hk => ?_, ?_⟩; focus (refine rel_none fun K hK => ?_; (try simp at hk); have c1 := (HR.out.grow (hGr.out.trans hF)).cell k hlt; rw [hV.out] at c1; go_simp; exact hK _ _ (Grow.refl _) hF rfl))
        (refine rel_pure ?_; apply Exists.intro; refine ⟨fun aR wQ hF hk => ?_, ?_⟩; focus (refine rel_none fun K hK => ?_; obtain ⟨⟨A', c', hA', hc', hM'⟩, h65, _⟩ := hk; (try simp at hA' h65); go_simp; refine (ints_same wQ A' A (L k).length c' cap (rowM (L k)) hl1 (by omega) hc1 hM' (HM.out.at.grow (hGr.out.trans hF))).mono ?_; rintro e w' ⟨rfl, hg⟩; exact hK _ _ hg (Grow.trans hF hg) rfl))
        (refine rel_pure ?_; apply Exists.intro; refine ⟨fun aR wQ hF hk => ?_, ?_⟩; focus (first | exact rel_no hk.1 rfl rfl | ((first | (refine rel_none fun K hK => ?_) | (refine rel_yes hk.1 fun K hK => ?_)); (try simp at hk); go_simp; exact hK _ _ (Grow.refl _) hF rfl)))
        refine rel_done fun wR hF => ?_
        repeat (first | (refine fun v hv => ?_; obtain rfl : v = _ := hv) | (refine fun v hv => ?_))
        simp only [Act.put, List.setIfInBounds_toArray, List.set_cons_zero, List.set_cons_succ]
        refine rel_nil ?_
        have HG2 := Lib.hid (hGr.out.trans hF)
        clear hF
        go_wp2_with fail
        go_roundw
        case rel => exact ⟨k + 1, by omega, by go_num, HG2.out⟩
        case measure => simp [intOf]; omega
      · have kn : ¬ (k : Int) < 32 := by omega
        go_wp2_with fail
        refine (at_out wr b (-1) (by omega)).mono ?_
        rintro e wr ⟨rfl, rfl⟩
        go_wp2_with fail
        refine (at_out wr b 32 (by omega)).mono ?_
        rintro e wr ⟨rfl, rfl⟩
        go_wp2
        go_ret
        exact ⟨rfl, hGr.out⟩
end Go.Proofs.YtdfadggdegojnaaDoor
