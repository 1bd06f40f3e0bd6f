/- ConfSame: the walk. -/
import Derived.Test.YtmmbhjomgpnklaaAwake
import Derived.Test.YtmmbhjomgpnklaaGreatB
namespace Go.Proofs.Ytmmbhjomgpnklaa
open Go.RowKit
set_option linter.unusedVariables false
set_option linter.unusedSimpArgs false
set_option maxRecDepth 100000
attribute [local simp] RelKnown Is
attribute [local irreducible] sysP
theorem SameC.symm {n1 n2 : Nat} {C1 C2 : Nat → Ins} (h : SameC n1 n2 C1 C2) : SameC n2 n1 C2 C1 := ⟨h.1.symm, fun j hj => (h.2 j (by rw [h.1]; exact hj)).symm⟩
theorem SameM.symm {n1 n2 : Nat} {C1 C2 : Nat → Int} (h : SameM n1 n2 C1 C2) : SameM n2 n1 C2 C1 := ⟨h.1.symm, fun j hj => (h.2 j (by rw [h.1]; exact hj)).symm⟩
theorem SameX.symm {X Y : Cf} (h : SameX X Y) : SameX Y X :=
  ⟨h.tn.symm, h.ln.symm, fun j hj => have t := h.t j (by rw [h.tn]; exact hj); ⟨t.lv.symm, t.off.symm, t.per.symm, t.dl.symm, t.mem.symm, t.c.symm⟩, fun j hj => have t := h.l j (by rw [h.ln]; exact hj); ⟨t.mem.symm, t.c.symm⟩, h.mx.symm, h.s.symm, h.q.symm, h.m.symm, h.table.symm, h.mask.symm, h.filter.symm, h.charge.symm, h.cycle.symm, h.count.symm⟩
theorem same_dec (X Y : Cf) : ∃ r : Bool, r = true ↔ SameX X Y := by
  by_cases h : SameX X Y
  · exact ⟨true, fun _ => h, fun _ => rfl⟩
  · exact ⟨false, nofun, fun h2 => absurd h2 h⟩
set_option maxHeartbeats 8000000 in
theorem confSame_walk (w : World) {tv lv sv qv mv tv2 lv2 sv2 qv2 mv2 : Value} {X Y : Cf} (hV : ConfV w tv lv sv qv mv X) (hU : ConfV w tv2 lv2 sv2 qv2 mv2 Y) : Calls Try.prog 5 #[.agg (cfC tv lv sv qv mv X), .agg (cfC tv2 lv2 sv2 qv2 mv2 Y)] w fun e w' => e = .returned (.bool true) ∧ Grow w w' := by
  go_enter Try.func5, Try.ntmps5
  go_wp2_with fail
  have hX : ((w.alloc (.cells (cfC tv lv sv qv mv X) 28)).alloc (.cells (cfC tv2 lv2 sv2 qv2 mv2 Y) 28)).heap[w.heap.size]? = some (.cells (cfC tv lv sv qv mv X) 28 (0, 0)) := (heapAt_alloc_old _ _ (by simp)).trans (heapAt_alloc_new w _)
  have hY : ((w.alloc (.cells (cfC tv lv sv qv mv X) 28)).alloc (.cells (cfC tv2 lv2 sv2 qv2 mv2 Y) 28)).heap[w.heap.size + 1]? = some (.cells (cfC tv2 lv2 sv2 qv2 mv2 Y) 28 (0, 0)) := heap_alloc2_new w _ _
  have hG : Grow w ((w.alloc (.cells (cfC tv lv sv qv mv X) 28)).alloc (.cells (cfC tv2 lv2 sv2 qv2 mv2 Y) 28)) := (Grow.alloc _ _).trans (Grow.alloc _ _)
  generalize (w.alloc (.cells (cfC tv lv sv qv mv X) 28)).alloc (.cells (cfC tv2 lv2 sv2 qv2 mv2 Y) 28) = w1 at hX hY hG ⊢
  have HV := Lib.hid (hV.grow hG); clear hV
  have HU := Lib.hid (hU.grow hG); clear hU
  have HX := Lib.hid hX; clear hX
  have HY := Lib.hid hY; clear hY
  have HG := Lib.hid hG; clear hG
  refine (awake_any _).mono ?_
  rintro _ w2 ⟨rfl, hg⟩
  have G1 := Lib.hid hg; clear hg
  go_wp2_with (first
      | ((with_reducible refine wpList_load_blk_g 28 _ rfl w.heap.size 28 (cfC tv lv sv qv mv X) _ ?_ ?_ (G1.out.at HX.out) Try.underlying28 rfl (info28s _ _ _ _ _ X) ?_); (· rfl); (· rfl))
      | ((with_reducible refine wpList_load_blk_g 28 _ rfl (w.heap.size + 1) 28 (cfC tv2 lv2 sv2 qv2 mv2 Y) _ ?_ ?_ (G1.out.at HY.out) Try.underlying28 rfl (info28s _ _ _ _ _ Y) ?_); (· rfl); (· rfl)))
  by_cases hm : Mid X
  · refine (greatX_any (X := X) _ (HV.out.grow G1.out) false ⟨fun _ => hm, fun _ => rfl⟩).mono ?_
    rintro _ w3 ⟨rfl, hg⟩
    have HSX := Lib.hid hm.small; clear hm
    have G2 := Lib.hid (G1.out.trans hg); clear hg
    go_wp2_with (first
      | ((with_reducible refine wpList_load_blk_g 28 _ rfl w.heap.size 28 (cfC tv lv sv qv mv X) _ ?_ ?_ (G2.out.at HX.out) Try.underlying28 rfl (info28s _ _ _ _ _ X) ?_); (· rfl); (· rfl))
      | ((with_reducible refine wpList_load_blk_g 28 _ rfl (w.heap.size + 1) 28 (cfC tv2 lv2 sv2 qv2 mv2 Y) _ ?_ ?_ (G2.out.at HY.out) Try.underlying28 rfl (info28s _ _ _ _ _ Y) ?_); (· rfl); (· rfl)))
    by_cases hm2 : Mid Y
    · refine (greatX_any (X := Y) _ (HU.out.grow G2.out) false ⟨fun _ => hm2, fun _ => rfl⟩).mono ?_
      rintro _ w4 ⟨rfl, hg⟩
      have HSY := Lib.hid hm2.small; clear hm2
      have G3 := Lib.hid (G2.out.trans hg); clear hg
      obtain ⟨r, hr⟩ := same_dec X Y
      have HR := Lib.hid hr; clear hr
      have HRY := Lib.hid (show r = true ↔ SameX Y X from ⟨fun h => (HR.out.1 h).symm, fun h => HR.out.2 h.symm⟩)
      go_wp2_with fail
      have HX3 := Lib.hid (G3.out.at HX.out)
      have HY3 := Lib.hid (G3.out.at HY.out)
      have HV3 := Lib.hid (HV.out.grow G3.out)
      have HU3 := Lib.hid (HU.out.grow G3.out)
      generalize w4 = wz at G3 HX3 HY3 HV3 HU3 ⊢
      refine wp_region_rel _ Grow (fun w' => Grow wz w') [([(2, none)], none), ([(3, none)], none), ([(16, some 1), (17, some 0)], none), ([(2, none)], none), ([(3, none)], none), ([(19, some 1), (20, some 0)], none), ([(18, some 3), (21, some 0)], none), ([(22, some 0)], none), ([(23, some 0), (3, none)], some (23, true)), ([(23, some 1), (2, none)], some (23, true)), ([(23, some 2), (24, some 1), (25, some 0)], some (23, true)), ([(23, some 3), (2, none)], some (23, true)), ([(23, some 4), (3, none)], some (23, true)), ([(23, some 5), (27, some 1), (28, some 0)], some (23, true)), ([(23, some 6), (26, some 3), (29, some 0)], some (23, true)), ([(23, some 7), (30, some 0)], none), ([(31, some 0)], none), ([(32, some 0), (2, none)], some (32, true)), ([(32, some 1), (2, none)], some (32, true)), ([(32, some 2), (33, some 1), (34, some 0)], some (32, true)), ([(32, some 3), (35, some 0)], none), ([(36, some 0)], none)] (by kernel_rfl) (by kernel_rfl) (Grow.drewN wz 1) ?_
      (refine rel_pure ?_; apply Exists.intro; refine ⟨fun aR wQ hF hk => ?_, ?_⟩; focus (refine rel_none fun K hK => ?_; refine wp_load_row 28 (.tmp 2) (by rfl) w.heap.size (by exact hk.1) 28 _ (0, 0) _ (hF.at HX3.out) Try.underlying28 rfl (info28s _ _ _ _ _ X) (hK _ _ (Grow.refl _) hF rfl)))
      (refine rel_pure ?_; apply Exists.intro; refine ⟨fun aR wQ hF hk => ?_, ?_⟩; focus (refine rel_none fun K hK => ?_; refine wp_load_row 28 (.tmp 3) (by rfl) (w.heap.size + 1) (by exact hk.1) 28 _ (0, 0) _ (hF.at HY3.out) Try.underlying28 rfl (info28s _ _ _ _ _ Y) (hK _ _ (Grow.refl _) hF rfl)))
      (refine rel_pure ?_; apply Exists.intro; refine ⟨fun aR wQ hF hk => ?_, ?_⟩; focus (refine rel_none fun K hK => ?_; (try simp at hk); go_simp; refine (sameV_any wQ (HV3.out.grow hF) (HU3.out.grow hF) HSX.out r HR.out).mono ?_; rintro e w' ⟨rfl, hg⟩; exact hK _ _ hg (hF.trans hg) rfl))
      (refine rel_pure ?_; apply Exists.intro; refine ⟨fun aR wQ hF hk => ?_, ?_⟩; focus (refine rel_none fun K hK => ?_; refine wp_load_row 28 (.tmp 2) (by rfl) w.heap.size (by exact hk.1) 28 _ (0, 0) _ (hF.at HX3.out) Try.underlying28 rfl (info28s _ _ _ _ _ X) (hK _ _ (Grow.refl _) hF rfl)))
      (refine rel_pure ?_; apply Exists.intro; refine ⟨fun aR wQ hF hk => ?_, ?_⟩; focus (refine rel_none fun K hK => ?_; refine wp_load_row 28 (.tmp 3) (by rfl) (w.heap.size + 1) (by exact hk.1) 28 _ (0, 0) _ (hF.at HY3.out) Try.underlying28 rfl (info28s _ _ _ _ _ Y) (hK _ _ (Grow.refl _) hF rfl)))
      (refine rel_pure ?_; apply Exists.intro; refine ⟨fun aR wQ hF hk => ?_, ?_⟩; focus (refine rel_none fun K hK => ?_; (try simp at hk); go_simp; refine (refSameV_any wQ (HV3.out.grow hF) (HU3.out.grow hF) HSX.out r HR.out).mono ?_; rintro e w' ⟨rfl, hg⟩; exact hK _ _ hg (hF.trans hg) rfl))
      (refine rel_pure ?_; apply Exists.intro; refine ⟨fun aR wQ hF hk => ?_, ?_⟩; focus (first | exact rel_no hk.1 rfl rfl | ((first | (refine rel_none fun K hK => ?_) | (refine rel_yes hk.1 fun K hK => ?_)); (try simp at hk); go_simp; exact hK _ _ (Grow.refl _) hF rfl)))
      (refine rel_pure ?_; apply Exists.intro; refine ⟨fun aR wQ hF hk => ?_, ?_⟩; focus (first | exact rel_no hk.1 rfl rfl | ((first | (refine rel_none fun K hK => ?_) | (refine rel_yes hk.1 fun K hK => ?_)); (try simp at hk); go_simp; exact hK _ _ (Grow.refl _) hF rfl)))
      (refine rel_pure ?_; apply Exists.intro; refine ⟨fun aR wQ hF hk => ?_, ?_⟩; focus (refine rel_yes hk.1 fun K hK => ?_; refine wp_load_row 28 (.tmp 3) (by rfl) (w.heap.size + 1) (by exact hk.2.1) 28 _ (0, 0) _ (hF.at HY3.out) Try.underlying28 rfl (info28s _ _ _ _ _ Y) (hK _ _ (Grow.refl _) hF rfl)))
      (refine rel_pure ?_; apply Exists.intro; refine ⟨fun aR wQ hF hk => ?_, ?_⟩; focus (refine rel_yes hk.1 fun K hK => ?_; refine wp_load_row 28 (.tmp 2) (by rfl) w.heap.size (by exact hk.2.1) 28 _ (0, 0) _ (hF.at HX3.out) Try.underlying28 rfl (info28s _ _ _ _ _ X) (hK _ _ (Grow.refl _) hF rfl)))
      (refine rel_pure ?_; apply Exists.intro; refine ⟨fun aR wQ hF hk => ?_, ?_⟩; focus (refine rel_yes hk.1 fun K hK => ?_; (try simp at hk); go_simp; refine (sameV_any wQ (HU3.out.grow hF) (HV3.out.grow hF) HSY.out r HRY.out).mono ?_; rintro e w' ⟨rfl, hg⟩; exact hK _ _ hg (hF.trans hg) rfl))
      (refine rel_pure ?_; apply Exists.intro; refine ⟨fun aR wQ hF hk => ?_, ?_⟩; focus (refine rel_yes hk.1 fun K hK => ?_; refine wp_load_row 28 (.tmp 2) (by rfl) w.heap.size (by exact hk.2.1) 28 _ (0, 0) _ (hF.at HX3.out) Try.underlying28 rfl (info28s _ _ _ _ _ X) (hK _ _ (Grow.refl _) hF rfl)))
      (refine rel_pure ?_; apply Exists.intro; refine ⟨fun aR wQ hF hk => ?_, ?_⟩; focus (refine rel_yes hk.1 fun K hK => ?_; refine wp_load_row 28 (.tmp 3) (by rfl) (w.heap.size + 1) (by exact hk.2.1) 28 _ (0, 0) _ (hF.at HY3.out) Try.underlying28 rfl (info28s _ _ _ _ _ Y) (hK _ _ (Grow.refl _) hF rfl)))
      (refine rel_pure ?_; apply Exists.intro; refine ⟨fun aR wQ hF hk => ?_, ?_⟩; focus (refine rel_yes hk.1 fun K hK => ?_; (try simp at hk); go_simp; refine (sameV_any wQ (HV3.out.grow hF) (HU3.out.grow hF) HSX.out r HR.out).mono ?_; rintro e w' ⟨rfl, hg⟩; exact hK _ _ hg (hF.trans hg) rfl))
      (refine rel_pure ?_; apply Exists.intro; refine ⟨fun aR wQ hF hk => ?_, ?_⟩; focus (first | exact rel_no hk.1 rfl rfl | ((first | (refine rel_none fun K hK => ?_) | (refine rel_yes hk.1 fun K hK => ?_)); (try simp at hk); go_simp; exact hK _ _ (Grow.refl _) hF rfl)))
      (refine rel_pure ?_; apply Exists.intro; refine ⟨fun aR wQ hF hk => ?_, ?_⟩; focus (first | exact rel_no hk.1 rfl rfl | ((first | (refine rel_none fun K hK => ?_) | (refine rel_yes hk.1 fun K hK => ?_)); (try simp at hk); go_simp; exact hK _ _ (Grow.refl _) hF rfl)))
      (refine rel_pure ?_; apply Exists.intro; refine ⟨fun aR wQ hF hk => ?_, ?_⟩; focus (first | exact rel_no hk.1 rfl rfl | ((first | (refine rel_none fun K hK => ?_) | (refine rel_yes hk.1 fun K hK => ?_)); (try simp at hk); go_simp; exact hK _ _ (Grow.refl _) hF rfl)))
      (refine rel_pure ?_; apply Exists.intro; refine ⟨fun aR wQ hF hk => ?_, ?_⟩; focus (refine rel_yes hk.1 fun K hK => ?_; refine wp_load_row 28 (.tmp 2) (by rfl) w.heap.size (by exact hk.2.1) 28 _ (0, 0) _ (hF.at HX3.out) Try.underlying28 rfl (info28s _ _ _ _ _ X) (hK _ _ (Grow.refl _) hF rfl)))
      (refine rel_pure ?_; apply Exists.intro; refine ⟨fun aR wQ hF hk => ?_, ?_⟩; focus (refine rel_yes hk.1 fun K hK => ?_; refine wp_load_row 28 (.tmp 2) (by rfl) w.heap.size (by exact hk.2.1) 28 _ (0, 0) _ (hF.at HX3.out) Try.underlying28 rfl (info28s _ _ _ _ _ X) (hK _ _ (Grow.refl _) hF rfl)))
      (refine rel_pure ?_; apply Exists.intro; refine ⟨fun aR wQ hF hk => ?_, ?_⟩; focus (refine rel_yes hk.1 fun K hK => ?_; (try simp at hk); go_simp; refine (sameV_any wQ (HV3.out.grow hF) (HV3.out.grow hF) HSX.out true ⟨fun _ => SameX.refl X, fun _ => rfl⟩).mono ?_; rintro e w' ⟨rfl, hg⟩; exact hK _ _ hg (hF.trans hg) rfl))
      (refine rel_pure ?_; apply Exists.intro; refine ⟨fun aR wQ hF hk => ?_, ?_⟩; focus (first | exact rel_no hk.1 rfl rfl | ((first | (refine rel_none fun K hK => ?_) | (refine rel_yes hk.1 fun K hK => ?_)); (try simp at hk); go_simp; exact hK _ _ (Grow.refl _) hF rfl)))
      (refine rel_pure ?_; apply Exists.intro; refine ⟨fun aR wQ hF hk => ?_, ?_⟩; focus (first | exact rel_no hk.1 rfl rfl | ((first | (refine rel_none fun K hK => ?_) | (refine rel_yes hk.1 fun K hK => ?_)); (try simp at hk); go_simp; exact hK _ _ (Grow.refl _) hF rfl)))
      refine rel_done fun wR hF => ?_
      repeat (first | (refine fun v hv => ?_; obtain rfl : v = _ := hv) | (refine fun v hv => ?_))
      simp only [Act.put, List.setIfInBounds_toArray, List.set_cons_zero, List.set_cons_succ]
      refine rel_nil ?_
      go_wp2
      go_ret
      exact ⟨rfl, (HG.out.trans G3.out).trans hF⟩
    · refine (greatX_any (X := Y) _ (HU.out.grow G2.out) true ⟨nofun, fun h => absurd h hm2⟩).mono ?_
      rintro _ w4 ⟨rfl, hg⟩
      have G3 := Lib.hid (G2.out.trans hg); clear hg
      go_wp2_with fail
      refine (awake_any _).mono ?_
      rintro _ w6 ⟨rfl, hg⟩
      have G4 := Lib.hid (G3.out.trans hg); clear hg
      go_wp2
      go_ret
      exact ⟨rfl, HG.out.trans G4.out⟩
  · refine (greatX_any (X := X) _ (HV.out.grow G1.out) true ⟨nofun, fun h => absurd h hm⟩).mono ?_
    rintro _ w3 ⟨rfl, hg⟩
    have G2 := Lib.hid (G1.out.trans hg); clear hg
    go_wp2_with fail
    refine (awake_any _).mono ?_
    rintro _ w6 ⟨rfl, hg⟩
    have G3 := Lib.hid (G2.out.trans hg); clear hg
    go_wp2
    go_ret
    exact ⟨rfl, HG.out.trans G3.out⟩
end Go.Proofs.Ytmmbhjomgpnklaa
