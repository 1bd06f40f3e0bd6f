/- ConfTells: the walk. -/
import Derived.Test.YtmmbhjomgpnklaaAwake
import Derived.Test.YtmmbhjomgpnklaaGreatB
namespace Go.Proofs.Ytmmbhjomgpnklaa
open Go.RowKit
set_option linter.unusedVariables false
set_option linter.unusedSimpArgs false
set_option maxRecDepth 100000
attribute [local simp] RelKnown Is
attribute [local irreducible] sysP
set_option maxHeartbeats 8000000 in
theorem confTells_walk (w : World) {tv lv sv qv mv : Value} {X : Cf} (hV : ConfV w tv lv sv qv mv X) : Calls Try.prog 3 #[.agg (cfC tv lv sv qv mv X)] w fun e w' => e = .returned (.bool true) ∧ Grow w w' := by
  go_enter Try.func3, Try.ntmps3
  go_wp2_with fail
  have hX : (w.alloc (.cells (cfC tv lv sv qv mv X) 28)).heap[w.heap.size]? = some (.cells (cfC tv lv sv qv mv X) 28 (0, 0)) := heapAt_alloc_new w _
  have hG : Grow w (w.alloc (.cells (cfC tv lv sv qv mv X) 28)) := Grow.alloc _ _
  generalize w.alloc (.cells (cfC tv lv sv qv mv X) 28) = w1 at hX hG ⊢
  have HV := Lib.hid (hV.grow hG); clear hV
  have HX := Lib.hid hX; clear hX
  have HG := Lib.hid hG; clear hG
  by_cases hm : Mid X
  · have HR := Lib.hid (show false = false ↔ Mid X from ⟨fun _ => hm, fun _ => rfl⟩)
    have HSN := Lib.hid (show (X.sn : Int) ≤ 1000000 by have := hm.small.s; omega)
    clear hm
    refine wp_region_rel _ Grow (fun w' => Grow w1 w') [([], none), ([(3, some 0)], none), ([(4, some 0), (1, none)], some (4, true)), ([(4, some 1), (5, some 0)], some (4, true)), ([(4, some 2), (6, some 0)], some (4, true)), ([(7, some 0), (1, none)], some (7, false)), ([(7, some 1), (8, some 0)], some (7, false)), ([(7, some 2), (1, none)], some (7, false)), ([(7, some 3), (10, some 0)], some (7, false)), ([(7, some 4), (9, some 2), (11, some 0)], some (7, false)), ([(4, some 8), (7, some 5), (12, some 0)], some (4, true)), ([(4, some 9), (13, some 0)], none), ([(14, some 0)], none)] (by kernel_rfl) (by kernel_rfl) (Grow.drewN w1 1) ?_
    (refine rel_pure ?_; apply Exists.intro; refine ⟨fun aR wQ hF hk => ?_, ?_⟩; focus (refine rel_none fun K hK => ?_; (try simp at hk); go_simp; refine (awake_any wQ).mono ?_; rintro e w' ⟨rfl, hg⟩; exact hK _ _ hg (hF.trans hg) rfl))
    (refine rel_pure ?_; apply Exists.intro; refine ⟨fun aR wQ hF hk => ?_, ?_⟩; focus (first | exact rel_no hk.1 rfl rfl | ((first | (refine rel_none fun K hK => ?_) | (refine rel_yes hk.1 fun K hK => ?_)); (try simp at hk); go_simp; exact hK _ _ (Grow.refl _) hF rfl)))
    (refine rel_pure ?_; apply Exists.intro; refine ⟨fun aR wQ hF hk => ?_, ?_⟩; focus (refine rel_yes hk.1 fun K hK => ?_; refine wp_load_row 28 (.tmp 1) (by rfl) w.heap.size (by exact hk.2.1) 28 _ (0, 0) _ (hF.at HX.out) Try.underlying28 rfl (info28s _ _ _ _ _ X) (hK _ _ (Grow.refl _) hF rfl)))
    (refine rel_pure ?_; apply Exists.intro; refine ⟨fun aR wQ hF hk => ?_, ?_⟩; focus (refine rel_yes hk.1 fun K hK => ?_; (try simp at hk); go_simp; refine (greatX_any wQ (HV.out.grow hF) false HR.out).mono ?_; rintro e w' ⟨rfl, hg⟩; exact hK _ _ hg (hF.trans hg) rfl))
    (refine rel_pure ?_; apply Exists.intro; refine ⟨fun aR wQ hF hk => ?_, ?_⟩; focus (first | exact rel_no hk.1 rfl rfl | ((first | (refine rel_none fun K hK => ?_) | (refine rel_yes hk.1 fun K hK => ?_)); (try simp at hk); go_simp; exact hK _ _ (Grow.refl _) hF rfl)))
    (refine rel_pure ?_; apply Exists.intro; refine ⟨fun aR wQ hF hk => ?_, ?_⟩; focus (refine rel_yes hk.1 fun K hK => ?_; refine wp_load_row 28 (.tmp 1) (by rfl) w.heap.size (by exact hk.2.1) 28 _ (0, 0) _ (hF.at HX.out) Try.underlying28 rfl (info28s _ _ _ _ _ X) (hK _ _ (Grow.refl _) hF rfl)))
    (refine rel_pure ?_; apply Exists.intro; refine ⟨fun aR wQ hF hk => ?_, ?_⟩; focus (refine rel_yes hk.1 fun K hK => ?_; (try simp at hk); go_simp; refine (checkV_any wQ (HV.out.grow hF) HSN.out).mono ?_; rintro e w' ⟨rfl, hg⟩; exact hK _ _ hg (hF.trans hg) rfl))
    (refine rel_pure ?_; apply Exists.intro; refine ⟨fun aR wQ hF hk => ?_, ?_⟩; focus (refine rel_yes hk.1 fun K hK => ?_; refine wp_load_row 28 (.tmp 1) (by rfl) w.heap.size (by exact hk.2.1) 28 _ (0, 0) _ (hF.at HX.out) Try.underlying28 rfl (info28s _ _ _ _ _ X) (hK _ _ (Grow.refl _) hF rfl)))
    (refine rel_pure ?_; apply Exists.intro; refine ⟨fun aR wQ hF hk => ?_, ?_⟩; focus (refine rel_yes hk.1 fun K hK => ?_; (try simp at hk); go_simp; refine (refCheckV_any wQ (HV.out.grow hF) HSN.out).mono ?_; rintro e w' ⟨rfl, hg⟩; exact hK _ _ hg (hF.trans hg) rfl))
    (refine rel_pure ?_; apply Exists.intro; refine ⟨fun aR wQ hF hk => ?_, ?_⟩; focus (first | exact rel_no hk.1 rfl rfl | ((first | (refine rel_none fun K hK => ?_) | (refine rel_yes hk.1 fun K hK => ?_)); (try simp at hk); go_simp; exact hK _ _ (Grow.refl _) hF rfl)))
    (refine rel_pure ?_; apply Exists.intro; refine ⟨fun aR wQ hF hk => ?_, ?_⟩; focus (first | exact rel_no hk.1 rfl rfl | ((first | (refine rel_none fun K hK => ?_) | (refine rel_yes hk.1 fun K hK => ?_)); (try simp at hk); go_simp; exact hK _ _ (Grow.refl _) hF rfl)))
    (refine rel_pure ?_; apply Exists.intro; refine ⟨fun aR wQ hF hk => ?_, ?_⟩; focus (first | exact rel_no hk.1 rfl rfl | ((first | (refine rel_none fun K hK => ?_) | (refine rel_yes hk.1 fun K hK => ?_)); (try simp at hk); go_simp; exact hK _ _ (Grow.refl _) hF rfl)))
    (refine rel_pure ?_; apply Exists.intro; refine ⟨fun aR wQ hF hk => ?_, ?_⟩; focus (first | exact rel_no hk.1 rfl rfl | ((first | (refine rel_none fun K hK => ?_) | (refine rel_yes hk.1 fun K hK => ?_)); (try simp at hk); go_simp; exact hK _ _ (Grow.refl _) hF rfl)))
    refine rel_done fun wR hF => ?_
    repeat (first | (refine fun v hv => ?_; obtain rfl : v = _ := hv) | (refine fun v hv => ?_))
    simp only [Act.put, List.setIfInBounds_toArray, List.set_cons_zero, List.set_cons_succ]
    refine rel_nil ?_
    go_wp2
    go_ret
    exact ⟨rfl, HG.out.trans hF⟩
  · have HR := Lib.hid (show true = false ↔ Mid X from ⟨nofun, fun h => absurd h hm⟩)
    clear hm
    refine wp_region_rel _ Grow (fun w' => Grow w1 w') [([], none), ([(3, some 0)], none), ([(4, some 0), (1, none)], some (4, true)), ([(4, some 1), (5, some 0)], some (4, true)), ([(4, some 2), (6, some 0)], some (4, true)), ([(7, some 0), (1, none)], some (7, false)), ([(7, some 1), (8, some 0)], some (7, false)), ([(7, some 2), (1, none)], some (7, false)), ([(7, some 3), (10, some 0)], some (7, false)), ([(7, some 4), (9, some 2), (11, some 0)], some (7, false)), ([(4, some 8), (7, some 5), (12, some 0)], some (4, true)), ([(4, some 9), (13, some 0)], none), ([(14, some 0)], none)] (by kernel_rfl) (by kernel_rfl) (Grow.drewN w1 1) ?_
    (refine rel_pure ?_; apply Exists.intro; refine ⟨fun aR wQ hF hk => ?_, ?_⟩; focus (refine rel_none fun K hK => ?_; (try simp at hk); go_simp; refine (awake_any wQ).mono ?_; rintro e w' ⟨rfl, hg⟩; exact hK _ _ hg (hF.trans hg) rfl))
    (refine rel_pure ?_; apply Exists.intro; refine ⟨fun aR wQ hF hk => ?_, ?_⟩; focus (first | exact rel_no hk.1 rfl rfl | ((first | (refine rel_none fun K hK => ?_) | (refine rel_yes hk.1 fun K hK => ?_)); (try simp at hk); go_simp; exact hK _ _ (Grow.refl _) hF rfl)))
    (refine rel_pure ?_; apply Exists.intro; refine ⟨fun aR wQ hF hk => ?_, ?_⟩; focus (refine rel_yes hk.1 fun K hK => ?_; refine wp_load_row 28 (.tmp 1) (by rfl) w.heap.size (by exact hk.2.1) 28 _ (0, 0) _ (hF.at HX.out) Try.underlying28 rfl (info28s _ _ _ _ _ X) (hK _ _ (Grow.refl _) hF rfl)))
    (refine rel_pure ?_; apply Exists.intro; refine ⟨fun aR wQ hF hk => ?_, ?_⟩; focus (refine rel_yes hk.1 fun K hK => ?_; (try simp at hk); go_simp; refine (greatX_any wQ (HV.out.grow hF) true HR.out).mono ?_; rintro e w' ⟨rfl, hg⟩; exact hK _ _ hg (hF.trans hg) rfl))
    (refine rel_pure ?_; apply Exists.intro; refine ⟨fun aR wQ hF hk => ?_, ?_⟩; focus (first | exact rel_no hk.1 rfl rfl | ((first | (refine rel_none fun K hK => ?_) | (refine rel_yes hk.1 fun K hK => ?_)); (try simp at hk); go_simp; exact hK _ _ (Grow.refl _) hF rfl)))
    (refine rel_pure ?_; apply Exists.intro; refine ⟨fun aR wQ hF hk => ?_, ?_⟩; focus (first | exact rel_no hk.1 rfl rfl | ((first | (refine rel_none fun K hK => ?_) | (refine rel_yes hk.1 fun K hK => ?_)); (try simp at hk); go_simp; exact hK _ _ (Grow.refl _) hF rfl)))
    (refine rel_pure ?_; apply Exists.intro; refine ⟨fun aR wQ hF hk => ?_, ?_⟩; focus (first | exact rel_no hk.1 rfl rfl | ((first | (refine rel_none fun K hK => ?_) | (refine rel_yes hk.1 fun K hK => ?_)); (try simp at hk); go_simp; exact hK _ _ (Grow.refl _) hF rfl)))
    (refine rel_pure ?_; apply Exists.intro; refine ⟨fun aR wQ hF hk => ?_, ?_⟩; focus (first | exact rel_no hk.1 rfl rfl | ((first | (refine rel_none fun K hK => ?_) | (refine rel_yes hk.1 fun K hK => ?_)); (try simp at hk); go_simp; exact hK _ _ (Grow.refl _) hF rfl)))
    (refine rel_pure ?_; apply Exists.intro; refine ⟨fun aR wQ hF hk => ?_, ?_⟩; focus (first | exact rel_no hk.1 rfl rfl | ((first | (refine rel_none fun K hK => ?_) | (refine rel_yes hk.1 fun K hK => ?_)); (try simp at hk); go_simp; exact hK _ _ (Grow.refl _) hF rfl)))
    (refine rel_pure ?_; apply Exists.intro; refine ⟨fun aR wQ hF hk => ?_, ?_⟩; focus (first | exact rel_no hk.1 rfl rfl | ((first | (refine rel_none fun K hK => ?_) | (refine rel_yes hk.1 fun K hK => ?_)); (try simp at hk); go_simp; exact hK _ _ (Grow.refl _) hF rfl)))
    (refine rel_pure ?_; apply Exists.intro; refine ⟨fun aR wQ hF hk => ?_, ?_⟩; focus (first | exact rel_no hk.1 rfl rfl | ((first | (refine rel_none fun K hK => ?_) | (refine rel_yes hk.1 fun K hK => ?_)); (try simp at hk); go_simp; exact hK _ _ (Grow.refl _) hF rfl)))
    (refine rel_pure ?_; apply Exists.intro; refine ⟨fun aR wQ hF hk => ?_, ?_⟩; focus (first | exact rel_no hk.1 rfl rfl | ((first | (refine rel_none fun K hK => ?_) | (refine rel_yes hk.1 fun K hK => ?_)); (try simp at hk); go_simp; exact hK _ _ (Grow.refl _) hF rfl)))
    (refine rel_pure ?_; apply Exists.intro; refine ⟨fun aR wQ hF hk => ?_, ?_⟩; focus (first | exact rel_no hk.1 rfl rfl | ((first | (refine rel_none fun K hK => ?_) | (refine rel_yes hk.1 fun K hK => ?_)); (try simp at hk); go_simp; exact hK _ _ (Grow.refl _) hF rfl)))
    refine rel_done fun wR hF => ?_
    repeat (first | (refine fun v hv => ?_; obtain rfl : v = _ := hv) | (refine fun v hv => ?_))
    simp only [Act.put, List.setIfInBounds_toArray, List.set_cons_zero, List.set_cons_succ]
    refine rel_nil ?_
    go_wp2
    go_ret
    exact ⟨rfl, HG.out.trans hF⟩
end Go.Proofs.Ytmmbhjomgpnklaa
