/- The walks of the laws IsaForms, IsaChecks, IsaUses, IsaWays. -/
import Derived.Test.YtfgbfdhpllcjhaaNames
import Derived.Deep.DeepCutAuto
namespace Go.Proofs.Ytfgbfdhpllcjhaa
open Go.RowKit
set_option linter.unusedVariables false
attribute [local irreducible] hasA hasB hasC hasD hasK bitsOf regP hasStr letter formP bad4 bad6 bad8 bad10 costR checkR mayP costP checkP nameP nameAt nameArr opOf
attribute [local simp] RelKnown Is
theorem info24 : (Try.prog.info? 24).map (·.size) = some 6 := by kernel_rfl

set_option maxRecDepth 100000 in
theorem isaForms_walk (op a b c d k : Int) (hk0 : 0 ≤ k) (hk1 : k < 4294967296) (w : World) : Calls Try.prog 3 #[.agg #[.int .i64 op, .int .i64 a, .int .i64 b, .int .i64 c, .int .i64 d, .int .u32 k]] w fun e w' => e = .returned (.bool true) ∧ Grow w w' := by
  go_enter Try.func3, Try.ntmps3
  go_wp2_with fail
  have hO : (w.alloc (.cells #[.int .i64 op, .int .i64 a, .int .i64 b, .int .i64 c, .int .i64 d, .int .u32 k] 24)).heap[w.heap.size]? = some (.cells #[.int .i64 op, .int .i64 a, .int .i64 b, .int .i64 c, .int .i64 d, .int .u32 k] 24) := heapAt_alloc_new w _
  have hG := Grow.alloc w (.cells #[.int .i64 op, .int .i64 a, .int .i64 b, .int .i64 c, .int .i64 d, .int .u32 k] 24)
  generalize w.alloc (.cells #[.int .i64 op, .int .i64 a, .int .i64 b, .int .i64 c, .int .i64 d, .int .u32 k] 24) = w0 at hO hG ⊢
  obtain ⟨g, hg0⟩ : ∃ g, g = w.heap.size := ⟨_, rfl⟩
  rw [← hg0] at hO ⊢
  clear hg0
  refine wp_region_rel _ Grow (fun w' => w'.heap[g]? = some (.cells #[.int .i64 op, .int .i64 a, .int .i64 b, .int .i64 c, .int .i64 d, .int .u32 k] 24) ∧ Grow w w') [([], none), ([(3, some 0)], none), ([(4, some 0), (1, none)], some (4, true)), ([(4, some 1), (5, some 0)], some (4, true)), ([(4, some 2), (1, none)], some (4, true)), ([(4, some 3), (7, some 0)], some (4, true)), ([(4, some 4), (6, some 2), (8, some 0)], some (4, true)), ([(4, some 5), (9, some 0)], none), ([(10, some 0)], none), ([(11, some 0), (1, none)], some (11, true)), ([(11, some 1), (12, some 0)], some (11, true)), ([(11, some 2), (1, none)], some (11, true)), ([(11, some 3), (14, some 0)], some (11, true)), ([(11, some 4), (13, some 2), (15, some 0)], some (11, true)), ([(11, some 5), (16, some 0)], none), ([(17, some 0)], none)] (by kernel_rfl) (by kernel_rfl) (⟨hO, hG.trans (Grow.drewN w0 1)⟩) ?_
  (refine rel_pure ?_; apply Exists.intro; refine ⟨fun aR wQ hF hk => ?_, ?_⟩; focus (refine rel_none fun K hK => ?_; (try simp at hk); go_simp; refine (awake_any _).mono ?_; rintro e w' ⟨rfl, hg⟩; exact hK _ _ hg (⟨hg.at hF.1, hF.2.trans hg⟩) rfl))
  (refine rel_pure ?_; apply Exists.intro; refine ⟨fun aR wQ hF hk => ?_, ?_⟩; focus (first | exact rel_no hk.1 rfl rfl | ((first | (refine rel_none fun K hK => ?_) | (refine rel_yes hk.1 fun K hK => ?_)); (try simp at hk); go_simp; exact hK _ _ (Grow.refl _) hF rfl)))
  (refine rel_pure ?_; apply Exists.intro; refine ⟨fun aR wQ hF hk => ?_, ?_⟩; focus (refine rel_yes hk.1 fun K hK => ?_; refine wp_load_row 24 (.tmp 1) (by rfl) g (by exact hk.2.1) 24 _ (0, 0) _ (hF.1) Try.underlying24 rfl (info24) (hK _ _ (Grow.refl _) hF rfl)))
  (refine rel_pure ?_; apply Exists.intro; refine ⟨fun aR wQ hF hk => ?_, ?_⟩; focus (refine rel_yes hk.1 fun K hK => ?_; (try simp at hk); go_simp; refine (form_any op a b c d k _).mono ?_; rintro e w' ⟨rfl, hg⟩; exact hK _ _ hg (⟨hg.at hF.1, hF.2.trans hg⟩) rfl))
  (refine rel_pure ?_; apply Exists.intro; refine ⟨fun aR wQ hF hk => ?_, ?_⟩; focus (refine rel_yes hk.1 fun K hK => ?_; refine wp_load_row 24 (.tmp 1) (by rfl) g (by exact hk.2.1) 24 _ (0, 0) _ (hF.1) Try.underlying24 rfl (info24) (hK _ _ (Grow.refl _) hF rfl)))
  (refine rel_pure ?_; apply Exists.intro; refine ⟨fun aR wQ hF hk => ?_, ?_⟩; focus (refine rel_yes hk.1 fun K hK => ?_; (try simp at hk); go_simp; refine (formRef_any op a b c d k _).mono ?_; rintro e w' ⟨rfl, hg⟩; exact hK _ _ hg (⟨hg.at hF.1, hF.2.trans hg⟩) rfl))
  (refine rel_pure ?_; apply Exists.intro; refine ⟨fun aR wQ hF hk => ?_, ?_⟩; focus (first | exact rel_no hk.1 rfl rfl | ((first | (refine rel_none fun K hK => ?_) | (refine rel_yes hk.1 fun K hK => ?_)); (try simp at hk); go_simp; exact hK _ _ (Grow.refl _) hF rfl)))
  (refine rel_pure ?_; apply Exists.intro; refine ⟨fun aR wQ hF hk => ?_, ?_⟩; focus (first | exact rel_no hk.1 rfl rfl | ((first | (refine rel_none fun K hK => ?_) | (refine rel_yes hk.1 fun K hK => ?_)); (try simp at hk); go_simp; exact hK _ _ (Grow.refl _) hF rfl)))
  (refine rel_pure ?_; apply Exists.intro; refine ⟨fun aR wQ hF hk => ?_, ?_⟩; focus (first | exact rel_no hk.1 rfl rfl | ((first | (refine rel_none fun K hK => ?_) | (refine rel_yes hk.1 fun K hK => ?_)); (try simp at hk); go_simp; exact hK _ _ (Grow.refl _) hF rfl)))
  (refine rel_pure ?_; apply Exists.intro; refine ⟨fun aR wQ hF hk => ?_, ?_⟩; focus (refine rel_yes hk.1 fun K hK => ?_; refine wp_load_row 24 (.tmp 1) (by rfl) g (by exact hk.2.1) 24 _ (0, 0) _ (hF.1) Try.underlying24 rfl (info24) (hK _ _ (Grow.refl _) hF rfl)))
  (refine rel_pure ?_; apply Exists.intro; refine ⟨fun aR wQ hF hk => ?_, ?_⟩; focus (refine rel_yes hk.1 fun K hK => ?_; (try simp at hk); go_simp; refine (cost_any op a b c d k hk0 hk1 _).mono ?_; rintro e w' ⟨rfl, hg⟩; exact hK _ _ hg (⟨hg.at hF.1, hF.2.trans hg⟩) rfl))
  (refine rel_pure ?_; apply Exists.intro; refine ⟨fun aR wQ hF hk => ?_, ?_⟩; focus (refine rel_yes hk.1 fun K hK => ?_; refine wp_load_row 24 (.tmp 1) (by rfl) g (by exact hk.2.1) 24 _ (0, 0) _ (hF.1) Try.underlying24 rfl (info24) (hK _ _ (Grow.refl _) hF rfl)))
  (refine rel_pure ?_; apply Exists.intro; refine ⟨fun aR wQ hF hk => ?_, ?_⟩; focus (refine rel_yes hk.1 fun K hK => ?_; (try simp at hk); go_simp; refine (costRef_any op a b c d k hk0 hk1 _).mono ?_; rintro e w' ⟨rfl, hg⟩; exact hK _ _ hg (⟨hg.at hF.1, hF.2.trans hg⟩) rfl))
  (refine rel_pure ?_; apply Exists.intro; refine ⟨fun aR wQ hF hk => ?_, ?_⟩; focus (first | exact rel_no hk.1 rfl rfl | ((first | (refine rel_none fun K hK => ?_) | (refine rel_yes hk.1 fun K hK => ?_)); (try simp at hk); go_simp; exact hK _ _ (Grow.refl _) hF rfl)))
  (refine rel_pure ?_; apply Exists.intro; refine ⟨fun aR wQ hF hk => ?_, ?_⟩; focus (first | exact rel_no hk.1 rfl rfl | ((first | (refine rel_none fun K hK => ?_) | (refine rel_yes hk.1 fun K hK => ?_)); (try simp at hk); go_simp; exact hK _ _ (Grow.refl _) hF rfl)))
  (refine rel_pure ?_; apply Exists.intro; refine ⟨fun aR wQ hF hk => ?_, ?_⟩; focus (first | exact rel_no hk.1 rfl rfl | ((first | (refine rel_none fun K hK => ?_) | (refine rel_yes hk.1 fun K hK => ?_)); (try simp at hk); go_simp; exact hK _ _ (Grow.refl _) hF rfl)))
  refine rel_done fun wR hF => ?_
  repeat (first | (refine fun v hv => ?_; obtain rfl : v = _ := hv) | (refine fun v hv => ?_))
  simp only [Act.put, List.setIfInBounds_toArray, List.set_cons_zero, List.set_cons_succ]
  refine rel_nil ?_
  go_wp2
  go_ret
  exact ⟨rfl, hF.2⟩

set_option maxRecDepth 100000 in
theorem isaChecks_walk (op a b c d k size : Int) (isr : Bool) (hs0 : -9223372036854775808 ≤ size) (hs1 : size < 9223372036854775808) (hk0 : 0 ≤ k) (hk1 : k < 4294967296) (w : World) : Calls Try.prog 4 #[.agg #[.int .i64 op, .int .i64 a, .int .i64 b, .int .i64 c, .int .i64 d, .int .u32 k], .int .i64 size, .bool isr] w fun e w' => e = .returned (.bool true) ∧ Grow w w' := by
  go_enter Try.func4, Try.ntmps4
  go_wp2_with fail
  have hO : (w.alloc (.cells #[.int .i64 op, .int .i64 a, .int .i64 b, .int .i64 c, .int .i64 d, .int .u32 k] 24)).heap[w.heap.size]? = some (.cells #[.int .i64 op, .int .i64 a, .int .i64 b, .int .i64 c, .int .i64 d, .int .u32 k] 24) := heapAt_alloc_new w _
  have hG := Grow.alloc w (.cells #[.int .i64 op, .int .i64 a, .int .i64 b, .int .i64 c, .int .i64 d, .int .u32 k] 24)
  generalize w.alloc (.cells #[.int .i64 op, .int .i64 a, .int .i64 b, .int .i64 c, .int .i64 d, .int .u32 k] 24) = w0 at hO hG ⊢
  obtain ⟨g, hg0⟩ : ∃ g, g = w.heap.size := ⟨_, rfl⟩
  rw [← hg0] at hO ⊢
  clear hg0
  refine wp_region_rel _ Grow (fun w' => w'.heap[g]? = some (.cells #[.int .i64 op, .int .i64 a, .int .i64 b, .int .i64 c, .int .i64 d, .int .u32 k] 24) ∧ Grow w w') [([], none), ([(7, some 0)], none), ([(8, some 0), (3, none)], some (8, true)), ([(8, some 1), (1, none)], some (8, true)), ([(8, some 2), (2, none)], some (8, true)), ([(8, some 3), (9, some 2), (10, some 1), (11, some 0)], some (8, true)), ([(8, some 4), (3, none)], some (8, true)), ([(8, some 5), (1, none)], some (8, true)), ([(8, some 6), (2, none)], some (8, true)), ([(8, some 7), (13, some 2), (14, some 1), (15, some 0)], some (8, true)), ([(8, some 8), (12, some 4), (16, some 0)], some (8, true)), ([(8, some 9), (17, some 0)], none), ([(18, some 0)], none)] (by kernel_rfl) (by kernel_rfl) (⟨hO, hG.trans (Grow.drewN w0 1)⟩) ?_
  (refine rel_pure ?_; apply Exists.intro; refine ⟨fun aR wQ hF hk => ?_, ?_⟩; focus (refine rel_none fun K hK => ?_; (try simp at hk); go_simp; refine (awake_any _).mono ?_; rintro e w' ⟨rfl, hg⟩; exact hK _ _ hg (⟨hg.at hF.1, hF.2.trans hg⟩) rfl))
  (refine rel_pure ?_; apply Exists.intro; refine ⟨fun aR wQ hF hk => ?_, ?_⟩; focus (first | exact rel_no hk.1 rfl rfl | ((first | (refine rel_none fun K hK => ?_) | (refine rel_yes hk.1 fun K hK => ?_)); (try simp at hk); go_simp; exact hK _ _ (Grow.refl _) hF rfl)))
  (refine rel_pure ?_; apply Exists.intro; refine ⟨fun aR wQ hF hk => ?_, ?_⟩; focus (refine rel_yes hk.1 fun K hK => ?_; refine wp_load_row 24 (.tmp 3) (by rfl) g (by exact hk.2.1) 24 _ (0, 0) _ (hF.1) Try.underlying24 rfl (info24) (hK _ _ (Grow.refl _) hF rfl)))
  (refine rel_pure ?_; apply Exists.intro; refine ⟨fun aR wQ hF hk => ?_, ?_⟩; focus (first | exact rel_no hk.1 rfl rfl | ((first | (refine rel_none fun K hK => ?_) | (refine rel_yes hk.1 fun K hK => ?_)); (try simp at hk); go_simp; exact hK _ _ (Grow.refl _) hF rfl)))
  (refine rel_pure ?_; apply Exists.intro; refine ⟨fun aR wQ hF hk => ?_, ?_⟩; focus (first | exact rel_no hk.1 rfl rfl | ((first | (refine rel_none fun K hK => ?_) | (refine rel_yes hk.1 fun K hK => ?_)); (try simp at hk); go_simp; exact hK _ _ (Grow.refl _) hF rfl)))
  (refine rel_pure ?_; apply Exists.intro; refine ⟨fun aR wQ hF hk => ?_, ?_⟩; focus (refine rel_yes hk.1 fun K hK => ?_; (try simp at hk); go_simp; refine (check_any op a b c d k size isr hk0 hk1 hs0 hs1 _).mono ?_; rintro e w' ⟨rfl, hg⟩; exact hK _ _ hg (⟨hg.at hF.1, hF.2.trans hg⟩) rfl))
  (refine rel_pure ?_; apply Exists.intro; refine ⟨fun aR wQ hF hk => ?_, ?_⟩; focus (refine rel_yes hk.1 fun K hK => ?_; refine wp_load_row 24 (.tmp 3) (by rfl) g (by exact hk.2.1) 24 _ (0, 0) _ (hF.1) Try.underlying24 rfl (info24) (hK _ _ (Grow.refl _) hF rfl)))
  (refine rel_pure ?_; apply Exists.intro; refine ⟨fun aR wQ hF hk => ?_, ?_⟩; focus (first | exact rel_no hk.1 rfl rfl | ((first | (refine rel_none fun K hK => ?_) | (refine rel_yes hk.1 fun K hK => ?_)); (try simp at hk); go_simp; exact hK _ _ (Grow.refl _) hF rfl)))
  (refine rel_pure ?_; apply Exists.intro; refine ⟨fun aR wQ hF hk => ?_, ?_⟩; focus (first | exact rel_no hk.1 rfl rfl | ((first | (refine rel_none fun K hK => ?_) | (refine rel_yes hk.1 fun K hK => ?_)); (try simp at hk); go_simp; exact hK _ _ (Grow.refl _) hF rfl)))
  (refine rel_pure ?_; apply Exists.intro; refine ⟨fun aR wQ hF hk => ?_, ?_⟩; focus (refine rel_yes hk.1 fun K hK => ?_; (try simp at hk); go_simp; refine (checkRef_any op a b c d k size isr hk0 hk1 hs0 hs1 _).mono ?_; rintro e w' ⟨rfl, hg⟩; exact hK _ _ hg (⟨hg.at hF.1, hF.2.trans hg⟩) rfl))
  (refine rel_pure ?_; apply Exists.intro; refine ⟨fun aR wQ hF hk => ?_, ?_⟩; focus (first | exact rel_no hk.1 rfl rfl | ((first | (refine rel_none fun K hK => ?_) | (refine rel_yes hk.1 fun K hK => ?_)); (try simp at hk); go_simp; exact hK _ _ (Grow.refl _) hF rfl)))
  (refine rel_pure ?_; apply Exists.intro; refine ⟨fun aR wQ hF hk => ?_, ?_⟩; focus (first | exact rel_no hk.1 rfl rfl | ((first | (refine rel_none fun K hK => ?_) | (refine rel_yes hk.1 fun K hK => ?_)); (try simp at hk); go_simp; exact hK _ _ (Grow.refl _) hF rfl)))
  (refine rel_pure ?_; apply Exists.intro; refine ⟨fun aR wQ hF hk => ?_, ?_⟩; focus (first | exact rel_no hk.1 rfl rfl | ((first | (refine rel_none fun K hK => ?_) | (refine rel_yes hk.1 fun K hK => ?_)); (try simp at hk); go_simp; exact hK _ _ (Grow.refl _) hF rfl)))
  refine rel_done fun wR hF => ?_
  repeat (first | (refine fun v hv => ?_; obtain rfl : v = _ := hv) | (refine fun v hv => ?_))
  simp only [Act.put, List.setIfInBounds_toArray, List.set_cons_zero, List.set_cons_succ]
  refine rel_nil ?_
  go_wp2
  go_ret
  exact ⟨rfl, hF.2⟩

theorem form_fields (op a b c d k : Int) (h : formP op a b c d k = 0) : (hasA op = true ∨ a = 0) ∧ (hasB op = true ∨ b = 0) ∧ (hasC op = true ∨ c = 0) ∧ (hasD op = true ∨ d = 0) ∧ (hasK op = true ∨ k = 0) := by
  unfold formP regP at h
  generalize hasA op = x1 at *
  generalize hasB op = x2 at *
  generalize hasC op = x3 at *
  generalize hasD op = x4 at *
  generalize hasK op = x5 at *
  cases x1 <;> cases x2 <;> cases x3 <;> cases x4 <;> cases x5 <;> simp at h ⊢ <;> grind
set_option maxHeartbeats 4000000 in
set_option maxRecDepth 100000 in
theorem isaUses_walk (op0 op a b c d k : Int) (w : World) : Calls Try.prog 5 #[.int .i64 op0, .agg #[.int .i64 op, .int .i64 a, .int .i64 b, .int .i64 c, .int .i64 d, .int .u32 k]] w fun e w' => e = .returned (.bool true) ∧ Grow w w' := by
  go_enter Try.func5, Try.ntmps5
  go_wp2_with fail
  have hO : (w.alloc (.cells #[.int .i64 op, .int .i64 a, .int .i64 b, .int .i64 c, .int .i64 d, .int .u32 k] 24)).heap[w.heap.size]? = some (.cells #[.int .i64 op, .int .i64 a, .int .i64 b, .int .i64 c, .int .i64 d, .int .u32 k] 24) := heapAt_alloc_new w _
  have hG := Grow.alloc w (.cells #[.int .i64 op, .int .i64 a, .int .i64 b, .int .i64 c, .int .i64 d, .int .u32 k] 24)
  generalize w.alloc (.cells #[.int .i64 op, .int .i64 a, .int .i64 b, .int .i64 c, .int .i64 d, .int .u32 k] 24) = w0 at hO hG ⊢
  generalize w.heap.size = g at hO ⊢
  refine (usesAll_any op0 _).mono ?_
  rintro e w' ⟨rfl, rfl⟩
  go_wp2_with fail
  refine (has_any op0 _).mono ?_
  rintro e w' ⟨rfl, rfl⟩
  have eA := letter_A op0
  have eB := letter_B op0
  have eC := letter_C op0
  have eD := letter_D op0
  have eK := letter_K op0
  go_wp2_with fail
  refine (awake_any _).mono ?_
  rintro e w1 ⟨rfl, hg⟩
  have hO := hg.at hO
  have hG := hG.trans hg
  clear hg
  have d0 := cell_block hO 0
  have d1 := cell_block hO 1
  have d2 := cell_block hO 2
  have d3 := cell_block hO 3
  have d4 := cell_block hO 4
  have d5 := cell_block hO 5
  simp at d0 d1 d2 d3 d4 d5
  go_wp2_with (go_at_call 17; refine (in_letter _ _ (by omega) (by omega) _).mono ?_; rintro e w' ⟨rfl, rfl⟩)
  refine (usesAll_any op _).mono ?_
  rintro e w' ⟨rfl, rfl⟩
  clear eA eB eC eD eK
  go_wp2_with fail
  refine (form_any op a b c d k _).mono ?_
  rintro e w2 ⟨rfl, hg⟩
  have hO := hg.at hO
  have HG := Lib.hid (hG.trans hg)
  clear hg d0 d1 d2 d3 d4 d5 hG
  have d0 := cell_block hO 0
  have d1 := cell_block hO 1
  have d2 := cell_block hO 2
  have d3 := cell_block hO 3
  have d4 := cell_block hO 4
  have d5 := cell_block hO 5
  simp at d0 d1 d2 d3 d4 d5
  by_cases h0 : formP op a b c d k = 0
  · obtain ⟨f1, f2, f3, f4, f5⟩ := form_fields op a b c d k h0
    have hne : (formP op a b c d k != 0) = false := by simp [h0]
    have F1 := Lib.hid f1
    have F2 := Lib.hid f2
    have F3 := Lib.hid f3
    have F4 := Lib.hid f4
    have F5 := Lib.hid f5
    clear f1 f2 f3 f4 f5 h0 hO
    generalize formP op a b c d k = f at *
    go_wp2
    all_goals
      go_ret
      refine ⟨ret_bool ?_, HG.out⟩
      have f1 := F1.out
      have f2 := F2.out
      have f3 := F3.out
      have f4 := F4.out
      have f5 := F5.out
      first | rfl | grind
  · have hne : (formP op a b c d k != 0) = true := by simp [h0]
    clear hO
    generalize formP op a b c d k = f at *
    go_wp2
    go_ret
    exact ⟨rfl, HG.out⟩

end Go.Proofs.Ytfgbfdhpllcjhaa
