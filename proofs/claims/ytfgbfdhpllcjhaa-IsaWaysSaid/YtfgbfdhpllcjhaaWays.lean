/- The walk of IsaWays. -/
import Derived.Test.YtfgbfdhpllcjhaaNames
import Derived.Deep.DeepCutAuto
namespace Go.Proofs.Ytfgbfdhpllcjhaa
open Go.RowKit
set_option linter.unusedVariables false
attribute [local irreducible] hasA hasB hasC hasD hasK bitsOf regP hasStr letter formP bad4 bad6 bad8 bad10 costR costP nameP nameAt nameArr opOf
theorem ways_one (op a b c d k s : Int) (h : checkP op a b c d k s true = 0) : checkP op a b c d k s false = 0 ∨ op = 38 := by
  unfold checkP checkR mayP at h ⊢
  grind
theorem ways_more (op a b c d k s m : Int) (i : Bool) (hm : 0 ≤ m) (h : checkP op a b c d k s i = 0) : checkP op a b c d k (s + m) i = 0 := by
  unfold checkP checkR at h ⊢
  grind
attribute [local irreducible] checkR mayP checkP
attribute [local simp] RelKnown Is
theorem info24w : (Try.prog.info? 24).map (·.size) = some 6 := by kernel_rfl
set_option maxRecDepth 100000 in
theorem ways_great (op a b c d k size more s m : Int) (hS : (if size < 0 then 0 else size) = s) (hM : (if more < 0 then 0 else more) = m) (h : 256 < m ∨ 256 < s) (w : World) : Calls Try.prog 7 #[.agg #[.int .i64 op, .int .i64 a, .int .i64 b, .int .i64 c, .int .i64 d, .int .u32 k], .int .i64 size, .int .i64 more] w fun e w' => e = .returned (.bool true) ∧ Grow w w' := by
  by_cases h1 : 256 < m
  · go_enter Try.func7, Try.ntmps7
    go_wp2_with fail
    refine (awake_any _).mono ?_
    rintro e w1 ⟨rfl, hg⟩
    have HG := Lib.hid ((Grow.alloc w (.cells #[.int .i64 op, .int .i64 a, .int .i64 b, .int .i64 c, .int .i64 d, .int .u32 k] 24)).trans hg)
    clear hg
    go_wp2
    go_ret
    exact ⟨rfl, HG.out⟩
  · have h2 : 256 < s := by omega
    clear h
    go_enter Try.func7, Try.ntmps7
    go_wp2_with fail
    refine (awake_any _).mono ?_
    rintro e w1 ⟨rfl, hg⟩
    have HG := Lib.hid ((Grow.alloc w (.cells #[.int .i64 op, .int .i64 a, .int .i64 b, .int .i64 c, .int .i64 d, .int .u32 k] 24)).trans hg)
    clear hg
    go_wp2
    go_ret
    exact ⟨rfl, HG.out⟩
set_option maxHeartbeats 1000000 in
set_option maxRecDepth 100000 in
theorem ways_small (op a b c d k size more s m X Y : Int) (hX : X = checkP op a b c d k s true) (hY : Y = checkP op a b c d k s false) (hk0 : 0 ≤ k) (hk1 : k < 4294967296) (hS : (if size < 0 then 0 else size) = s) (hM : (if more < 0 then 0 else more) = m) (h1 : m ≤ 256) (h2 : s ≤ 256) (h3 : 0 ≤ m) (h4 : 0 ≤ s) (w : World) :
    Calls Try.prog 7 #[.agg #[.int .i64 op, .int .i64 a, .int .i64 b, .int .i64 c, .int .i64 d, .int .u32 k], .int .i64 size, .int .i64 more] w fun e w' => e = .returned (.bool true) ∧ Grow w w' := by
  have HX := Lib.hid hX; clear hX
  have HY := Lib.hid hY; clear hY
  go_enter Try.func7, Try.ntmps7
  go_wp2_with fail
  clear hS hM
  have hO : (w.alloc (.cells #[.int .i64 op, .int .i64 a, .int .i64 b, .int .i64 c, .int .i64 d, .int .u32 k] 24)).heap[w.heap.size]? = some (.cells #[.int .i64 op, .int .i64 a, .int .i64 b, .int .i64 c, .int .i64 d, .int .u32 k] 24) := heapAt_alloc_new w _
  have hG := Grow.alloc w (.cells #[.int .i64 op, .int .i64 a, .int .i64 b, .int .i64 c, .int .i64 d, .int .u32 k] 24)
  generalize w.alloc (.cells #[.int .i64 op, .int .i64 a, .int .i64 b, .int .i64 c, .int .i64 d, .int .u32 k] 24) = w0 at hO hG ⊢
  obtain ⟨g, hg0⟩ : ∃ g, g = w.heap.size := ⟨_, rfl⟩
  rw [← hg0] at hO ⊢
  clear hg0
  refine wp_region_rel _ Grow (fun w' => w'.heap[g]? = some (.cells #[.int .i64 op, .int .i64 a, .int .i64 b, .int .i64 c, .int .i64 d, .int .u32 k] 24) ∧ Grow w w') [([(3, none)], none), ([(1, none)], none), ([(20, some 1), (21, some 0)], none), ([(3, none)], none), ([(1, none)], none), ([(23, some 1), (24, some 0)], none), ([(22, some 3)], none), ([(25, some 1)], none)] (by kernel_rfl) (by kernel_rfl) (⟨hO, hG.trans (Grow.drewN w0 1)⟩) ?_
  (refine rel_pure ?_; apply Exists.intro; refine ⟨fun aR wQ hF hk => ?_, ?_⟩; focus (refine rel_none fun K hK => ?_; refine wp_load_row 24 (.tmp 3) (by rfl) g (by exact hk.1) 24 _ (0, 0) _ (hF.1) Try.underlying24 rfl (info24w) (hK _ _ (Grow.refl _) hF rfl)))
  (refine rel_pure ?_; apply Exists.intro; refine ⟨fun aR wQ hF hk => ?_, ?_⟩; focus (first | exact rel_no hk.1 rfl rfl | ((first | (refine rel_none fun K hK => ?_) | (refine rel_yes hk.1 fun K hK => ?_)); (try simp at hk); go_simp; exact hK _ _ (Grow.refl _) hF rfl)))
  (refine rel_pure ?_; apply Exists.intro; refine ⟨fun aR wQ hF hk => ?_, ?_⟩; focus (refine rel_none fun K hK => ?_; (try simp at hk); go_simp; refine (check_any op a b c d k s true hk0 hk1 (by omega) (by omega) _).mono ?_; rw [← HX.out]; rintro e w' ⟨rfl, hg⟩; exact hK _ _ hg (⟨hg.at hF.1, hF.2.trans hg⟩) rfl))
  (refine rel_pure ?_; apply Exists.intro; refine ⟨fun aR wQ hF hk => ?_, ?_⟩; focus (refine rel_none fun K hK => ?_; refine wp_load_row 24 (.tmp 3) (by rfl) g (by exact hk.1) 24 _ (0, 0) _ (hF.1) Try.underlying24 rfl (info24w) (hK _ _ (Grow.refl _) hF rfl)))
  (refine rel_pure ?_; apply Exists.intro; refine ⟨fun aR wQ hF hk => ?_, ?_⟩; focus (first | exact rel_no hk.1 rfl rfl | ((first | (refine rel_none fun K hK => ?_) | (refine rel_yes hk.1 fun K hK => ?_)); (try simp at hk); go_simp; exact hK _ _ (Grow.refl _) hF rfl)))
  (refine rel_pure ?_; apply Exists.intro; refine ⟨fun aR wQ hF hk => ?_, ?_⟩; focus (refine rel_none fun K hK => ?_; (try simp at hk); go_simp; refine (check_any op a b c d k s false hk0 hk1 (by omega) (by omega) _).mono ?_; rw [← HY.out]; rintro e w' ⟨rfl, hg⟩; exact hK _ _ hg (⟨hg.at hF.1, hF.2.trans hg⟩) rfl))
  (refine rel_pure ?_; apply Exists.intro; refine ⟨fun aR wQ hF hk => ?_, ?_⟩; focus (first | exact rel_no hk.1 rfl rfl | ((first | (refine rel_none fun K hK => ?_) | (refine rel_yes hk.1 fun K hK => ?_)); (try simp at hk); go_simp; exact hK _ _ (Grow.refl _) hF rfl)))
  (refine rel_pure ?_; apply Exists.intro; refine ⟨fun aR wQ hF hk => ?_, ?_⟩; focus (first | exact rel_no hk.1 rfl rfl | ((first | (refine rel_none fun K hK => ?_) | (refine rel_yes hk.1 fun K hK => ?_)); (try simp at hk); go_simp; exact hK _ _ (Grow.refl _) hF rfl)))
  refine rel_done fun wR hF => ?_
  repeat (first | (refine fun v hv => ?_; obtain rfl : v = _ := hv) | (refine fun v hv => ?_))
  simp only [Act.put, List.setIfInBounds_toArray, List.set_cons_zero, List.set_cons_succ]
  refine rel_nil ?_
  obtain ⟨hO, hG⟩ := hF
  have d0 := cell_block hO 0
  have d1 := cell_block hO 1
  have d2 := cell_block hO 2
  have d3 := cell_block hO 3
  have d4 := cell_block hO 4
  have d5 := cell_block hO 5
  simp at d0 d1 d2 d3 d4 d5
  have HO := Lib.hid hO
  have HG := Lib.hid hG
  clear hO hG
  have W1 := Lib.hid (ways_one op a b c d k s)
  have W2 := Lib.hid (ways_more op a b c d k s m true h3)
  have W3 := Lib.hid (ways_more op a b c d k s m false h3)
  have hX8 : (X == 0) = decide (X = 0) := by cases h : decide (X = 0) <;> simp_all
  have hAft : ∀ w' : World, w'.heap[g]? = some (.cells #[.int .i64 op, .int .i64 a, .int .i64 b, .int .i64 c, .int .i64 d, .int .u32 k] 24) → True := fun _ _ => trivial
  clear hX8 hAft
  by_cases x0 : X = 0
  · have hne : (X != 0) = false := by simp [x0]
    have E2 : Hid (checkP op a b c d k (s + m) true = 0) := Lib.hid (W2.out (by rw [← HX.out]; exact x0))
    have E1 := W1.out (by rw [← HX.out]; exact x0)
    by_cases y0 : Y = 0
    · have hny : (Y != 0) = false := by simp [y0]
      have E3 : Hid (checkP op a b c d k (s + m) false = 0) := Lib.hid (W3.out (by rw [← HY.out]; exact y0))
      clear E1 W1 W2 W3
      go_wp2_with fail
      refine (awake_any _).mono ?_
      rintro e w1 ⟨rfl, hg⟩
      have HO1 := Lib.hid (hg.at HO.out)
      have HG1 := Lib.hid (HG.out.trans hg)
      clear hg d0 d1 d2 d3 d4 d5
      have hO := HO1.out
      have d0 := cell_block hO 0
      have d1 := cell_block hO 1
      have d2 := cell_block hO 2
      have d3 := cell_block hO 3
      have d4 := cell_block hO 4
      have d5 := cell_block hO 5
      simp at d0 d1 d2 d3 d4 d5
      clear hO
      go_wp2_with fail
      refine (check_any op a b c d k (s + m) true hk0 hk1 (by omega) (by omega) _).mono ?_
      rw [E2.out]
      rintro e w2 ⟨rfl, hg⟩
      have HO2 := Lib.hid (hg.at HO1.out)
      have HG2 := Lib.hid (HG1.out.trans hg)
      clear hg d0 d1 d2 d3 d4 d5
      have hO := HO2.out
      have d0 := cell_block hO 0
      have d1 := cell_block hO 1
      have d2 := cell_block hO 2
      have d3 := cell_block hO 3
      have d4 := cell_block hO 4
      have d5 := cell_block hO 5
      simp at d0 d1 d2 d3 d4 d5
      clear hO
      go_wp2_with fail
      refine (check_any op a b c d k (s + m) false hk0 hk1 (by omega) (by omega) _).mono ?_
      rw [E3.out]
      rintro e w3 ⟨rfl, hg⟩
      have HG3 := Lib.hid (HG2.out.trans hg)
      clear hg
      go_wp2
      go_ret
      exact ⟨rfl, HG3.out⟩
    · have hny : (Y != 0) = true := by simp [y0]
      have h38 : (op != 38) = false := by
        rcases E1 with h | h
        · exact absurd (HY.out.trans h) y0
        · simp [h]
      clear E1 W1 W2 W3
      go_wp2_with fail
      refine (awake_any _).mono ?_
      rintro e w1 ⟨rfl, hg⟩
      have HO1 := Lib.hid (hg.at HO.out)
      have HG1 := Lib.hid (HG.out.trans hg)
      clear hg d0 d1 d2 d3 d4 d5
      have hO := HO1.out
      have d0 := cell_block hO 0
      have d1 := cell_block hO 1
      have d2 := cell_block hO 2
      have d3 := cell_block hO 3
      have d4 := cell_block hO 4
      have d5 := cell_block hO 5
      simp at d0 d1 d2 d3 d4 d5
      clear hO
      go_wp2_with fail
      refine (check_any op a b c d k (s + m) true hk0 hk1 (by omega) (by omega) _).mono ?_
      rw [E2.out]
      rintro e w2 ⟨rfl, hg⟩
      have HG2 := Lib.hid (HG1.out.trans hg)
      clear hg
      go_wp2
      go_ret
      exact ⟨rfl, HG2.out⟩
  · have hne : (X != 0) = true := by simp [x0]
    have hne2 : (X == 0) = false := by simp [x0]
    by_cases y0 : Y = 0
    · have hny : (Y != 0) = false := by simp [y0]
      have E3 : Hid (checkP op a b c d k (s + m) false = 0) := Lib.hid (W3.out (by rw [← HY.out]; exact y0))
      clear W1 W2 W3
      go_wp2_with fail
      refine (awake_any _).mono ?_
      rintro e w1 ⟨rfl, hg⟩
      have HO1 := Lib.hid (hg.at HO.out)
      have HG1 := Lib.hid (HG.out.trans hg)
      clear hg d0 d1 d2 d3 d4 d5
      have hO := HO1.out
      have d0 := cell_block hO 0
      have d1 := cell_block hO 1
      have d2 := cell_block hO 2
      have d3 := cell_block hO 3
      have d4 := cell_block hO 4
      have d5 := cell_block hO 5
      simp at d0 d1 d2 d3 d4 d5
      clear hO
      go_wp2_with fail
      refine (check_any op a b c d k (s + m) false hk0 hk1 (by omega) (by omega) _).mono ?_
      rw [E3.out]
      rintro e w2 ⟨rfl, hg⟩
      have HG2 := Lib.hid (HG1.out.trans hg)
      clear hg
      go_wp2
      go_ret
      exact ⟨rfl, HG2.out⟩
    · have hny : (Y != 0) = true := by simp [y0]
      clear W1 W2 W3
      go_wp2_with fail
      refine (awake_any _).mono ?_
      rintro e w1 ⟨rfl, hg⟩
      have HG1 := Lib.hid (HG.out.trans hg)
      clear hg
      go_wp2
      go_ret
      exact ⟨rfl, HG1.out⟩
theorem isaWays_walk (op a b c d k size more : Int) (hk0 : 0 ≤ k) (hk1 : k < 4294967296) (w : World) : Calls Try.prog 7 #[.agg #[.int .i64 op, .int .i64 a, .int .i64 b, .int .i64 c, .int .i64 d, .int .u32 k], .int .i64 size, .int .i64 more] w fun e w' => e = .returned (.bool true) ∧ Grow w w' := by
  obtain ⟨s, hs⟩ : ∃ s, (if size < 0 then 0 else size) = s := ⟨_, rfl⟩
  obtain ⟨m, hm⟩ : ∃ m, (if more < 0 then 0 else more) = m := ⟨_, rfl⟩
  by_cases h : 256 < m ∨ 256 < s
  · exact ways_great op a b c d k size more s m hs hm h w
  · exact ways_small op a b c d k size more s m _ _ rfl rfl hk0 hk1 hs hm (by omega) (by omega) (by omega) (by omega) w
end Go.Proofs.Ytfgbfdhpllcjhaa
