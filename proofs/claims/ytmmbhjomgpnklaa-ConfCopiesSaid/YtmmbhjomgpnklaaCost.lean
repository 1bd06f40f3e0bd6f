/- The walks of may, Check, and of the reference's. -/
import Derived.Test.YtmmbhjomgpnklaaRefForm
import Derived.Test.YtmmbhjomgpnklaaStore
namespace Go.Proofs.Ytmmbhjomgpnklaa
open Go.RowKit
set_option linter.unusedVariables false
attribute [local irreducible] hasA hasB hasC hasD hasK bitsOf regP hasStr letter formP bad4 bad6 bad8 bad10

theorem form_range (op a b c d k : Int) (h : formP op a b c d k = 0) : 1 ≤ op ∧ op ≤ 38 := by
  unfold formP at h
  refine Classical.byContradiction fun hn => ?_
  rw [if_pos hn] at h
  cases h
/-- May it stand there? -/
def mayP (op d : Int) (isr : Bool) : Bool := if op = 38 then isr else if isr = false then true else if op = 27 ∨ op = 28 then decide (d = 1) else decide (op ≤ 30)
theorem may_any (op a b c d k : Int) (isr : Bool) (w : World) : Calls Try.prog 37 #[.agg #[.int .i64 op, .int .i64 a, .int .i64 b, .int .i64 c, .int .i64 d, .int .u32 k], .bool isr] w fun e w' => e = .returned (.bool (mayP op d isr)) ∧ Grow w w' := by
  unfold mayP
  cases isr
  all_goals
    go_enter Try.func37, Try.ntmps37
    go_wp2
    all_goals
      go_ret
      refine ⟨ret_bool ?_, Grow.alloc _ _⟩
      grind
def checkR (f op k size : Int) (m : Bool) : Int := if f ≠ 0 then f else if m = false then 14 else if 17 ≤ op ∧ op ≤ 19 ∧ size ≤ k then 5 else 0
attribute [local irreducible] checkR mayP
set_option maxHeartbeats 1000000 in
set_option maxRecDepth 100000 in
theorem check_of (op a b c d k size f : Int) (isr m : Bool) (hm : m = mayP op d isr) (hf : f = formP op a b c d k) (hk0 : 0 ≤ k) (hk1 : k < 4294967296) (hs0 : -9223372036854775808 ≤ size) (hs1 : size < 9223372036854775808) (w : World) : Calls Try.prog 34 #[.agg #[.int .i64 op, .int .i64 a, .int .i64 b, .int .i64 c, .int .i64 d, .int .u32 k], .int .i64 size, .bool isr] w fun e w' => e = .returned (.int .i64 (checkR f op k size m)) ∧ Grow w w' := by
  have hG := Grow.alloc w (.cells #[.int .i64 op, .int .i64 a, .int .i64 b, .int .i64 c, .int .i64 d, .int .u32 k] 41)
  have hO := heapAt_alloc_new w (.cells #[.int .i64 op, .int .i64 a, .int .i64 b, .int .i64 c, .int .i64 d, .int .u32 k] 41)
  have HF := Lib.hid hf; clear hf
  have HM := Lib.hid hm; clear hm
  have ho : w.heap.size < (w.alloc (.cells #[.int .i64 op, .int .i64 a, .int .i64 b, .int .i64 c, .int .i64 d, .int .u32 k] 41)).heap.size := heapAt_lt hO
  go_enter Try.func34, Try.ntmps34
  go_wp2_with fail
  generalize w.alloc (.cells #[.int .i64 op, .int .i64 a, .int .i64 b, .int .i64 c, .int .i64 d, .int .u32 k] 41) = w1 at hG hO ho ⊢
  refine (form_any op a b c d k _).mono ?_
  rw [← HF.out]
  rintro e w2 ⟨rfl, hg⟩
  have hO2 := heapAt_below hg ho hO
  have hG2 := hG.trans hg
  have ho2 := heapAt_lt hO2
  generalize w.heap.size = g at *
  clear hG hO ho hg
  have d0 := cell_block hO2 0
  have d1 := cell_block hO2 1
  have d2 := cell_block hO2 2
  have d3 := cell_block hO2 3
  have d4 := cell_block hO2 4
  have d5 := cell_block hO2 5
  simp at d0 d1 d2 d3 d4 d5
  by_cases h0 : f = 0
  · have hr := form_range op a b c d k (by rw [← HF.out]; exact h0)
    go_wp2_with fail
    refine (may_any op a b c d k isr _).mono ?_
    rw [← HM.out]
    rintro e w3 ⟨rfl, hg⟩
    have hO3 := heapAt_below hg ho2 hO2
    have HG := Lib.hid (hG2.trans hg)
    clear hO2 hG2 ho2 hg d0 d1 d2 d3 d4 d5
    have d0 := cell_block hO3 0
    have d5 := cell_block hO3 5
    simp at d0 d5
    clear hO3
    cases m
    all_goals
      go_wp2
      all_goals
        go_ret
        refine ⟨ret_i64 ?_, HG.out⟩
        have hm := HM.out
        unfold mayP at hm
        clear HM
        (try clear HX)
        unfold checkR
        grind
  · have hne : (f != 0) = true := by simp [h0]
    have HG := Lib.hid hG2
    clear hO2 hG2
    go_wp2
    go_ret
    exact ⟨ret_i64 (by unfold checkR; rw [if_pos h0]; try rfl), HG.out⟩
/-- What is wrong with it in a program of so many. -/
def checkP (op a b c d k size : Int) (isr : Bool) : Int := checkR (formP op a b c d k) op k size (mayP op d isr)
theorem check_any (op a b c d k size : Int) (isr : Bool) (hk0 : 0 ≤ k) (hk1 : k < 4294967296) (hs0 : -9223372036854775808 ≤ size) (hs1 : size < 9223372036854775808) (w : World) : Calls Try.prog 34 #[.agg #[.int .i64 op, .int .i64 a, .int .i64 b, .int .i64 c, .int .i64 d, .int .u32 k], .int .i64 size, .bool isr] w fun e w' => e = .returned (.int .i64 (checkP op a b c d k size isr)) ∧ Grow w w' := check_of op a b c d k size _ isr _ rfl rfl hk0 hk1 hs0 hs1 w
set_option maxHeartbeats 1000000 in
set_option maxRecDepth 100000 in
theorem checkRef_of (op a b c d k size f : Int) (isr m : Bool) (hm : m = mayP op d isr) (hf : f = formP op a b c d k) (hk0 : 0 ≤ k) (hk1 : k < 4294967296) (hs0 : -9223372036854775808 ≤ size) (hs1 : size < 9223372036854775808) (w : World) : Calls Try.prog 33 #[.agg #[.int .i64 op, .int .i64 a, .int .i64 b, .int .i64 c, .int .i64 d, .int .u32 k], .int .i64 size, .bool isr] w fun e w' => e = .returned (.int .i64 (checkR f op k size m)) ∧ Grow w w' := by
  have hG := Grow.alloc w (.cells #[.int .i64 op, .int .i64 a, .int .i64 b, .int .i64 c, .int .i64 d, .int .u32 k] 41)
  have hO := heapAt_alloc_new w (.cells #[.int .i64 op, .int .i64 a, .int .i64 b, .int .i64 c, .int .i64 d, .int .u32 k] 41)
  have HF := Lib.hid hf; clear hf
  have HM := Lib.hid hm; clear hm
  have ho : w.heap.size < (w.alloc (.cells #[.int .i64 op, .int .i64 a, .int .i64 b, .int .i64 c, .int .i64 d, .int .u32 k] 41)).heap.size := heapAt_lt hO
  go_enter Try.func33, Try.ntmps33
  go_wp2_with fail
  generalize w.alloc (.cells #[.int .i64 op, .int .i64 a, .int .i64 b, .int .i64 c, .int .i64 d, .int .u32 k] 41) = w1 at hG hO ho ⊢
  refine (formRef_any op a b c d k _).mono ?_
  rw [← HF.out]
  rintro e w2 ⟨rfl, hg⟩
  have hO2 := heapAt_below hg ho hO
  have hG2 := hG.trans hg
  have ho2 := heapAt_lt hO2
  generalize w.heap.size = g at *
  clear hG hO ho hg
  have d0 := cell_block hO2 0
  have d1 := cell_block hO2 1
  have d2 := cell_block hO2 2
  have d3 := cell_block hO2 3
  have d4 := cell_block hO2 4
  have d5 := cell_block hO2 5
  simp at d0 d1 d2 d3 d4 d5
  by_cases h0 : f = 0
  · have hr := form_range op a b c d k (by rw [← HF.out]; exact h0)
    have HG := Lib.hid hG2
    clear hO2 hG2 ho2 d1 d2 d3
    cases isr
    all_goals
      go_wp2
      all_goals
        go_ret
        refine ⟨ret_i64 ?_, HG.out⟩
        have hm := HM.out
        unfold mayP at hm
        clear HM
        (try clear HX)
        unfold checkR
        grind
  · have hne : (f != 0) = true := by simp [h0]
    have HG := Lib.hid hG2
    clear hO2 hG2
    go_wp2
    go_ret
    exact ⟨ret_i64 (by unfold checkR; rw [if_pos h0]), HG.out⟩
theorem checkRef_any (op a b c d k size : Int) (isr : Bool) (hk0 : 0 ≤ k) (hk1 : k < 4294967296) (hs0 : -9223372036854775808 ≤ size) (hs1 : size < 9223372036854775808) (w : World) : Calls Try.prog 33 #[.agg #[.int .i64 op, .int .i64 a, .int .i64 b, .int .i64 c, .int .i64 d, .int .u32 k], .int .i64 size, .bool isr] w fun e w' => e = .returned (.int .i64 (checkP op a b c d k size isr)) ∧ Grow w w' := checkRef_of op a b c d k size _ isr _ rfl rfl hk0 hk1 hs0 hs1 w
end Go.Proofs.Ytmmbhjomgpnklaa
