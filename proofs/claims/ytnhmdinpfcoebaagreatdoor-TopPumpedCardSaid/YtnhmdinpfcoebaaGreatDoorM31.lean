/- Texts of the proof, merged: CfIsa, CfCost. -/
import Derived.Test.YtnhmdinpfcoebaaGreatDoorRows
import Derived.Test.YtnhmdinpfcoebaaGreatDoorM01
/-! === CfIsa -/
section
/- The walks of the package isa and of its reference: each function once. -/
namespace Go.Proofs.YtnhmdinpfcoebaaGreatDoor.Sy
open Go.RowKit

theorem ret_bool {a b : Bool} (h : a = b) : Ending.returned (.bool a) = .returned (.bool b) := by rw [h]
theorem ret_i64 {a b : Int} (h : a = b) : Ending.returned (.int .i64 a) = .returned (.int .i64 b) := by rw [h]

theorem results_tmp5 {fn : Func} {t u v x y : Tmp} (h : fn.results = #[.tmp t, .tmp u, .tmp v, .tmp x, .tmp y]) (tmps : Array Value) (P : Program) (w : World) :
    (results fn tmps).run P w = .ok (.tuple #[tmps.getD t undef, tmps.getD u undef, tmps.getD v undef, tmps.getD x undef, tmps.getD y undef]) w := by simp [results, h]
/-- Which fields an instruction has. -/
def hasA (op : Int) : Bool := decide (1 ≤ op ∧ op ≤ 34 ∧ op ≠ 17 ∧ op ≠ 20)
def hasB (op : Int) : Bool := decide (2 ≤ op ∧ op ≤ 16 ∨ op = 27 ∨ op = 28)
def hasC (op : Int) : Bool := decide (3 ≤ op ∧ op ≤ 14 ∨ op = 27 ∨ op = 28 ∨ op = 29 ∨ op = 33 ∨ op = 34)
def hasD (op : Int) : Bool := decide (op = 27 ∨ op = 28 ∨ op = 33)
def hasK (op : Int) : Bool := decide (op = 1 ∨ 15 ≤ op ∧ op ≤ 22 ∨ 26 ≤ op ∧ op ≤ 33)
/-- The fields as bits. -/
def bitsOf (op : Int) : Int := (if hasA op then 1 else 0) + (if hasB op then 2 else 0) + (if hasC op then 4 else 0) + (if hasD op then 8 else 0) + (if hasK op then 16 else 0)

set_option maxRecDepth 100000 in
theorem uses_any (op : Int) (w : World) : Calls Tryz.prog 230 #[.int .i64 op] w fun e w' => e = .returned (.int .i64 (bitsOf op)) ∧ w' = w := by
  go_enter Tryz.func230, Tryz.ntmps230
  go_wp2
  all_goals
    go_ret
    refine ⟨ret_i64 ?_, rfl⟩
    first | (subst_vars; decide) | grind [bitsOf, hasA, hasB, hasC, hasD, hasK]
theorem bit_tests (op : Int) : (bits .and .i64 (bitsOf op) 1 != 0) = hasA op ∧ (bits .and .i64 (bitsOf op) 2 != 0) = hasB op ∧ (bits .and .i64 (bitsOf op) 4 != 0) = hasC op ∧ (bits .and .i64 (bitsOf op) 8 != 0) = hasD op ∧ (bits .and .i64 (bitsOf op) 16 != 0) = hasK op := by
  unfold bitsOf
  cases hasA op <;> cases hasB op <;> cases hasC op <;> cases hasD op <;> cases hasK op <;> decide
attribute [local irreducible] hasA hasB hasC hasD hasK bitsOf
theorem usesAll_any (op : Int) (w : World) : Calls Tryz.prog 209 #[.int .i64 op] w fun e w' => e = .returned (.tuple #[.bool (hasA op), .bool (hasB op), .bool (hasC op), .bool (hasD op), .bool (hasK op)]) ∧ w' = w := by
  obtain ⟨h1, h2, h3, h4, h5⟩ := bit_tests op
  go_enter Tryz.func209, Tryz.ntmps209
  go_wp2_with (go_at_call 230; refine (uses_any op _).mono ?_; rintro e w' ⟨rfl, rfl⟩)
  exact bodyPost_ret (results_tmp5 rfl _ _ _) rfl ⟨rfl, rfl⟩
theorem is_any (op : Int) (w : World) : Calls Tryz.prog 208 #[.int .i64 op] w fun e w' => e = .returned (.bool (decide (1 ≤ op ∧ op ≤ 38))) ∧ w' = w := by
  go_enter Tryz.func208, Tryz.ntmps208
  go_wp2
  all_goals
    go_ret
    refine ⟨ret_bool ?_, rfl⟩
    grind
def regP (n : Int) (h : Bool) : Bool := decide (0 ≤ n ∧ n < 8) && (h || decide (n = 0))
theorem register_any (n : Int) (h : Bool) (w : World) : Calls Tryz.prog 210 #[.int .i64 n, .bool h] w fun e w' => e = .returned (.bool (regP n h)) ∧ w' = w := by
  unfold regP
  cases h
  all_goals
    go_enter Tryz.func210, Tryz.ntmps210
    go_wp2
    all_goals
      go_ret
      refine ⟨ret_bool ?_, rfl⟩
      grind
attribute [local irreducible] regP
/-- What is wrong with an instruction: 0: nothing. -/
def formP (op a b c d k : Int) : Int :=
  if ¬(1 ≤ op ∧ op ≤ 38) then 14
  else if regP a (hasA op) && regP b (hasB op) && regP c (hasC op && (!hasD op || decide (d = 2))) && decide (0 ≤ d) && decide (d ≤ 2) && (hasD op || decide (d = 0)) && (hasK op || decide (k = 0)) &&
    (if op = 20 then decide (1 ≤ k ∧ k ≤ 1000) else if op = 21 ∨ op = 22 then decide (k < 16) else true) then 0 else 5
set_option maxHeartbeats 1000000 in
set_option maxRecDepth 100000 in
theorem form_any (op a b c d k : Int) (w : World) : Calls Tryz.prog 175 #[.agg #[.int .i64 op, .int .i64 a, .int .i64 b, .int .i64 c, .int .i64 d, .int .u32 k]] w fun e w' => e = .returned (.int .i64 (formP op a b c d k)) ∧ Grow w w' := by
  go_enter Tryz.func175, Tryz.ntmps175
  go_wp2_with (first | (go_at_call 208; refine (is_any _ _).mono ?_; rintro e w' ⟨rfl, rfl⟩) | (go_at_call 209; refine (usesAll_any _ _).mono ?_; rintro e w' ⟨rfl, rfl⟩) | (go_at_call 210; refine (register_any _ _ _).mono ?_; rintro e w' ⟨rfl, rfl⟩))
  all_goals
    go_ret
    refine ⟨ret_i64 ?_, Grow.alloc _ _⟩
    unfold formP
    grind
end Go.Proofs.YtnhmdinpfcoebaaGreatDoor.Sy
end

/-! === CfCost -/
section
/- The walks of may, Check, and of the reference's. -/
namespace Go.Proofs.YtnhmdinpfcoebaaGreatDoor.Sy
open Go.RowKit
set_option linter.unusedVariables false
attribute [local irreducible] hasA hasB hasC hasD hasK bitsOf regP formP

theorem form_range (op a b c d k : Int) (h : formP op a b c d k = 0) : 1 ≤ op ∧ op ≤ 38 := by
  unfold formP at h
  refine Classical.byContradiction fun hn => ?_
  rw [if_pos hn] at h
  cases h
/-- May it stand there? -/
def mayP (op d : Int) (isr : Bool) : Bool := if op = 38 then isr else if isr = false then true else if op = 27 ∨ op = 28 then decide (d = 1) else decide (op ≤ 30)
theorem may_any (op a b c d k : Int) (isr : Bool) (w : World) : Calls Tryz.prog 200 #[.agg #[.int .i64 op, .int .i64 a, .int .i64 b, .int .i64 c, .int .i64 d, .int .u32 k], .bool isr] w fun e w' => e = .returned (.bool (mayP op d isr)) ∧ Grow w w' := by
  unfold mayP
  cases isr
  all_goals
    go_enter Tryz.func200, Tryz.ntmps200
    go_wp2
    all_goals
      go_ret
      refine ⟨ret_bool ?_, Grow.alloc _ _⟩
      grind
def checkR (f op k size : Int) (m : Bool) : Int := if f ≠ 0 then f else if m = false then 14 else if 17 ≤ op ∧ op ≤ 19 ∧ size ≤ k then 5 else 0
attribute [local irreducible] checkR mayP
set_option maxHeartbeats 1000000 in
set_option maxRecDepth 100000 in
theorem check_of (op a b c d k size f : Int) (isr m : Bool) (hm : m = mayP op d isr) (hf : f = formP op a b c d k) (hk0 : 0 ≤ k) (hk1 : k < 4294967296) (hs0 : -9223372036854775808 ≤ size) (hs1 : size < 9223372036854775808) (w : World) : Calls Tryz.prog 166 #[.agg #[.int .i64 op, .int .i64 a, .int .i64 b, .int .i64 c, .int .i64 d, .int .u32 k], .int .i64 size, .bool isr] w fun e w' => e = .returned (.int .i64 (checkR f op k size m)) ∧ Grow w w' := by
  have hG := Grow.alloc w (.cells #[.int .i64 op, .int .i64 a, .int .i64 b, .int .i64 c, .int .i64 d, .int .u32 k] 64)
  have hO := heapAt_alloc_new w (.cells #[.int .i64 op, .int .i64 a, .int .i64 b, .int .i64 c, .int .i64 d, .int .u32 k] 64)
  have HF := Lib.hid hf; clear hf
  have HM := Lib.hid hm; clear hm
  have ho : w.heap.size < (w.alloc (.cells #[.int .i64 op, .int .i64 a, .int .i64 b, .int .i64 c, .int .i64 d, .int .u32 k] 64)).heap.size := heapAt_lt hO
  go_enter Tryz.func166, Tryz.ntmps166
  go_wp2_with fail
  generalize w.alloc (.cells #[.int .i64 op, .int .i64 a, .int .i64 b, .int .i64 c, .int .i64 d, .int .u32 k] 64) = w1 at hG hO ho ⊢
  refine (form_any op a b c d k _).mono ?_
  rw [← HF.out]
  rintro e w2 ⟨rfl, hg⟩
  have hO2 := heapAt_below hg ho hO
  have hG2 := hG.trans hg
  have ho2 := heapAt_lt hO2
  generalize w.heap.size = g at *
  clear hG hO ho hg
  have d0 := cell_block hO2 0
  have d1 := cell_block hO2 1
  have d2 := cell_block hO2 2
  have d3 := cell_block hO2 3
  have d4 := cell_block hO2 4
  have d5 := cell_block hO2 5
  simp at d0 d1 d2 d3 d4 d5
  by_cases h0 : f = 0
  · have hr := form_range op a b c d k (by rw [← HF.out]; exact h0)
    go_wp2_with fail
    refine (may_any op a b c d k isr _).mono ?_
    rw [← HM.out]
    rintro e w3 ⟨rfl, hg⟩
    have hO3 := heapAt_below hg ho2 hO2
    have HG := Lib.hid (hG2.trans hg)
    clear hO2 hG2 ho2 hg d0 d1 d2 d3 d4 d5
    have d0 := cell_block hO3 0
    have d5 := cell_block hO3 5
    simp at d0 d5
    clear hO3
    cases m
    all_goals
      go_wp2
      all_goals
        go_ret
        refine ⟨ret_i64 ?_, HG.out⟩
        have hm := HM.out
        unfold mayP at hm
        clear HM
        (try clear HX)
        unfold checkR
        grind
  · have hne : (f != 0) = true := by simp [h0]
    have HG := Lib.hid hG2
    clear hO2 hG2
    go_wp2
    go_ret
    exact ⟨ret_i64 (by unfold checkR; rw [if_pos h0]; try rfl), HG.out⟩
/-- What is wrong with it in a program of so many. -/
def checkP (op a b c d k size : Int) (isr : Bool) : Int := checkR (formP op a b c d k) op k size (mayP op d isr)
theorem check_any (op a b c d k size : Int) (isr : Bool) (hk0 : 0 ≤ k) (hk1 : k < 4294967296) (hs0 : -9223372036854775808 ≤ size) (hs1 : size < 9223372036854775808) (w : World) : Calls Tryz.prog 166 #[.agg #[.int .i64 op, .int .i64 a, .int .i64 b, .int .i64 c, .int .i64 d, .int .u32 k], .int .i64 size, .bool isr] w fun e w' => e = .returned (.int .i64 (checkP op a b c d k size isr)) ∧ Grow w w' := check_of op a b c d k size _ isr _ rfl rfl hk0 hk1 hs0 hs1 w
end Go.Proofs.YtnhmdinpfcoebaaGreatDoor.Sy
end
