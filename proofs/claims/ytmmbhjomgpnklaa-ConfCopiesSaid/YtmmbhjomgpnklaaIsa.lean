/- The walks of the package isa and of its reference: each function once. -/
import Derived.Test.YtmmbhjomgpnklaaRows
import Derived.Test.YtmmbhjomgpnklaaRel
namespace Go.Proofs.Ytmmbhjomgpnklaa
open Go.RowKit

theorem ret_bool {a b : Bool} (h : a = b) : Ending.returned (.bool a) = .returned (.bool b) := by rw [h]
theorem ret_i64 {a b : Int} (h : a = b) : Ending.returned (.int .i64 a) = .returned (.int .i64 b) := by rw [h]

theorem results_tmp5 {fn : Func} {t u v x y : Tmp} (h : fn.results = #[.tmp t, .tmp u, .tmp v, .tmp x, .tmp y]) (tmps : Array Value) (P : Program) (w : World) :
    (results fn tmps).run P w = .ok (.tuple #[tmps.getD t undef, tmps.getD u undef, tmps.getD v undef, tmps.getD x undef, tmps.getD y undef]) w := by simp [results, h]
/-- Which fields an instruction has. -/
def hasA (op : Int) : Bool := decide (1 ≤ op ∧ op ≤ 34 ∧ op ≠ 17 ∧ op ≠ 20)
def hasB (op : Int) : Bool := decide (2 ≤ op ∧ op ≤ 16 ∨ op = 27 ∨ op = 28)
def hasC (op : Int) : Bool := decide (3 ≤ op ∧ op ≤ 14 ∨ op = 27 ∨ op = 28 ∨ op = 29 ∨ op = 33 ∨ op = 34)
def hasD (op : Int) : Bool := decide (op = 27 ∨ op = 28 ∨ op = 33)
def hasK (op : Int) : Bool := decide (op = 1 ∨ 15 ≤ op ∧ op ≤ 22 ∨ 26 ≤ op ∧ op ≤ 33)
/-- The fields as bits. -/
def bitsOf (op : Int) : Int := (if hasA op then 1 else 0) + (if hasB op then 2 else 0) + (if hasC op then 4 else 0) + (if hasD op then 8 else 0) + (if hasK op then 16 else 0)

set_option maxRecDepth 100000 in
theorem uses_any (op : Int) (w : World) : Calls Try.prog 43 #[.int .i64 op] w fun e w' => e = .returned (.int .i64 (bitsOf op)) ∧ w' = w := by
  go_enter Try.func43, Try.ntmps43
  go_wp2
  all_goals
    go_ret
    refine ⟨ret_i64 ?_, rfl⟩
    first | (subst_vars; decide) | grind [bitsOf, hasA, hasB, hasC, hasD, hasK]
theorem bit_tests (op : Int) : (bits .and .i64 (bitsOf op) 1 != 0) = hasA op ∧ (bits .and .i64 (bitsOf op) 2 != 0) = hasB op ∧ (bits .and .i64 (bitsOf op) 4 != 0) = hasC op ∧ (bits .and .i64 (bitsOf op) 8 != 0) = hasD op ∧ (bits .and .i64 (bitsOf op) 16 != 0) = hasK op := by
  unfold bitsOf
  cases hasA op <;> cases hasB op <;> cases hasC op <;> cases hasD op <;> cases hasK op <;> decide
attribute [local irreducible] hasA hasB hasC hasD hasK bitsOf
theorem usesAll_any (op : Int) (w : World) : Calls Try.prog 41 #[.int .i64 op] w fun e w' => e = .returned (.tuple #[.bool (hasA op), .bool (hasB op), .bool (hasC op), .bool (hasD op), .bool (hasK op)]) ∧ w' = w := by
  obtain ⟨h1, h2, h3, h4, h5⟩ := bit_tests op
  go_enter Try.func41, Try.ntmps41
  go_wp2_with (go_at_call 43; refine (uses_any op _).mono ?_; rintro e w' ⟨rfl, rfl⟩)
  exact bodyPost_ret (results_tmp5 rfl _ _ _) rfl ⟨rfl, rfl⟩
theorem is_any (op : Int) (w : World) : Calls Try.prog 40 #[.int .i64 op] w fun e w' => e = .returned (.bool (decide (1 ≤ op ∧ op ≤ 38))) ∧ w' = w := by
  go_enter Try.func40, Try.ntmps40
  go_wp2
  all_goals
    go_ret
    refine ⟨ret_bool ?_, rfl⟩
    grind
def regP (n : Int) (h : Bool) : Bool := decide (0 ≤ n ∧ n < 8) && (h || decide (n = 0))
theorem register_any (n : Int) (h : Bool) (w : World) : Calls Try.prog 42 #[.int .i64 n, .bool h] w fun e w' => e = .returned (.bool (regP n h)) ∧ w' = w := by
  unfold regP
  cases h
  all_goals
    go_enter Try.func42, Try.ntmps42
    go_wp2
    all_goals
      go_ret
      refine ⟨ret_bool ?_, rfl⟩
      grind
attribute [local irreducible] regP
/-- What is wrong with an instruction: 0: nothing. -/
def formP (op a b c d k : Int) : Int :=
  if ¬(1 ≤ op ∧ op ≤ 38) then 14
  else if regP a (hasA op) && regP b (hasB op) && regP c (hasC op && (!hasD op || decide (d = 2))) && decide (0 ≤ d) && decide (d ≤ 2) && (hasD op || decide (d = 0)) && (hasK op || decide (k = 0)) &&
    (if op = 20 then decide (1 ≤ k ∧ k ≤ 1000) else if op = 21 ∨ op = 22 then decide (k < 16) else true) then 0 else 5
set_option maxHeartbeats 1000000 in
set_option maxRecDepth 100000 in
theorem form_any (op a b c d k : Int) (w : World) : Calls Try.prog 36 #[.agg #[.int .i64 op, .int .i64 a, .int .i64 b, .int .i64 c, .int .i64 d, .int .u32 k]] w fun e w' => e = .returned (.int .i64 (formP op a b c d k)) ∧ Grow w w' := by
  go_enter Try.func36, Try.ntmps36
  go_wp2_with (first | (go_at_call 40; refine (is_any _ _).mono ?_; rintro e w' ⟨rfl, rfl⟩) | (go_at_call 41; refine (usesAll_any _ _).mono ?_; rintro e w' ⟨rfl, rfl⟩) | (go_at_call 42; refine (register_any _ _ _).mono ?_; rintro e w' ⟨rfl, rfl⟩))
  all_goals
    go_ret
    refine ⟨ret_i64 ?_, Grow.alloc _ _⟩
    unfold formP
    grind
end Go.Proofs.Ytmmbhjomgpnklaa
