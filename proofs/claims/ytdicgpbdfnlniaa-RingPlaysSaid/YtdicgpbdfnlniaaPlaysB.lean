/- RingPlays where there is no ring. -/
import Derived.Test.YtdicgpbdfnlniaaPlays
namespace Go.Proofs.Ytdicgpbdfnlniaa
open Go.RowKit
set_option linter.unusedVariables false
set_option maxRecDepth 100000
theorem plays_bad (cap pol : Int) (A : Option Addr) (n scap : Nat) (w : World) (h : cap < 179 ∨ 1048576 < cap ∨ (pol ≠ 0 ∧ pol ≠ 1)) : Calls Try.prog 3 #[.int .i64 cap, .int .i64 pol, .slice A n scap] w fun e w' => e = .returned (.bool true) ∧ Below w.heap.size w w' := by
  by_cases h1 : cap < 179
  · skip
    go_enter Try.func3, Try.ntmps3
    go_wp2_with fail
    refine (new_bad w cap pol h).mono ?_
    rintro e w1 ⟨rfl, hw⟩
    subst hw
    clear h
    go_wp2_with fail
    refine (awake_any _).mono ?_
    rintro e w2 ⟨rfl, hg⟩
    have HG := Lib.hid hg
    clear hg
    go_wp2
    go_ret
    exact ⟨rfl, HG.out⟩
  by_cases h2 : 1048576 < cap
  · skip
    go_enter Try.func3, Try.ntmps3
    go_wp2_with fail
    refine (new_bad w cap pol h).mono ?_
    rintro e w1 ⟨rfl, hw⟩
    subst hw
    clear h
    go_wp2_with fail
    refine (awake_any _).mono ?_
    rintro e w2 ⟨rfl, hg⟩
    have HG := Lib.hid hg
    clear hg
    go_wp2
    go_ret
    exact ⟨rfl, HG.out⟩
  have h3 : pol ≠ 0 := by omega
  have h4 : pol ≠ 1 := by omega
  have b3 : (pol != 0) = true := by simpa using h3
  have b4 : (pol != 1) = true := by simpa using h4
  go_enter Try.func3, Try.ntmps3
  go_wp2_with fail
  refine (new_bad w cap pol h).mono ?_
  rintro e w1 ⟨rfl, hw⟩
  subst hw
  clear h
  go_wp2_with fail
  refine (awake_any _).mono ?_
  rintro e w2 ⟨rfl, hg⟩
  have HG := Lib.hid hg
  clear hg
  go_wp2
  go_ret
  exact ⟨rfl, HG.out⟩
end Go.Proofs.Ytdicgpbdfnlniaa
