/- ReadyDrains, where a list is too long. -/
import Derived.Test.YtdfadggdegojnaaDoorAwake
namespace Go.Proofs.YtdfadggdegojnaaDoor
open Go.RowKit
set_option linter.unusedVariables false
set_option maxRecDepth 100000
attribute [local irreducible] ctz qCells
theorem drains_long (A A2 : Option Addr) (n n2 cap cap2 : Nat) (w : World) (hTb : TabAt w) (hn : 100 < (n : Int) ∨ 100 < (n2 : Int)) : Calls Tryd.prog 3 #[.slice A n cap, .slice A2 n2 cap2] w fun e w' => e = .returned (.bool true) ∧ Bl w w' := by
  have h := Bl.refl hTb
  by_cases h1 : 100 < (n : Int)
  · clear hn
    go_enter Tryd.func3, Tryd.ntmps3
    go_wp2_with fail
    refine (awake_bl _ h).mono ?_
    rintro e w2 ⟨rfl, h2⟩
    go_wp2_with fail
    refine (awake_bl _ h2).mono ?_
    rintro e w3 ⟨rfl, h3⟩
    go_wp2
    go_ret
    exact ⟨rfl, h3⟩
  · have hn2 : 100 < (n2 : Int) := by omega
    clear hn
    go_enter Tryd.func3, Tryd.ntmps3
    go_wp2_with fail
    refine (awake_bl _ h).mono ?_
    rintro e w2 ⟨rfl, h2⟩
    go_wp2_with fail
    refine (awake_bl _ h2).mono ?_
    rintro e w3 ⟨rfl, h3⟩
    go_wp2
    go_ret
    exact ⟨rfl, h3⟩
end Go.Proofs.YtdfadggdegojnaaDoor
