/- Lists of numbers among the arguments, opened. -/
import Derived.Test.YtdfadggdegojnaaDoorMemI
import Derived.Deep.Slices
import Derived.ProofKit
import Derived.OpenShut
namespace Go.Proofs.YtdfadggdegojnaaDoor
open Go.ChangeShapes Go.WideShapes Go.ChangeAt Go.RowKit Go.Deep
set_option linter.unusedVariables false
theorem cells3 : Tryd.prog.cellsOf 3 = 1 := by kernel_rfl
theorem open_ints {H : Type} {enc : TypeId × Value → H} {W : World} {sp : Nat → Bool} {fuel : Nat} {cs : List Value} {x : DataW H × List MemPlace} (h : DataW.trod enc Tryd.prog W 0 sp true fuel 22 cs = some x) :
    ∃ (A : Option Addr) (n cap : Nat) (M : Nat → Int), cs = [.slice A n cap] ∧ MemAt W A n M ∧ n ≤ cap ∧ cap ≤ maxLen := by
  rcases open_slice1 Tryd.underlying22 cells3 h with ⟨h0, _⟩ | ⟨a, len, cap, m, n, V, D, Pl, rfl, hb, hl, hm, hmm, rfl, hx⟩
  · exact ⟨none, 0, 0, fun _ => 0, h0, fun h => by omega, by omega, by unfold maxLen; omega⟩
  have hlm : len ≤ m := by rw [hmm]; split <;> omega
  have each : ∀ i, i < m → ∃ q : Int, W.cell? (a.add i) = some (.int .i64 q) := by
    intro i hi
    obtain ⟨h1, h2⟩ := hx i hi
    obtain ⟨s, e0, d0, w0⟩ := DataW.trod_int Tryd.underlying3 h2
    simp only [List.cons.injEq, and_true] at e0
    exact ⟨s, by rw [h1, e0]⟩
  obtain ⟨q, hq⟩ := choose_lt each
  exact ⟨some a, len, cap, q, rfl, fun _ => ⟨a, rfl, fun j hj => hq j (by omega)⟩, hl, hm⟩
end Go.Proofs.YtdfadggdegojnaaDoor
