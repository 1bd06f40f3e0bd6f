/-
  DERIVED. GIVEN WITH THE SEED: THE CARDS: each row of YtnhmdinpfcoebaaGreatDoorRows.lean that lists a variable, with what it lists TIED to the program's text (the seventh form; the later family's looks); each row that meets fmt, with fmt's text TOLD by the authors' own Lean function (tested against real Go, not proved from fmt's source: count such statements apart). THE CARD IS WHAT COUNTS. Prove the row's statement (the work); the ties are given (YtnhmdinpfcoebaaGreatDoorTie.lean); close each card by the builder's one call (the guide's Derived/Test/ToyasCard.lean, 'card_holds'). Laid BY PROGRAM, IN A SANDBOX (cutbox-door.mjs). By AI agents, Wed Nov 11 2026. No macro, syntax, notation, axiom, sorry.
-/
import Derived.Test.YtnhmdinpfcoebaaGreatDoorRows
import GoSem.ClaimSeven
namespace Go.Proofs.YtnhmdinpfcoebaaGreatDoor
namespace Rows

/-- THE TIED CARD OF 'taffrailtop.TopPumped'. -/
def topPumpedCard : Claim7 := { stood := { row := topPumpedRow, standIns := [], harness := (true, "a8cde7ec44c8b52f0977b0c5a89546fa40140e685e9dea2db3af620a0fc99612"), looks := false }, kinds := [], alts := [], laidByText := true, laidKinds := [.data], laidTests := true, laidLooks := .later }
def TopPumpedCardSaid : Prop := Claim7.holds Tryz.pinned (.plain (OpenSpec.ofChange topPumpedSpec)) topPumpedCard

/-- THE SECOND FORM's CARD OF 'taffrailtop.TopPumped'. -/
def topPumpedUptoCard : Claim7 := { stood := { row := topPumpedUptoRow, standIns := [], harness := (true, "a8cde7ec44c8b52f0977b0c5a89546fa40140e685e9dea2db3af620a0fc99612"), looks := false }, kinds := [], alts := [], laidByText := true, laidKinds := [.data], laidTests := true, laidLooks := .later }
def TopPumpedUptoCardSaid : Prop := Claim7.holds Tryz.pinned (.plain (OpenSpec.upto topPumpedSpec)) topPumpedUptoCard
end Rows
end Go.Proofs.YtnhmdinpfcoebaaGreatDoor
