/-
  DERIVED. GIVEN WITH THE SEED: THE CARDS: each row of YtglnabgageeipaaDoorRows.lean that lists a variable, with what it lists TIED to the program's text (the seventh form; the later family's looks); each row that meets fmt, with fmt's text TOLD by the authors' own Lean function (tested against real Go, not proved from fmt's source: count such statements apart). THE CARD IS WHAT COUNTS. Prove the row's statement (the work); the ties are given (YtglnabgageeipaaDoorTie.lean); close each card by the builder's one call (the guide's Derived/Test/ToyasCard.lean, 'card_holds'). Laid BY PROGRAM, IN A SANDBOX (cutbox-door.mjs). By AI agents, Wed Nov 11 2026. No macro, syntax, notation, axiom, sorry.
-/
import Derived.Test.YtglnabgageeipaaDoorRows
import GoSem.ClaimSeven
namespace Go.Proofs.YtglnabgageeipaaDoor
namespace Rows

/-- THE TIED CARD OF 'taffraillaw20.LineAll'. -/
def lineAllCard : Claim7 := { stood := { row := lineAllRow, standIns := [], harness := (true, "e0b636f4b5a632b7c056e446a03c08d115b177a601eabf4ee206b387b84524cd"), looks := false }, kinds := [], alts := [], laidByText := true, laidKinds := [.data], laidTests := true, laidLooks := .later }
def LineAllCardSaid : Prop := Claim7.holds Tryd.pinned (.plain (OpenSpec.ofChange lineAllSpec)) lineAllCard

/-- THE TIED CARD OF 'taffraillaw20.LinePlays'. -/
def linePlaysCard : Claim7 := { stood := { row := linePlaysRow, standIns := [], harness := (true, "e0b636f4b5a632b7c056e446a03c08d115b177a601eabf4ee206b387b84524cd"), looks := false }, kinds := [], alts := [], laidByText := true, laidKinds := [.data], laidTests := true, laidLooks := .later }
def LinePlaysCardSaid : Prop := Claim7.holds Tryd.pinned (.plain (OpenSpec.ofChange linePlaysSpec)) linePlaysCard

/-- THE TIED CARD OF 'taffraillaw20.LineOne'. -/
def lineOneCard : Claim7 := { stood := { row := lineOneRow, standIns := [], harness := (true, "e0b636f4b5a632b7c056e446a03c08d115b177a601eabf4ee206b387b84524cd"), looks := false }, kinds := [], alts := [], laidByText := true, laidKinds := [.data], laidTests := true, laidLooks := .later }
def LineOneCardSaid : Prop := Claim7.holds Tryd.pinned (.plain (OpenSpec.ofChange lineOneSpec)) lineOneCard

/-- THE TIED CARD OF 'taffraillaw20.LineNil'. -/
def lineNilCard : Claim7 := { stood := { row := lineNilRow, standIns := [], harness := (true, "e0b636f4b5a632b7c056e446a03c08d115b177a601eabf4ee206b387b84524cd"), looks := false }, kinds := [], alts := [], laidByText := true, laidKinds := [.data], laidTests := true, laidLooks := .later }
def LineNilCardSaid : Prop := Claim7.holds Tryd.pinned (.plain (OpenSpec.ofChange lineNilSpec)) lineNilCard

/-- THE SECOND FORM's CARD OF 'taffraillaw20.LineAll'. -/
def lineAllUptoCard : Claim7 := { stood := { row := lineAllUptoRow, standIns := [], harness := (true, "e0b636f4b5a632b7c056e446a03c08d115b177a601eabf4ee206b387b84524cd"), looks := false }, kinds := [], alts := [], laidByText := true, laidKinds := [.data], laidTests := true, laidLooks := .later }
def LineAllUptoCardSaid : Prop := Claim7.holds Tryd.pinned (.plain (OpenSpec.upto lineAllSpec)) lineAllUptoCard

/-- THE SECOND FORM's CARD OF 'taffraillaw20.LinePlays'. -/
def linePlaysUptoCard : Claim7 := { stood := { row := linePlaysUptoRow, standIns := [], harness := (true, "e0b636f4b5a632b7c056e446a03c08d115b177a601eabf4ee206b387b84524cd"), looks := false }, kinds := [], alts := [], laidByText := true, laidKinds := [.data], laidTests := true, laidLooks := .later }
def LinePlaysUptoCardSaid : Prop := Claim7.holds Tryd.pinned (.plain (OpenSpec.upto linePlaysSpec)) linePlaysUptoCard

/-- THE SECOND FORM's CARD OF 'taffraillaw20.LineOne'. -/
def lineOneUptoCard : Claim7 := { stood := { row := lineOneUptoRow, standIns := [], harness := (true, "e0b636f4b5a632b7c056e446a03c08d115b177a601eabf4ee206b387b84524cd"), looks := false }, kinds := [], alts := [], laidByText := true, laidKinds := [.data], laidTests := true, laidLooks := .later }
def LineOneUptoCardSaid : Prop := Claim7.holds Tryd.pinned (.plain (OpenSpec.upto lineOneSpec)) lineOneUptoCard

/-- THE SECOND FORM's CARD OF 'taffraillaw20.LineNil'. -/
def lineNilUptoCard : Claim7 := { stood := { row := lineNilUptoRow, standIns := [], harness := (true, "e0b636f4b5a632b7c056e446a03c08d115b177a601eabf4ee206b387b84524cd"), looks := false }, kinds := [], alts := [], laidByText := true, laidKinds := [.data], laidTests := true, laidLooks := .later }
def LineNilUptoCardSaid : Prop := Claim7.holds Tryd.pinned (.plain (OpenSpec.upto lineNilSpec)) lineNilUptoCard
end Rows
end Go.Proofs.YtglnabgageeipaaDoor
