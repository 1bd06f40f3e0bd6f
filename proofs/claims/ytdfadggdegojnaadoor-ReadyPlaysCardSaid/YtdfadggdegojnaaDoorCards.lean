/-
  DERIVED. GIVEN WITH THE SEED: THE CARDS: each row of YtdfadggdegojnaaDoorRows.lean that lists a variable, with what it lists TIED to the program's text (the seventh form; the later family's looks); each row that meets fmt, with fmt's text TOLD by the authors' own Lean function (tested against real Go, not proved from fmt's source: count such statements apart). THE CARD IS WHAT COUNTS. Prove the row's statement (the work); the ties are given (YtdfadggdegojnaaDoorTie.lean); close each card by the builder's one call (the guide's Derived/Test/ToyasCard.lean, 'card_holds'). Laid BY PROGRAM, IN A SANDBOX (cutbox-door.mjs). By AI agents, Wed Nov 11 2026. No macro, syntax, notation, axiom, sorry.
-/
import Derived.Test.YtdfadggdegojnaaDoorRows
import GoSem.ClaimSeven
namespace Go.Proofs.YtdfadggdegojnaaDoor
namespace Rows

/-- THE TIED CARD OF 'taffraillaw14.ReadyDrains'. -/
def readyDrainsCard : Claim7 := { stood := { row := readyDrainsRow, standIns := [], harness := (true, "e5d1803613a6bf6472106762e13b74e44857da5eb11f81945558db5f8f0fb912"), looks := false }, kinds := [], alts := [], laidByText := true, laidKinds := [.data], laidTests := true, laidLooks := .later }
def ReadyDrainsCardSaid : Prop := Claim7.holds Tryd.pinned (.plain (OpenSpec.ofChange readyDrainsSpec)) readyDrainsCard

/-- THE TIED CARD OF 'taffraillaw14.ReadyPlays'. -/
def readyPlaysCard : Claim7 := { stood := { row := readyPlaysRow, standIns := [], harness := (true, "e5d1803613a6bf6472106762e13b74e44857da5eb11f81945558db5f8f0fb912"), looks := false }, kinds := [], alts := [], laidByText := true, laidKinds := [.data], laidTests := true, laidLooks := .later }
def ReadyPlaysCardSaid : Prop := Claim7.holds Tryd.pinned (.plain (OpenSpec.ofChange readyPlaysSpec)) readyPlaysCard

/-- THE TIED CARD OF 'taffraillaw14.ReadyTurns'. -/
def readyTurnsCard : Claim7 := { stood := { row := readyTurnsRow, standIns := [], harness := (true, "e5d1803613a6bf6472106762e13b74e44857da5eb11f81945558db5f8f0fb912"), looks := false }, kinds := [], alts := [], laidByText := true, laidKinds := [.data], laidTests := true, laidLooks := .later }
def ReadyTurnsCardSaid : Prop := Claim7.holds Tryd.pinned (.plain (OpenSpec.ofChange readyTurnsSpec)) readyTurnsCard

/-- THE TIED CARD OF 'taffraillaw14.ReadyApart'. -/
def readyApartCard : Claim7 := { stood := { row := readyApartRow, standIns := [], harness := (true, "e5d1803613a6bf6472106762e13b74e44857da5eb11f81945558db5f8f0fb912"), looks := false }, kinds := [], alts := [], laidByText := true, laidKinds := [.data], laidTests := true, laidLooks := .later }
def ReadyApartCardSaid : Prop := Claim7.holds Tryd.pinned (.plain (OpenSpec.ofChange readyApartSpec)) readyApartCard

/-- THE TIED CARD OF 'taffraillaw14.ReadyNil'. -/
def readyNilCard : Claim7 := { stood := { row := readyNilRow, standIns := [], harness := (true, "e5d1803613a6bf6472106762e13b74e44857da5eb11f81945558db5f8f0fb912"), looks := false }, kinds := [], alts := [], laidByText := true, laidKinds := [.data], laidTests := true, laidLooks := .later }
def ReadyNilCardSaid : Prop := Claim7.holds Tryd.pinned (.plain (OpenSpec.ofChange readyNilSpec)) readyNilCard

/-- THE SECOND FORM's CARD OF 'taffraillaw14.ReadyDrains'. -/
def readyDrainsUptoCard : Claim7 := { stood := { row := readyDrainsUptoRow, standIns := [], harness := (true, "e5d1803613a6bf6472106762e13b74e44857da5eb11f81945558db5f8f0fb912"), looks := false }, kinds := [], alts := [], laidByText := true, laidKinds := [.data], laidTests := true, laidLooks := .later }
def ReadyDrainsUptoCardSaid : Prop := Claim7.holds Tryd.pinned (.plain (OpenSpec.upto readyDrainsSpec)) readyDrainsUptoCard

/-- THE SECOND FORM's CARD OF 'taffraillaw14.ReadyPlays'. -/
def readyPlaysUptoCard : Claim7 := { stood := { row := readyPlaysUptoRow, standIns := [], harness := (true, "e5d1803613a6bf6472106762e13b74e44857da5eb11f81945558db5f8f0fb912"), looks := false }, kinds := [], alts := [], laidByText := true, laidKinds := [.data], laidTests := true, laidLooks := .later }
def ReadyPlaysUptoCardSaid : Prop := Claim7.holds Tryd.pinned (.plain (OpenSpec.upto readyPlaysSpec)) readyPlaysUptoCard

/-- THE SECOND FORM's CARD OF 'taffraillaw14.ReadyTurns'. -/
def readyTurnsUptoCard : Claim7 := { stood := { row := readyTurnsUptoRow, standIns := [], harness := (true, "e5d1803613a6bf6472106762e13b74e44857da5eb11f81945558db5f8f0fb912"), looks := false }, kinds := [], alts := [], laidByText := true, laidKinds := [.data], laidTests := true, laidLooks := .later }
def ReadyTurnsUptoCardSaid : Prop := Claim7.holds Tryd.pinned (.plain (OpenSpec.upto readyTurnsSpec)) readyTurnsUptoCard

/-- THE SECOND FORM's CARD OF 'taffraillaw14.ReadyApart'. -/
def readyApartUptoCard : Claim7 := { stood := { row := readyApartUptoRow, standIns := [], harness := (true, "e5d1803613a6bf6472106762e13b74e44857da5eb11f81945558db5f8f0fb912"), looks := false }, kinds := [], alts := [], laidByText := true, laidKinds := [.data], laidTests := true, laidLooks := .later }
def ReadyApartUptoCardSaid : Prop := Claim7.holds Tryd.pinned (.plain (OpenSpec.upto readyApartSpec)) readyApartUptoCard

/-- THE SECOND FORM's CARD OF 'taffraillaw14.ReadyNil'. -/
def readyNilUptoCard : Claim7 := { stood := { row := readyNilUptoRow, standIns := [], harness := (true, "e5d1803613a6bf6472106762e13b74e44857da5eb11f81945558db5f8f0fb912"), looks := false }, kinds := [], alts := [], laidByText := true, laidKinds := [.data], laidTests := true, laidLooks := .later }
def ReadyNilUptoCardSaid : Prop := Claim7.holds Tryd.pinned (.plain (OpenSpec.upto readyNilSpec)) readyNilUptoCard
end Rows
end Go.Proofs.YtdfadggdegojnaaDoor
