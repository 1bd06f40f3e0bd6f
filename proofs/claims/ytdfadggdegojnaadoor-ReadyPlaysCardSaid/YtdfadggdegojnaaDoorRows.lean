/-
  NARROWER THAN 'FOR EVERY INPUT', by the rows' own cells (each row's printed sentence says how): ReadyDrains: laid · ReadyPlays: laid · ReadyTurns: laid · ReadyApart: laid · ReadyNil: laid.
  DERIVED. THE GIVEN ROWS OF THIS SEAT. 5 by the template 'for every input the law returns true; each argument reads behind the call as it read before'; 0 by the template 'total and deterministic' (their statements: YtdfadggdegojnaaDoorTotals.lean).
  GIVEN WITH THE SEED: the statements are not yours to turn. If you find one false, say at which input.
  Laid BY PROGRAM, IN A SANDBOX (cutbox-rows.mjs): the forced cells as the released guide's own fill.sh prints them over the translation b835aa3d63b01a29… (all of the seat's roots in one cut). By AI agents, Wed Nov 11 2026. No macro, syntax, notation, axiom, sorry.
-/
import Derived.Test.YtdfadggdegojnaaDoorChecked
import GoSem.Claim
import GoSem.ClaimJoined
import GoSem.ClaimMapViews
import Derived.JoinedTies
import Derived.KernelRfl
namespace Go.Proofs.YtdfadggdegojnaaDoor
/- THE CELL 'sum', in the pinned program and in every row, IS THE sha256 OF THE DUMP (.gsa) THAT YtdfadggdegojnaaDoorProg.lean LOADS. Nothing in Lean hashes anything: it is a label: what it is worth is what the hold of that sum in a sandbox is worth. -/
noncomputable def Tryd.pinned : Pinned := { name := "ytdfadggdegojnaadoor", sum := "b835aa3d63b01a29c9eaf14e14dee0c6796ef8aa308cbeb60615fcd0d4f69aa3", checked := Tryd.checked }
namespace Rows
def none {H : Type} : Left H := { results := [], args := [] }

/- WHAT THE LISTED PACKAGE-LEVEL VARIABLES READ AS WHEN THE CALL BEGINS. Each datum BY PROGRAM (the guide's laid-datum.mjs) off the statement by which the dump's own 'gosem.cut.vars' lays the variable. In a bare row this is a premise. The card (YtdfadggdegojnaaDoorCards.lean) ties it to the program's text. -/
def laid_math_bits_deBruijn32tab {H : Type} : DataW H := .agg [.lit (.int .u8 0), .lit (.int .u8 1), .lit (.int .u8 28), .lit (.int .u8 2), .lit (.int .u8 29), .lit (.int .u8 14), .lit (.int .u8 24), .lit (.int .u8 3), .lit (.int .u8 30), .lit (.int .u8 22), .lit (.int .u8 20), .lit (.int .u8 15), .lit (.int .u8 25), .lit (.int .u8 17), .lit (.int .u8 4), .lit (.int .u8 8), .lit (.int .u8 31), .lit (.int .u8 27), .lit (.int .u8 13), .lit (.int .u8 23), .lit (.int .u8 21), .lit (.int .u8 19), .lit (.int .u8 16), .lit (.int .u8 7), .lit (.int .u8 26), .lit (.int .u8 12), .lit (.int .u8 18), .lit (.int .u8 6), .lit (.int .u8 11), .lit (.int .u8 5), .lit (.int .u8 10), .lit (.int .u8 9)]

/-- 'taffraillaw14.ReadyDrains': WHATEVER THE INPUT: true; the input reads as it did. -/
def readyDrainsSpec : ChangeSpec := { name := "readyDrains", fn := fun _ => fun
  | [d1, d2] => { results := [.lit (.bool true)], args := [d1, d2] }
  | _ => none }
def readyDrainsRow : OpenClaim := { program := "ytdfadggdegojnaadoor", sum := "b835aa3d63b01a29c9eaf14e14dee0c6796ef8aa308cbeb60615fcd0d4f69aa3", func := "taffrail/taffraillaw14.ReadyDrains", spec := "readyDrains", named := ["math/bits.deBruijn32tab"], apart := false, laid := [("math/bits.deBruijn32tab", laid_math_bits_deBruijn32tab)] }
def ReadyDrainsSaid : Prop := readyDrainsRow.holds Tryd.pinned (OpenSpec.ofChange readyDrainsSpec)

/-- ITS FALSE NEIGHBOUR: 'it returns false'. Refute it at one input. -/
def readyDrainsWrong : ChangeSpec := { name := "readyDrains", fn := fun _ => fun
  | [d1, d2] => { results := [.lit (.bool false)], args := [d1, d2] }
  | _ => none }
def ReadyDrainsWrongFalsely : Prop := readyDrainsRow.holds Tryd.pinned (OpenSpec.ofChange readyDrainsWrong)

/-- 'taffraillaw14.ReadyPlays': WHATEVER THE INPUT: true; the input reads as it did. -/
def readyPlaysSpec : ChangeSpec := { name := "readyPlays", fn := fun _ => fun
  | [d] => { results := [.lit (.bool true)], args := [d] }
  | _ => none }
def readyPlaysRow : OpenClaim := { program := "ytdfadggdegojnaadoor", sum := "b835aa3d63b01a29c9eaf14e14dee0c6796ef8aa308cbeb60615fcd0d4f69aa3", func := "taffrail/taffraillaw14.ReadyPlays", spec := "readyPlays", named := ["math/bits.deBruijn32tab"], apart := false, laid := [("math/bits.deBruijn32tab", laid_math_bits_deBruijn32tab)] }
def ReadyPlaysSaid : Prop := readyPlaysRow.holds Tryd.pinned (OpenSpec.ofChange readyPlaysSpec)

/-- ITS FALSE NEIGHBOUR: 'it returns false'. Refute it at one input. -/
def readyPlaysWrong : ChangeSpec := { name := "readyPlays", fn := fun _ => fun
  | [d] => { results := [.lit (.bool false)], args := [d] }
  | _ => none }
def ReadyPlaysWrongFalsely : Prop := readyPlaysRow.holds Tryd.pinned (OpenSpec.ofChange readyPlaysWrong)

/-- 'taffraillaw14.ReadyTurns': WHATEVER THE INPUT: true; the input reads as it did. -/
def readyTurnsSpec : ChangeSpec := { name := "readyTurns", fn := fun _ => fun
  | [d1, d2] => { results := [.lit (.bool true)], args := [d1, d2] }
  | _ => none }
def readyTurnsRow : OpenClaim := { program := "ytdfadggdegojnaadoor", sum := "b835aa3d63b01a29c9eaf14e14dee0c6796ef8aa308cbeb60615fcd0d4f69aa3", func := "taffrail/taffraillaw14.ReadyTurns", spec := "readyTurns", named := ["math/bits.deBruijn32tab"], apart := false, laid := [("math/bits.deBruijn32tab", laid_math_bits_deBruijn32tab)] }
def ReadyTurnsSaid : Prop := readyTurnsRow.holds Tryd.pinned (OpenSpec.ofChange readyTurnsSpec)

/-- ITS FALSE NEIGHBOUR: 'it returns false'. Refute it at one input. -/
def readyTurnsWrong : ChangeSpec := { name := "readyTurns", fn := fun _ => fun
  | [d1, d2] => { results := [.lit (.bool false)], args := [d1, d2] }
  | _ => none }
def ReadyTurnsWrongFalsely : Prop := readyTurnsRow.holds Tryd.pinned (OpenSpec.ofChange readyTurnsWrong)

/-- 'taffraillaw14.ReadyApart': WHATEVER THE INPUT: true; the input reads as it did. -/
def readyApartSpec : ChangeSpec := { name := "readyApart", fn := fun _ => fun
  | [d1, d2] => { results := [.lit (.bool true)], args := [d1, d2] }
  | _ => none }
def readyApartRow : OpenClaim := { program := "ytdfadggdegojnaadoor", sum := "b835aa3d63b01a29c9eaf14e14dee0c6796ef8aa308cbeb60615fcd0d4f69aa3", func := "taffrail/taffraillaw14.ReadyApart", spec := "readyApart", named := ["math/bits.deBruijn32tab"], apart := false, laid := [("math/bits.deBruijn32tab", laid_math_bits_deBruijn32tab)] }
def ReadyApartSaid : Prop := readyApartRow.holds Tryd.pinned (OpenSpec.ofChange readyApartSpec)

/-- ITS FALSE NEIGHBOUR: 'it returns false'. Refute it at one input. -/
def readyApartWrong : ChangeSpec := { name := "readyApart", fn := fun _ => fun
  | [d1, d2] => { results := [.lit (.bool false)], args := [d1, d2] }
  | _ => none }
def ReadyApartWrongFalsely : Prop := readyApartRow.holds Tryd.pinned (OpenSpec.ofChange readyApartWrong)

/-- 'taffraillaw14.ReadyNil': WHATEVER THE INPUT: true; the input reads as it did. -/
def readyNilSpec : ChangeSpec := { name := "readyNil", fn := fun _ => fun
  | [d1, d2] => { results := [.lit (.bool true)], args := [d1, d2] }
  | _ => none }
def readyNilRow : OpenClaim := { program := "ytdfadggdegojnaadoor", sum := "b835aa3d63b01a29c9eaf14e14dee0c6796ef8aa308cbeb60615fcd0d4f69aa3", func := "taffrail/taffraillaw14.ReadyNil", spec := "readyNil", named := ["math/bits.deBruijn32tab"], apart := false, laid := [("math/bits.deBruijn32tab", laid_math_bits_deBruijn32tab)] }
def ReadyNilSaid : Prop := readyNilRow.holds Tryd.pinned (OpenSpec.ofChange readyNilSpec)

/-- ITS FALSE NEIGHBOUR: 'it returns false'. Refute it at one input. -/
def readyNilWrong : ChangeSpec := { name := "readyNil", fn := fun _ => fun
  | [d1, d2] => { results := [.lit (.bool false)], args := [d1, d2] }
  | _ => none }
def ReadyNilWrongFalsely : Prop := readyNilRow.holds Tryd.pinned (OpenSpec.ofChange readyNilWrong)

/- THE SECOND FORM. 'bulk': how many values and letters a reading holds, each counted each time it is reached (what is shared counts as often as it is met; a slice's spare places count too). A statement '..UptoSaid' is the law's where the arguments, and the package variables that the reading takes, are together of bulk at most 1048576: NARROWER than '..Said'. Prove '..Said' where nothing that the law and all that it calls make is longer than what came in: it says more and counts as full. Else prove '..UptoSaid'. A law counts once. -/
mutual
def uptoBulk {H : Type} : DataW H → Nat
  | .lit (.string bytes) => bytes.length + 1
  | .lit _ => 1
  | .nil => 1
  | .ptr d => uptoBulk d + 1
  | .slice elems spare => uptoBulkAll elems + uptoBulkAll spare + 1
  | .agg parts => uptoBulkAll parts + 1
  | .iface _ d => uptoBulk d + 1
  | .map entries => uptoBulkEntries entries + 1
  | .held _ => 1
def uptoBulkAll {H : Type} : List (DataW H) → Nat
  | [] => 0
  | d :: r => uptoBulk d + uptoBulkAll r
def uptoBulkEntries {H : Type} : List (Lit × DataW H) → Nat
  | [] => 0
  | x :: r => uptoBulkEntry x + uptoBulkEntries r
def uptoBulkEntry {H : Type} : Lit × DataW H → Nat
  | (.string bytes, d) => bytes.length + uptoBulk d + 1
  | (_, d) => uptoBulk d + 1
 end
def uptoSmall : (H : Type) → List (DataW H) → Bool := fun _ ds => decide (uptoBulkAll ds ≤ 1048576)
def OpenSpec.upto (s : _root_.Go.ChangeSpec) : _root_.Go.OpenSpec := { _root_.Go.OpenSpec.ofChange s with cond := some uptoSmall }

/-- 'taffraillaw14.ReadyDrains', WHERE WHAT IT READS IS OF BULK AT MOST 1048576: true; the input reads as it did. -/
def readyDrainsUptoRow : OpenClaim := { program := "ytdfadggdegojnaadoor", sum := "b835aa3d63b01a29c9eaf14e14dee0c6796ef8aa308cbeb60615fcd0d4f69aa3", func := "taffrail/taffraillaw14.ReadyDrains", spec := "readyDrains", named := ["math/bits.deBruijn32tab"], apart := false, laid := [("math/bits.deBruijn32tab", laid_math_bits_deBruijn32tab)], narrowed := true }
def ReadyDrainsUptoSaid : Prop := readyDrainsUptoRow.holds Tryd.pinned (OpenSpec.upto readyDrainsSpec)

/-- 'taffraillaw14.ReadyPlays', WHERE WHAT IT READS IS OF BULK AT MOST 1048576: true; the input reads as it did. -/
def readyPlaysUptoRow : OpenClaim := { program := "ytdfadggdegojnaadoor", sum := "b835aa3d63b01a29c9eaf14e14dee0c6796ef8aa308cbeb60615fcd0d4f69aa3", func := "taffrail/taffraillaw14.ReadyPlays", spec := "readyPlays", named := ["math/bits.deBruijn32tab"], apart := false, laid := [("math/bits.deBruijn32tab", laid_math_bits_deBruijn32tab)], narrowed := true }
def ReadyPlaysUptoSaid : Prop := readyPlaysUptoRow.holds Tryd.pinned (OpenSpec.upto readyPlaysSpec)

/-- 'taffraillaw14.ReadyTurns', WHERE WHAT IT READS IS OF BULK AT MOST 1048576: true; the input reads as it did. -/
def readyTurnsUptoRow : OpenClaim := { program := "ytdfadggdegojnaadoor", sum := "b835aa3d63b01a29c9eaf14e14dee0c6796ef8aa308cbeb60615fcd0d4f69aa3", func := "taffrail/taffraillaw14.ReadyTurns", spec := "readyTurns", named := ["math/bits.deBruijn32tab"], apart := false, laid := [("math/bits.deBruijn32tab", laid_math_bits_deBruijn32tab)], narrowed := true }
def ReadyTurnsUptoSaid : Prop := readyTurnsUptoRow.holds Tryd.pinned (OpenSpec.upto readyTurnsSpec)

/-- 'taffraillaw14.ReadyApart', WHERE WHAT IT READS IS OF BULK AT MOST 1048576: true; the input reads as it did. -/
def readyApartUptoRow : OpenClaim := { program := "ytdfadggdegojnaadoor", sum := "b835aa3d63b01a29c9eaf14e14dee0c6796ef8aa308cbeb60615fcd0d4f69aa3", func := "taffrail/taffraillaw14.ReadyApart", spec := "readyApart", named := ["math/bits.deBruijn32tab"], apart := false, laid := [("math/bits.deBruijn32tab", laid_math_bits_deBruijn32tab)], narrowed := true }
def ReadyApartUptoSaid : Prop := readyApartUptoRow.holds Tryd.pinned (OpenSpec.upto readyApartSpec)

/-- 'taffraillaw14.ReadyNil', WHERE WHAT IT READS IS OF BULK AT MOST 1048576: true; the input reads as it did. -/
def readyNilUptoRow : OpenClaim := { program := "ytdfadggdegojnaadoor", sum := "b835aa3d63b01a29c9eaf14e14dee0c6796ef8aa308cbeb60615fcd0d4f69aa3", func := "taffrail/taffraillaw14.ReadyNil", spec := "readyNil", named := ["math/bits.deBruijn32tab"], apart := false, laid := [("math/bits.deBruijn32tab", laid_math_bits_deBruijn32tab)], narrowed := true }
def ReadyNilUptoSaid : Prop := readyNilUptoRow.holds Tryd.pinned (OpenSpec.upto readyNilSpec)

end Rows
end Go.Proofs.YtdfadggdegojnaaDoor
