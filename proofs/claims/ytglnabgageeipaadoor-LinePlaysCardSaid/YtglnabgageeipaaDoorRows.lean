/-
  NARROWER THAN 'FOR EVERY INPUT', by the rows' own cells (each row's printed sentence says how): LineAll: laid · LinePlays: laid · LineOne: laid · LineNil: laid.
  DERIVED. THE GIVEN ROWS OF THIS SEAT. 4 by the template 'for every input the law returns true; each argument reads behind the call as it read before'; 0 by the template 'total and deterministic' (their statements: YtglnabgageeipaaDoorTotals.lean).
  GIVEN WITH THE SEED: the statements are not yours to turn. If you find one false, say at which input.
  Laid BY PROGRAM, IN A SANDBOX (cutbox-rows.mjs): the forced cells as the released guide's own fill.sh prints them over the translation 02bcc8450a18ce39… (all of the seat's roots in one cut). By AI agents, Wed Nov 11 2026. No macro, syntax, notation, axiom, sorry.
-/
import Derived.Test.YtglnabgageeipaaDoorChecked
import GoSem.Claim
import GoSem.ClaimJoined
import GoSem.ClaimMapViews
import Derived.JoinedTies
import Derived.KernelRfl
namespace Go.Proofs.YtglnabgageeipaaDoor
/- THE CELL 'sum', in the pinned program and in every row, IS THE sha256 OF THE DUMP (.gsa) THAT YtglnabgageeipaaDoorProg.lean LOADS. Nothing in Lean hashes anything: it is a label: what it is worth is what the hold of that sum in a sandbox is worth. -/
noncomputable def Tryd.pinned : Pinned := { name := "ytglnabgageeipaadoor", sum := "02bcc8450a18ce398c5d96e8ab02c624acef5ee01016dfd8996ac1391390b06b", checked := Tryd.checked }
namespace Rows
def none {H : Type} : Left H := { results := [], args := [] }

/- WHAT THE LISTED PACKAGE-LEVEL VARIABLES READ AS WHEN THE CALL BEGINS. Each datum BY PROGRAM (the guide's laid-datum.mjs) off the statement by which the dump's own 'gosem.cut.vars' lays the variable. In a bare row this is a premise. The card (YtglnabgageeipaaDoorCards.lean) ties it to the program's text. -/
def laid_math_bits_deBruijn32tab {H : Type} : DataW H := .agg [.lit (.int .u8 0), .lit (.int .u8 1), .lit (.int .u8 28), .lit (.int .u8 2), .lit (.int .u8 29), .lit (.int .u8 14), .lit (.int .u8 24), .lit (.int .u8 3), .lit (.int .u8 30), .lit (.int .u8 22), .lit (.int .u8 20), .lit (.int .u8 15), .lit (.int .u8 25), .lit (.int .u8 17), .lit (.int .u8 4), .lit (.int .u8 8), .lit (.int .u8 31), .lit (.int .u8 27), .lit (.int .u8 13), .lit (.int .u8 23), .lit (.int .u8 21), .lit (.int .u8 19), .lit (.int .u8 16), .lit (.int .u8 7), .lit (.int .u8 26), .lit (.int .u8 12), .lit (.int .u8 18), .lit (.int .u8 6), .lit (.int .u8 11), .lit (.int .u8 5), .lit (.int .u8 10), .lit (.int .u8 9)]

/-- 'taffraillaw20.LineAll': WHATEVER THE INPUT: true; the input reads as it did. -/
def lineAllSpec : ChangeSpec := { name := "lineAll", fn := fun _ => fun
  | [d1, d2] => { results := [.lit (.bool true)], args := [d1, d2] }
  | _ => none }
def lineAllRow : OpenClaim := { program := "ytglnabgageeipaadoor", sum := "02bcc8450a18ce398c5d96e8ab02c624acef5ee01016dfd8996ac1391390b06b", func := "taffrail/taffraillaw20.LineAll", spec := "lineAll", named := ["math/bits.deBruijn32tab"], apart := false, laid := [("math/bits.deBruijn32tab", laid_math_bits_deBruijn32tab)] }
def LineAllSaid : Prop := lineAllRow.holds Tryd.pinned (OpenSpec.ofChange lineAllSpec)

/-- ITS FALSE NEIGHBOUR: 'it returns false'. Refute it at one input. -/
def lineAllWrong : ChangeSpec := { name := "lineAll", fn := fun _ => fun
  | [d1, d2] => { results := [.lit (.bool false)], args := [d1, d2] }
  | _ => none }
def LineAllWrongFalsely : Prop := lineAllRow.holds Tryd.pinned (OpenSpec.ofChange lineAllWrong)

/-- 'taffraillaw20.LinePlays': WHATEVER THE INPUT: true; the input reads as it did. -/
def linePlaysSpec : ChangeSpec := { name := "linePlays", fn := fun _ => fun
  | [d1, d2, d3] => { results := [.lit (.bool true)], args := [d1, d2, d3] }
  | _ => none }
def linePlaysRow : OpenClaim := { program := "ytglnabgageeipaadoor", sum := "02bcc8450a18ce398c5d96e8ab02c624acef5ee01016dfd8996ac1391390b06b", func := "taffrail/taffraillaw20.LinePlays", spec := "linePlays", named := ["math/bits.deBruijn32tab"], apart := false, laid := [("math/bits.deBruijn32tab", laid_math_bits_deBruijn32tab)] }
def LinePlaysSaid : Prop := linePlaysRow.holds Tryd.pinned (OpenSpec.ofChange linePlaysSpec)

/-- ITS FALSE NEIGHBOUR: 'it returns false'. Refute it at one input. -/
def linePlaysWrong : ChangeSpec := { name := "linePlays", fn := fun _ => fun
  | [d1, d2, d3] => { results := [.lit (.bool false)], args := [d1, d2, d3] }
  | _ => none }
def LinePlaysWrongFalsely : Prop := linePlaysRow.holds Tryd.pinned (OpenSpec.ofChange linePlaysWrong)

/-- 'taffraillaw20.LineOne': WHATEVER THE INPUT: true; the input reads as it did. -/
def lineOneSpec : ChangeSpec := { name := "lineOne", fn := fun _ => fun
  | [d1, d2, d3] => { results := [.lit (.bool true)], args := [d1, d2, d3] }
  | _ => none }
def lineOneRow : OpenClaim := { program := "ytglnabgageeipaadoor", sum := "02bcc8450a18ce398c5d96e8ab02c624acef5ee01016dfd8996ac1391390b06b", func := "taffrail/taffraillaw20.LineOne", spec := "lineOne", named := ["math/bits.deBruijn32tab"], apart := false, laid := [("math/bits.deBruijn32tab", laid_math_bits_deBruijn32tab)] }
def LineOneSaid : Prop := lineOneRow.holds Tryd.pinned (OpenSpec.ofChange lineOneSpec)

/-- ITS FALSE NEIGHBOUR: 'it returns false'. Refute it at one input. -/
def lineOneWrong : ChangeSpec := { name := "lineOne", fn := fun _ => fun
  | [d1, d2, d3] => { results := [.lit (.bool false)], args := [d1, d2, d3] }
  | _ => none }
def LineOneWrongFalsely : Prop := lineOneRow.holds Tryd.pinned (OpenSpec.ofChange lineOneWrong)

/-- 'taffraillaw20.LineNil': WHATEVER THE INPUT: true; the input reads as it did. -/
def lineNilSpec : ChangeSpec := { name := "lineNil", fn := fun _ => fun
  | [d1, d2] => { results := [.lit (.bool true)], args := [d1, d2] }
  | _ => none }
def lineNilRow : OpenClaim := { program := "ytglnabgageeipaadoor", sum := "02bcc8450a18ce398c5d96e8ab02c624acef5ee01016dfd8996ac1391390b06b", func := "taffrail/taffraillaw20.LineNil", spec := "lineNil", named := ["math/bits.deBruijn32tab"], apart := false, laid := [("math/bits.deBruijn32tab", laid_math_bits_deBruijn32tab)] }
def LineNilSaid : Prop := lineNilRow.holds Tryd.pinned (OpenSpec.ofChange lineNilSpec)

/-- ITS FALSE NEIGHBOUR: 'it returns false'. Refute it at one input. -/
def lineNilWrong : ChangeSpec := { name := "lineNil", fn := fun _ => fun
  | [d1, d2] => { results := [.lit (.bool false)], args := [d1, d2] }
  | _ => none }
def LineNilWrongFalsely : Prop := lineNilRow.holds Tryd.pinned (OpenSpec.ofChange lineNilWrong)

/- THE SECOND FORM. 'bulk': how many values and letters a reading holds, each counted each time it is reached (what is shared counts as often as it is met; a slice's spare places count too). A statement '..UptoSaid' is the law's where the arguments, and the package variables that the reading takes, are together of bulk at most 1048576: NARROWER than '..Said'. Prove '..Said' where nothing that the law and all that it calls make is longer than what came in: it says more and counts as full. Else prove '..UptoSaid'. A law counts once. -/
mutual
def uptoBulk {H : Type} : DataW H → Nat
  | .lit (.string bytes) => bytes.length + 1
  | .lit _ => 1
  | .nil => 1
  | .ptr d => uptoBulk d + 1
  | .slice elems spare => uptoBulkAll elems + uptoBulkAll spare + 1
  | .agg parts => uptoBulkAll parts + 1
  | .iface _ d => uptoBulk d + 1
  | .map entries => uptoBulkEntries entries + 1
  | .held _ => 1
def uptoBulkAll {H : Type} : List (DataW H) → Nat
  | [] => 0
  | d :: r => uptoBulk d + uptoBulkAll r
def uptoBulkEntries {H : Type} : List (Lit × DataW H) → Nat
  | [] => 0
  | x :: r => uptoBulkEntry x + uptoBulkEntries r
def uptoBulkEntry {H : Type} : Lit × DataW H → Nat
  | (.string bytes, d) => bytes.length + uptoBulk d + 1
  | (_, d) => uptoBulk d + 1
 end
def uptoSmall : (H : Type) → List (DataW H) → Bool := fun _ ds => decide (uptoBulkAll ds ≤ 1048576)
def OpenSpec.upto (s : _root_.Go.ChangeSpec) : _root_.Go.OpenSpec := { _root_.Go.OpenSpec.ofChange s with cond := some uptoSmall }

/-- 'taffraillaw20.LineAll', WHERE WHAT IT READS IS OF BULK AT MOST 1048576: true; the input reads as it did. -/
def lineAllUptoRow : OpenClaim := { program := "ytglnabgageeipaadoor", sum := "02bcc8450a18ce398c5d96e8ab02c624acef5ee01016dfd8996ac1391390b06b", func := "taffrail/taffraillaw20.LineAll", spec := "lineAll", named := ["math/bits.deBruijn32tab"], apart := false, laid := [("math/bits.deBruijn32tab", laid_math_bits_deBruijn32tab)], narrowed := true }
def LineAllUptoSaid : Prop := lineAllUptoRow.holds Tryd.pinned (OpenSpec.upto lineAllSpec)

/-- 'taffraillaw20.LinePlays', WHERE WHAT IT READS IS OF BULK AT MOST 1048576: true; the input reads as it did. -/
def linePlaysUptoRow : OpenClaim := { program := "ytglnabgageeipaadoor", sum := "02bcc8450a18ce398c5d96e8ab02c624acef5ee01016dfd8996ac1391390b06b", func := "taffrail/taffraillaw20.LinePlays", spec := "linePlays", named := ["math/bits.deBruijn32tab"], apart := false, laid := [("math/bits.deBruijn32tab", laid_math_bits_deBruijn32tab)], narrowed := true }
def LinePlaysUptoSaid : Prop := linePlaysUptoRow.holds Tryd.pinned (OpenSpec.upto linePlaysSpec)

/-- 'taffraillaw20.LineOne', WHERE WHAT IT READS IS OF BULK AT MOST 1048576: true; the input reads as it did. -/
def lineOneUptoRow : OpenClaim := { program := "ytglnabgageeipaadoor", sum := "02bcc8450a18ce398c5d96e8ab02c624acef5ee01016dfd8996ac1391390b06b", func := "taffrail/taffraillaw20.LineOne", spec := "lineOne", named := ["math/bits.deBruijn32tab"], apart := false, laid := [("math/bits.deBruijn32tab", laid_math_bits_deBruijn32tab)], narrowed := true }
def LineOneUptoSaid : Prop := lineOneUptoRow.holds Tryd.pinned (OpenSpec.upto lineOneSpec)

/-- 'taffraillaw20.LineNil', WHERE WHAT IT READS IS OF BULK AT MOST 1048576: true; the input reads as it did. -/
def lineNilUptoRow : OpenClaim := { program := "ytglnabgageeipaadoor", sum := "02bcc8450a18ce398c5d96e8ab02c624acef5ee01016dfd8996ac1391390b06b", func := "taffrail/taffraillaw20.LineNil", spec := "lineNil", named := ["math/bits.deBruijn32tab"], apart := false, laid := [("math/bits.deBruijn32tab", laid_math_bits_deBruijn32tab)], narrowed := true }
def LineNilUptoSaid : Prop := lineNilUptoRow.holds Tryd.pinned (OpenSpec.upto lineNilSpec)

end Rows
end Go.Proofs.YtglnabgageeipaaDoor
