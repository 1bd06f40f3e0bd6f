/-
  No cell of these rows narrows 'for every input' (looked for: loops, veiled, ifaces, maps, wideKeys, modest, calm, conditions, laid).
  DERIVED. THE GIVEN ROWS OF THIS SEAT. 5 by the template 'for every input the law returns true; each argument reads behind the call as it read before'; 0 by the template 'total and deterministic' (their statements: YtfgbfdhpllcjhaaTotals.lean).
  GIVEN WITH THE SEED: the statements are not yours to turn. If you find one false, say at which input.
  Laid BY PROGRAM, IN A SANDBOX (cutbox-rows.mjs): the forced cells as the released guide's own fill.sh prints them over the translation 2739c088f48b1e9b… (all of the seat's roots in one cut). By AI agents, Wed Nov 11 2026. No macro, syntax, notation, axiom, sorry.
-/
import Derived.Test.YtfgbfdhpllcjhaaChecked
import GoSem.Claim
import GoSem.ClaimJoined
import GoSem.ClaimMapViews
import Derived.JoinedTies
import Derived.KernelRfl
namespace Go.Proofs.Ytfgbfdhpllcjhaa
/- THE CELL 'sum', in the pinned program and in every row, IS THE sha256 OF THE DUMP (.gsa) THAT YtfgbfdhpllcjhaaProg.lean LOADS. Nothing in Lean hashes anything: it is a label: what it is worth is what the hold of that sum in a sandbox is worth. -/
noncomputable def Try.pinned : Pinned := { name := "ytfgbfdhpllcjhaa", sum := "2739c088f48b1e9b30253f0ae2761f5dfcb7f1c38720440b447ca525343a866f", checked := Try.checked }
namespace Rows
def none {H : Type} : Left H := { results := [], args := [] }

/-- 'taffraillaw10.IsaForms': WHATEVER THE INPUT: true; the input reads as it did. -/
def isaFormsSpec : ChangeSpec := { name := "isaForms", fn := fun _ => fun
  | [d] => { results := [.lit (.bool true)], args := [d] }
  | _ => none }
def isaFormsRow : OpenClaim := { program := "ytfgbfdhpllcjhaa", sum := "2739c088f48b1e9b30253f0ae2761f5dfcb7f1c38720440b447ca525343a866f", func := "taffrail/taffraillaw10.IsaForms", spec := "isaForms", apart := false }
def IsaFormsSaid : Prop := isaFormsRow.holds Try.pinned (OpenSpec.ofChange isaFormsSpec)

/-- ITS FALSE NEIGHBOUR: 'it returns false'. Refute it at one input. -/
def isaFormsWrong : ChangeSpec := { name := "isaForms", fn := fun _ => fun
  | [d] => { results := [.lit (.bool false)], args := [d] }
  | _ => none }
def IsaFormsWrongFalsely : Prop := isaFormsRow.holds Try.pinned (OpenSpec.ofChange isaFormsWrong)

/-- 'taffraillaw10.IsaChecks': WHATEVER THE INPUT: true; the input reads as it did. -/
def isaChecksSpec : ChangeSpec := { name := "isaChecks", fn := fun _ => fun
  | [d1, d2, d3] => { results := [.lit (.bool true)], args := [d1, d2, d3] }
  | _ => none }
def isaChecksRow : OpenClaim := { program := "ytfgbfdhpllcjhaa", sum := "2739c088f48b1e9b30253f0ae2761f5dfcb7f1c38720440b447ca525343a866f", func := "taffrail/taffraillaw10.IsaChecks", spec := "isaChecks", apart := false }
def IsaChecksSaid : Prop := isaChecksRow.holds Try.pinned (OpenSpec.ofChange isaChecksSpec)

/-- ITS FALSE NEIGHBOUR: 'it returns false'. Refute it at one input. -/
def isaChecksWrong : ChangeSpec := { name := "isaChecks", fn := fun _ => fun
  | [d1, d2, d3] => { results := [.lit (.bool false)], args := [d1, d2, d3] }
  | _ => none }
def IsaChecksWrongFalsely : Prop := isaChecksRow.holds Try.pinned (OpenSpec.ofChange isaChecksWrong)

/-- 'taffraillaw10.IsaUses': WHATEVER THE INPUT: true; the input reads as it did. -/
def isaUsesSpec : ChangeSpec := { name := "isaUses", fn := fun _ => fun
  | [d1, d2] => { results := [.lit (.bool true)], args := [d1, d2] }
  | _ => none }
def isaUsesRow : OpenClaim := { program := "ytfgbfdhpllcjhaa", sum := "2739c088f48b1e9b30253f0ae2761f5dfcb7f1c38720440b447ca525343a866f", func := "taffrail/taffraillaw10.IsaUses", spec := "isaUses", apart := false }
def IsaUsesSaid : Prop := isaUsesRow.holds Try.pinned (OpenSpec.ofChange isaUsesSpec)

/-- ITS FALSE NEIGHBOUR: 'it returns false'. Refute it at one input. -/
def isaUsesWrong : ChangeSpec := { name := "isaUses", fn := fun _ => fun
  | [d1, d2] => { results := [.lit (.bool false)], args := [d1, d2] }
  | _ => none }
def IsaUsesWrongFalsely : Prop := isaUsesRow.holds Try.pinned (OpenSpec.ofChange isaUsesWrong)

/-- 'taffraillaw10.IsaNames': WHATEVER THE INPUT: true; the input reads as it did. -/
def isaNamesSpec : ChangeSpec := { name := "isaNames", fn := fun _ => fun
  | [d1, d2] => { results := [.lit (.bool true)], args := [d1, d2] }
  | _ => none }
def isaNamesRow : OpenClaim := { program := "ytfgbfdhpllcjhaa", sum := "2739c088f48b1e9b30253f0ae2761f5dfcb7f1c38720440b447ca525343a866f", func := "taffrail/taffraillaw10.IsaNames", spec := "isaNames", apart := false }
def IsaNamesSaid : Prop := isaNamesRow.holds Try.pinned (OpenSpec.ofChange isaNamesSpec)

/-- ITS FALSE NEIGHBOUR: 'it returns false'. Refute it at one input. -/
def isaNamesWrong : ChangeSpec := { name := "isaNames", fn := fun _ => fun
  | [d1, d2] => { results := [.lit (.bool false)], args := [d1, d2] }
  | _ => none }
def IsaNamesWrongFalsely : Prop := isaNamesRow.holds Try.pinned (OpenSpec.ofChange isaNamesWrong)

/-- 'taffraillaw10.IsaWays': WHATEVER THE INPUT: true; the input reads as it did. -/
def isaWaysSpec : ChangeSpec := { name := "isaWays", fn := fun _ => fun
  | [d1, d2, d3] => { results := [.lit (.bool true)], args := [d1, d2, d3] }
  | _ => none }
def isaWaysRow : OpenClaim := { program := "ytfgbfdhpllcjhaa", sum := "2739c088f48b1e9b30253f0ae2761f5dfcb7f1c38720440b447ca525343a866f", func := "taffrail/taffraillaw10.IsaWays", spec := "isaWays", apart := false }
def IsaWaysSaid : Prop := isaWaysRow.holds Try.pinned (OpenSpec.ofChange isaWaysSpec)

/-- ITS FALSE NEIGHBOUR: 'it returns false'. Refute it at one input. -/
def isaWaysWrong : ChangeSpec := { name := "isaWays", fn := fun _ => fun
  | [d1, d2, d3] => { results := [.lit (.bool false)], args := [d1, d2, d3] }
  | _ => none }
def IsaWaysWrongFalsely : Prop := isaWaysRow.holds Try.pinned (OpenSpec.ofChange isaWaysWrong)

/- THE SECOND FORM. 'bulk': how many values and letters a reading holds, each counted each time it is reached (what is shared counts as often as it is met; a slice's spare places count too). A statement '..UptoSaid' is the law's where the arguments, and the package variables that the reading takes, are together of bulk at most 1048576: NARROWER than '..Said'. Prove '..Said' where nothing that the law and all that it calls make is longer than what came in: it says more and counts as full. Else prove '..UptoSaid'. A law counts once. -/
mutual
def uptoBulk {H : Type} : DataW H → Nat
  | .lit (.string bytes) => bytes.length + 1
  | .lit _ => 1
  | .nil => 1
  | .ptr d => uptoBulk d + 1
  | .slice elems spare => uptoBulkAll elems + uptoBulkAll spare + 1
  | .agg parts => uptoBulkAll parts + 1
  | .iface _ d => uptoBulk d + 1
  | .map entries => uptoBulkEntries entries + 1
  | .held _ => 1
def uptoBulkAll {H : Type} : List (DataW H) → Nat
  | [] => 0
  | d :: r => uptoBulk d + uptoBulkAll r
def uptoBulkEntries {H : Type} : List (Lit × DataW H) → Nat
  | [] => 0
  | x :: r => uptoBulkEntry x + uptoBulkEntries r
def uptoBulkEntry {H : Type} : Lit × DataW H → Nat
  | (.string bytes, d) => bytes.length + uptoBulk d + 1
  | (_, d) => uptoBulk d + 1
 end
def uptoSmall : (H : Type) → List (DataW H) → Bool := fun _ ds => decide (uptoBulkAll ds ≤ 1048576)
def OpenSpec.upto (s : _root_.Go.ChangeSpec) : _root_.Go.OpenSpec := { _root_.Go.OpenSpec.ofChange s with cond := some uptoSmall }

/-- 'taffraillaw10.IsaForms', WHERE WHAT IT READS IS OF BULK AT MOST 1048576: true; the input reads as it did. -/
def isaFormsUptoRow : OpenClaim := { program := "ytfgbfdhpllcjhaa", sum := "2739c088f48b1e9b30253f0ae2761f5dfcb7f1c38720440b447ca525343a866f", func := "taffrail/taffraillaw10.IsaForms", spec := "isaForms", apart := false, narrowed := true }
def IsaFormsUptoSaid : Prop := isaFormsUptoRow.holds Try.pinned (OpenSpec.upto isaFormsSpec)

/-- 'taffraillaw10.IsaChecks', WHERE WHAT IT READS IS OF BULK AT MOST 1048576: true; the input reads as it did. -/
def isaChecksUptoRow : OpenClaim := { program := "ytfgbfdhpllcjhaa", sum := "2739c088f48b1e9b30253f0ae2761f5dfcb7f1c38720440b447ca525343a866f", func := "taffrail/taffraillaw10.IsaChecks", spec := "isaChecks", apart := false, narrowed := true }
def IsaChecksUptoSaid : Prop := isaChecksUptoRow.holds Try.pinned (OpenSpec.upto isaChecksSpec)

/-- 'taffraillaw10.IsaUses', WHERE WHAT IT READS IS OF BULK AT MOST 1048576: true; the input reads as it did. -/
def isaUsesUptoRow : OpenClaim := { program := "ytfgbfdhpllcjhaa", sum := "2739c088f48b1e9b30253f0ae2761f5dfcb7f1c38720440b447ca525343a866f", func := "taffrail/taffraillaw10.IsaUses", spec := "isaUses", apart := false, narrowed := true }
def IsaUsesUptoSaid : Prop := isaUsesUptoRow.holds Try.pinned (OpenSpec.upto isaUsesSpec)

/-- 'taffraillaw10.IsaNames', WHERE WHAT IT READS IS OF BULK AT MOST 1048576: true; the input reads as it did. -/
def isaNamesUptoRow : OpenClaim := { program := "ytfgbfdhpllcjhaa", sum := "2739c088f48b1e9b30253f0ae2761f5dfcb7f1c38720440b447ca525343a866f", func := "taffrail/taffraillaw10.IsaNames", spec := "isaNames", apart := false, narrowed := true }
def IsaNamesUptoSaid : Prop := isaNamesUptoRow.holds Try.pinned (OpenSpec.upto isaNamesSpec)

/-- 'taffraillaw10.IsaWays', WHERE WHAT IT READS IS OF BULK AT MOST 1048576: true; the input reads as it did. -/
def isaWaysUptoRow : OpenClaim := { program := "ytfgbfdhpllcjhaa", sum := "2739c088f48b1e9b30253f0ae2761f5dfcb7f1c38720440b447ca525343a866f", func := "taffrail/taffraillaw10.IsaWays", spec := "isaWays", apart := false, narrowed := true }
def IsaWaysUptoSaid : Prop := isaWaysUptoRow.holds Try.pinned (OpenSpec.upto isaWaysSpec)

end Rows
end Go.Proofs.Ytfgbfdhpllcjhaa
