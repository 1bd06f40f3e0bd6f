/-
  No cell of these rows narrows 'for every input' (looked for: loops, veiled, ifaces, maps, wideKeys, modest, calm, conditions, laid).
  DERIVED. THE GIVEN ROWS OF THIS SEAT. 5 by the template 'for every input the law returns true; each argument reads behind the call as it read before'; 0 by the template 'total and deterministic' (their statements: YtkjacmnocbdghaaTotals.lean).
  GIVEN WITH THE SEED: the statements are not yours to turn. If you find one false, say at which input.
  Laid BY PROGRAM, IN A SANDBOX (cutbox-rows.mjs): the forced cells as the released guide's own fill.sh prints them over the translation d6a1388a1aec4462… (all of the seat's roots in one cut). By AI agents, Wed Nov 11 2026. No macro, syntax, notation, axiom, sorry.
-/
import Derived.Test.YtkjacmnocbdghaaChecked
import GoSem.Claim
import GoSem.ClaimJoined
import GoSem.ClaimMapViews
import Derived.JoinedTies
import Derived.KernelRfl
namespace Go.Proofs.Ytkjacmnocbdghaa
/- THE CELL 'sum', in the pinned program and in every row, IS THE sha256 OF THE DUMP (.gsa) THAT YtkjacmnocbdghaaProg.lean LOADS. Nothing in Lean hashes anything: it is a label: what it is worth is what the hold of that sum in a sandbox is worth. -/
noncomputable def Try.pinned : Pinned := { name := "ytkjacmnocbdghaa", sum := "d6a1388a1aec446228722595d92d83eb3d1a53eefb2954de1473d1ce36038303", checked := Try.checked }
namespace Rows
def none {H : Type} : Left H := { results := [], args := [] }

/-- 'taffraillaw13.CpuDoes': WHATEVER THE INPUT: true; the input reads as it did. -/
def cpuDoesSpec : ChangeSpec := { name := "cpuDoes", fn := fun _ => fun
  | [d1, d2] => { results := [.lit (.bool true)], args := [d1, d2] }
  | _ => none }
def cpuDoesRow : OpenClaim := { program := "ytkjacmnocbdghaa", sum := "d6a1388a1aec446228722595d92d83eb3d1a53eefb2954de1473d1ce36038303", func := "taffrail/taffraillaw13.CpuDoes", spec := "cpuDoes", apart := false }
def CpuDoesSaid : Prop := cpuDoesRow.holds Try.pinned (OpenSpec.ofChange cpuDoesSpec)

/-- ITS FALSE NEIGHBOUR: 'it returns false'. Refute it at one input. -/
def cpuDoesWrong : ChangeSpec := { name := "cpuDoes", fn := fun _ => fun
  | [d1, d2] => { results := [.lit (.bool false)], args := [d1, d2] }
  | _ => none }
def CpuDoesWrongFalsely : Prop := cpuDoesRow.holds Try.pinned (OpenSpec.ofChange cpuDoesWrong)

/-- 'taffraillaw13.CpuKeeps': WHATEVER THE INPUT: true; the input reads as it did. -/
def cpuKeepsSpec : ChangeSpec := { name := "cpuKeeps", fn := fun _ => fun
  | [d1, d2] => { results := [.lit (.bool true)], args := [d1, d2] }
  | _ => none }
def cpuKeepsRow : OpenClaim := { program := "ytkjacmnocbdghaa", sum := "d6a1388a1aec446228722595d92d83eb3d1a53eefb2954de1473d1ce36038303", func := "taffrail/taffraillaw13.CpuKeeps", spec := "cpuKeeps", apart := false }
def CpuKeepsSaid : Prop := cpuKeepsRow.holds Try.pinned (OpenSpec.ofChange cpuKeepsSpec)

/-- ITS FALSE NEIGHBOUR: 'it returns false'. Refute it at one input. -/
def cpuKeepsWrong : ChangeSpec := { name := "cpuKeeps", fn := fun _ => fun
  | [d1, d2] => { results := [.lit (.bool false)], args := [d1, d2] }
  | _ => none }
def CpuKeepsWrongFalsely : Prop := cpuKeepsRow.holds Try.pinned (OpenSpec.ofChange cpuKeepsWrong)

/-- 'taffraillaw13.CpuRuns': WHATEVER THE INPUT: true; the input reads as it did. -/
def cpuRunsSpec : ChangeSpec := { name := "cpuRuns", fn := fun _ => fun
  | [d1, d2, d3] => { results := [.lit (.bool true)], args := [d1, d2, d3] }
  | _ => none }
def cpuRunsRow : OpenClaim := { program := "ytkjacmnocbdghaa", sum := "d6a1388a1aec446228722595d92d83eb3d1a53eefb2954de1473d1ce36038303", func := "taffrail/taffraillaw13.CpuRuns", spec := "cpuRuns", apart := false }
def CpuRunsSaid : Prop := cpuRunsRow.holds Try.pinned (OpenSpec.ofChange cpuRunsSpec)

/-- ITS FALSE NEIGHBOUR: 'it returns false'. Refute it at one input. -/
def cpuRunsWrong : ChangeSpec := { name := "cpuRuns", fn := fun _ => fun
  | [d1, d2, d3] => { results := [.lit (.bool false)], args := [d1, d2, d3] }
  | _ => none }
def CpuRunsWrongFalsely : Prop := cpuRunsRow.holds Try.pinned (OpenSpec.ofChange cpuRunsWrong)

/-- 'taffraillaw13.CpuParts': WHATEVER THE INPUT: true; the input reads as it did. -/
def cpuPartsSpec : ChangeSpec := { name := "cpuParts", fn := fun _ => fun
  | [d1, d2, d3] => { results := [.lit (.bool true)], args := [d1, d2, d3] }
  | _ => none }
def cpuPartsRow : OpenClaim := { program := "ytkjacmnocbdghaa", sum := "d6a1388a1aec446228722595d92d83eb3d1a53eefb2954de1473d1ce36038303", func := "taffrail/taffraillaw13.CpuParts", spec := "cpuParts", apart := false }
def CpuPartsSaid : Prop := cpuPartsRow.holds Try.pinned (OpenSpec.ofChange cpuPartsSpec)

/-- ITS FALSE NEIGHBOUR: 'it returns false'. Refute it at one input. -/
def cpuPartsWrong : ChangeSpec := { name := "cpuParts", fn := fun _ => fun
  | [d1, d2, d3] => { results := [.lit (.bool false)], args := [d1, d2, d3] }
  | _ => none }
def CpuPartsWrongFalsely : Prop := cpuPartsRow.holds Try.pinned (OpenSpec.ofChange cpuPartsWrong)

/-- 'taffraillaw13.CpuNil': WHATEVER THE INPUT: true; the input reads as it did. -/
def cpuNilSpec : ChangeSpec := { name := "cpuNil", fn := fun _ => fun
  | [d1, d2] => { results := [.lit (.bool true)], args := [d1, d2] }
  | _ => none }
def cpuNilRow : OpenClaim := { program := "ytkjacmnocbdghaa", sum := "d6a1388a1aec446228722595d92d83eb3d1a53eefb2954de1473d1ce36038303", func := "taffrail/taffraillaw13.CpuNil", spec := "cpuNil", apart := false }
def CpuNilSaid : Prop := cpuNilRow.holds Try.pinned (OpenSpec.ofChange cpuNilSpec)

/-- ITS FALSE NEIGHBOUR: 'it returns false'. Refute it at one input. -/
def cpuNilWrong : ChangeSpec := { name := "cpuNil", fn := fun _ => fun
  | [d1, d2] => { results := [.lit (.bool false)], args := [d1, d2] }
  | _ => none }
def CpuNilWrongFalsely : Prop := cpuNilRow.holds Try.pinned (OpenSpec.ofChange cpuNilWrong)

/- THE SECOND FORM. 'bulk': how many values and letters a reading holds, each counted each time it is reached (what is shared counts as often as it is met; a slice's spare places count too). A statement '..UptoSaid' is the law's where the arguments, and the package variables that the reading takes, are together of bulk at most 1048576: NARROWER than '..Said'. Prove '..Said' where nothing that the law and all that it calls make is longer than what came in: it says more and counts as full. Else prove '..UptoSaid'. A law counts once. -/
mutual
def uptoBulk {H : Type} : DataW H → Nat
  | .lit (.string bytes) => bytes.length + 1
  | .lit _ => 1
  | .nil => 1
  | .ptr d => uptoBulk d + 1
  | .slice elems spare => uptoBulkAll elems + uptoBulkAll spare + 1
  | .agg parts => uptoBulkAll parts + 1
  | .iface _ d => uptoBulk d + 1
  | .map entries => uptoBulkEntries entries + 1
  | .held _ => 1
def uptoBulkAll {H : Type} : List (DataW H) → Nat
  | [] => 0
  | d :: r => uptoBulk d + uptoBulkAll r
def uptoBulkEntries {H : Type} : List (Lit × DataW H) → Nat
  | [] => 0
  | x :: r => uptoBulkEntry x + uptoBulkEntries r
def uptoBulkEntry {H : Type} : Lit × DataW H → Nat
  | (.string bytes, d) => bytes.length + uptoBulk d + 1
  | (_, d) => uptoBulk d + 1
 end
def uptoSmall : (H : Type) → List (DataW H) → Bool := fun _ ds => decide (uptoBulkAll ds ≤ 1048576)
def OpenSpec.upto (s : _root_.Go.ChangeSpec) : _root_.Go.OpenSpec := { _root_.Go.OpenSpec.ofChange s with cond := some uptoSmall }

/-- 'taffraillaw13.CpuDoes', WHERE WHAT IT READS IS OF BULK AT MOST 1048576: true; the input reads as it did. -/
def cpuDoesUptoRow : OpenClaim := { program := "ytkjacmnocbdghaa", sum := "d6a1388a1aec446228722595d92d83eb3d1a53eefb2954de1473d1ce36038303", func := "taffrail/taffraillaw13.CpuDoes", spec := "cpuDoes", apart := false, narrowed := true }
def CpuDoesUptoSaid : Prop := cpuDoesUptoRow.holds Try.pinned (OpenSpec.upto cpuDoesSpec)

/-- 'taffraillaw13.CpuKeeps', WHERE WHAT IT READS IS OF BULK AT MOST 1048576: true; the input reads as it did. -/
def cpuKeepsUptoRow : OpenClaim := { program := "ytkjacmnocbdghaa", sum := "d6a1388a1aec446228722595d92d83eb3d1a53eefb2954de1473d1ce36038303", func := "taffrail/taffraillaw13.CpuKeeps", spec := "cpuKeeps", apart := false, narrowed := true }
def CpuKeepsUptoSaid : Prop := cpuKeepsUptoRow.holds Try.pinned (OpenSpec.upto cpuKeepsSpec)

/-- 'taffraillaw13.CpuRuns', WHERE WHAT IT READS IS OF BULK AT MOST 1048576: true; the input reads as it did. -/
def cpuRunsUptoRow : OpenClaim := { program := "ytkjacmnocbdghaa", sum := "d6a1388a1aec446228722595d92d83eb3d1a53eefb2954de1473d1ce36038303", func := "taffrail/taffraillaw13.CpuRuns", spec := "cpuRuns", apart := false, narrowed := true }
def CpuRunsUptoSaid : Prop := cpuRunsUptoRow.holds Try.pinned (OpenSpec.upto cpuRunsSpec)

/-- 'taffraillaw13.CpuParts', WHERE WHAT IT READS IS OF BULK AT MOST 1048576: true; the input reads as it did. -/
def cpuPartsUptoRow : OpenClaim := { program := "ytkjacmnocbdghaa", sum := "d6a1388a1aec446228722595d92d83eb3d1a53eefb2954de1473d1ce36038303", func := "taffrail/taffraillaw13.CpuParts", spec := "cpuParts", apart := false, narrowed := true }
def CpuPartsUptoSaid : Prop := cpuPartsUptoRow.holds Try.pinned (OpenSpec.upto cpuPartsSpec)

/-- 'taffraillaw13.CpuNil', WHERE WHAT IT READS IS OF BULK AT MOST 1048576: true; the input reads as it did. -/
def cpuNilUptoRow : OpenClaim := { program := "ytkjacmnocbdghaa", sum := "d6a1388a1aec446228722595d92d83eb3d1a53eefb2954de1473d1ce36038303", func := "taffrail/taffraillaw13.CpuNil", spec := "cpuNil", apart := false, narrowed := true }
def CpuNilUptoSaid : Prop := cpuNilUptoRow.holds Try.pinned (OpenSpec.upto cpuNilSpec)

end Rows
end Go.Proofs.Ytkjacmnocbdghaa
