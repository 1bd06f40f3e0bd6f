/-
  No cell of these rows narrows 'for every input' (looked for: loops, veiled, ifaces, maps, wideKeys, modest, calm, conditions, laid).
  DERIVED. THE GIVEN ROWS OF THIS SEAT. 6 by the template 'for every input the law returns true; each argument reads behind the call as it read before'; 0 by the template 'total and deterministic' (their statements: YtpemmjaengbogaaTotals.lean).
  GIVEN WITH THE SEED: the statements are not yours to turn. If you find one false, say at which input.
  Laid BY PROGRAM, IN A SANDBOX (cutbox-rows.mjs): the forced cells as the released guide's own fill.sh prints them over the translation 35aa36372b6c63b7… (all of the seat's roots in one cut). By AI agents, Wed Nov 11 2026. No macro, syntax, notation, axiom, sorry.
-/
import Derived.Test.YtpemmjaengbogaaChecked
import GoSem.Claim
import GoSem.ClaimJoined
import GoSem.ClaimMapViews
import Derived.JoinedTies
import Derived.KernelRfl
namespace Go.Proofs.Ytpemmjaengbogaa
/- THE CELL 'sum', in the pinned program and in every row, IS THE sha256 OF THE DUMP (.gsa) THAT YtpemmjaengbogaaProg.lean LOADS. Nothing in Lean hashes anything: it is a label: what it is worth is what the hold of that sum in a sandbox is worth. -/
noncomputable def Try.pinned : Pinned := { name := "ytpemmjaengbogaa", sum := "35aa36372b6c63b789854c5e82b6a18d9e2ef586cec2388baf23e8731cbbf9ae", checked := Try.checked }
namespace Rows
def none {H : Type} : Left H := { results := [], args := [] }

/-- 'taffraillaw27.HistParts': WHATEVER THE INPUT: true; the input reads as it did. -/
def histPartsSpec : ChangeSpec := { name := "histParts", fn := fun _ => fun
  | [d1, d2, d3] => { results := [.lit (.bool true)], args := [d1, d2, d3] }
  | _ => none }
def histPartsRow : OpenClaim := { program := "ytpemmjaengbogaa", sum := "35aa36372b6c63b789854c5e82b6a18d9e2ef586cec2388baf23e8731cbbf9ae", func := "taffrail/taffraillaw27.HistParts", spec := "histParts", inPlace := ["math/bits.Add64"], apart := false }
def HistPartsSaid : Prop := histPartsRow.holds Try.pinned (OpenSpec.ofChange histPartsSpec)

/-- ITS FALSE NEIGHBOUR: 'it returns false'. Refute it at one input. -/
def histPartsWrong : ChangeSpec := { name := "histParts", fn := fun _ => fun
  | [d1, d2, d3] => { results := [.lit (.bool false)], args := [d1, d2, d3] }
  | _ => none }
def HistPartsWrongFalsely : Prop := histPartsRow.holds Try.pinned (OpenSpec.ofChange histPartsWrong)

/-- 'taffraillaw27.HistCounts': WHATEVER THE INPUT: true; the input reads as it did. -/
def histCountsSpec : ChangeSpec := { name := "histCounts", fn := fun _ => fun
  | [d1, d2, d3] => { results := [.lit (.bool true)], args := [d1, d2, d3] }
  | _ => none }
def histCountsRow : OpenClaim := { program := "ytpemmjaengbogaa", sum := "35aa36372b6c63b789854c5e82b6a18d9e2ef586cec2388baf23e8731cbbf9ae", func := "taffrail/taffraillaw27.HistCounts", spec := "histCounts", inPlace := ["math/bits.Add64"], apart := false }
def HistCountsSaid : Prop := histCountsRow.holds Try.pinned (OpenSpec.ofChange histCountsSpec)

/-- ITS FALSE NEIGHBOUR: 'it returns false'. Refute it at one input. -/
def histCountsWrong : ChangeSpec := { name := "histCounts", fn := fun _ => fun
  | [d1, d2, d3] => { results := [.lit (.bool false)], args := [d1, d2, d3] }
  | _ => none }
def HistCountsWrongFalsely : Prop := histCountsRow.holds Try.pinned (OpenSpec.ofChange histCountsWrong)

/-- 'taffraillaw27.HistWide': WHATEVER THE INPUT: true; the input reads as it did. -/
def histWideSpec : ChangeSpec := { name := "histWide", fn := fun _ => fun
  | [d1, d2, d3] => { results := [.lit (.bool true)], args := [d1, d2, d3] }
  | _ => none }
def histWideRow : OpenClaim := { program := "ytpemmjaengbogaa", sum := "35aa36372b6c63b789854c5e82b6a18d9e2ef586cec2388baf23e8731cbbf9ae", func := "taffrail/taffraillaw27.HistWide", spec := "histWide", inPlace := ["math/bits.Add64"], apart := false }
def HistWideSaid : Prop := histWideRow.holds Try.pinned (OpenSpec.ofChange histWideSpec)

/-- ITS FALSE NEIGHBOUR: 'it returns false'. Refute it at one input. -/
def histWideWrong : ChangeSpec := { name := "histWide", fn := fun _ => fun
  | [d1, d2, d3] => { results := [.lit (.bool false)], args := [d1, d2, d3] }
  | _ => none }
def HistWideWrongFalsely : Prop := histWideRow.holds Try.pinned (OpenSpec.ofChange histWideWrong)

/-- 'taffraillaw27.HistOrder': WHATEVER THE INPUT: true; the input reads as it did. -/
def histOrderSpec : ChangeSpec := { name := "histOrder", fn := fun _ => fun
  | [d1, d2, d3] => { results := [.lit (.bool true)], args := [d1, d2, d3] }
  | _ => none }
def histOrderRow : OpenClaim := { program := "ytpemmjaengbogaa", sum := "35aa36372b6c63b789854c5e82b6a18d9e2ef586cec2388baf23e8731cbbf9ae", func := "taffrail/taffraillaw27.HistOrder", spec := "histOrder", inPlace := ["math/bits.Add64"], apart := false }
def HistOrderSaid : Prop := histOrderRow.holds Try.pinned (OpenSpec.ofChange histOrderSpec)

/-- ITS FALSE NEIGHBOUR: 'it returns false'. Refute it at one input. -/
def histOrderWrong : ChangeSpec := { name := "histOrder", fn := fun _ => fun
  | [d1, d2, d3] => { results := [.lit (.bool false)], args := [d1, d2, d3] }
  | _ => none }
def HistOrderWrongFalsely : Prop := histOrderRow.holds Try.pinned (OpenSpec.ofChange histOrderWrong)

/-- 'taffraillaw27.HistMerges': WHATEVER THE INPUT: true; the input reads as it did. -/
def histMergesSpec : ChangeSpec := { name := "histMerges", fn := fun _ => fun
  | [d1, d2, d3] => { results := [.lit (.bool true)], args := [d1, d2, d3] }
  | _ => none }
def histMergesRow : OpenClaim := { program := "ytpemmjaengbogaa", sum := "35aa36372b6c63b789854c5e82b6a18d9e2ef586cec2388baf23e8731cbbf9ae", func := "taffrail/taffraillaw27.HistMerges", spec := "histMerges", inPlace := ["math/bits.Add64"], apart := false }
def HistMergesSaid : Prop := histMergesRow.holds Try.pinned (OpenSpec.ofChange histMergesSpec)

/-- ITS FALSE NEIGHBOUR: 'it returns false'. Refute it at one input. -/
def histMergesWrong : ChangeSpec := { name := "histMerges", fn := fun _ => fun
  | [d1, d2, d3] => { results := [.lit (.bool false)], args := [d1, d2, d3] }
  | _ => none }
def HistMergesWrongFalsely : Prop := histMergesRow.holds Try.pinned (OpenSpec.ofChange histMergesWrong)

/-- 'taffraillaw27.HistNil': WHATEVER THE INPUT: true; the input reads as it did. -/
def histNilSpec : ChangeSpec := { name := "histNil", fn := fun _ => fun
  | [d] => { results := [.lit (.bool true)], args := [d] }
  | _ => none }
def histNilRow : OpenClaim := { program := "ytpemmjaengbogaa", sum := "35aa36372b6c63b789854c5e82b6a18d9e2ef586cec2388baf23e8731cbbf9ae", func := "taffrail/taffraillaw27.HistNil", spec := "histNil", inPlace := ["math/bits.Add64"], apart := false }
def HistNilSaid : Prop := histNilRow.holds Try.pinned (OpenSpec.ofChange histNilSpec)

/-- ITS FALSE NEIGHBOUR: 'it returns false'. Refute it at one input. -/
def histNilWrong : ChangeSpec := { name := "histNil", fn := fun _ => fun
  | [d] => { results := [.lit (.bool false)], args := [d] }
  | _ => none }
def HistNilWrongFalsely : Prop := histNilRow.holds Try.pinned (OpenSpec.ofChange histNilWrong)

/- THE SECOND FORM. 'bulk': how many values and letters a reading holds, each counted each time it is reached (what is shared counts as often as it is met; a slice's spare places count too). A statement '..UptoSaid' is the law's where the arguments, and the package variables that the reading takes, are together of bulk at most 1048576: NARROWER than '..Said'. Prove '..Said' where nothing that the law and all that it calls make is longer than what came in: it says more and counts as full. Else prove '..UptoSaid'. A law counts once. -/
mutual
def uptoBulk {H : Type} : DataW H → Nat
  | .lit (.string bytes) => bytes.length + 1
  | .lit _ => 1
  | .nil => 1
  | .ptr d => uptoBulk d + 1
  | .slice elems spare => uptoBulkAll elems + uptoBulkAll spare + 1
  | .agg parts => uptoBulkAll parts + 1
  | .iface _ d => uptoBulk d + 1
  | .map entries => uptoBulkEntries entries + 1
  | .held _ => 1
def uptoBulkAll {H : Type} : List (DataW H) → Nat
  | [] => 0
  | d :: r => uptoBulk d + uptoBulkAll r
def uptoBulkEntries {H : Type} : List (Lit × DataW H) → Nat
  | [] => 0
  | x :: r => uptoBulkEntry x + uptoBulkEntries r
def uptoBulkEntry {H : Type} : Lit × DataW H → Nat
  | (.string bytes, d) => bytes.length + uptoBulk d + 1
  | (_, d) => uptoBulk d + 1
 end
def uptoSmall : (H : Type) → List (DataW H) → Bool := fun _ ds => decide (uptoBulkAll ds ≤ 1048576)
def OpenSpec.upto (s : _root_.Go.ChangeSpec) : _root_.Go.OpenSpec := { _root_.Go.OpenSpec.ofChange s with cond := some uptoSmall }

/-- 'taffraillaw27.HistParts', WHERE WHAT IT READS IS OF BULK AT MOST 1048576: true; the input reads as it did. -/
def histPartsUptoRow : OpenClaim := { program := "ytpemmjaengbogaa", sum := "35aa36372b6c63b789854c5e82b6a18d9e2ef586cec2388baf23e8731cbbf9ae", func := "taffrail/taffraillaw27.HistParts", spec := "histParts", inPlace := ["math/bits.Add64"], apart := false, narrowed := true }
def HistPartsUptoSaid : Prop := histPartsUptoRow.holds Try.pinned (OpenSpec.upto histPartsSpec)

/-- 'taffraillaw27.HistCounts', WHERE WHAT IT READS IS OF BULK AT MOST 1048576: true; the input reads as it did. -/
def histCountsUptoRow : OpenClaim := { program := "ytpemmjaengbogaa", sum := "35aa36372b6c63b789854c5e82b6a18d9e2ef586cec2388baf23e8731cbbf9ae", func := "taffrail/taffraillaw27.HistCounts", spec := "histCounts", inPlace := ["math/bits.Add64"], apart := false, narrowed := true }
def HistCountsUptoSaid : Prop := histCountsUptoRow.holds Try.pinned (OpenSpec.upto histCountsSpec)

/-- 'taffraillaw27.HistWide', WHERE WHAT IT READS IS OF BULK AT MOST 1048576: true; the input reads as it did. -/
def histWideUptoRow : OpenClaim := { program := "ytpemmjaengbogaa", sum := "35aa36372b6c63b789854c5e82b6a18d9e2ef586cec2388baf23e8731cbbf9ae", func := "taffrail/taffraillaw27.HistWide", spec := "histWide", inPlace := ["math/bits.Add64"], apart := false, narrowed := true }
def HistWideUptoSaid : Prop := histWideUptoRow.holds Try.pinned (OpenSpec.upto histWideSpec)

/-- 'taffraillaw27.HistOrder', WHERE WHAT IT READS IS OF BULK AT MOST 1048576: true; the input reads as it did. -/
def histOrderUptoRow : OpenClaim := { program := "ytpemmjaengbogaa", sum := "35aa36372b6c63b789854c5e82b6a18d9e2ef586cec2388baf23e8731cbbf9ae", func := "taffrail/taffraillaw27.HistOrder", spec := "histOrder", inPlace := ["math/bits.Add64"], apart := false, narrowed := true }
def HistOrderUptoSaid : Prop := histOrderUptoRow.holds Try.pinned (OpenSpec.upto histOrderSpec)

/-- 'taffraillaw27.HistMerges', WHERE WHAT IT READS IS OF BULK AT MOST 1048576: true; the input reads as it did. -/
def histMergesUptoRow : OpenClaim := { program := "ytpemmjaengbogaa", sum := "35aa36372b6c63b789854c5e82b6a18d9e2ef586cec2388baf23e8731cbbf9ae", func := "taffrail/taffraillaw27.HistMerges", spec := "histMerges", inPlace := ["math/bits.Add64"], apart := false, narrowed := true }
def HistMergesUptoSaid : Prop := histMergesUptoRow.holds Try.pinned (OpenSpec.upto histMergesSpec)

/-- 'taffraillaw27.HistNil', WHERE WHAT IT READS IS OF BULK AT MOST 1048576: true; the input reads as it did. -/
def histNilUptoRow : OpenClaim := { program := "ytpemmjaengbogaa", sum := "35aa36372b6c63b789854c5e82b6a18d9e2ef586cec2388baf23e8731cbbf9ae", func := "taffrail/taffraillaw27.HistNil", spec := "histNil", inPlace := ["math/bits.Add64"], apart := false, narrowed := true }
def HistNilUptoSaid : Prop := histNilUptoRow.holds Try.pinned (OpenSpec.upto histNilSpec)

end Rows
end Go.Proofs.Ytpemmjaengbogaa
