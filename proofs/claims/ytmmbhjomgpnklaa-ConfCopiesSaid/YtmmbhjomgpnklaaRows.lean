/-
  No cell of these rows narrows 'for every input' (looked for: loops, veiled, ifaces, maps, wideKeys, modest, calm, conditions, laid).
  DERIVED. THE GIVEN ROWS OF THIS SEAT. 5 by the template 'for every input the law returns true; each argument reads behind the call as it read before'; 0 by the template 'total and deterministic' (their statements: YtmmbhjomgpnklaaTotals.lean).
  GIVEN WITH THE SEED: the statements are not yours to turn. If you find one false, say at which input.
  Laid BY PROGRAM, IN A SANDBOX (cutbox-rows.mjs): the forced cells as the released guide's own fill.sh prints them over the translation e1e1f225316fa22d… (all of the seat's roots in one cut). By AI agents, Wed Nov 11 2026. No macro, syntax, notation, axiom, sorry.
-/
import Derived.Test.YtmmbhjomgpnklaaChecked
import GoSem.Claim
import GoSem.ClaimJoined
import GoSem.ClaimMapViews
import Derived.JoinedTies
import Derived.KernelRfl
namespace Go.Proofs.Ytmmbhjomgpnklaa
/- THE CELL 'sum', in the pinned program and in every row, IS THE sha256 OF THE DUMP (.gsa) THAT YtmmbhjomgpnklaaProg.lean LOADS. Nothing in Lean hashes anything: it is a label: what it is worth is what the hold of that sum in a sandbox is worth. -/
noncomputable def Try.pinned : Pinned := { name := "ytmmbhjomgpnklaa", sum := "e1e1f225316fa22da67e4675e43f8451f7ad4c690422e1eaf29b10ae8c033da0", checked := Try.checked }
namespace Rows
def none {H : Type} : Left H := { results := [], args := [] }

/-- 'taffraillaw12.ConfTells': WHATEVER THE INPUT: true; the input reads as it did. -/
def confTellsSpec : ChangeSpec := { name := "confTells", fn := fun _ => fun
  | [d] => { results := [.lit (.bool true)], args := [d] }
  | _ => none }
def confTellsRow : OpenClaim := { program := "ytmmbhjomgpnklaa", sum := "e1e1f225316fa22da67e4675e43f8451f7ad4c690422e1eaf29b10ae8c033da0", func := "taffrail/taffraillaw12.ConfTells", spec := "confTells", apart := false }
def ConfTellsSaid : Prop := confTellsRow.holds Try.pinned (OpenSpec.ofChange confTellsSpec)

/-- ITS FALSE NEIGHBOUR: 'it returns false'. Refute it at one input. -/
def confTellsWrong : ChangeSpec := { name := "confTells", fn := fun _ => fun
  | [d] => { results := [.lit (.bool false)], args := [d] }
  | _ => none }
def ConfTellsWrongFalsely : Prop := confTellsRow.holds Try.pinned (OpenSpec.ofChange confTellsWrong)

/-- 'taffraillaw12.ConfCopies': WHATEVER THE INPUT: true; the input reads as it did. -/
def confCopiesSpec : ChangeSpec := { name := "confCopies", fn := fun _ => fun
  | [d1, d2, d3] => { results := [.lit (.bool true)], args := [d1, d2, d3] }
  | _ => none }
def confCopiesRow : OpenClaim := { program := "ytmmbhjomgpnklaa", sum := "e1e1f225316fa22da67e4675e43f8451f7ad4c690422e1eaf29b10ae8c033da0", func := "taffrail/taffraillaw12.ConfCopies", spec := "confCopies", apart := false }
def ConfCopiesSaid : Prop := confCopiesRow.holds Try.pinned (OpenSpec.ofChange confCopiesSpec)

/-- ITS FALSE NEIGHBOUR: 'it returns false'. Refute it at one input. -/
def confCopiesWrong : ChangeSpec := { name := "confCopies", fn := fun _ => fun
  | [d1, d2, d3] => { results := [.lit (.bool false)], args := [d1, d2, d3] }
  | _ => none }
def ConfCopiesWrongFalsely : Prop := confCopiesRow.holds Try.pinned (OpenSpec.ofChange confCopiesWrong)

/-- 'taffraillaw12.ConfSame': WHATEVER THE INPUT: true; the input reads as it did. -/
def confSameSpec : ChangeSpec := { name := "confSame", fn := fun _ => fun
  | [d1, d2] => { results := [.lit (.bool true)], args := [d1, d2] }
  | _ => none }
def confSameRow : OpenClaim := { program := "ytmmbhjomgpnklaa", sum := "e1e1f225316fa22da67e4675e43f8451f7ad4c690422e1eaf29b10ae8c033da0", func := "taffrail/taffraillaw12.ConfSame", spec := "confSame", apart := false }
def ConfSameSaid : Prop := confSameRow.holds Try.pinned (OpenSpec.ofChange confSameSpec)

/-- ITS FALSE NEIGHBOUR: 'it returns false'. Refute it at one input. -/
def confSameWrong : ChangeSpec := { name := "confSame", fn := fun _ => fun
  | [d1, d2] => { results := [.lit (.bool false)], args := [d1, d2] }
  | _ => none }
def ConfSameWrongFalsely : Prop := confSameRow.holds Try.pinned (OpenSpec.ofChange confSameWrong)

/-- 'taffraillaw12.ConfFewer': WHATEVER THE INPUT: true; the input reads as it did. -/
def confFewerSpec : ChangeSpec := { name := "confFewer", fn := fun _ => fun
  | [d] => { results := [.lit (.bool true)], args := [d] }
  | _ => none }
def confFewerRow : OpenClaim := { program := "ytmmbhjomgpnklaa", sum := "e1e1f225316fa22da67e4675e43f8451f7ad4c690422e1eaf29b10ae8c033da0", func := "taffrail/taffraillaw12.ConfFewer", spec := "confFewer", apart := false }
def ConfFewerSaid : Prop := confFewerRow.holds Try.pinned (OpenSpec.ofChange confFewerSpec)

/-- ITS FALSE NEIGHBOUR: 'it returns false'. Refute it at one input. -/
def confFewerWrong : ChangeSpec := { name := "confFewer", fn := fun _ => fun
  | [d] => { results := [.lit (.bool false)], args := [d] }
  | _ => none }
def ConfFewerWrongFalsely : Prop := confFewerRow.holds Try.pinned (OpenSpec.ofChange confFewerWrong)

/-- 'taffraillaw12.ConfFirst': WHATEVER THE INPUT: true; the input reads as it did. -/
def confFirstSpec : ChangeSpec := { name := "confFirst", fn := fun _ => fun
  | [d] => { results := [.lit (.bool true)], args := [d] }
  | _ => none }
def confFirstRow : OpenClaim := { program := "ytmmbhjomgpnklaa", sum := "e1e1f225316fa22da67e4675e43f8451f7ad4c690422e1eaf29b10ae8c033da0", func := "taffrail/taffraillaw12.ConfFirst", spec := "confFirst", apart := false }
def ConfFirstSaid : Prop := confFirstRow.holds Try.pinned (OpenSpec.ofChange confFirstSpec)

/-- ITS FALSE NEIGHBOUR: 'it returns false'. Refute it at one input. -/
def confFirstWrong : ChangeSpec := { name := "confFirst", fn := fun _ => fun
  | [d] => { results := [.lit (.bool false)], args := [d] }
  | _ => none }
def ConfFirstWrongFalsely : Prop := confFirstRow.holds Try.pinned (OpenSpec.ofChange confFirstWrong)

/- THE SECOND FORM. 'bulk': how many values and letters a reading holds, each counted each time it is reached (what is shared counts as often as it is met; a slice's spare places count too). A statement '..UptoSaid' is the law's where the arguments, and the package variables that the reading takes, are together of bulk at most 1048576: NARROWER than '..Said'. Prove '..Said' where nothing that the law and all that it calls make is longer than what came in: it says more and counts as full. Else prove '..UptoSaid'. A law counts once. -/
mutual
def uptoBulk {H : Type} : DataW H → Nat
  | .lit (.string bytes) => bytes.length + 1
  | .lit _ => 1
  | .nil => 1
  | .ptr d => uptoBulk d + 1
  | .slice elems spare => uptoBulkAll elems + uptoBulkAll spare + 1
  | .agg parts => uptoBulkAll parts + 1
  | .iface _ d => uptoBulk d + 1
  | .map entries => uptoBulkEntries entries + 1
  | .held _ => 1
def uptoBulkAll {H : Type} : List (DataW H) → Nat
  | [] => 0
  | d :: r => uptoBulk d + uptoBulkAll r
def uptoBulkEntries {H : Type} : List (Lit × DataW H) → Nat
  | [] => 0
  | x :: r => uptoBulkEntry x + uptoBulkEntries r
def uptoBulkEntry {H : Type} : Lit × DataW H → Nat
  | (.string bytes, d) => bytes.length + uptoBulk d + 1
  | (_, d) => uptoBulk d + 1
 end
def uptoSmall : (H : Type) → List (DataW H) → Bool := fun _ ds => decide (uptoBulkAll ds ≤ 1048576)
def OpenSpec.upto (s : _root_.Go.ChangeSpec) : _root_.Go.OpenSpec := { _root_.Go.OpenSpec.ofChange s with cond := some uptoSmall }

/-- 'taffraillaw12.ConfTells', WHERE WHAT IT READS IS OF BULK AT MOST 1048576: true; the input reads as it did. -/
def confTellsUptoRow : OpenClaim := { program := "ytmmbhjomgpnklaa", sum := "e1e1f225316fa22da67e4675e43f8451f7ad4c690422e1eaf29b10ae8c033da0", func := "taffrail/taffraillaw12.ConfTells", spec := "confTells", apart := false, narrowed := true }
def ConfTellsUptoSaid : Prop := confTellsUptoRow.holds Try.pinned (OpenSpec.upto confTellsSpec)

/-- 'taffraillaw12.ConfCopies', WHERE WHAT IT READS IS OF BULK AT MOST 1048576: true; the input reads as it did. -/
def confCopiesUptoRow : OpenClaim := { program := "ytmmbhjomgpnklaa", sum := "e1e1f225316fa22da67e4675e43f8451f7ad4c690422e1eaf29b10ae8c033da0", func := "taffrail/taffraillaw12.ConfCopies", spec := "confCopies", apart := false, narrowed := true }
def ConfCopiesUptoSaid : Prop := confCopiesUptoRow.holds Try.pinned (OpenSpec.upto confCopiesSpec)

/-- 'taffraillaw12.ConfSame', WHERE WHAT IT READS IS OF BULK AT MOST 1048576: true; the input reads as it did. -/
def confSameUptoRow : OpenClaim := { program := "ytmmbhjomgpnklaa", sum := "e1e1f225316fa22da67e4675e43f8451f7ad4c690422e1eaf29b10ae8c033da0", func := "taffrail/taffraillaw12.ConfSame", spec := "confSame", apart := false, narrowed := true }
def ConfSameUptoSaid : Prop := confSameUptoRow.holds Try.pinned (OpenSpec.upto confSameSpec)

/-- 'taffraillaw12.ConfFewer', WHERE WHAT IT READS IS OF BULK AT MOST 1048576: true; the input reads as it did. -/
def confFewerUptoRow : OpenClaim := { program := "ytmmbhjomgpnklaa", sum := "e1e1f225316fa22da67e4675e43f8451f7ad4c690422e1eaf29b10ae8c033da0", func := "taffrail/taffraillaw12.ConfFewer", spec := "confFewer", apart := false, narrowed := true }
def ConfFewerUptoSaid : Prop := confFewerUptoRow.holds Try.pinned (OpenSpec.upto confFewerSpec)

/-- 'taffraillaw12.ConfFirst', WHERE WHAT IT READS IS OF BULK AT MOST 1048576: true; the input reads as it did. -/
def confFirstUptoRow : OpenClaim := { program := "ytmmbhjomgpnklaa", sum := "e1e1f225316fa22da67e4675e43f8451f7ad4c690422e1eaf29b10ae8c033da0", func := "taffrail/taffraillaw12.ConfFirst", spec := "confFirst", apart := false, narrowed := true }
def ConfFirstUptoSaid : Prop := confFirstUptoRow.holds Try.pinned (OpenSpec.upto confFirstSpec)

end Rows
end Go.Proofs.Ytmmbhjomgpnklaa
