/- A script among the arguments, opened: three cells a call. -/
import Derived.Test.YtdicgpbdfnlniaaMem
import Derived.Deep.Slices
import Derived.ChangeArms
import Derived.Deep.Strs
import Derived.ProofKit
import Derived.OpenShut
namespace Go.Proofs.Ytdicgpbdfnlniaa
open Go.ChangeShapes Go.WideShapes Go.ChangeAt Go.RowKit Go.Deep
set_option linter.unusedVariables false
theorem cells35 : Try.prog.cellsOf 35 = 3 := by kernel_rfl
theorem cellsS : Try.prog.cellsOf 9 = 1 := by kernel_rfl
theorem cellsI : Try.prog.cellsOf 3 = 1 := by kernel_rfl
instance : Inhabited (Int × Int × List UInt8) := ⟨(0, 0, [])⟩
/-- A script lies at A. -/
def ScriptAt (w : World) (A : Option Addr) (n : Nat) (K V : Nat → Int) (T : Nat → List UInt8) : Prop := 0 < n → ∃ a, A = some a ∧ ∀ j, j < n → w.cell? (a.add (j * 3)) = some (.int .i64 (K j)) ∧ w.cell? ⟨(a.add (j * 3)).block, (a.add (j * 3)).off + 1, none⟩ = some (.int .i64 (V j)) ∧ w.cell? ⟨(a.add (j * 3)).block, (a.add (j * 3)).off + 2, none⟩ = some (.string ⟨(T j).toArray⟩)
theorem ScriptAt.grow {w w' : World} {A : Option Addr} {n : Nat} {K V : Nat → Int} {T : Nat → List UInt8} (h : ScriptAt w A n K V T) (hg : Below w.heap.size w w') : ScriptAt w' A n K V T := fun hn => by
  obtain ⟨a, hA, hc⟩ := h hn
  refine ⟨a, hA, fun j hj => ?_⟩
  obtain ⟨c0, c1, c2⟩ := hc j hj
  exact ⟨(Below.cell hg (cell_lt c0)).trans c0, (Below.cell hg (cell_lt c1)).trans c1, (Below.cell hg (cell_lt c2)).trans c2⟩
theorem open_script {H : Type} {enc : TypeId × Value → H} {W : World} {sp : Nat → Bool} {fuel : Nat} {cs : List Value} {x : DataW H × List MemPlace} (h : DataW.trod enc Try.prog W 0 sp true fuel 22 cs = some x) :
    ∃ (A : Option Addr) (n cap : Nat) (K V : Nat → Int) (T : Nat → List UInt8), cs = [.slice A n cap] ∧ ScriptAt W A n K V T ∧ n ≤ cap ∧ cap ≤ maxLen := by
  rcases open_slice Try.underlying22 h with h0 | ⟨a, len, cap, m, n, D, Pl, rfl, hb, hl, hm, hmm, rfl, hx⟩
  · exact ⟨none, 0, 0, fun _ => 0, fun _ => 0, fun _ => [], h0.1, fun h => by omega, by omega, by unfold maxLen; omega⟩
  have hlm : len ≤ m := by rw [hmm]; split <;> omega
  have each : ∀ i, i < m → ∃ q : Int × Int × List UInt8, W.cell? (a.add (i * 3)) = some (.int .i64 q.1) ∧ W.cell? ⟨(a.add (i * 3)).block, (a.add (i * 3)).off + 1, none⟩ = some (.int .i64 q.2.1) ∧ W.cell? ⟨(a.add (i * 3)).block, (a.add (i * 3)).off + 2, none⟩ = some (.string ⟨q.2.2.toArray⟩) := by
    intro i hi
    obtain ⟨cs', h1, h2⟩ := hx i hi
    rw [cells35] at h1
    obtain ⟨_, hlen, hcell⟩ := World.cells?_some h1
    obtain ⟨y0, y1, y2, k, hxy, _, u0, u1, u2⟩ := trod_struct3 Try.underlying35 h2
    match cs', hlen with
    | [v0, v1, v2], _ =>
      simp only [cellsI, cellsS, List.drop, List.take] at u0 u1 u2
      obtain ⟨s, e0, d0, _⟩ := DataW.trod_int Try.underlying3 u0
      obtain ⟨q, e1, d1, _⟩ := DataW.trod_int Try.underlying3 u1
      obtain ⟨p, e2, d2, _⟩ := DataW.trod_string Try.underlying9 u2
      simp only [List.cons.injEq, and_true] at e0 e1 e2
      subst e0; subst e1; subst e2
      have c0 := hcell 0 (by omega)
      have c1 := hcell 1 (by omega)
      have c2 := hcell 2 (by omega)
      exact ⟨(s, q, p.data.toList), by simpa [Addr.add] using c0, by simpa [Addr.add] using c1, by simpa [Addr.add] using c2⟩
  obtain ⟨q, hq⟩ := choose_lt each
  exact ⟨some a, len, cap, fun i => (q i).1, fun i => (q i).2.1, fun i => (q i).2.2, rfl, fun _ => ⟨a, rfl, fun i hi => hq i (by omega)⟩, hl, hm⟩
end Go.Proofs.Ytdicgpbdfnlniaa
