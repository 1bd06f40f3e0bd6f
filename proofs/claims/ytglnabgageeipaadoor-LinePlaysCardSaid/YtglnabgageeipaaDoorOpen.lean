/- A script among the arguments, opened: three cells a call. -/
import Derived.Test.YtglnabgageeipaaDoorOne
import Derived.Deep.Slices
import Derived.Deep.Strs
import Derived.ProofKit
import Derived.OpenShut
namespace Go.Proofs.YtglnabgageeipaaDoor
open Go.ChangeShapes Go.WideShapes Go.ChangeAt Go.RowKit Go.Deep

theorem cells41 : Tryd.prog.cellsOf 41 = 3 := by kernel_rfl
theorem cells3 : Tryd.prog.cellsOf 3 = 1 := by kernel_rfl
theorem cells22 : Tryd.prog.cellsOf 22 = 1 := by kernel_rfl
instance : Inhabited (Int × Int × BitVec 32) := ⟨(0, 0, 0)⟩

theorem open_script {H : Type} {enc : TypeId × Value → H} {W : World} {sp : Nat → Bool} {fuel : Nat} {cs : List Value} {x : DataW H × List MemPlace} (h : DataW.trod enc Tryd.prog W 0 sp true fuel 36 cs = some x) :
    cs = [.slice none 0 0] ∨ ∃ (a : Addr) (len cap : Nat) (K L : Nat → Int) (B : Nat → BitVec 32), cs = [.slice (some a) len cap] ∧ Script W a len K L B := by
  rcases open_slice Tryd.underlying36 h with h0 | ⟨a, len, cap, m, n, D, Pl, rfl, hb, hl, hm, hmm, rfl, hx⟩
  · exact Or.inl h0.1
  right
  have hlm : len ≤ m := by rw [hmm]; split <;> omega
  have each : ∀ i, i < m → ∃ q : Int × Int × BitVec 32, W.cell? (a.add (i * 3)) = some (.int .i64 q.1) ∧ W.cell? ⟨(a.add (i * 3)).block, (a.add (i * 3)).off + 1, none⟩ = some (.int .i64 q.2.1) ∧ W.cell? ⟨(a.add (i * 3)).block, (a.add (i * 3)).off + 2, none⟩ = some (.int .u32 q.2.2.toNat) := by
    intro i hi
    obtain ⟨cs', h1, h2⟩ := hx i hi
    rw [cells41] at h1
    obtain ⟨_, hlen, hcell⟩ := World.cells?_some h1
    obtain ⟨y0, y1, y2, k, hxy, _, u0, u1, u2⟩ := trod_struct3 Tryd.underlying41 h2
    match cs', hlen with
    | [v0, v1, v2], _ =>
      simp only [cells3, cells22, List.drop, List.take] at u0 u1 u2
      obtain ⟨s, e0, d0, _⟩ := DataW.trod_int Tryd.underlying3 u0
      obtain ⟨q, e1, d1, _⟩ := DataW.trod_int Tryd.underlying3 u1
      obtain ⟨p, e2, d2, w2⟩ := DataW.trod_int Tryd.underlying22 u2
      simp only [List.cons.injEq, and_true] at e0 e1 e2
      subst e0; subst e1; subst e2
      have c0 := hcell 0 (by omega)
      have c1 := hcell 1 (by omega)
      have c2 := hcell 2 (by omega)
      have hp : 0 ≤ p ∧ p < 4294967296 := by
        simp [Lit.wf, IntKind.min, IntKind.max, IntKind.signed, IntKind.bits] at w2; omega
      obtain ⟨bb, rfl⟩ := bv32_of p hp.1 hp.2
      exact ⟨(s, q, bb), by simpa [Addr.add] using c0, by simpa [Addr.add] using c1, by simpa [Addr.add] using c2⟩
  obtain ⟨q, hq⟩ := choose_lt each
  exact ⟨a, len, cap, fun i => (q i).1, fun i => (q i).2.1, fun i => (q i).2.2, rfl, fun i hi => hq i (by omega)⟩
end Go.Proofs.YtglnabgageeipaaDoor
