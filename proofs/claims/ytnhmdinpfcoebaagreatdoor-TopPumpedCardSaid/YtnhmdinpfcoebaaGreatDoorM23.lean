/- Texts of the proof, merged: Open. -/
import Derived.Test.YtnhmdinpfcoebaaGreatDoorM22
import Derived.Lib.SmallJoins
import Derived.Deep.Slices
import Derived.Deep.Fields
import Derived.ChangeSame
import Derived.ProofKit
import Derived.OpenShut
/-! === Open -/
section
/- Frames and turns among the arguments, opened. -/
namespace Go.Proofs.YtnhmdinpfcoebaaGreatDoor
open Go.Joins Go.ChangeShapes Go.WideShapes Go.ChangeAt Go.RowKit Go.Deep
set_option linter.unusedVariables false
set_option maxRecDepth 100000
theorem nat_of32 (p : Int) (h : (Lit.int .u32 p).wf = true) : ∃ x : Nat, p = (x : Int) ∧ x < 2 ^ 32 := by
  simp [Lit.wf, IntKind.min, IntKind.max, IntKind.signed, IntKind.bits] at h
  exact ⟨p.toNat, by omega, by omega⟩
theorem nat_of64 (p : Int) (h : (Lit.int .u64 p).wf = true) : ∃ x : Nat, p = (x : Int) ∧ x < 2 ^ 64 := by
  simp [Lit.wf, IntKind.min, IntKind.max, IntKind.signed, IntKind.bits] at h
  exact ⟨p.toNat, by omega, by omega⟩
theorem cells3 : Tryz.prog.cellsOf 3 = 1 := by kernel_rfl
theorem cells40 : Tryz.prog.cellsOf 40 = 1 := by kernel_rfl
theorem cells53 : Tryz.prog.cellsOf 53 = 1 := by kernel_rfl
theorem cells41 : Tryz.prog.cellsOf 41 = 1 := by kernel_rfl
theorem cells98 : Tryz.prog.cellsOf 98 = 6 := by kernel_rfl
theorem cells43 : Tryz.prog.cellsOf 43 = 2 := by kernel_rfl
theorem cells39 : Tryz.prog.cellsOf 39 = 2 := by kernel_rfl
theorem ev_cells {H : Type} {enc : TypeId × Value → H} {W : World} {sp : Nat → Bool} {fuel : Nat} {cs : List Value} {x : DataW H × List MemPlace} (hf : DataW.trod enc Tryz.prog W 0 sp true fuel 98 cs = some x) :
    ∃ e : Top.Ev, cs = evL e ∧ e.cycle < 2 ^ 64 ∧ e.count < 2 ^ 64 := by
  obtain ⟨xs, n, _, hx, hl, hlen, hg⟩ := DataW.trod_struct Tryz.underlying98 hf
  rw [cells98] at hl
  have hlenx : xs.length = 6 := hlen
  clear hlen
  match cs, hl with
  | [v0, v1, v2, v3, v4, v5], _ =>
    have g0 : DataW.trod enc Tryz.prog W 0 sp true n 3 (([v0, v1, v2, v3, v4, v5].drop 0).take (Tryz.prog.cellsOf 3)) = xs[0]? := hg 0 _ rfl
    have g1 : DataW.trod enc Tryz.prog W 0 sp true n 53 (([v0, v1, v2, v3, v4, v5].drop 1).take (Tryz.prog.cellsOf 53)) = xs[1]? := hg 1 _ rfl
    have g2 : DataW.trod enc Tryz.prog W 0 sp true n 53 (([v0, v1, v2, v3, v4, v5].drop 2).take (Tryz.prog.cellsOf 53)) = xs[2]? := hg 2 _ rfl
    have g3 : DataW.trod enc Tryz.prog W 0 sp true n 40 (([v0, v1, v2, v3, v4, v5].drop 3).take (Tryz.prog.cellsOf 40)) = xs[3]? := hg 3 _ rfl
    have g4 : DataW.trod enc Tryz.prog W 0 sp true n 40 (([v0, v1, v2, v3, v4, v5].drop 4).take (Tryz.prog.cellsOf 40)) = xs[4]? := hg 4 _ rfl
    have g5 : DataW.trod enc Tryz.prog W 0 sp true n 40 (([v0, v1, v2, v3, v4, v5].drop 5).take (Tryz.prog.cellsOf 40)) = xs[5]? := hg 5 _ rfl
    rw [cells3, List.getElem?_eq_getElem (by omega)] at g0
    rw [cells40, List.getElem?_eq_getElem (by omega)] at g3 g4 g5
    rw [cells53, List.getElem?_eq_getElem (by omega)] at g1 g2
    simp only [List.drop, List.take] at g0 g1 g2 g3 g4 g5
    obtain ⟨a0, e0, _, _⟩ := DataW.trod_int Tryz.underlying3 g0
    obtain ⟨b1, e1, _, w1⟩ := DataW.trod_int Tryz.underlying53 g1
    obtain ⟨a1, rfl, l1⟩ := nat_of64 b1 w1
    obtain ⟨b2, e2, _, w2⟩ := DataW.trod_int Tryz.underlying53 g2
    obtain ⟨a2, rfl, l2⟩ := nat_of64 b2 w2
    obtain ⟨b3, e3, _, w3⟩ := DataW.trod_int Tryz.underlying40 g3
    obtain ⟨a3, rfl, l3⟩ := nat_of32 b3 w3
    obtain ⟨b4, e4, _, w4⟩ := DataW.trod_int Tryz.underlying40 g4
    obtain ⟨a4, rfl, l4⟩ := nat_of32 b4 w4
    obtain ⟨b5, e5, _, w5⟩ := DataW.trod_int Tryz.underlying40 g5
    obtain ⟨a5, rfl, l5⟩ := nat_of32 b5 w5
    simp only [List.cons.injEq, and_true] at e0
    subst e0
    simp only [List.cons.injEq, and_true] at e1
    subst e1
    simp only [List.cons.injEq, and_true] at e2
    subst e2
    simp only [List.cons.injEq, and_true] at e3
    subst e3
    simp only [List.cons.injEq, and_true] at e4
    subst e4
    simp only [List.cons.injEq, and_true] at e5
    subst e5
    exact ⟨⟨a0, a1, a2, a3, a4, a5⟩, rfl, l1, l2⟩
/-- A slice whose elements are opened one by one. -/
theorem open_row {H : Type} {enc : TypeId × Value → H} {W : World} {sp : Nat → Bool} {fuel : Nat} {cs : List Value} {x : DataW H × List MemPlace} {ty e s : Nat} {α : Type} [Inhabited α] (L : α → List Value) (G : α → Prop) (hu : Tryz.prog.underlying ty = some (.slice e)) (hs : Tryz.prog.cellsOf e = s)
    (hL : ∀ a, (L a).length = s) (h : DataW.trod enc Tryz.prog W 0 sp true fuel ty cs = some x) (he : ∀ fuel cs x, DataW.trod enc Tryz.prog W 0 sp true fuel e cs = some x → ∃ a, cs = L a ∧ G a) :
    ∃ (A : Option Addr) (n cap : Nat) (f : Nat → α), cs = [.slice A n cap] ∧ n ≤ cap ∧ RowAt W A n s (fun j => L (f j)) ∧ ∀ j, j < n → G (f j) := by
  rcases open_slice hu h with h0 | ⟨a, len, cap, m, n, D, Pl, rfl, hb, hl, hm, hmm, rfl, hx⟩
  · exact ⟨none, 0, 0, fun _ => default, h0.1, Nat.le_refl _, fun h => absurd h (Nat.lt_irrefl _), fun j hj => absurd hj (Nat.not_lt_zero _)⟩
  have hlm : len ≤ m := by rw [hmm]; split <;> omega
  have each : ∀ j, j < m → ∃ q : α, (∀ r (u : Value), (L q)[r]? = some u → W.cell? ((a.add (j * s)).add r) = some u) ∧ G q := by
    intro j hj
    obtain ⟨cs', h1, h2⟩ := hx j hj
    rw [hs] at h1
    obtain ⟨_, hlen, hcell⟩ := World.cells?_some h1
    obtain ⟨q, rfl, hG⟩ := he _ _ _ h2
    refine ⟨q, fun r u hr => ?_, hG⟩
    have hr2 : r < (L q).length := (List.getElem?_eq_some_iff.1 hr).1
    have c := hcell r (by rw [hL] at hr2; exact hr2)
    rw [c]; exact hr
  obtain ⟨q, hq⟩ := choose_lt each
  exact ⟨some a, len, cap, q, rfl, hl, fun _ => ⟨a, rfl, fun j hj r u hr => (hq j (by omega)).1 r u hr⟩, fun j hj => (hq j (by omega)).2⟩
theorem open_events {H : Type} {enc : TypeId × Value → H} {W : World} {sp : Nat → Bool} {fuel : Nat} {cs : List Value} {x : DataW H × List MemPlace} (h : DataW.trod enc Tryz.prog W 0 sp true fuel 41 cs = some x) : ∃ (A : Option Addr) (n cap : Nat) (f : Nat → Top.Ev), cs = [.slice A n cap] ∧ EvRd W A n f ∧ ∀ j, j < n → (f j).cycle < 2 ^ 64 ∧ (f j).count < 2 ^ 64 := by
  obtain ⟨A, n, cap, f, rfl, hle, hr, hG⟩ := open_row (L := evL) (G := fun e : Top.Ev => e.cycle < 2 ^ 64 ∧ e.count < 2 ^ 64) Tryz.underlying41 cells98 (fun _ => rfl) h (fun _ _ _ h => ev_cells h)
  exact ⟨A, n, cap, f, rfl, hr, hG⟩
theorem fr_cells {H : Type} {enc : TypeId × Value → H} {W : World} {sp : Nat → Bool} {fuel : Nat} {cs : List Value} {x : DataW H × List MemPlace} (hf : DataW.trod enc Tryz.prog W 0 sp true fuel 43 cs = some x) :
    ∃ q : Fr, cs = frL q ∧ FrameOk W q := by
  obtain ⟨xs, n, _, hx, hl, hlen, hg⟩ := DataW.trod_struct Tryz.underlying43 hf
  rw [cells43] at hl
  have hlenx : xs.length = 2 := hlen
  clear hlen
  match cs, hl with
  | [v0, v1], _ =>
    have g0 : DataW.trod enc Tryz.prog W 0 sp true n 40 (([v0, v1].drop 0).take (Tryz.prog.cellsOf 40)) = xs[0]? := hg 0 _ rfl
    have g1 : DataW.trod enc Tryz.prog W 0 sp true n 41 (([v0, v1].drop 1).take (Tryz.prog.cellsOf 41)) = xs[1]? := hg 1 _ rfl
    rw [cells40, List.getElem?_eq_getElem (by omega)] at g0
    rw [cells41, List.getElem?_eq_getElem (by omega)] at g1
    simp only [List.drop, List.take] at g0 g1
    obtain ⟨b0, e0, _, w0⟩ := DataW.trod_int Tryz.underlying40 g0
    obtain ⟨a0, rfl, l0⟩ := nat_of32 b0 w0
    obtain ⟨A1, m1, c1, f1, e1, o1, p1⟩ := open_events g1
    simp only [List.cons.injEq, and_true] at e0
    subst e0
    simp only [List.cons.injEq, and_true] at e1
    subst e1
    exact ⟨⟨a0, A1, m1, c1, f1⟩, rfl, l0, o1, p1⟩
theorem turn_cells {H : Type} {enc : TypeId × Value → H} {W : World} {sp : Nat → Bool} {fuel : Nat} {cs : List Value} {x : DataW H × List MemPlace} (hf : DataW.trod enc Tryz.prog W 0 sp true fuel 39 cs = some x) :
    ∃ q : Int × Int, cs = [.int .i64 q.1, .int .i64 q.2] ∧ True := by
  obtain ⟨xs, n, _, hx, hl, hlen, hg⟩ := DataW.trod_struct Tryz.underlying39 hf
  rw [cells39] at hl
  have hlenx : xs.length = 2 := hlen
  clear hlen
  match cs, hl with
  | [v0, v1], _ =>
    have g0 : DataW.trod enc Tryz.prog W 0 sp true n 3 (([v0, v1].drop 0).take (Tryz.prog.cellsOf 3)) = xs[0]? := hg 0 _ rfl
    have g1 : DataW.trod enc Tryz.prog W 0 sp true n 3 (([v0, v1].drop 1).take (Tryz.prog.cellsOf 3)) = xs[1]? := hg 1 _ rfl
    rw [cells3, List.getElem?_eq_getElem (by omega)] at g0 g1
    simp only [List.drop, List.take] at g0 g1
    obtain ⟨a0, e0, _, _⟩ := DataW.trod_int Tryz.underlying3 g0
    obtain ⟨a1, e1, _, _⟩ := DataW.trod_int Tryz.underlying3 g1
    simp only [List.cons.injEq, and_true] at e0
    subst e0
    simp only [List.cons.injEq, and_true] at e1
    subst e1
    exact ⟨(a0, a1), rfl, trivial⟩
theorem open_frames {H : Type} {enc : TypeId × Value → H} {W : World} {sp : Nat → Bool} {fuel : Nat} {cs : List Value} {x : DataW H × List MemPlace} (h : DataW.trod enc Tryz.prog W 0 sp true fuel 22 cs = some x) : ∃ (A : Option Addr) (n cap : Nat) (f : Nat → Fr), cs = [.slice A n cap] ∧ FramesAt W A n f := by
  obtain ⟨A, n, cap, f, rfl, hle, hr, hG⟩ := open_row (L := frL) (G := fun q => FrameOk W q) Tryz.underlying22 cells43 (fun _ => rfl) h (fun _ _ _ h => fr_cells h)
  exact ⟨A, n, cap, f, rfl, hr, hG⟩
theorem open_turns {H : Type} {enc : TypeId × Value → H} {W : World} {sp : Nat → Bool} {fuel : Nat} {cs : List Value} {x : DataW H × List MemPlace} (h : DataW.trod enc Tryz.prog W 0 sp true fuel 23 cs = some x) : ∃ (A : Option Addr) (n cap : Nat) (f : Nat → Int × Int), cs = [.slice A n cap] ∧ TurnsAt W A n f := by
  obtain ⟨A, n, cap, f, rfl, hle, hr, _⟩ := open_row (L := fun q : Int × Int => [.int .i64 q.1, .int .i64 q.2]) (G := fun _ => True) Tryz.underlying23 cells39 (fun _ => rfl) h (fun _ _ _ h => turn_cells h)
  exact ⟨A, n, cap, f, rfl, hr⟩
end Go.Proofs.YtnhmdinpfcoebaaGreatDoor
end
