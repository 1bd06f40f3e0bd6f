/- A system among the arguments, opened. -/
import Derived.Test.YtmmbhjomgpnklaaCopies
import Derived.Lib.SmallJoins
import Derived.Deep.Slices
import Derived.Deep.Fields
import Derived.ChangeSame
import Derived.ProofKit
import Derived.OpenShut
namespace Go.Proofs.Ytmmbhjomgpnklaa
open Go.Joins Go.ChangeShapes Go.WideShapes Go.ChangeAt Go.RowKit Go.Deep
set_option linter.unusedVariables false
theorem word_of (p : Int) (h : (Lit.int .u32 p).wf = true) : ∃ x : BitVec 32, p = (x.toNat : Int) := by
  simp [Lit.wf, IntKind.min, IntKind.max, IntKind.signed, IntKind.bits] at h
  exact ⟨BitVec.ofNat 32 p.toNat, by rw [BitVec.toNat_ofNat, Nat.mod_eq_of_lt (by omega)]; omega⟩
instance : Inhabited Tk := ⟨⟨0, 0, 0, 0, 0, 0, fun _ => default⟩⟩
instance : Inhabited Ln := ⟨⟨0, 0, fun _ => default⟩⟩
theorem cells3 : Try.prog.cellsOf 3 = 1 := by kernel_rfl
theorem cells25 : Try.prog.cellsOf 25 = 1 := by kernel_rfl
theorem cells26 : Try.prog.cellsOf 26 = 1 := by kernel_rfl
theorem cells37 : Try.prog.cellsOf 37 = 1 := by kernel_rfl
theorem cells22 : Try.prog.cellsOf 22 = 1 := by kernel_rfl
theorem cells23 : Try.prog.cellsOf 23 = 1 := by kernel_rfl
theorem cells24 : Try.prog.cellsOf 24 = 1 := by kernel_rfl
theorem cells41 : Try.prog.cellsOf 41 = 6 := by kernel_rfl
theorem cells39 : Try.prog.cellsOf 39 = 6 := by kernel_rfl
theorem cells43 : Try.prog.cellsOf 43 = 2 := by kernel_rfl
theorem cells28 : Try.prog.cellsOf 28 = 12 := by kernel_rfl
theorem ins_cells {H : Type} {enc : TypeId × Value → H} {W : World} {sp : Nat → Bool} {fuel : Nat} {cs : List Value} {x : DataW H × List MemPlace} (hf : DataW.trod enc Try.prog W 0 sp true fuel 41 cs = some x) :
    ∃ i : Ins, cs = insL i := by
  obtain ⟨xs, n, _, hx, hl, hlen, hg⟩ := DataW.trod_struct Try.underlying41 hf
  rw [cells41] at hl
  have hlenx : xs.length = 6 := hlen
  clear hlen
  match cs, hl with
  | [v0, v1, v2, v3, v4, v5], _ =>
    have g0 : DataW.trod enc Try.prog W 0 sp true n 3 (([v0, v1, v2, v3, v4, v5].drop 0).take (Try.prog.cellsOf 3)) = xs[0]? := hg 0 _ rfl
    have g1 : DataW.trod enc Try.prog W 0 sp true n 3 (([v0, v1, v2, v3, v4, v5].drop 1).take (Try.prog.cellsOf 3)) = xs[1]? := hg 1 _ rfl
    have g2 : DataW.trod enc Try.prog W 0 sp true n 3 (([v0, v1, v2, v3, v4, v5].drop 2).take (Try.prog.cellsOf 3)) = xs[2]? := hg 2 _ rfl
    have g3 : DataW.trod enc Try.prog W 0 sp true n 3 (([v0, v1, v2, v3, v4, v5].drop 3).take (Try.prog.cellsOf 3)) = xs[3]? := hg 3 _ rfl
    have g4 : DataW.trod enc Try.prog W 0 sp true n 3 (([v0, v1, v2, v3, v4, v5].drop 4).take (Try.prog.cellsOf 3)) = xs[4]? := hg 4 _ rfl
    have g5 : DataW.trod enc Try.prog W 0 sp true n 25 (([v0, v1, v2, v3, v4, v5].drop 5).take (Try.prog.cellsOf 25)) = xs[5]? := hg 5 _ rfl
    rw [cells3, List.getElem?_eq_getElem (by omega)] at g0 g1 g2 g3 g4
    rw [cells25, List.getElem?_eq_getElem (by omega)] at g5
    simp only [List.drop, List.take] at g0 g1 g2 g3 g4 g5
    obtain ⟨a0, e0, _, _⟩ := DataW.trod_int Try.underlying3 g0
    obtain ⟨a1, e1, _, _⟩ := DataW.trod_int Try.underlying3 g1
    obtain ⟨a2, e2, _, _⟩ := DataW.trod_int Try.underlying3 g2
    obtain ⟨a3, e3, _, _⟩ := DataW.trod_int Try.underlying3 g3
    obtain ⟨a4, e4, _, _⟩ := DataW.trod_int Try.underlying3 g4
    obtain ⟨b5, e5, _, w5⟩ := DataW.trod_int Try.underlying25 g5
    obtain ⟨a5, rfl⟩ := word_of b5 w5
    simp only [List.cons.injEq, and_true] at e0
    subst e0
    simp only [List.cons.injEq, and_true] at e1
    subst e1
    simp only [List.cons.injEq, and_true] at e2
    subst e2
    simp only [List.cons.injEq, and_true] at e3
    subst e3
    simp only [List.cons.injEq, and_true] at e4
    subst e4
    simp only [List.cons.injEq, and_true] at e5
    subst e5
    exact ⟨⟨a0, a1, a2, a3, a4, a5⟩, rfl⟩
/-- A slice whose elements are opened one by one. -/
theorem open_row {H : Type} {enc : TypeId × Value → H} {W : World} {sp : Nat → Bool} {fuel : Nat} {cs : List Value} {x : DataW H × List MemPlace} {ty e s : Nat} {α : Type} [Inhabited α] (L : α → List Value) (G : α → Prop) (hu : Try.prog.underlying ty = some (.slice e)) (hs : Try.prog.cellsOf e = s)
    (hL : ∀ a, (L a).length = s) (h : DataW.trod enc Try.prog W 0 sp true fuel ty cs = some x) (he : ∀ fuel cs x, DataW.trod enc Try.prog W 0 sp true fuel e cs = some x → ∃ a, cs = L a ∧ G a) :
    ∃ (A : Option Addr) (n cap : Nat) (f : Nat → α), cs = [.slice A n cap] ∧ n ≤ cap ∧ RowAt W A n s (fun j => L (f j)) ∧ ∀ j, j < n → G (f j) := by
  rcases open_slice hu h with h0 | ⟨a, len, cap, m, n, D, Pl, rfl, hb, hl, hm, hmm, rfl, hx⟩
  · exact ⟨none, 0, 0, fun _ => default, h0.1, Nat.le_refl _, fun h => absurd h (Nat.lt_irrefl _), fun j hj => absurd hj (Nat.not_lt_zero _)⟩
  have hlm : len ≤ m := by rw [hmm]; split <;> omega
  have each : ∀ j, j < m → ∃ q : α, (∀ r (u : Value), (L q)[r]? = some u → W.cell? ((a.add (j * s)).add r) = some u) ∧ G q := by
    intro j hj
    obtain ⟨cs', h1, h2⟩ := hx j hj
    rw [hs] at h1
    obtain ⟨_, hlen, hcell⟩ := World.cells?_some h1
    obtain ⟨q, rfl, hG⟩ := he _ _ _ h2
    refine ⟨q, fun r u hr => ?_, hG⟩
    have hr2 : r < (L q).length := (List.getElem?_eq_some_iff.1 hr).1
    have c := hcell r (by rw [hL] at hr2; exact hr2)
    rw [c]; exact hr
  obtain ⟨q, hq⟩ := choose_lt each
  exact ⟨some a, len, cap, q, rfl, hl, fun _ => ⟨a, rfl, fun j hj r u hr => (hq j (by omega)).1 r u hr⟩, fun j hj => (hq j (by omega)).2⟩
theorem open_code {H : Type} {enc : TypeId × Value → H} {W : World} {sp : Nat → Bool} {fuel : Nat} {cs : List Value} {x : DataW H × List MemPlace} (h : DataW.trod enc Try.prog W 0 sp true fuel 37 cs = some x) : ∃ (n : Nat) (C : Nat → Ins), ∃ v, cs = [v] ∧ CodeV W v n C := by
  obtain ⟨A, n, cap, f, rfl, hle, hr, _⟩ := open_row (L := insL) (G := fun _ => True) Try.underlying37 cells41 (fun _ => rfl) h (fun _ _ _ h => by obtain ⟨i, hi⟩ := ins_cells h; exact ⟨i, hi, trivial⟩)
  exact ⟨n, f, _, rfl, A, cap, rfl, hle, hr⟩
theorem open_nums {H : Type} {enc : TypeId × Value → H} {W : World} {sp : Nat → Bool} {fuel : Nat} {cs : List Value} {x : DataW H × List MemPlace} (h : DataW.trod enc Try.prog W 0 sp true fuel 24 cs = some x) : ∃ (n : Nat) (M : Nat → Int), ∃ v, cs = [v] ∧ NumsV W v n M := by
  obtain ⟨A, n, cap, f, rfl, hle, hr, _⟩ := open_row (L := fun z : Int => [.int .i64 z]) (G := fun _ => True) Try.underlying24 cells3 (fun _ => rfl) h (fun _ _ _ h => by obtain ⟨z, hz, _, _⟩ := DataW.trod_int Try.underlying3 h; exact ⟨z, hz, trivial⟩)
  exact ⟨n, f, _, rfl, A, cap, rfl, hle, MemAt.of_row hr⟩
theorem task_cells {H : Type} {enc : TypeId × Value → H} {W : World} {sp : Nat → Bool} {fuel : Nat} {cs : List Value} {x : DataW H × List MemPlace} (hf : DataW.trod enc Try.prog W 0 sp true fuel 39 cs = some x) :
    ∃ q : Tk × Value, cs = tkL q.1 q.2 ∧ CodeV W q.2 q.1.cn q.1.C := by
  obtain ⟨xs, n, _, hx, hl, hlen, hg⟩ := DataW.trod_struct Try.underlying39 hf
  rw [cells39] at hl
  have hlenx : xs.length = 6 := hlen
  clear hlen
  match cs, hl with
  | [v0, v1, v2, v3, v4, v5], _ =>
    have g0 : DataW.trod enc Try.prog W 0 sp true n 3 (([v0, v1, v2, v3, v4, v5].drop 0).take (Try.prog.cellsOf 3)) = xs[0]? := hg 0 _ rfl
    have g1 : DataW.trod enc Try.prog W 0 sp true n 3 (([v0, v1, v2, v3, v4, v5].drop 1).take (Try.prog.cellsOf 3)) = xs[1]? := hg 1 _ rfl
    have g2 : DataW.trod enc Try.prog W 0 sp true n 3 (([v0, v1, v2, v3, v4, v5].drop 2).take (Try.prog.cellsOf 3)) = xs[2]? := hg 2 _ rfl
    have g3 : DataW.trod enc Try.prog W 0 sp true n 3 (([v0, v1, v2, v3, v4, v5].drop 3).take (Try.prog.cellsOf 3)) = xs[3]? := hg 3 _ rfl
    have g4 : DataW.trod enc Try.prog W 0 sp true n 3 (([v0, v1, v2, v3, v4, v5].drop 4).take (Try.prog.cellsOf 3)) = xs[4]? := hg 4 _ rfl
    have g5 : DataW.trod enc Try.prog W 0 sp true n 37 (([v0, v1, v2, v3, v4, v5].drop 5).take (Try.prog.cellsOf 37)) = xs[5]? := hg 5 _ rfl
    rw [cells3, List.getElem?_eq_getElem (by omega)] at g0 g1 g2 g3 g4
    rw [cells37, List.getElem?_eq_getElem (by omega)] at g5
    simp only [List.drop, List.take] at g0 g1 g2 g3 g4 g5
    obtain ⟨a0, e0, _, _⟩ := DataW.trod_int Try.underlying3 g0
    obtain ⟨a1, e1, _, _⟩ := DataW.trod_int Try.underlying3 g1
    obtain ⟨a2, e2, _, _⟩ := DataW.trod_int Try.underlying3 g2
    obtain ⟨a3, e3, _, _⟩ := DataW.trod_int Try.underlying3 g3
    obtain ⟨a4, e4, _, _⟩ := DataW.trod_int Try.underlying3 g4
    obtain ⟨a5, C5, o5⟩ := open_code g5
    simp only [List.cons.injEq, and_true] at e0
    subst e0
    simp only [List.cons.injEq, and_true] at e1
    subst e1
    simp only [List.cons.injEq, and_true] at e2
    subst e2
    simp only [List.cons.injEq, and_true] at e3
    subst e3
    simp only [List.cons.injEq, and_true] at e4
    subst e4
    exact (by obtain ⟨v, e, hc⟩ := o5; simp only [List.cons.injEq, and_true] at e; subst e; exact ⟨(⟨a0, a1, a2, a3, a4, a5, C5⟩, v5), rfl, hc⟩)
theorem line_cells {H : Type} {enc : TypeId × Value → H} {W : World} {sp : Nat → Bool} {fuel : Nat} {cs : List Value} {x : DataW H × List MemPlace} (hf : DataW.trod enc Try.prog W 0 sp true fuel 43 cs = some x) :
    ∃ q : Ln × Value, cs = lnL q.1 q.2 ∧ CodeV W q.2 q.1.cn q.1.C := by
  obtain ⟨xs, n, _, hx, hl, hlen, hg⟩ := DataW.trod_struct Try.underlying43 hf
  rw [cells43] at hl
  have hlenx : xs.length = 2 := hlen
  clear hlen
  match cs, hl with
  | [v0, v1], _ =>
    have g0 : DataW.trod enc Try.prog W 0 sp true n 3 (([v0, v1].drop 0).take (Try.prog.cellsOf 3)) = xs[0]? := hg 0 _ rfl
    have g1 : DataW.trod enc Try.prog W 0 sp true n 37 (([v0, v1].drop 1).take (Try.prog.cellsOf 37)) = xs[1]? := hg 1 _ rfl
    rw [cells3, List.getElem?_eq_getElem (by omega)] at g0
    rw [cells37, List.getElem?_eq_getElem (by omega)] at g1
    simp only [List.drop, List.take] at g0 g1
    obtain ⟨a0, e0, _, _⟩ := DataW.trod_int Try.underlying3 g0
    obtain ⟨a1, C1, o1⟩ := open_code g1
    simp only [List.cons.injEq, and_true] at e0
    subst e0
    exact (by obtain ⟨v, e, hc⟩ := o1; simp only [List.cons.injEq, and_true] at e; subst e; exact ⟨(⟨a0, a1, C1⟩, v1), rfl, hc⟩)
theorem open_tasks {H : Type} {enc : TypeId × Value → H} {W : World} {sp : Nat → Bool} {fuel : Nat} {cs : List Value} {x : DataW H × List MemPlace} (h : DataW.trod enc Try.prog W 0 sp true fuel 22 cs = some x) : ∃ (n : Nat) (M : Nat → Tk), ∃ v, cs = [v] ∧ TasksV W v n M := by
  obtain ⟨A, n, cap, f, rfl, hle, hr, hc⟩ := open_row (L := fun q : Tk × Value => tkL q.1 q.2) (G := fun q => CodeV W q.2 q.1.cn q.1.C) Try.underlying22 cells39 (fun _ => rfl) h (fun _ _ _ h => task_cells h)
  exact ⟨n, fun j => (f j).1, _, rfl, A, cap, fun j => (f j).2, rfl, hle, hr, hc⟩
theorem open_lines {H : Type} {enc : TypeId × Value → H} {W : World} {sp : Nat → Bool} {fuel : Nat} {cs : List Value} {x : DataW H × List MemPlace} (h : DataW.trod enc Try.prog W 0 sp true fuel 23 cs = some x) : ∃ (n : Nat) (M : Nat → Ln), ∃ v, cs = [v] ∧ LinesV W v n M := by
  obtain ⟨A, n, cap, f, rfl, hle, hr, hc⟩ := open_row (L := fun q : Ln × Value => lnL q.1 q.2) (G := fun q => CodeV W q.2 q.1.cn q.1.C) Try.underlying23 cells43 (fun _ => rfl) h (fun _ _ _ h => line_cells h)
  exact ⟨n, fun j => (f j).1, _, rfl, A, cap, fun j => (f j).2, rfl, hle, hr, hc⟩
theorem conf_cells {H : Type} {enc : TypeId × Value → H} {W : World} {sp : Nat → Bool} {fuel : Nat} {cs : List Value} {x : DataW H × List MemPlace} (hf : DataW.trod enc Try.prog W 0 sp true fuel 28 cs = some x) :
    ∃ tv lv sv qv mv X, cs = (cfC tv lv sv qv mv X).toList ∧ ConfV W tv lv sv qv mv X := by
  obtain ⟨xs, n, _, hx, hl, hlen, hg⟩ := DataW.trod_struct Try.underlying28 hf
  rw [cells28] at hl
  have hlenx : xs.length = 12 := hlen
  clear hlen
  match cs, hl with
  | [v0, v1, v2, v3, v4, v5, v6, v7, v8, v9, v10, v11], _ =>
    have g0 : DataW.trod enc Try.prog W 0 sp true n 22 (([v0, v1, v2, v3, v4, v5, v6, v7, v8, v9, v10, v11].drop 0).take (Try.prog.cellsOf 22)) = xs[0]? := hg 0 _ rfl
    have g1 : DataW.trod enc Try.prog W 0 sp true n 23 (([v0, v1, v2, v3, v4, v5, v6, v7, v8, v9, v10, v11].drop 1).take (Try.prog.cellsOf 23)) = xs[1]? := hg 1 _ rfl
    have g2 : DataW.trod enc Try.prog W 0 sp true n 3 (([v0, v1, v2, v3, v4, v5, v6, v7, v8, v9, v10, v11].drop 2).take (Try.prog.cellsOf 3)) = xs[2]? := hg 2 _ rfl
    have g3 : DataW.trod enc Try.prog W 0 sp true n 24 (([v0, v1, v2, v3, v4, v5, v6, v7, v8, v9, v10, v11].drop 3).take (Try.prog.cellsOf 24)) = xs[3]? := hg 3 _ rfl
    have g4 : DataW.trod enc Try.prog W 0 sp true n 24 (([v0, v1, v2, v3, v4, v5, v6, v7, v8, v9, v10, v11].drop 4).take (Try.prog.cellsOf 24)) = xs[4]? := hg 4 _ rfl
    have g5 : DataW.trod enc Try.prog W 0 sp true n 24 (([v0, v1, v2, v3, v4, v5, v6, v7, v8, v9, v10, v11].drop 5).take (Try.prog.cellsOf 24)) = xs[5]? := hg 5 _ rfl
    have g6 : DataW.trod enc Try.prog W 0 sp true n 3 (([v0, v1, v2, v3, v4, v5, v6, v7, v8, v9, v10, v11].drop 6).take (Try.prog.cellsOf 3)) = xs[6]? := hg 6 _ rfl
    have g7 : DataW.trod enc Try.prog W 0 sp true n 25 (([v0, v1, v2, v3, v4, v5, v6, v7, v8, v9, v10, v11].drop 7).take (Try.prog.cellsOf 25)) = xs[7]? := hg 7 _ rfl
    have g8 : DataW.trod enc Try.prog W 0 sp true n 25 (([v0, v1, v2, v3, v4, v5, v6, v7, v8, v9, v10, v11].drop 8).take (Try.prog.cellsOf 25)) = xs[8]? := hg 8 _ rfl
    have g9 : DataW.trod enc Try.prog W 0 sp true n 3 (([v0, v1, v2, v3, v4, v5, v6, v7, v8, v9, v10, v11].drop 9).take (Try.prog.cellsOf 3)) = xs[9]? := hg 9 _ rfl
    have g10 : DataW.trod enc Try.prog W 0 sp true n 26 (([v0, v1, v2, v3, v4, v5, v6, v7, v8, v9, v10, v11].drop 10).take (Try.prog.cellsOf 26)) = xs[10]? := hg 10 _ rfl
    have g11 : DataW.trod enc Try.prog W 0 sp true n 26 (([v0, v1, v2, v3, v4, v5, v6, v7, v8, v9, v10, v11].drop 11).take (Try.prog.cellsOf 26)) = xs[11]? := hg 11 _ rfl
    rw [cells3, List.getElem?_eq_getElem (by omega)] at g2 g6 g9
    rw [cells22, List.getElem?_eq_getElem (by omega)] at g0
    rw [cells23, List.getElem?_eq_getElem (by omega)] at g1
    rw [cells24, List.getElem?_eq_getElem (by omega)] at g3 g4 g5
    rw [cells25, List.getElem?_eq_getElem (by omega)] at g7 g8
    rw [cells26, List.getElem?_eq_getElem (by omega)] at g10 g11
    simp only [List.drop, List.take] at g0 g1 g2 g3 g4 g5 g6 g7 g8 g9 g10 g11
    obtain ⟨a0, C0, o0⟩ := open_tasks g0
    obtain ⟨a1, C1, o1⟩ := open_lines g1
    obtain ⟨a2, e2, _, _⟩ := DataW.trod_int Try.underlying3 g2
    obtain ⟨a3, C3, o3⟩ := open_nums g3
    obtain ⟨a4, C4, o4⟩ := open_nums g4
    obtain ⟨a5, C5, o5⟩ := open_nums g5
    obtain ⟨a6, e6, _, _⟩ := DataW.trod_int Try.underlying3 g6
    obtain ⟨b7, e7, _, w7⟩ := DataW.trod_int Try.underlying25 g7
    obtain ⟨a7, rfl⟩ := word_of b7 w7
    obtain ⟨b8, e8, _, w8⟩ := DataW.trod_int Try.underlying25 g8
    obtain ⟨a8, rfl⟩ := word_of b8 w8
    obtain ⟨a9, e9, _, _⟩ := DataW.trod_int Try.underlying3 g9
    obtain ⟨a10, e10, _, _⟩ := DataW.trod_int Try.underlying26 g10
    obtain ⟨a11, e11, _, _⟩ := DataW.trod_int Try.underlying26 g11
    simp only [List.cons.injEq, and_true] at e2
    subst e2
    simp only [List.cons.injEq, and_true] at e6
    subst e6
    simp only [List.cons.injEq, and_true] at e7
    subst e7
    simp only [List.cons.injEq, and_true] at e8
    subst e8
    simp only [List.cons.injEq, and_true] at e9
    subst e9
    simp only [List.cons.injEq, and_true] at e10
    subst e10
    simp only [List.cons.injEq, and_true] at e11
    subst e11
    exact (by obtain ⟨u0, f0, h0⟩ := o0; obtain ⟨u1, f1, h1⟩ := o1; obtain ⟨u3, f3, h3⟩ := o3; obtain ⟨u4, f4, h4⟩ := o4; obtain ⟨u5, f5, h5⟩ := o5; simp only [List.cons.injEq, and_true] at f0 f1 f3 f4 f5; subst f0 f1 f3 f4 f5; exact ⟨_, _, _, _, _, ⟨a0, C0, a1, C1, a2, a3, C3, a4, C4, a5, C5, a6, a7, (a8.toNat : Int), a9, a10, a11⟩, rfl, h0, h1, h3, h4, h5⟩)
theorem open_conf {H : Type} {enc : TypeId × Value → H} {W : World} {b0 : Nat} {sp : Nat → Bool} {r : Reach} {v : Value} {d : DataW H} {p : List MemPlace} (hv : Value.okWide Try.prog W r b0 28 v) (h : DataW.Trod enc Try.prog W 0 sp true 28 v d p) :
    ∃ tv lv sv qv mv X, v = .agg (cfC tv lv sv qv mv X) ∧ ConfV W tv lv sv qv mv X := by
  obtain ⟨cs, rfl, hsz⟩ := okWide_struct Try.underlying28 hv
  obtain ⟨fuel, hf⟩ := h
  obtain ⟨tv, lv, sv, qv, mv, X, e, hV⟩ := conf_cells hf
  simp only [Value.cells] at e
  exact ⟨tv, lv, sv, qv, mv, X, by congr 1; exact Array.toList_inj.1 e, hV⟩
end Go.Proofs.Ytmmbhjomgpnklaa
