/- Contexts, instructions and programs among the arguments, opened. -/
import Derived.Test.YtkjacmnocbdghaaRun
import Derived.Lib.SmallJoins
import Derived.Deep.Slices
import Derived.Deep.Fields
import Derived.ChangeSame
import Derived.ProofKit
import Derived.OpenShut
namespace Go.Proofs.Ytkjacmnocbdghaa
open Go.Joins Go.ChangeShapes Go.WideShapes Go.ChangeAt Go.RowKit Go.Deep
set_option linter.unusedVariables false

theorem word_of (p : Int) (h : (Lit.int .u32 p).wf = true) : ∃ x : BitVec 32, p = (x.toNat : Int) := by
  simp [Lit.wf, IntKind.min, IntKind.max, IntKind.signed, IntKind.bits] at h
  exact ⟨BitVec.ofNat 32 p.toNat, by rw [BitVec.toNat_ofNat, Nat.mod_eq_of_lt (by omega)]; omega⟩
instance : Inhabited (BitVec 32) := ⟨0#32⟩
theorem cells22o : Try.prog.cellsOf 22 = 1 := by kernel_rfl
theorem cells26 : Try.prog.cellsOf 26 = 10 := by kernel_rfl
theorem cells23 : Try.prog.cellsOf 23 = 8 := by kernel_rfl
theorem cells3 : Try.prog.cellsOf 3 = 1 := by kernel_rfl
theorem cells24 : Try.prog.cellsOf 24 = 1 := by kernel_rfl

/-- The words of a memory. -/
theorem open_words {H : Type} {enc : TypeId × Value → H} {W : World} {sp : Nat → Bool} {fuel : Nat} {cs : List Value} {x : DataW H × List MemPlace} (h : DataW.trod enc Try.prog W 0 sp true fuel 24 cs = some x) :
    ∃ (A : Option Addr) (n cap : Nat) (M : Nat → BitVec 32), cs = [.slice A n cap] ∧ MemAt W A n M ∧ n ≤ cap ∧ cap ≤ maxLen := by
  rcases open_slice1 Try.underlying24 cells22o h with ⟨h0, _⟩ | ⟨a, len, cap, m, n, V, D, Pl, rfl, hb, hl, hm, hmm, rfl, hx⟩
  · exact ⟨none, 0, 0, fun _ => 0#32, h0, fun h => by omega, by omega, by unfold maxLen; omega⟩
  have hlm : len ≤ m := by rw [hmm]; split <;> omega
  have each : ∀ i, i < m → ∃ q : BitVec 32, W.cell? (a.add i) = some (.int .u32 q.toNat) := by
    intro i hi
    obtain ⟨h1, h2⟩ := hx i hi
    obtain ⟨s, e0, d0, w0⟩ := DataW.trod_int Try.underlying22 h2
    simp only [List.cons.injEq, and_true] at e0
    obtain ⟨q, rfl⟩ := word_of s w0
    exact ⟨q, by rw [h1, e0]⟩
  obtain ⟨q, hq⟩ := choose_lt each
  exact ⟨some a, len, cap, q, rfl, fun _ => ⟨a, rfl, fun j hj => hq j (by omega)⟩, hl, hm⟩

theorem open_regs {H : Type} {enc : TypeId × Value → H} {W : World} {sp : Nat → Bool} {fuel : Nat} {cs : List Value} {x : DataW H × List MemPlace} (h : DataW.trod enc Try.prog W 0 sp true fuel 23 cs = some x) :
    ∃ R : Nat → BitVec 32, cs = (regArr R).toList := by
  obtain ⟨xs, m, _, _, hl, hlen, hi⟩ := DataW.trod_array Try.underlying23 h
  rw [cells23] at hl
  have each : ∀ i, i < 8 → ∃ q : BitVec 32, cs[i]? = some (.int .u32 q.toNat) := by
    intro i hlt
    have h1 := hi i hlt
    rw [cells22o, Nat.mul_one, List.getElem?_eq_getElem (by omega)] at h1
    obtain ⟨s, e0, _, w0⟩ := DataW.trod_int Try.underlying22 h1
    obtain ⟨q, rfl⟩ := word_of s w0
    refine ⟨q, ?_⟩
    have : (cs.drop i)[0]? = some (.int .u32 q.toNat) := by
      have h2 := congrArg (·[0]?) e0
      simpa using h2
    simpa using this
  obtain ⟨q, hq⟩ := choose_lt each
  refine ⟨q, List.ext_getElem? fun i => ?_⟩
  by_cases hi8 : i < 8
  · rw [hq i hi8]
    have := regArr_at q i hi8
    rw [Array.getElem?_toList, this]
  · rw [List.getElem?_eq_none (by omega), List.getElem?_eq_none (by have := regArr_size q; simp only [Array.length_toList, this]; omega)]

theorem open_ctx {H : Type} {enc : TypeId × Value → H} {W : World} {b0 : Nat} {sp : Nat → Bool} {r : Reach} {v : Value} {d : DataW H} {p : List MemPlace} (hv : Value.okWide Try.prog W r b0 26 v) (h : DataW.Trod enc Try.prog W 0 sp true 26 v d p) :
    ∃ (at_ : Int) (R : Nat → BitVec 32) (A : Option Addr) (n cap : Nat) (M : Nat → BitVec 32), v = .agg (ctxCells at_ R (.slice A n cap)) ∧ MemAt W A n M ∧ n ≤ cap ∧ cap ≤ maxLen := by
  obtain ⟨cs, rfl, hsz⟩ := okWide_struct Try.underlying26 hv
  obtain ⟨fuel, hf⟩ := h
  obtain ⟨xs, n, _, hx, hl, hlen, hg⟩ := DataW.trod_struct Try.underlying26 hf
  simp only [Value.cells] at hl hg
  rw [cells26] at hl
  have g0 : DataW.trod enc Try.prog W 0 sp true n 3 ((cs.toList.drop 0).take (Try.prog.cellsOf 3)) = xs[0]? := hg 0 _ rfl
  have g1 : DataW.trod enc Try.prog W 0 sp true n 23 ((cs.toList.drop 1).take (Try.prog.cellsOf 23)) = xs[1]? := hg 1 _ rfl
  have g2 : DataW.trod enc Try.prog W 0 sp true n 24 ((cs.toList.drop 9).take (Try.prog.cellsOf 24)) = xs[2]? := hg 2 _ rfl
  have hlen3 : xs.length = 3 := hlen
  clear hlen
  rw [cells3] at g0
  rw [cells23] at g1
  rw [cells24] at g2
  rw [List.getElem?_eq_getElem (by omega)] at g0 g1 g2
  obtain ⟨a, e0, _, _⟩ := DataW.trod_int Try.underlying3 g0
  obtain ⟨R, e1⟩ := open_regs g1
  obtain ⟨A, len, cap, M, e2, hM, h1, h2⟩ := open_words g2
  refine ⟨a, R, A, len, cap, M, ?_, hM, h1, h2⟩
  congr 1
  apply Array.toList_inj.1
  have hsplit : cs.toList = cs.toList.take 1 ++ ((cs.toList.drop 1).take 8 ++ (cs.toList.drop 9).take 1) := by
    have h3 : (cs.toList.drop 9).take 1 = cs.toList.drop 9 := List.take_of_length_le (by simp only [List.length_drop]; omega)
    rw [h3]
    have h4 : cs.toList.drop 9 = (cs.toList.drop 1).drop 8 := by rw [List.drop_drop]
    rw [h4, List.take_append_drop, List.take_append_drop]
  rw [hsplit, e1, e2]
  simp only [List.drop_zero] at e0
  rw [e0]
  rw [ctxCells_eq]
  simp

theorem cells28 : Try.prog.cellsOf 28 = 6 := by kernel_rfl
theorem ins_cells {H : Type} {enc : TypeId × Value → H} {W : World} {sp : Nat → Bool} {fuel : Nat} {cs : List Value} {x : DataW H × List MemPlace} (hf : DataW.trod enc Try.prog W 0 sp true fuel 28 cs = some x) :
    ∃ i : Ins, cs = [.int .i64 i.op, .int .i64 i.a, .int .i64 i.b, .int .i64 i.c, .int .i64 i.d, .int .u32 i.k.toNat] := by
  obtain ⟨xs, n, _, hx, hl, hlen, hg⟩ := DataW.trod_struct Try.underlying28 hf
  rw [cells28] at hl
  have hlen6 : xs.length = 6 := hlen
  clear hlen
  match cs, hl with
  | [v0, v1, v2, v3, v4, v5], _ =>
    have g0 : DataW.trod enc Try.prog W 0 sp true n 3 (([v0, v1, v2, v3, v4, v5].drop 0).take (Try.prog.cellsOf 3)) = xs[0]? := hg 0 _ rfl
    have g1 : DataW.trod enc Try.prog W 0 sp true n 3 (([v0, v1, v2, v3, v4, v5].drop 1).take (Try.prog.cellsOf 3)) = xs[1]? := hg 1 _ rfl
    have g2 : DataW.trod enc Try.prog W 0 sp true n 3 (([v0, v1, v2, v3, v4, v5].drop 2).take (Try.prog.cellsOf 3)) = xs[2]? := hg 2 _ rfl
    have g3 : DataW.trod enc Try.prog W 0 sp true n 3 (([v0, v1, v2, v3, v4, v5].drop 3).take (Try.prog.cellsOf 3)) = xs[3]? := hg 3 _ rfl
    have g4 : DataW.trod enc Try.prog W 0 sp true n 3 (([v0, v1, v2, v3, v4, v5].drop 4).take (Try.prog.cellsOf 3)) = xs[4]? := hg 4 _ rfl
    have g5 : DataW.trod enc Try.prog W 0 sp true n 22 (([v0, v1, v2, v3, v4, v5].drop 5).take (Try.prog.cellsOf 22)) = xs[5]? := hg 5 _ rfl
    rw [cells3, List.getElem?_eq_getElem (by omega)] at g0 g1 g2 g3 g4
    rw [cells22o, List.getElem?_eq_getElem (by omega)] at g5
    obtain ⟨a0, e0, _, _⟩ := DataW.trod_int Try.underlying3 g0
    obtain ⟨a1, e1, _, _⟩ := DataW.trod_int Try.underlying3 g1
    obtain ⟨a2, e2, _, _⟩ := DataW.trod_int Try.underlying3 g2
    obtain ⟨a3, e3, _, _⟩ := DataW.trod_int Try.underlying3 g3
    obtain ⟨a4, e4, _, _⟩ := DataW.trod_int Try.underlying3 g4
    obtain ⟨a5, e5, _, w5⟩ := DataW.trod_int Try.underlying22 g5
    obtain ⟨k, rfl⟩ := word_of a5 w5
    simp only [List.drop, List.take, List.cons.injEq, and_true] at e0 e1 e2 e3 e4 e5
    subst e0; subst e1; subst e2; subst e3; subst e4; subst e5
    exact ⟨⟨a0, a1, a2, a3, a4, k⟩, rfl⟩
theorem open_ins {H : Type} {enc : TypeId × Value → H} {W : World} {b0 : Nat} {sp : Nat → Bool} {r : Reach} {v : Value} {d : DataW H} {p : List MemPlace} (hv : Value.okWide Try.prog W r b0 28 v) (h : DataW.Trod enc Try.prog W 0 sp true 28 v d p) :
    ∃ i : Ins, v = .agg #[.int .i64 i.op, .int .i64 i.a, .int .i64 i.b, .int .i64 i.c, .int .i64 i.d, .int .u32 i.k.toNat] := by
  obtain ⟨cs, rfl, hsz⟩ := okWide_struct Try.underlying28 hv
  obtain ⟨fuel, hf⟩ := h
  obtain ⟨i, hi⟩ := ins_cells hf
  simp only [Value.cells] at hi
  exact ⟨i, by congr 1; exact Array.toList_inj.1 hi⟩
theorem open_code {H : Type} {enc : TypeId × Value → H} {W : World} {sp : Nat → Bool} {fuel : Nat} {cs : List Value} {x : DataW H × List MemPlace} (h : DataW.trod enc Try.prog W 0 sp true fuel 39 cs = some x) :
    ∃ (A : Option Addr) (n cap : Nat) (C : Nat → Ins), cs = [.slice A n cap] ∧ CodeAt W A n C ∧ n ≤ cap ∧ cap ≤ maxLen := by
  rcases open_slice Try.underlying39 h with h0 | ⟨a, len, cap, m, n, D, Pl, rfl, hb, hl, hm, hmm, rfl, hx⟩
  · exact ⟨none, 0, 0, fun _ => default, h0.1, fun h => by omega, by omega, by unfold maxLen; omega⟩
  have hlm : len ≤ m := by rw [hmm]; split <;> omega
  have each : ∀ j, j < m → ∃ i : Ins, W.cell? (a.add (j * 6)) = some (.int .i64 i.op) ∧ W.cell? ⟨(a.add (j * 6)).block, (a.add (j * 6)).off + 1, none⟩ = some (.int .i64 i.a) ∧ W.cell? ⟨(a.add (j * 6)).block, (a.add (j * 6)).off + 2, none⟩ = some (.int .i64 i.b) ∧
      W.cell? ⟨(a.add (j * 6)).block, (a.add (j * 6)).off + 3, none⟩ = some (.int .i64 i.c) ∧ W.cell? ⟨(a.add (j * 6)).block, (a.add (j * 6)).off + 4, none⟩ = some (.int .i64 i.d) ∧ W.cell? ⟨(a.add (j * 6)).block, (a.add (j * 6)).off + 5, none⟩ = some (.int .u32 i.k.toNat) := by
    intro j hj
    obtain ⟨cs', h1, h2⟩ := hx j hj
    rw [cells28] at h1
    obtain ⟨_, hlen, hcell⟩ := World.cells?_some h1
    obtain ⟨i, rfl⟩ := ins_cells h2
    have c0 := hcell 0 (by omega)
    have c1 := hcell 1 (by omega)
    have c2 := hcell 2 (by omega)
    have c3 := hcell 3 (by omega)
    have c4 := hcell 4 (by omega)
    have c5 := hcell 5 (by omega)
    exact ⟨i, by simpa [Addr.add] using c0, by simpa [Addr.add] using c1, by simpa [Addr.add] using c2, by simpa [Addr.add] using c3, by simpa [Addr.add] using c4, by simpa [Addr.add] using c5⟩
  obtain ⟨q, hq⟩ := choose_lt each
  exact ⟨some a, len, cap, q, rfl, fun _ => ⟨a, rfl, fun j hj => hq j (by omega)⟩, hl, hm⟩
theorem open_pair {H : Type} {enc : TypeId × Value → H} {W : World} {b0 : Nat} {sp : Nat → Bool} {r : Reach} {v : Value} {d : DataW H} {p : List MemPlace} (hv : Value.okWide Try.prog W r b0 43 v) (h : DataW.Trod enc Try.prog W 0 sp true 43 v d p) :
    ∃ a b : Int, v = .agg #[.int .i64 a, .int .i64 b] := by
  obtain ⟨fuel, hf⟩ := h
  obtain ⟨xs, n, _, hx, hl, hlen, hi⟩ := DataW.trod_array Try.underlying43 hf
  have h0 := hi 0 (by omega)
  have h1 := hi 1 (by omega)
  have hc : Try.prog.cellsOf 43 = 2 := by kernel_rfl
  rw [hc] at hl
  rw [cells3, List.getElem?_eq_getElem (by omega)] at h0 h1
  obtain ⟨a, e0, _, _⟩ := DataW.trod_int Try.underlying3 h0
  obtain ⟨b, e1, _, _⟩ := DataW.trod_int Try.underlying3 h1
  obtain ⟨cs, rfl⟩ : ∃ cs, v = .agg cs := by
    simp only [Value.okWide, Try.underlying43] at hv
    cases v <;> simp_all
  simp only [Value.cells] at hl e0 e1
  obtain ⟨l⟩ := cs
  match l, hl with
  | [x, y], _ =>
    simp only [List.drop, List.take, List.cons.injEq, and_true] at e0
    simp only [List.drop, List.take, List.cons.injEq, and_true] at e1
    exact ⟨a, b, by rw [e0, e1]⟩
end Go.Proofs.Ytkjacmnocbdghaa
