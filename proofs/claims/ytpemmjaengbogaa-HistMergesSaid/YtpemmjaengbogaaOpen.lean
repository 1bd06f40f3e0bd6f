/- Lists of numbers among the arguments, opened. -/
import Derived.Test.YtpemmjaengbogaaMem
import Derived.Deep.Slices
import Derived.ProofKit
import Derived.OpenShut
namespace Go.Proofs.Ytpemmjaengbogaa
open Go.ChangeShapes Go.WideShapes Go.ChangeAt Go.RowKit Go.Deep
set_option linter.unusedVariables false
theorem cells28 : Try.prog.cellsOf 28 = 1 := by kernel_rfl
theorem cells23 : Try.prog.cellsOf 23 = 1 := by kernel_rfl
theorem cells24 : Try.prog.cellsOf 24 = 2 := by kernel_rfl
theorem open_nums {H : Type} {enc : TypeId × Value → H} {W : World} {sp : Nat → Bool} {fuel : Nat} {cs : List Value} {x : DataW H × List MemPlace} (h : DataW.trod enc Try.prog W 0 sp true fuel 22 cs = some x) :
    ∃ (A : Option Addr) (n cap : Nat) (M : Nat → Nat), cs = [.slice A n cap] ∧ MemAt W A n M ∧ n ≤ cap ∧ cap ≤ maxLen ∧ ∀ i, M i < 18446744073709551616 := by
  rcases open_slice1 Try.underlying22 cells28 h with ⟨h0, _⟩ | ⟨a, len, cap, m, n, V, D, Pl, rfl, hb, hl, hm, hmm, rfl, hx⟩
  · exact ⟨none, 0, 0, fun _ => 0, h0, fun h => by omega, by omega, by unfold maxLen; omega, fun _ => by show (0 : Nat) < _; omega⟩
  have hlm : len ≤ m := by rw [hmm]; split <;> omega
  have each : ∀ i, i < m → ∃ q : Nat, W.cell? (a.add i) = some (.int .u64 (q : Int)) ∧ q < 18446744073709551616 := by
    intro i hi
    obtain ⟨h1, h2⟩ := hx i hi
    obtain ⟨s, e0, d0, w0⟩ := DataW.trod_int Try.underlying28 h2
    simp only [List.cons.injEq, and_true] at e0
    simp [Lit.wf, IntKind.min, IntKind.max, IntKind.signed, IntKind.bits] at w0
    obtain ⟨q, rfl⟩ := Int.eq_ofNat_of_zero_le w0.1
    exact ⟨q, by rw [h1, e0], by omega⟩
  obtain ⟨q, hq⟩ := choose_lt each
  refine ⟨some a, len, cap, fun i => if i < m then q i else 0, rfl, fun _ => ⟨a, rfl, fun j hj => ?_⟩, hl, hm, fun i => ?_⟩
  · show W.cell? (a.add j) = some (.int .u64 ((if j < m then q j else 0 : Nat) : Int))
    rw [if_pos (by omega)]; exact (hq j (by omega)).1
  · show (if i < m then q i else 0) < _
    split
    · rename_i hi; exact (hq i hi).2
    · omega
theorem open_two {H : Type} {enc : TypeId × Value → H} {W : World} {b0 : Nat} {sp : Nat → Bool} {r : Reach} {v : Value} {d : DataW H} {p : List MemPlace} (hv : Value.okWide Try.prog W r b0 24 v) (h : DataW.Trod enc Try.prog W 0 sp true 24 v d p) :
    ∃ a b : Nat, v = .agg #[.int .u32 (a : Int), .int .u32 (b : Int)] ∧ a < 4294967296 ∧ b < 4294967296 := by
  obtain ⟨fuel, hf⟩ := h
  obtain ⟨xs, n, _, hx, hl, hlen, hi⟩ := DataW.trod_array Try.underlying24 hf
  have h0 := hi 0 (by omega)
  have h1 := hi 1 (by omega)
  rw [cells24] at hl
  rw [cells23, List.getElem?_eq_getElem (by omega)] at h0 h1
  obtain ⟨a, e0, _, w0⟩ := DataW.trod_int Try.underlying23 h0
  obtain ⟨b, e1, _, w1⟩ := DataW.trod_int Try.underlying23 h1
  obtain ⟨cs, rfl⟩ : ∃ cs, v = .agg cs := by
    simp only [Value.okWide, Try.underlying24] at hv
    cases v <;> simp_all
  simp only [Value.cells] at hl e0 e1
  simp [Lit.wf, IntKind.min, IntKind.max, IntKind.signed, IntKind.bits] at w0 w1
  obtain ⟨a, rfl⟩ := Int.eq_ofNat_of_zero_le w0.1
  obtain ⟨b, rfl⟩ := Int.eq_ofNat_of_zero_le w1.1
  obtain ⟨l⟩ := cs
  match l, hl with
  | [x, y], _ =>
    simp only [List.drop, List.take, List.cons.injEq, and_true] at e0
    simp only [List.drop, List.take, List.cons.injEq, and_true] at e1
    exact ⟨a, b, by rw [e0, e1], by omega, by omega⟩
end Go.Proofs.Ytpemmjaengbogaa
