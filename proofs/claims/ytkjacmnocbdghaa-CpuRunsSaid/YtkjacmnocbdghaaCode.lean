/- A program's cells, in a row; appended onto an empty one. -/
import Derived.Test.YtkjacmnocbdghaaRun
namespace Go.Proofs.Ytkjacmnocbdghaa
open Go.RowKit
set_option linter.unusedVariables false
theorem info28 : (Try.prog.info? 28).map (fun i => (i.zero, i.size, i.bytes)) = some (some (.agg #[.int .i64 0, .int .i64 0, .int .i64 0, .int .i64 0, .int .i64 0, .int .u32 0]), 6, 48) := by kernel_rfl
def insL (i : Ins) : List Value := [.int .i64 i.op, .int .i64 i.a, .int .i64 i.b, .int .i64 i.c, .int .i64 i.d, .int .u32 i.k.toNat]
def codeCells (C : Nat → Ins) : Nat → List Value
  | 0 => []
  | n + 1 => codeCells C n ++ insL (C n)
theorem code_len (C : Nat → Ins) : ∀ n, (codeCells C n).length = n * 6
  | 0 => rfl
  | n + 1 => by rw [codeCells, List.length_append, code_len C n]; simp [insL]; omega
theorem code_get (C : Nat → Ins) (j r : Nat) (hr : r < 6) : ∀ n, j < n → (codeCells C n)[j * 6 + r]? = (insL (C j))[r]?
  | 0, h => absurd h (Nat.not_lt_zero _)
  | n + 1, h => by
    rw [codeCells]
    by_cases e : j = n
    · subst e
      rw [List.getElem?_append_right (by rw [code_len]; omega), code_len, show j * 6 + r - j * 6 = r by omega]
    · rw [List.getElem?_append_left (by rw [code_len]; omega), code_get C j r hr n (by omega)]
theorem add_add' (a : Addr) (i r : Nat) : a.add (i + (r + 1)) = ⟨(a.add i).block, (a.add i).off + (r + 1), none⟩ := by
  unfold Addr.add
  by_cases h : i = 0
  · subst h; simp
  · rw [if_neg (by omega), if_neg h]
    simp; omega
theorem CodeAt.reads {w : World} {A : Option Addr} {len : Nat} {C : Nat → Ins} (h : CodeAt w A len C) : Reads w w.heap.size 6 A len (codeCells C len) :=
  ⟨code_len C len, fun hn => by
    obtain ⟨a, hA, hc⟩ := h hn
    refine ⟨a, hA, ?_, fun j u hu => ?_⟩
    · have := cell_lt (hc 0 hn).1
      rw [add_block] at this; exact this
    · have hj : j < len * 6 := by have := (List.getElem?_eq_some_iff.1 hu).1; rw [code_len] at this; exact this
      have hjd : j = j / 6 * 6 + j % 6 := by omega
      have hq : j / 6 < len := by omega
      rw [hjd, code_get C (j / 6) (j % 6) (by omega) len hq] at hu
      obtain ⟨c0, c1, c2, c3, c4, c5⟩ := hc (j / 6) hq
      rw [hjd]
      have h6 : j % 6 < 6 := by omega
      generalize j % 6 = r at hu h6 ⊢
      generalize j / 6 = q at hu c0 c1 c2 c3 c4 c5 ⊢
      match r, h6 with
      | 0, _ => simp [insL] at hu; rw [← hu]; exact c0
      | 1, _ => simp [insL] at hu; rw [← hu, add_add']; exact c1
      | 2, _ => simp [insL] at hu; rw [← hu, add_add']; exact c2
      | 3, _ => simp [insL] at hu; rw [← hu, add_add']; exact c3
      | 4, _ => simp [insL] at hu; rw [← hu, add_add']; exact c4
      | 5, _ => simp [insL] at hu; rw [← hu, add_add']; exact c5⟩
theorem own_code {w : World} {B len : Nat} {v : Value} {C : Nat → Ins} (h : w.ownsRow B 28 6 v len (codeCells C len)) : ∃ A cap, v = .slice A len cap ∧ len ≤ cap ∧ CodeAt w A len C ∧ ∀ a, A = some a → B ≤ a.block := by
  rcases h.2 with ⟨rfl, rfl⟩ | ⟨g, cap, cur, rfl, hB, hg, hcap, _, _, htake⟩
  · exact ⟨none, 0, rfl, Nat.le_refl _, fun h => absurd h (by omega), fun a h => by cases h⟩
  · refine ⟨_, cap, rfl, hcap, fun hn => ⟨_, rfl, fun j hj => ?_⟩, fun a ha => by injection ha with ha; subst ha; exact hB⟩
    have hc := h.cells (g := g) rfl
    have k := fun r (hr : r < 6) u (hu : (insL (C j))[r]? = some u) => hc (j * 6 + r) u ((code_get C j r hr len hj).trans hu)
    refine ⟨k 0 (by omega) _ rfl, ?_, ?_, ?_, ?_, ?_⟩
    · have := k 1 (by omega) _ rfl; rw [add_add'] at this; exact this
    · have := k 2 (by omega) _ rfl; rw [add_add'] at this; exact this
    · have := k 3 (by omega) _ rfl; rw [add_add'] at this; exact this
    · have := k 4 (by omega) _ rfl; rw [add_add'] at this; exact this
    · have := k 5 (by omega) _ rfl; rw [add_add'] at this; exact this
theorem code_one (C : Nat → Ins) : ∀ n, ∀ u ∈ codeCells C n, u.oneCell' = true
  | 0, u, h => by simp [codeCells] at h
  | n + 1, u, h => by
    rw [codeCells, List.mem_append] at h
    rcases h with h | h
    · exact code_one C n u h
    · simp [insL] at h
      rcases h with rfl | rfl | rfl | rfl | rfl | rfl <;> rfl
end Go.Proofs.Ytkjacmnocbdghaa
