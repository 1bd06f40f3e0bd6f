/- Eight registers, held against the same eight. -/
import Derived.Test.YtkjacmnocbdghaaDoRefAll
import Derived.ChangeKeysEq
import Derived.Laws.StructEq
namespace Go.Proofs.Ytkjacmnocbdghaa
open Go.RowKit
set_option linter.unusedVariables false
theorem cells22 : Try.prog.cellsOf 22 = 1 := by kernel_rfl
theorem part_word (xs : Array Value) (j : Nat) (r : Int) (w : World) (h : xs[j]? = some (.int .u32 r)) : (part 22 xs (j * 1)).run Try.prog w = .ok (.int .u32 r) w := by
  simp [part, isAgg, run_underlying Try.underlying22, h]
theorem eqItems_same (xs : Array Value) (w : World) : ∀ (is : List Nat), (∀ i ∈ is, ∃ r, xs[i]? = some (.int .u32 r)) → (Op.eqItems 9999 22 1 xs xs is).run Try.prog w = .ok true w
  | [], _ => by simp [Op.eqItems]
  | i :: is, h => by
    obtain ⟨r, hr⟩ := h i (by simp)
    have ih := eqItems_same xs w is (fun j hj => h j (List.mem_cons_of_mem _ hj))
    simp only [Op.eqItems, Sem.run_bind, part_word xs i r w hr, Result.andThen_ok]
    have he : (Op.equalIn 9999 22 (.int .u32 r) (.int .u32 r)).run Try.prog w = .ok (r == r) w := run_equalIn_int w 9998 22 .u32 .u32 r r Try.underlying22
    rw [he]
    simp [ih]
theorem regs_same (xs : Array Value) (h : ∀ i, i < 8 → ∃ r, xs[i]? = some (.int .u32 r)) (w : World) : (Op.equalIn 10000 23 (.agg xs) (.agg xs)).run Try.prog w = .ok true w := by
  obtain ⟨i0, hi, _⟩ := info_parts info22
  rw [run_equalIn_array w 9999 _ _ Try.underlying23 hi, cells22]
  exact eqItems_same xs w _ (fun i hi => h i (by simpa using hi))
end Go.Proofs.Ytkjacmnocbdghaa
