/- Texts of the proof, merged: CardKit. -/
import Derived.Test.YtnhmdinpfcoebaaGreatDoorM12
import Derived.Lib.LaidTab
/-! === CardKit -/
section
/- What the rows' list gives: the library's table lies in its variable; and a world for the witness. -/
namespace Go.Proofs.YtnhmdinpfcoebaaGreatDoor
open Go.RowKit
theorem gTab : Tryz.prog.globalNamed "math/bits.deBruijn32tab" = some 0 := by kernel_rfl
theorem gTabType : (Tryz.prog.globals[0]?).map (·.type) = some 316 := by kernel_rfl
theorem cells316 : Tryz.prog.cellsOf 316 = 32 := by kernel_rfl
theorem cells5 : Tryz.prog.cellsOf 5 = 1 := by kernel_rfl
theorem tab_at {W : World} (h : laidMetH Tryz.prog [("math/bits.deBruijn32tab", Rows.laid_math_bits_deBruijn32tab)] W) : Qu.TabAt W := by
  have hT : Lib.TabIs Tryz.prog W "math/bits.deBruijn32tab" .u8 [0, 1, 28, 2, 29, 14, 24, 3, 30, 22, 20, 15, 25, 17, 4, 8, 31, 27, 13, 23, 21, 19, 16, 7, 26, 12, 18, 6, 11, 5, 10, 9] :=
    Lib.tabIs_of_head (rest := []) gTab gTabType Tryz.underlying316 Tryz.underlying5 cells5 cells316 h
  intro j hj
  have hc := hT.cell gTab j (by simpa using hj)
  rw [hc]
  have : ∀ j : Fin 32, (([0, 1, 28, 2, 29, 14, 24, 3, 30, 22, 20, 15, 25, 17, 4, 8, 31, 27, 13, 23, 21, 19, 16, 7, 26, 12, 18, 6, 11, 5, 10, 9] : List Int).getD j.val 0) = ((Lib.deBruijn32tab.getD j.val 0 : Nat) : Int) := by decide
  rw [this ⟨j, hj⟩]
/-- The table laid in a world. -/
noncomputable def laidIn (w : World) : World :=
  { w with heap := w.heap.modify 0 fun
      | .cells _ t frozen => .cells #[.int .u8 0, .int .u8 1, .int .u8 28, .int .u8 2, .int .u8 29, .int .u8 14, .int .u8 24, .int .u8 3, .int .u8 30, .int .u8 22, .int .u8 20, .int .u8 15, .int .u8 25, .int .u8 17, .int .u8 4, .int .u8 8, .int .u8 31, .int .u8 27, .int .u8 13, .int .u8 23, .int .u8 21, .int .u8 19, .int .u8 16, .int .u8 7, .int .u8 26, .int .u8 12, .int .u8 18, .int .u8 6, .int .u8 11, .int .u8 5, .int .u8 10, .int .u8 9] t frozen
      | o => o }
end Go.Proofs.YtnhmdinpfcoebaaGreatDoor
end
