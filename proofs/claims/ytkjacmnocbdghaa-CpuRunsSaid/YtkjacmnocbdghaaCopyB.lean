/- Copy again: what is copied lies in new memory. -/
import Derived.Test.YtkjacmnocbdghaaDoRef
namespace Go.Proofs.Ytkjacmnocbdghaa
open Go.RowKit
set_option linter.unusedVariables false
attribute [local irreducible] ctxCells regArr
set_option maxRecDepth 100000 in
theorem copy_new (w : World) (at_ : Int) (R : Nat → BitVec 32) (A : Option Addr) (n cap : Nat) (M : Nat → BitVec 32) (hn : (n : Int) ≤ 300) (hcap : (n : Int) ≤ cap) (hM : MemAt w A n M) :
    Calls Try.prog 10 #[.agg (ctxCells at_ R (.slice A n cap))] w fun e w' => ∃ A' cap', e = .returned (.agg (ctxCells at_ R (.slice A' n cap'))) ∧ MemOwn w' w.heap.size A' n M ∧ (n : Int) ≤ cap' ∧ Grow w w' ∧ ∀ m, A' = some ⟨m, 0, none⟩ → w.heap.size ≤ m := by
  obtain ⟨i0, hi, hz0, hz1, hz2⟩ := info_parts info22
  have HM := Lib.hid hM; clear hM
  go_enter Try.func10, Try.ntmps10
  have h9 := ctx_9 at_ R (.slice A n cap)
  go_wp2_with (at_builtin; refine wpList_append_any _ rfl (.tmp 3) (.tmp 5) 24 rfl w.heap.size 22 i0 (.int .u32 0) 1 4 Try.underlying24 hi hz0 hz1 hz2 rfl (by decide) _ 0 [] (by rfl) ?c1 w.heap.size A n cap (words n M) (by rfl) ?c2 ?c3 ?c4 ?c5 ?c6 ?c7)
  case c1 =>
    have h := World.ownsRow_made (base := w.heap.size) (e := 22) (size := 1) ((w.alloc (.cells (ctxCells at_ R (.slice A n cap)) 26)).alloc (.cells #[.int .i64 0, .int .u32 0, .int .u32 0, .int .u32 0, .int .u32 0, .int .u32 0, .int .u32 0, .int .u32 0, .int .u32 0, .slice none 0 0] 26)) #[] 0 (Nat.le_trans (Nat.le_succ _) (by simp)) (by unfold maxLen; omega) rfl
    have e : ((w.alloc (.cells (ctxCells at_ R (.slice A n cap)) 26)).alloc (.cells #[.int .i64 0, .int .u32 0, .int .u32 0, .int .u32 0, .int .u32 0, .int .u32 0, .int .u32 0, .int .u32 0, .int .u32 0, .slice none 0 0] 26)).heap.size = w.heap.size + 1 + 1 := by simp
    rw [e] at h
    exact h
  case c2 =>
    refine ((HM.out.reads.alloc (Nat.le_refl _) _).alloc (by simp) _).alloc ?_ _
    exact Nat.le_trans (Nat.le_succ _) (by simp)
  case c3 => intro u hu; obtain ⟨j, hj⟩ := List.mem_iff_getElem?.1 hu; rw [(words_at n M j u hj).2]; rfl
  case c4 => unfold maxLen; omega
  case c5 => omega
  case c6 => exact Nat.le_trans (Nat.le_succ _) (Nat.le_trans (Nat.le_succ _) (by simp))
  case c7 =>
    intro v' w1 hown1 hgrow hblk
    have hX : CtxAt (((w.alloc (.cells (ctxCells at_ R (.slice A n cap)) 26)).alloc (.cells #[.int .i64 0, .int .u32 0, .int .u32 0, .int .u32 0, .int .u32 0, .int .u32 0, .int .u32 0, .int .u32 0, .int .u32 0, .slice none 0 0] 26)).alloc (.cells #[] 22)) w.heap.size at_ R (.slice A n cap) :=
      (heapAt_alloc_old _ _ (by simp; omega)).trans ((heapAt_alloc_old _ _ (by simp)).trans (heapAt_alloc_new w _))
    have hZ : (((w.alloc (.cells (ctxCells at_ R (.slice A n cap)) 26)).alloc (.cells #[.int .i64 0, .int .u32 0, .int .u32 0, .int .u32 0, .int .u32 0, .int .u32 0, .int .u32 0, .int .u32 0, .int .u32 0, .slice none 0 0] 26)).alloc (.cells #[] 22)).heap[w.heap.size + 1]? = some (.cells #[.int .i64 0, .int .u32 0, .int .u32 0, .int .u32 0, .int .u32 0, .int .u32 0, .int .u32 0, .int .u32 0, .int .u32 0, .slice none 0 0] 26) :=
      (heapAt_alloc_old _ _ (by simp)).trans (heap_alloc2_new w _ _)
    have hG0 : Grow w (((w.alloc (.cells (ctxCells at_ R (.slice A n cap)) 26)).alloc (.cells #[.int .i64 0, .int .u32 0, .int .u32 0, .int .u32 0, .int .u32 0, .int .u32 0, .int .u32 0, .int .u32 0, .int .u32 0, .slice none 0 0] 26)).alloc (.cells #[] 22)) := ((Grow.alloc w _).trans (Grow.alloc _ _)).trans (Grow.alloc _ _)
    have hsz : (((w.alloc (.cells (ctxCells at_ R (.slice A n cap)) 26)).alloc (.cells #[.int .i64 0, .int .u32 0, .int .u32 0, .int .u32 0, .int .u32 0, .int .u32 0, .int .u32 0, .int .u32 0, .int .u32 0, .slice none 0 0] 26)).alloc (.cells #[] 22)).heap.size = w.heap.size + 3 := by simp
    generalize ((w.alloc (.cells (ctxCells at_ R (.slice A n cap)) 26)).alloc (.cells #[.int .i64 0, .int .u32 0, .int .u32 0, .int .u32 0, .int .u32 0, .int .u32 0, .int .u32 0, .int .u32 0, .int .u32 0, .slice none 0 0] 26)).alloc (.cells #[] 22) = w0 at *
    have hX1 : CtxAt w1 w.heap.size at_ R (.slice A n cap) := (hgrow.block _ (by omega) (by simp [Value.ownBlock]; omega)).trans hX
    have hZ1 : w1.heap[w.heap.size + 1]? = some (.cells #[.int .i64 0, .int .u32 0, .int .u32 0, .int .u32 0, .int .u32 0, .int .u32 0, .int .u32 0, .int .u32 0, .int .u32 0, .slice none 0 0] 26) := (hgrow.block _ (by omega) (by simp [Value.ownBlock])).trans hZ
    have hG1 : Grow w w1 := Below.trans hG0 (below_grown hgrow (by omega) (fun k hk => by simp [Value.ownBlock] at hk; omega))
    clear hX hZ hG0 hgrow
    obtain ⟨A', cap', rfl, hcap2, hmem⟩ := own_mem hown1
    have HC2 := Lib.hid hcap2; clear hcap2
    have hne : ∀ g, A' = some ⟨g, 0, none⟩ → w.heap.size + 2 ≤ g := by
      rintro g rfl
      rcases hblk with h | h <;> simp [Value.ownBlock] at h <;> omega
    have c9 := hX1.c9
    have f9 := hX1.free 9
    have hX2 := hX1.set9 (.slice A' n cap')
    have hZ2 : (w1.setCell ⟨w.heap.size, 9, none⟩ (.slice A' n cap')).heap[w.heap.size + 1]? = some (.cells #[.int .i64 0, .int .u32 0, .int .u32 0, .int .u32 0, .int .u32 0, .int .u32 0, .int .u32 0, .int .u32 0, .int .u32 0, .slice none 0 0] 26) := (set_block_other (by omega) _ _).trans hZ1
    have hO2 := (Only.refl w.heap.size w1).setCell 9 (.slice A' n cap')
    clear hown1 hblk h9
    have HM2 := Lib.hid hmem; clear hmem
    have HX2 := Lib.hid (show (w1.setCell ⟨w.heap.size, 9, none⟩ (.slice A' n cap')).heap[w.heap.size]? = some (.cells (ctxCells at_ R (.slice A' n cap')) 26 (0, 0)) from hX2); clear hX2
    have HZ2 := Lib.hid hZ2; clear hZ2
    have HO2 := Lib.hid hO2; clear hO2
    have HG1 := Lib.hid hG1; clear hG1
    have HNE := Lib.hid hne; clear hne
    have hsz1 := hsz
    clear hsz hZ1 hX1
    have hs10 : (#[.int .i64 0, .int .u32 0, .int .u32 0, .int .u32 0, .int .u32 0, .int .u32 0, .int .u32 0, .int .u32 0, .int .u32 0, .slice none 0 0] : Array Value).size = (ctxCells at_ R (.slice A' n cap')).size := by rw [ctxCells_size]; rfl
    have hone := ctx_one at_ R (.slice A' n cap') rfl
    have hinf := info26c at_ R (.slice A' n cap')
    have HS10 := Lib.hid hs10
    have HONE := Lib.hid hone
    have HINF := Lib.hid hinf
    clear hs10 hone hinf
    go_wp2_with (first
      | ((with_reducible refine wpList_load_blk rfl 26 (.tmp 1) rfl w.heap.size 26 (ctxCells at_ R (.slice A' n cap')) _ ?_ HX2.out Try.underlying26 ?_ HINF.out ?_); (· rfl); (· rfl))
      | ((with_reducible refine wpList_store_blk rfl 26 (.tmp 2) (.tmp 8) rfl (w.heap.size + 1) 26 _ (ctxCells at_ R (.slice A' n cap')) ?_ ?_ HZ2.out HS10.out HINF.out HONE.out ?_); (· rfl); (· rfl); intro w2 hb2 ho2))
    refine bodyPost_ret (v := .agg (ctxCells at_ R (.slice A' n cap'))) (results_cell_row rfl _ _ (w.heap.size + 1) 26 _ (0, 0) _ (by rfl) hb2 Try.underlying26 rfl (info26c _ _ _)) rfl ⟨A', cap', rfl, ?_, by have := HC2.out; omega, ?_, ?_⟩
    · exact (HM2.out.only HO2.out (fun g hg _ => by have := HNE.out g hg; omega)).only ho2 (fun g hg _ => by have := HNE.out g hg; omega)
    · exact (HG1.out.only HO2.out (Nat.le_refl _)).only ho2 (by omega)
    · intro m hm; have := HNE.out m hm; omega

theorem st_made {w w5 : World} {B n cap : Nat} {at_ : Int} {R M : Nat → BitVec 32} {A : Option Addr} (hown : MemOwn w B A n M) (hB : B ≤ w.heap.size) (Z : Obj) (hb : w5.heap[w.heap.size]? = some (.cells (ctxCells at_ R (.slice A n cap)) 26 (0, 0))) (ho : Only w.heap.size (w.alloc Z) w5) :
    St w5 B w.heap.size at_ R A n cap M ∧ Grow w w5 := by
  refine ⟨⟨hb, (hown.grow (Grow.alloc w Z)).only ho (fun g hA hn => ?_), hB, fun hn hA => ?_⟩, (Grow.alloc w Z).only ho (Nat.le_refl _)⟩
  · obtain ⟨m, hm, _, hlt⟩ := hown.lt hn
    rw [hA] at hm
    injection hm with hm; injection hm with hm
    omega
  · obtain ⟨m, hm, _, hlt⟩ := hown.lt hn
    rw [hA] at hm
    injection hm with hm; injection hm with hm
    omega
theorem mine_old {B g k : Nat} {A : Option Addr} (hg : B ≤ g) (hA : ∀ m, A = some ⟨m, 0, none⟩ → B ≤ m) (hk : k < B) : ¬ Mine g A k := by
  rintro (rfl | ⟨m, hm, rfl⟩)
  · omega
  · have := hA _ hm; omega
theorem kept_grow {B g : Nat} {A : Option Addr} {w w0 w' : World} (h : Kept (Mine g A) w w') (hG : Grow w0 w) (hB : w0.heap.size ≤ B) (hg : B ≤ g) (hA : ∀ m, A = some ⟨m, 0, none⟩ → B ≤ m) : Grow w0 w' :=
  Below.trans hG (h.below (B := w0.heap.size) hG.size (fun k hk => by
    refine Classical.byContradiction fun hn => ?_
    exact mine_old hg hA (by omega) hk))
end Go.Proofs.Ytkjacmnocbdghaa
