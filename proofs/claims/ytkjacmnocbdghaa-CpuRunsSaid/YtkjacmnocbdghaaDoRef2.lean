/- The walk of the reference's Do, where it is refused, loads, stores, reckons. -/
import Derived.Test.YtkjacmnocbdghaaDoRef
import Derived.IntWalk
namespace Go.Proofs.Ytkjacmnocbdghaa
open Go.RowKit
set_option linter.unusedVariables false
attribute [local irreducible] hasA hasB hasC hasD hasK bitsOf regP hasStr letter formP bad4 bad6 bad8 bad10 ctxCells regArr valW valE words upd

set_option maxHeartbeats 1000000 in
set_option maxRecDepth 100000 in
theorem ref_bad20 (w : World) (n cap : Nat) (at_ : Int) (R M : Nat → BitVec 32) (A : Option Addr) (op a b c d : Int) (k : BitVec 32) (hn : (n : Int) ≤ 300) (hcap : (n : Int) ≤ cap) (hat0 : 0 ≤ at_) (hat1 : at_ ≤ 2000000000000) (hM : MemAt w A n M) (h20 : 20 < op) :
    Calls Try.prog 12 #[.agg (ctxCells at_ R (.slice A n cap)), .agg #[.int .i64 op, .int .i64 a, .int .i64 b, .int .i64 c, .int .i64 d, .int .u32 k.toNat]] w fun e w' => ∃ A' cap', e = .returned (.tuple #[.agg (ctxCells at_ R (.slice A' n cap')), .int .i64 14]) ∧ MemLoc w A w' A' n M ∧ (n : Int) ≤ cap' ∧ Grow w w' := by
  have h0 := ctx_0 at_ R (.slice A n cap)
  have h9 := ctx_9 at_ R (.slice A n cap)
  have hX : (((w.alloc (.cells (ctxCells at_ R (.slice A n cap)) 26)).alloc (.cells #[.int .i64 op, .int .i64 a, .int .i64 b, .int .i64 c, .int .i64 d, .int .u32 k.toNat] 28)).alloc (.cells #[.int .i64 0, .int .u32 0, .int .u32 0, .int .u32 0, .int .u32 0, .int .u32 0, .int .u32 0, .int .u32 0, .int .u32 0, .slice none 0 0] 26)).heap[w.heap.size]? = some (.cells (ctxCells at_ R (.slice A n cap)) 26) := (heapAt_alloc_old _ _ (by simp; omega)).trans ((heapAt_alloc_old _ _ (by simp)).trans (heapAt_alloc_new w _))
  have hO : (((w.alloc (.cells (ctxCells at_ R (.slice A n cap)) 26)).alloc (.cells #[.int .i64 op, .int .i64 a, .int .i64 b, .int .i64 c, .int .i64 d, .int .u32 k.toNat] 28)).alloc (.cells #[.int .i64 0, .int .u32 0, .int .u32 0, .int .u32 0, .int .u32 0, .int .u32 0, .int .u32 0, .int .u32 0, .int .u32 0, .slice none 0 0] 26)).heap[w.heap.size + 1]? = some (.cells #[.int .i64 op, .int .i64 a, .int .i64 b, .int .i64 c, .int .i64 d, .int .u32 k.toNat] 28) := (heapAt_alloc_old _ _ (by simp)).trans (heap_alloc2_new w _ _)
  have hZ : (((w.alloc (.cells (ctxCells at_ R (.slice A n cap)) 26)).alloc (.cells #[.int .i64 op, .int .i64 a, .int .i64 b, .int .i64 c, .int .i64 d, .int .u32 k.toNat] 28)).alloc (.cells #[.int .i64 0, .int .u32 0, .int .u32 0, .int .u32 0, .int .u32 0, .int .u32 0, .int .u32 0, .int .u32 0, .int .u32 0, .slice none 0 0] 26)).heap[w.heap.size + 2]? = some (.cells #[.int .i64 0, .int .u32 0, .int .u32 0, .int .u32 0, .int .u32 0, .int .u32 0, .int .u32 0, .int .u32 0, .int .u32 0, .slice none 0 0] 26) := by
    have := heapAt_alloc_new ((w.alloc (.cells (ctxCells at_ R (.slice A n cap)) 26)).alloc (.cells #[.int .i64 op, .int .i64 a, .int .i64 b, .int .i64 c, .int .i64 d, .int .u32 k.toNat] 28)) (.cells #[.int .i64 0, .int .u32 0, .int .u32 0, .int .u32 0, .int .u32 0, .int .u32 0, .int .u32 0, .int .u32 0, .int .u32 0, .slice none 0 0] 26)
    simpa using this
  have hG : Grow w (((w.alloc (.cells (ctxCells at_ R (.slice A n cap)) 26)).alloc (.cells #[.int .i64 op, .int .i64 a, .int .i64 b, .int .i64 c, .int .i64 d, .int .u32 k.toNat] 28)).alloc (.cells #[.int .i64 0, .int .u32 0, .int .u32 0, .int .u32 0, .int .u32 0, .int .u32 0, .int .u32 0, .int .u32 0, .int .u32 0, .slice none 0 0] 26)) := ((Grow.alloc w _).trans (Grow.alloc _ _)).trans (Grow.alloc _ _)
  go_enter Try.func12, Try.ntmps12
  go_upto_region 2 with fail
  generalize ((w.alloc (.cells (ctxCells at_ R (.slice A n cap)) 26)).alloc (.cells #[.int .i64 op, .int .i64 a, .int .i64 b, .int .i64 c, .int .i64 d, .int .u32 k.toNat] 28)).alloc (.cells #[.int .i64 0, .int .u32 0, .int .u32 0, .int .u32 0, .int .u32 0, .int .u32 0, .int .u32 0, .int .u32 0, .int .u32 0, .slice none 0 0] 26) = w1 at hX hO hZ hG ⊢
  clear h0 h9 hO
  have HX8 := Lib.hid hX
  have HZ8 := Lib.hid hZ
  have HG8 := Lib.hid hG
  have HI8 := Lib.hid (info26c at_ R (.slice A n cap))
  have HO8 := Lib.hid (ctx_one at_ R (.slice A n cap) rfl)
  have hs10 : (#[.int .i64 0, .int .u32 0, .int .u32 0, .int .u32 0, .int .u32 0, .int .u32 0, .int .u32 0, .int .u32 0, .int .u32 0, .slice none 0 0] : Array Value).size = (ctxCells at_ R (.slice A n cap)).size := by rw [ctxCells_size]; rfl
  have HS8 := Lib.hid hs10
  clear hs10 hX hZ hG
  go_wp2_with (first
    | ((with_reducible refine wpList_load_blk rfl 26 (.tmp 2) rfl w.heap.size 26 (ctxCells at_ R (.slice A n cap)) _ ?_ HX8.out Try.underlying26 ?_ HI8.out ?_); (· rfl); (· rfl))
    | ((with_reducible refine wpList_store_blk rfl 26 (.tmp 4) (.tmp 18) rfl (w.heap.size + 2) 26 _ (ctxCells at_ R (.slice A n cap)) ?_ ?_ HZ8.out HS8.out HI8.out HO8.out ?_); (· rfl); (· rfl); intro wf hbf hof))
  have hGf := HG8.out.only hof (by omega)
  refine bodyPost_ret (v := .tuple #[.agg (ctxCells at_ R (.slice A n cap)), .int .i64 (14)]) ?hres rfl ⟨A, cap, rfl, ⟨hM.grow hGf, fun _ => .inl rfl⟩, hcap, hGf⟩
  case hres =>
    refine results_cell_tmp (p := 4) (t := 5) (ty := 26) ?_ _ _ wf (w.heap.size + 2) _ ?_ ?_
    · rfl
    · rfl
    · exact run_loadVar_row wf (w.heap.size + 2) _ _ _ (0, 0) _ hbf Try.underlying26 rfl HI8.out

set_option maxHeartbeats 1000000 in
set_option maxRecDepth 100000 in
theorem ref_badf (w : World) (n cap : Nat) (at_ : Int) (R M : Nat → BitVec 32) (A : Option Addr) (op a b c d : Int) (k : BitVec 32) (hn : (n : Int) ≤ 300) (hcap : (n : Int) ≤ cap) (hat0 : 0 ≤ at_) (hat1 : at_ ≤ 2000000000000) (hM : MemAt w A n M) (h20 : ¬ 20 < op) (hf : formP op a b c d k.toNat ≠ 0) :
    Calls Try.prog 12 #[.agg (ctxCells at_ R (.slice A n cap)), .agg #[.int .i64 op, .int .i64 a, .int .i64 b, .int .i64 c, .int .i64 d, .int .u32 k.toNat]] w fun e w' => ∃ A' cap', e = .returned (.tuple #[.agg (ctxCells at_ R (.slice A' n cap')), .int .i64 14]) ∧ MemLoc w A w' A' n M ∧ (n : Int) ≤ cap' ∧ Grow w w' := by
  have h0 := ctx_0 at_ R (.slice A n cap)
  have h9 := ctx_9 at_ R (.slice A n cap)
  have hX : (((w.alloc (.cells (ctxCells at_ R (.slice A n cap)) 26)).alloc (.cells #[.int .i64 op, .int .i64 a, .int .i64 b, .int .i64 c, .int .i64 d, .int .u32 k.toNat] 28)).alloc (.cells #[.int .i64 0, .int .u32 0, .int .u32 0, .int .u32 0, .int .u32 0, .int .u32 0, .int .u32 0, .int .u32 0, .int .u32 0, .slice none 0 0] 26)).heap[w.heap.size]? = some (.cells (ctxCells at_ R (.slice A n cap)) 26) := (heapAt_alloc_old _ _ (by simp; omega)).trans ((heapAt_alloc_old _ _ (by simp)).trans (heapAt_alloc_new w _))
  have hO : (((w.alloc (.cells (ctxCells at_ R (.slice A n cap)) 26)).alloc (.cells #[.int .i64 op, .int .i64 a, .int .i64 b, .int .i64 c, .int .i64 d, .int .u32 k.toNat] 28)).alloc (.cells #[.int .i64 0, .int .u32 0, .int .u32 0, .int .u32 0, .int .u32 0, .int .u32 0, .int .u32 0, .int .u32 0, .int .u32 0, .slice none 0 0] 26)).heap[w.heap.size + 1]? = some (.cells #[.int .i64 op, .int .i64 a, .int .i64 b, .int .i64 c, .int .i64 d, .int .u32 k.toNat] 28) := (heapAt_alloc_old _ _ (by simp)).trans (heap_alloc2_new w _ _)
  have hZ : (((w.alloc (.cells (ctxCells at_ R (.slice A n cap)) 26)).alloc (.cells #[.int .i64 op, .int .i64 a, .int .i64 b, .int .i64 c, .int .i64 d, .int .u32 k.toNat] 28)).alloc (.cells #[.int .i64 0, .int .u32 0, .int .u32 0, .int .u32 0, .int .u32 0, .int .u32 0, .int .u32 0, .int .u32 0, .int .u32 0, .slice none 0 0] 26)).heap[w.heap.size + 2]? = some (.cells #[.int .i64 0, .int .u32 0, .int .u32 0, .int .u32 0, .int .u32 0, .int .u32 0, .int .u32 0, .int .u32 0, .int .u32 0, .slice none 0 0] 26) := by
    have := heapAt_alloc_new ((w.alloc (.cells (ctxCells at_ R (.slice A n cap)) 26)).alloc (.cells #[.int .i64 op, .int .i64 a, .int .i64 b, .int .i64 c, .int .i64 d, .int .u32 k.toNat] 28)) (.cells #[.int .i64 0, .int .u32 0, .int .u32 0, .int .u32 0, .int .u32 0, .int .u32 0, .int .u32 0, .int .u32 0, .int .u32 0, .slice none 0 0] 26)
    simpa using this
  have hG : Grow w (((w.alloc (.cells (ctxCells at_ R (.slice A n cap)) 26)).alloc (.cells #[.int .i64 op, .int .i64 a, .int .i64 b, .int .i64 c, .int .i64 d, .int .u32 k.toNat] 28)).alloc (.cells #[.int .i64 0, .int .u32 0, .int .u32 0, .int .u32 0, .int .u32 0, .int .u32 0, .int .u32 0, .int .u32 0, .int .u32 0, .slice none 0 0] 26)) := ((Grow.alloc w _).trans (Grow.alloc _ _)).trans (Grow.alloc _ _)
  have hG' := hG
  go_enter Try.func12, Try.ntmps12
  go_wp2_with fail
  generalize ((w.alloc (.cells (ctxCells at_ R (.slice A n cap)) 26)).alloc (.cells #[.int .i64 op, .int .i64 a, .int .i64 b, .int .i64 c, .int .i64 d, .int .u32 k.toNat] 28)).alloc (.cells #[.int .i64 0, .int .u32 0, .int .u32 0, .int .u32 0, .int .u32 0, .int .u32 0, .int .u32 0, .int .u32 0, .int .u32 0, .slice none 0 0] 26) = w1 at hX hO hZ hG ⊢
  refine (formRef_any op a b c d k.toNat _).mono ?_
  rintro e w2 ⟨rfl, hg⟩
  replace hX := hg.at hX
  replace hZ := hg.at hZ
  replace hG := hG.trans hg
  generalize formP op a b c d k.toNat = f at *
  have hne : (f != 0) = true := by simp [hf]
  clear h0 h9 hO hg hG'
  have HX8 := Lib.hid hX
  have HZ8 := Lib.hid hZ
  have HG8 := Lib.hid hG
  have HI8 := Lib.hid (info26c at_ R (.slice A n cap))
  have HO8 := Lib.hid (ctx_one at_ R (.slice A n cap) rfl)
  have hs10 : (#[.int .i64 0, .int .u32 0, .int .u32 0, .int .u32 0, .int .u32 0, .int .u32 0, .int .u32 0, .int .u32 0, .int .u32 0, .slice none 0 0] : Array Value).size = (ctxCells at_ R (.slice A n cap)).size := by rw [ctxCells_size]; rfl
  have HS8 := Lib.hid hs10
  clear hs10 hX hZ hG
  go_wp2_with (first
    | ((with_reducible refine wpList_load_blk rfl 26 (.tmp 2) rfl w.heap.size 26 (ctxCells at_ R (.slice A n cap)) _ ?_ HX8.out Try.underlying26 ?_ HI8.out ?_); (· rfl); (· rfl))
    | ((with_reducible refine wpList_store_blk rfl 26 (.tmp 4) (.tmp 18) rfl (w.heap.size + 2) 26 _ (ctxCells at_ R (.slice A n cap)) ?_ ?_ HZ8.out HS8.out HI8.out HO8.out ?_); (· rfl); (· rfl); intro wf hbf hof))
  have hGf := HG8.out.only hof (by omega)
  refine bodyPost_ret (v := .tuple #[.agg (ctxCells at_ R (.slice A n cap)), .int .i64 (14)]) ?hres rfl ⟨A, cap, rfl, ⟨hM.grow hGf, fun _ => .inl rfl⟩, hcap, hGf⟩
  case hres =>
    refine results_cell_tmp (p := 4) (t := 5) (ty := 26) ?_ _ _ wf (w.heap.size + 2) _ ?_ ?_
    · rfl
    · rfl
    · exact run_loadVar_row wf (w.heap.size + 2) _ _ _ (0, 0) _ hbf Try.underlying26 rfl HI8.out

set_option maxHeartbeats 1000000 in
set_option maxRecDepth 100000 in
theorem ref_ld_out (w : World) (n cap : Nat) (at_ : Int) (R M : Nat → BitVec 32) (A : Option Addr) (a b c : Nat) (d : Int) (k : BitVec 32) (hn : (n : Int) ≤ 300) (hcap : (n : Int) ≤ cap) (hf : formP 15 a b c d k.toNat = 0) (hat0 : 0 ≤ at_) (hat1 : at_ ≤ 2000000000000) (ha : a < 8) (hb : b < 8) (hc : c < 8) (hM : MemAt w A n M) (q : Nat) (hq : (R b + k).toNat = q) (hge : (n : Int) ≤ q) :
    Calls Try.prog 12 #[.agg (ctxCells at_ R (.slice A n cap)), .agg #[.int .i64 15, .int .i64 a, .int .i64 b, .int .i64 c, .int .i64 d, .int .u32 k.toNat]] w fun e w' => ∃ A' cap', e = .returned (.tuple #[.agg (ctxCells at_ R (.slice A' n cap')), .int .i64 12]) ∧ MemLoc w A w' A' n M ∧ (n : Int) ≤ cap' ∧ Grow w w' := by
  have hai : (a : Int) < 8 := by omega
  have hbi : (b : Int) < 8 := by omega
  have hci : (c : Int) < 8 := by omega
  have e2 := w_add (R b) k
  rw [hq] at e2
  have hq9 : (q : Int) < 4294967296 := by have := (R b + k).isLt; omega
  have E3 : Hid (((q : Int)).tmod 4294967296 = q) := Lib.hid (by rw [Int.tmod_eq_emod_of_nonneg (by omega)]; omega)
  have E5 : Hid ((q : Int) % 4294967296 = q) := Lib.hid (by omega)
  have E4 : Hid (IntKind.u64.wrap (q : Int) = q) := Lib.hid (u64_in (q : Int) (by omega) (by omega))
  clear hq hq9
  have h0 := ctx_0 at_ R (.slice A n cap)
  have h9 := ctx_9 at_ R (.slice A n cap)
  have hX : (((w.alloc (.cells (ctxCells at_ R (.slice A n cap)) 26)).alloc (.cells #[.int .i64 15, .int .i64 a, .int .i64 b, .int .i64 c, .int .i64 d, .int .u32 k.toNat] 28)).alloc (.cells #[.int .i64 0, .int .u32 0, .int .u32 0, .int .u32 0, .int .u32 0, .int .u32 0, .int .u32 0, .int .u32 0, .int .u32 0, .slice none 0 0] 26)).heap[w.heap.size]? = some (.cells (ctxCells at_ R (.slice A n cap)) 26) := (heapAt_alloc_old _ _ (by simp; omega)).trans ((heapAt_alloc_old _ _ (by simp)).trans (heapAt_alloc_new w _))
  have hO : (((w.alloc (.cells (ctxCells at_ R (.slice A n cap)) 26)).alloc (.cells #[.int .i64 15, .int .i64 a, .int .i64 b, .int .i64 c, .int .i64 d, .int .u32 k.toNat] 28)).alloc (.cells #[.int .i64 0, .int .u32 0, .int .u32 0, .int .u32 0, .int .u32 0, .int .u32 0, .int .u32 0, .int .u32 0, .int .u32 0, .slice none 0 0] 26)).heap[w.heap.size + 1]? = some (.cells #[.int .i64 15, .int .i64 a, .int .i64 b, .int .i64 c, .int .i64 d, .int .u32 k.toNat] 28) := (heapAt_alloc_old _ _ (by simp)).trans (heap_alloc2_new w _ _)
  have hZ : (((w.alloc (.cells (ctxCells at_ R (.slice A n cap)) 26)).alloc (.cells #[.int .i64 15, .int .i64 a, .int .i64 b, .int .i64 c, .int .i64 d, .int .u32 k.toNat] 28)).alloc (.cells #[.int .i64 0, .int .u32 0, .int .u32 0, .int .u32 0, .int .u32 0, .int .u32 0, .int .u32 0, .int .u32 0, .int .u32 0, .slice none 0 0] 26)).heap[w.heap.size + 2]? = some (.cells #[.int .i64 0, .int .u32 0, .int .u32 0, .int .u32 0, .int .u32 0, .int .u32 0, .int .u32 0, .int .u32 0, .int .u32 0, .slice none 0 0] 26) := by
    have := heapAt_alloc_new ((w.alloc (.cells (ctxCells at_ R (.slice A n cap)) 26)).alloc (.cells #[.int .i64 15, .int .i64 a, .int .i64 b, .int .i64 c, .int .i64 d, .int .u32 k.toNat] 28)) (.cells #[.int .i64 0, .int .u32 0, .int .u32 0, .int .u32 0, .int .u32 0, .int .u32 0, .int .u32 0, .int .u32 0, .int .u32 0, .slice none 0 0] 26)
    simpa using this
  have hG : Grow w (((w.alloc (.cells (ctxCells at_ R (.slice A n cap)) 26)).alloc (.cells #[.int .i64 15, .int .i64 a, .int .i64 b, .int .i64 c, .int .i64 d, .int .u32 k.toNat] 28)).alloc (.cells #[.int .i64 0, .int .u32 0, .int .u32 0, .int .u32 0, .int .u32 0, .int .u32 0, .int .u32 0, .int .u32 0, .int .u32 0, .slice none 0 0] 26)) := ((Grow.alloc w _).trans (Grow.alloc _ _)).trans (Grow.alloc _ _)
  have HF := Lib.hid hf; clear hf
  go_enter Try.func12, Try.ntmps12
  go_wp2_with fail
  generalize ((w.alloc (.cells (ctxCells at_ R (.slice A n cap)) 26)).alloc (.cells #[.int .i64 15, .int .i64 a, .int .i64 b, .int .i64 c, .int .i64 d, .int .u32 k.toNat] 28)).alloc (.cells #[.int .i64 0, .int .u32 0, .int .u32 0, .int .u32 0, .int .u32 0, .int .u32 0, .int .u32 0, .int .u32 0, .int .u32 0, .slice none 0 0] 26) = w1 at hX hO hZ hG ⊢
  refine (formRef_any 15 a b c d k.toNat _).mono ?_
  rw [HF.out]
  rintro e w2 ⟨rfl, hg⟩
  replace hX := hg.at hX
  replace hO := hg.at hO
  replace hZ := hg.at hZ
  replace hG := hG.trans hg
  clear hg
  have HX := Lib.hid hX
  have HINF := Lib.hid (info26c at_ R (.slice A n cap))
  go_wp2_with ((with_reducible refine wpList_load_blk rfl 26 (.tmp 2) rfl w.heap.size 26 (ctxCells at_ R (.slice A n cap)) _ ?_ HX.out Try.underlying26 ?_ HINF.out ?_); (· rfl); (· rfl))
  clear HX
  have hbr : w.heap.size + 2 < w2.heap.size := heapAt_lt hZ
  refine (copy_any _ at_ R A n cap M hn hcap (hM.grow hG)).mono ?_
  rintro e w3 ⟨A', cap', rfl, hown, hcap2, hg⟩
  have hs23 := hg.size
  replace hX := hg.at hX
  replace hO := hg.at hO
  replace hZ := hg.at hZ
  replace hG := hG.trans hg
  have hbr3 : w.heap.size + 2 < w3.heap.size := heapAt_lt hZ
  have hnew := heapAt_alloc_new w3 (.cells #[.int .i64 0, .int .u32 0, .int .u32 0, .int .u32 0, .int .u32 0, .int .u32 0, .int .u32 0, .int .u32 0, .int .u32 0, .slice none 0 0] 26)
  have hg4 := Grow.alloc w3 (.cells #[.int .i64 0, .int .u32 0, .int .u32 0, .int .u32 0, .int .u32 0, .int .u32 0, .int .u32 0, .int .u32 0, .int .u32 0, .slice none 0 0] 26)
  replace hX := hg4.at hX
  replace hO := hg4.at hO
  replace hZ := hg4.at hZ
  replace hG := hG.trans hg4
  have hown4 := hown.grow hg4
  have hlt : 0 < n → ∃ m, A' = some ⟨m, 0, none⟩ ∧ w2.heap.size ≤ m ∧ m < w3.heap.size := fun h => hown.lt h
  have hs10 : (#[.int .i64 0, .int .u32 0, .int .u32 0, .int .u32 0, .int .u32 0, .int .u32 0, .int .u32 0, .int .u32 0, .int .u32 0, .slice none 0 0] : Array Value).size = (ctxCells at_ R (.slice A' n cap')).size := by rw [ctxCells_size]; rfl
  have HN := Lib.hid hnew
  have HS := Lib.hid hs10
  have HI := Lib.hid (info26c at_ R (.slice A' n cap'))
  have HO1 := Lib.hid (ctx_one at_ R (.slice A' n cap') rfl)
  have HL := Lib.hid hlt
  clear hs10 hnew hg hg4 hown hlt
  go_wp2_with ((with_reducible refine wpList_store_blk rfl 26 (.tmp 6) (.tmp 20) rfl w3.heap.size 26 _ (ctxCells at_ R (.slice A' n cap')) ?kx ?ky HN.out HS.out HI.out HO1.out ?kk))
  case kx => rfl
  case ky => rfl
  case kk =>
  intro w4 hb4 ho4
  replace hX := ho4.at (by omega) hX
  replace hO := ho4.at (by omega) hO
  replace hZ := ho4.at (by omega) hZ
  replace hG := hG.only ho4 (by omega)
  have hS4 : St w4 w2.heap.size w3.heap.size at_ R A' n cap' M := ⟨hb4, hown4.only ho4 (fun m hm hn => by obtain ⟨m', e, _, h2⟩ := HL.out hn; rw [hm] at e; injection e with e; injection e with e; omega), by omega, fun hn e => by obtain ⟨m', e', _, h2⟩ := HL.out hn; rw [e] at e'; injection e' with e'; injection e' with e'; omega⟩
  clear HN HS HI HO1 hown4 hb4 ho4
  have c0 := hS4.1.c0
  have f0 := hS4.1.free 0
  have hS := hS4.set0 (at_ + 1)
  replace hX := (set_block_other (w := w4) (b := w3.heap.size) (by omega) 0 (.int .i64 (at_ + 1))).trans hX
  replace hO := (set_block_other (w := w4) (b := w3.heap.size) (by omega) 0 (.int .i64 (at_ + 1))).trans hO
  replace hZ := (set_block_other (w := w4) (b := w3.heap.size) (by omega) 0 (.int .i64 (at_ + 1))).trans hZ
  replace hG := hG.only ((Only.refl w3.heap.size w4).setCell 0 (.int .i64 (at_ + 1))) (by omega)
  generalize hy : w3.heap.size = y at *
  clear hy hS4
  obtain ⟨w5, hw5⟩ : ∃ w5, w5 = w4.setCell ⟨y, 0, none⟩ (.int .i64 (at_ + 1)) := ⟨_, rfl⟩
  rw [← hw5] at hS hX hO hZ hG
  have HW5 := Lib.hid hw5
  clear hw5
  have HX := Lib.hid hX
  have HO := Lib.hid hO
  have HZ := Lib.hid hZ
  have HG := Lib.hid hG
  have HSt := Lib.hid hS
  clear hX hO hZ hG hS h0 h9
  go_upto_region 5 with fail
  rw [← HW5.out]
  clear c0 f0 HW5
  have hO := HO.out
  have d0 := cell_block hO 0
  have d1 := cell_block hO 1
  have d2 := cell_block hO 2
  have d3 := cell_block hO 3
  have d4 := cell_block hO 4
  have d5 := cell_block hO 5
  simp at d0 d1 d2 d3 d4 d5
  clear hO
  have hXc : ∀ j, w5.cell? ⟨w.heap.size, j, none⟩ = (ctxCells at_ R (.slice A n cap))[j]? := fun j => cell_block HX.out j
  have xR := fun j (hj : j < 8) => (hXc (1 + j)).trans (ctx_reg at_ R (.slice A n cap) j hj)
  have xB := xR b hb
  clear hXc xR
  go_upto_region 16 with fail
  go_quiet (fail)
  simp only [e2, E5.out]
  clear e2 E3 E4 E5
  have HX6 := Lib.hid ((Grow.drewN w5 nq).at HX.out)
  have HO6 := Lib.hid ((Grow.drewN w5 nq).at HO.out)
  have HZ6 := Lib.hid ((Grow.drewN w5 nq).at HZ.out)
  have HG6 := Lib.hid (HG.out.trans (Grow.drewN w5 nq))
  have HS6 := Lib.hid (HSt.out.grow (Grow.drewN w5 nq))
  generalize w5.drewN nq = w6 at HX6 HO6 HZ6 HG6 HS6 ⊢
  clear xB d0 d1 d2 d3 d4 d5 HX HO HZ HG HSt
  have hXc : ∀ j, w6.cell? ⟨w.heap.size, j, none⟩ = (ctxCells at_ R (.slice A n cap))[j]? := fun j => cell_block HX6.out j
  have x9 := (hXc 9).trans (ctx_9 at_ R (.slice A n cap))
  have xR := fun j (hj : j < 8) => (hXc (1 + j)).trans (ctx_reg at_ R (.slice A n cap) j hj)
  have hO := HO6.out
  have d0 := cell_block hO 0
  have d1 := cell_block hO 1
  have d2 := cell_block hO 2
  have d3 := cell_block hO 3
  have d4 := cell_block hO 4
  have d5 := cell_block hO 5
  simp at d0 d1 d2 d3 d4 d5
  clear hO hXc
  go_upto_region 18 with fail
  have hX := HX6.out
  have hZ := HZ6.out
  have hG := HG6.out
  clear d0 d1 d2 d3 d4 d5 x9 xR HO6 HS6 HX6 HZ6 HG6
  have HX8 := Lib.hid hX
  have HZ8 := Lib.hid hZ
  have HG8 := Lib.hid hG
  have HI8 := Lib.hid (info26c at_ R (.slice A n cap))
  have HO8 := Lib.hid (ctx_one at_ R (.slice A n cap) rfl)
  have hs10 : (#[.int .i64 0, .int .u32 0, .int .u32 0, .int .u32 0, .int .u32 0, .int .u32 0, .int .u32 0, .int .u32 0, .int .u32 0, .slice none 0 0] : Array Value).size = (ctxCells at_ R (.slice A n cap)).size := by rw [ctxCells_size]; rfl
  have HS8 := Lib.hid hs10
  clear hs10 hX hZ hG
  go_wp2_with (first
    | ((with_reducible refine wpList_load_blk rfl 26 (.tmp 2) rfl w.heap.size 26 (ctxCells at_ R (.slice A n cap)) _ ?_ HX8.out Try.underlying26 ?_ HI8.out ?_); (· rfl); (· rfl))
    | ((with_reducible refine wpList_store_blk rfl 26 (.tmp 4) (.tmp 90) rfl (w.heap.size + 2) 26 _ (ctxCells at_ R (.slice A n cap)) ?_ ?_ HZ8.out HS8.out HI8.out HO8.out ?_); (· rfl); (· rfl); intro wf hbf hof))
  have hGf := HG8.out.only hof (by omega)
  refine bodyPost_ret (v := .tuple #[.agg (ctxCells at_ R (.slice A n cap)), .int .i64 (12)]) ?hres rfl ⟨A, cap, rfl, ⟨hM.grow hGf, fun _ => .inl rfl⟩, hcap, hGf⟩
  case hres =>
    refine results_cell_tmp (p := 4) (t := 5) (ty := 26) ?_ _ _ wf (w.heap.size + 2) _ ?_ ?_
    · rfl
    · rfl
    · exact run_loadVar_row wf (w.heap.size + 2) _ _ _ (0, 0) _ hbf Try.underlying26 rfl HI8.out

set_option maxHeartbeats 1000000 in
set_option maxRecDepth 100000 in
theorem ref_sto_out (w : World) (n cap : Nat) (at_ : Int) (R M : Nat → BitVec 32) (A : Option Addr) (a b c : Nat) (d : Int) (k : BitVec 32) (hn : (n : Int) ≤ 300) (hcap : (n : Int) ≤ cap) (hf : formP 16 a b c d k.toNat = 0) (hat0 : 0 ≤ at_) (hat1 : at_ ≤ 2000000000000) (ha : a < 8) (hb : b < 8) (hc : c < 8) (hM : MemAt w A n M) (q : Nat) (hq : (R b + k).toNat = q) (hge : (n : Int) ≤ q) :
    Calls Try.prog 12 #[.agg (ctxCells at_ R (.slice A n cap)), .agg #[.int .i64 16, .int .i64 a, .int .i64 b, .int .i64 c, .int .i64 d, .int .u32 k.toNat]] w fun e w' => ∃ A' cap', e = .returned (.tuple #[.agg (ctxCells at_ R (.slice A' n cap')), .int .i64 12]) ∧ MemLoc w A w' A' n M ∧ (n : Int) ≤ cap' ∧ Grow w w' := by
  have hai : (a : Int) < 8 := by omega
  have hbi : (b : Int) < 8 := by omega
  have hci : (c : Int) < 8 := by omega
  have e2 := w_add (R b) k
  rw [hq] at e2
  have hq9 : (q : Int) < 4294967296 := by have := (R b + k).isLt; omega
  have E3 : Hid (((q : Int)).tmod 4294967296 = q) := Lib.hid (by rw [Int.tmod_eq_emod_of_nonneg (by omega)]; omega)
  have E5 : Hid ((q : Int) % 4294967296 = q) := Lib.hid (by omega)
  have E4 : Hid (IntKind.u64.wrap (q : Int) = q) := Lib.hid (u64_in (q : Int) (by omega) (by omega))
  clear hq hq9
  have h0 := ctx_0 at_ R (.slice A n cap)
  have h9 := ctx_9 at_ R (.slice A n cap)
  have hX : (((w.alloc (.cells (ctxCells at_ R (.slice A n cap)) 26)).alloc (.cells #[.int .i64 16, .int .i64 a, .int .i64 b, .int .i64 c, .int .i64 d, .int .u32 k.toNat] 28)).alloc (.cells #[.int .i64 0, .int .u32 0, .int .u32 0, .int .u32 0, .int .u32 0, .int .u32 0, .int .u32 0, .int .u32 0, .int .u32 0, .slice none 0 0] 26)).heap[w.heap.size]? = some (.cells (ctxCells at_ R (.slice A n cap)) 26) := (heapAt_alloc_old _ _ (by simp; omega)).trans ((heapAt_alloc_old _ _ (by simp)).trans (heapAt_alloc_new w _))
  have hO : (((w.alloc (.cells (ctxCells at_ R (.slice A n cap)) 26)).alloc (.cells #[.int .i64 16, .int .i64 a, .int .i64 b, .int .i64 c, .int .i64 d, .int .u32 k.toNat] 28)).alloc (.cells #[.int .i64 0, .int .u32 0, .int .u32 0, .int .u32 0, .int .u32 0, .int .u32 0, .int .u32 0, .int .u32 0, .int .u32 0, .slice none 0 0] 26)).heap[w.heap.size + 1]? = some (.cells #[.int .i64 16, .int .i64 a, .int .i64 b, .int .i64 c, .int .i64 d, .int .u32 k.toNat] 28) := (heapAt_alloc_old _ _ (by simp)).trans (heap_alloc2_new w _ _)
  have hZ : (((w.alloc (.cells (ctxCells at_ R (.slice A n cap)) 26)).alloc (.cells #[.int .i64 16, .int .i64 a, .int .i64 b, .int .i64 c, .int .i64 d, .int .u32 k.toNat] 28)).alloc (.cells #[.int .i64 0, .int .u32 0, .int .u32 0, .int .u32 0, .int .u32 0, .int .u32 0, .int .u32 0, .int .u32 0, .int .u32 0, .slice none 0 0] 26)).heap[w.heap.size + 2]? = some (.cells #[.int .i64 0, .int .u32 0, .int .u32 0, .int .u32 0, .int .u32 0, .int .u32 0, .int .u32 0, .int .u32 0, .int .u32 0, .slice none 0 0] 26) := by
    have := heapAt_alloc_new ((w.alloc (.cells (ctxCells at_ R (.slice A n cap)) 26)).alloc (.cells #[.int .i64 16, .int .i64 a, .int .i64 b, .int .i64 c, .int .i64 d, .int .u32 k.toNat] 28)) (.cells #[.int .i64 0, .int .u32 0, .int .u32 0, .int .u32 0, .int .u32 0, .int .u32 0, .int .u32 0, .int .u32 0, .int .u32 0, .slice none 0 0] 26)
    simpa using this
  have hG : Grow w (((w.alloc (.cells (ctxCells at_ R (.slice A n cap)) 26)).alloc (.cells #[.int .i64 16, .int .i64 a, .int .i64 b, .int .i64 c, .int .i64 d, .int .u32 k.toNat] 28)).alloc (.cells #[.int .i64 0, .int .u32 0, .int .u32 0, .int .u32 0, .int .u32 0, .int .u32 0, .int .u32 0, .int .u32 0, .int .u32 0, .slice none 0 0] 26)) := ((Grow.alloc w _).trans (Grow.alloc _ _)).trans (Grow.alloc _ _)
  have HF := Lib.hid hf; clear hf
  go_enter Try.func12, Try.ntmps12
  go_wp2_with fail
  generalize ((w.alloc (.cells (ctxCells at_ R (.slice A n cap)) 26)).alloc (.cells #[.int .i64 16, .int .i64 a, .int .i64 b, .int .i64 c, .int .i64 d, .int .u32 k.toNat] 28)).alloc (.cells #[.int .i64 0, .int .u32 0, .int .u32 0, .int .u32 0, .int .u32 0, .int .u32 0, .int .u32 0, .int .u32 0, .int .u32 0, .slice none 0 0] 26) = w1 at hX hO hZ hG ⊢
  refine (formRef_any 16 a b c d k.toNat _).mono ?_
  rw [HF.out]
  rintro e w2 ⟨rfl, hg⟩
  replace hX := hg.at hX
  replace hO := hg.at hO
  replace hZ := hg.at hZ
  replace hG := hG.trans hg
  clear hg
  have HX := Lib.hid hX
  have HINF := Lib.hid (info26c at_ R (.slice A n cap))
  go_wp2_with ((with_reducible refine wpList_load_blk rfl 26 (.tmp 2) rfl w.heap.size 26 (ctxCells at_ R (.slice A n cap)) _ ?_ HX.out Try.underlying26 ?_ HINF.out ?_); (· rfl); (· rfl))
  clear HX
  have hbr : w.heap.size + 2 < w2.heap.size := heapAt_lt hZ
  refine (copy_any _ at_ R A n cap M hn hcap (hM.grow hG)).mono ?_
  rintro e w3 ⟨A', cap', rfl, hown, hcap2, hg⟩
  have hs23 := hg.size
  replace hX := hg.at hX
  replace hO := hg.at hO
  replace hZ := hg.at hZ
  replace hG := hG.trans hg
  have hbr3 : w.heap.size + 2 < w3.heap.size := heapAt_lt hZ
  have hnew := heapAt_alloc_new w3 (.cells #[.int .i64 0, .int .u32 0, .int .u32 0, .int .u32 0, .int .u32 0, .int .u32 0, .int .u32 0, .int .u32 0, .int .u32 0, .slice none 0 0] 26)
  have hg4 := Grow.alloc w3 (.cells #[.int .i64 0, .int .u32 0, .int .u32 0, .int .u32 0, .int .u32 0, .int .u32 0, .int .u32 0, .int .u32 0, .int .u32 0, .slice none 0 0] 26)
  replace hX := hg4.at hX
  replace hO := hg4.at hO
  replace hZ := hg4.at hZ
  replace hG := hG.trans hg4
  have hown4 := hown.grow hg4
  have hlt : 0 < n → ∃ m, A' = some ⟨m, 0, none⟩ ∧ w2.heap.size ≤ m ∧ m < w3.heap.size := fun h => hown.lt h
  have hs10 : (#[.int .i64 0, .int .u32 0, .int .u32 0, .int .u32 0, .int .u32 0, .int .u32 0, .int .u32 0, .int .u32 0, .int .u32 0, .slice none 0 0] : Array Value).size = (ctxCells at_ R (.slice A' n cap')).size := by rw [ctxCells_size]; rfl
  have HN := Lib.hid hnew
  have HS := Lib.hid hs10
  have HI := Lib.hid (info26c at_ R (.slice A' n cap'))
  have HO1 := Lib.hid (ctx_one at_ R (.slice A' n cap') rfl)
  have HL := Lib.hid hlt
  clear hs10 hnew hg hg4 hown hlt
  go_wp2_with ((with_reducible refine wpList_store_blk rfl 26 (.tmp 6) (.tmp 20) rfl w3.heap.size 26 _ (ctxCells at_ R (.slice A' n cap')) ?kx ?ky HN.out HS.out HI.out HO1.out ?kk))
  case kx => rfl
  case ky => rfl
  case kk =>
  intro w4 hb4 ho4
  replace hX := ho4.at (by omega) hX
  replace hO := ho4.at (by omega) hO
  replace hZ := ho4.at (by omega) hZ
  replace hG := hG.only ho4 (by omega)
  have hS4 : St w4 w2.heap.size w3.heap.size at_ R A' n cap' M := ⟨hb4, hown4.only ho4 (fun m hm hn => by obtain ⟨m', e, _, h2⟩ := HL.out hn; rw [hm] at e; injection e with e; injection e with e; omega), by omega, fun hn e => by obtain ⟨m', e', _, h2⟩ := HL.out hn; rw [e] at e'; injection e' with e'; injection e' with e'; omega⟩
  clear HN HS HI HO1 hown4 hb4 ho4
  have c0 := hS4.1.c0
  have f0 := hS4.1.free 0
  have hS := hS4.set0 (at_ + 1)
  replace hX := (set_block_other (w := w4) (b := w3.heap.size) (by omega) 0 (.int .i64 (at_ + 1))).trans hX
  replace hO := (set_block_other (w := w4) (b := w3.heap.size) (by omega) 0 (.int .i64 (at_ + 1))).trans hO
  replace hZ := (set_block_other (w := w4) (b := w3.heap.size) (by omega) 0 (.int .i64 (at_ + 1))).trans hZ
  replace hG := hG.only ((Only.refl w3.heap.size w4).setCell 0 (.int .i64 (at_ + 1))) (by omega)
  generalize hy : w3.heap.size = y at *
  clear hy hS4
  obtain ⟨w5, hw5⟩ : ∃ w5, w5 = w4.setCell ⟨y, 0, none⟩ (.int .i64 (at_ + 1)) := ⟨_, rfl⟩
  rw [← hw5] at hS hX hO hZ hG
  have HW5 := Lib.hid hw5
  clear hw5
  have HX := Lib.hid hX
  have HO := Lib.hid hO
  have HZ := Lib.hid hZ
  have HG := Lib.hid hG
  have HSt := Lib.hid hS
  clear hX hO hZ hG hS h0 h9
  go_upto_region 5 with fail
  rw [← HW5.out]
  clear c0 f0 HW5
  have hO := HO.out
  have d0 := cell_block hO 0
  have d1 := cell_block hO 1
  have d2 := cell_block hO 2
  have d3 := cell_block hO 3
  have d4 := cell_block hO 4
  have d5 := cell_block hO 5
  simp at d0 d1 d2 d3 d4 d5
  clear hO
  have hXc : ∀ j, w5.cell? ⟨w.heap.size, j, none⟩ = (ctxCells at_ R (.slice A n cap))[j]? := fun j => cell_block HX.out j
  have xR := fun j (hj : j < 8) => (hXc (1 + j)).trans (ctx_reg at_ R (.slice A n cap) j hj)
  have xB := xR b hb
  clear hXc xR
  go_upto_region 16 with fail
  go_quiet (fail)
  simp only [e2, E5.out]
  clear e2 E3 E4 E5
  have HX6 := Lib.hid ((Grow.drewN w5 nq).at HX.out)
  have HO6 := Lib.hid ((Grow.drewN w5 nq).at HO.out)
  have HZ6 := Lib.hid ((Grow.drewN w5 nq).at HZ.out)
  have HG6 := Lib.hid (HG.out.trans (Grow.drewN w5 nq))
  have HS6 := Lib.hid (HSt.out.grow (Grow.drewN w5 nq))
  generalize w5.drewN nq = w6 at HX6 HO6 HZ6 HG6 HS6 ⊢
  clear xB d0 d1 d2 d3 d4 d5 HX HO HZ HG HSt
  have hXc : ∀ j, w6.cell? ⟨w.heap.size, j, none⟩ = (ctxCells at_ R (.slice A n cap))[j]? := fun j => cell_block HX6.out j
  have x9 := (hXc 9).trans (ctx_9 at_ R (.slice A n cap))
  have xR := fun j (hj : j < 8) => (hXc (1 + j)).trans (ctx_reg at_ R (.slice A n cap) j hj)
  have hO := HO6.out
  have d0 := cell_block hO 0
  have d1 := cell_block hO 1
  have d2 := cell_block hO 2
  have d3 := cell_block hO 3
  have d4 := cell_block hO 4
  have d5 := cell_block hO 5
  simp at d0 d1 d2 d3 d4 d5
  clear hO hXc
  go_upto_region 18 with fail
  have hX := HX6.out
  have hZ := HZ6.out
  have hG := HG6.out
  clear d0 d1 d2 d3 d4 d5 x9 xR HO6 HS6 HX6 HZ6 HG6
  have HX8 := Lib.hid hX
  have HZ8 := Lib.hid hZ
  have HG8 := Lib.hid hG
  have HI8 := Lib.hid (info26c at_ R (.slice A n cap))
  have HO8 := Lib.hid (ctx_one at_ R (.slice A n cap) rfl)
  have hs10 : (#[.int .i64 0, .int .u32 0, .int .u32 0, .int .u32 0, .int .u32 0, .int .u32 0, .int .u32 0, .int .u32 0, .int .u32 0, .slice none 0 0] : Array Value).size = (ctxCells at_ R (.slice A n cap)).size := by rw [ctxCells_size]; rfl
  have HS8 := Lib.hid hs10
  clear hs10 hX hZ hG
  go_wp2_with (first
    | ((with_reducible refine wpList_load_blk rfl 26 (.tmp 2) rfl w.heap.size 26 (ctxCells at_ R (.slice A n cap)) _ ?_ HX8.out Try.underlying26 ?_ HI8.out ?_); (· rfl); (· rfl))
    | ((with_reducible refine wpList_store_blk rfl 26 (.tmp 4) (.tmp 90) rfl (w.heap.size + 2) 26 _ (ctxCells at_ R (.slice A n cap)) ?_ ?_ HZ8.out HS8.out HI8.out HO8.out ?_); (· rfl); (· rfl); intro wf hbf hof))
  have hGf := HG8.out.only hof (by omega)
  refine bodyPost_ret (v := .tuple #[.agg (ctxCells at_ R (.slice A n cap)), .int .i64 (12)]) ?hres rfl ⟨A, cap, rfl, ⟨hM.grow hGf, fun _ => .inl rfl⟩, hcap, hGf⟩
  case hres =>
    refine results_cell_tmp (p := 4) (t := 5) (ty := 26) ?_ _ _ wf (w.heap.size + 2) _ ?_ ?_
    · rfl
    · rfl
    · exact run_loadVar_row wf (w.heap.size + 2) _ _ _ (0, 0) _ hbf Try.underlying26 rfl HI8.out

end Go.Proofs.Ytkjacmnocbdghaa
