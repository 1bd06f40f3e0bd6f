/- The walk of the reference's Do: loads, stores, what is reckoned; Do whole. -/
import Derived.Test.YtkjacmnocbdghaaDoRef2
namespace Go.Proofs.Ytkjacmnocbdghaa
open Go.RowKit
set_option linter.unusedVariables false
attribute [local irreducible] hasA hasB hasC hasD hasK bitsOf regP hasStr letter formP bad4 bad6 bad8 bad10 ctxCells regArr valW valE words upd

set_option maxHeartbeats 1000000 in
set_option maxRecDepth 100000 in
theorem ref_ld (w : World) (n cap : Nat) (at_ : Int) (R M : Nat → BitVec 32) (A : Option Addr) (a b c : Nat) (d : Int) (k : BitVec 32) (hn : (n : Int) ≤ 300) (hcap : (n : Int) ≤ cap) (hf : formP 15 a b c d k.toNat = 0) (hat0 : 0 ≤ at_) (hat1 : at_ ≤ 2000000000000) (ha : a < 8) (hb : b < 8) (hc : c < 8) (hM : MemAt w A n M) (q : Nat) (hq : (R b + k).toNat = q) (hlt : (q : Int) < n) :
    Calls Try.prog 12 #[.agg (ctxCells at_ R (.slice A n cap)), .agg #[.int .i64 15, .int .i64 a, .int .i64 b, .int .i64 c, .int .i64 d, .int .u32 k.toNat]] w fun e w' => ∃ A' cap', e = .returned (.tuple #[.agg (ctxCells (at_ + 1) (upd R a (M q)) (.slice A' n cap')), .int .i64 0]) ∧ MemLoc w A w' A' n M ∧ (n : Int) ≤ cap' ∧ Grow w w' := by
  have hai : (a : Int) < 8 := by omega
  have hbi : (b : Int) < 8 := by omega
  have hci : (c : Int) < 8 := by omega
  have e2 := w_add (R b) k
  rw [hq] at e2
  have hq9 : (q : Int) < 4294967296 := by have := (R b + k).isLt; omega
  have E3 : Hid (((q : Int)).tmod 4294967296 = q) := Lib.hid (by rw [Int.tmod_eq_emod_of_nonneg (by omega)]; omega)
  have E5 : Hid ((q : Int) % 4294967296 = q) := Lib.hid (by omega)
  have E4 : Hid (IntKind.u64.wrap (q : Int) = q) := Lib.hid (u64_in (q : Int) (by omega) (by omega))
  clear hq hq9
  have h0 := ctx_0 at_ R (.slice A n cap)
  have h9 := ctx_9 at_ R (.slice A n cap)
  have hX : (((w.alloc (.cells (ctxCells at_ R (.slice A n cap)) 26)).alloc (.cells #[.int .i64 15, .int .i64 a, .int .i64 b, .int .i64 c, .int .i64 d, .int .u32 k.toNat] 28)).alloc (.cells #[.int .i64 0, .int .u32 0, .int .u32 0, .int .u32 0, .int .u32 0, .int .u32 0, .int .u32 0, .int .u32 0, .int .u32 0, .slice none 0 0] 26)).heap[w.heap.size]? = some (.cells (ctxCells at_ R (.slice A n cap)) 26) := (heapAt_alloc_old _ _ (by simp; omega)).trans ((heapAt_alloc_old _ _ (by simp)).trans (heapAt_alloc_new w _))
  have hO : (((w.alloc (.cells (ctxCells at_ R (.slice A n cap)) 26)).alloc (.cells #[.int .i64 15, .int .i64 a, .int .i64 b, .int .i64 c, .int .i64 d, .int .u32 k.toNat] 28)).alloc (.cells #[.int .i64 0, .int .u32 0, .int .u32 0, .int .u32 0, .int .u32 0, .int .u32 0, .int .u32 0, .int .u32 0, .int .u32 0, .slice none 0 0] 26)).heap[w.heap.size + 1]? = some (.cells #[.int .i64 15, .int .i64 a, .int .i64 b, .int .i64 c, .int .i64 d, .int .u32 k.toNat] 28) := (heapAt_alloc_old _ _ (by simp)).trans (heap_alloc2_new w _ _)
  have hZ : (((w.alloc (.cells (ctxCells at_ R (.slice A n cap)) 26)).alloc (.cells #[.int .i64 15, .int .i64 a, .int .i64 b, .int .i64 c, .int .i64 d, .int .u32 k.toNat] 28)).alloc (.cells #[.int .i64 0, .int .u32 0, .int .u32 0, .int .u32 0, .int .u32 0, .int .u32 0, .int .u32 0, .int .u32 0, .int .u32 0, .slice none 0 0] 26)).heap[w.heap.size + 2]? = some (.cells #[.int .i64 0, .int .u32 0, .int .u32 0, .int .u32 0, .int .u32 0, .int .u32 0, .int .u32 0, .int .u32 0, .int .u32 0, .slice none 0 0] 26) := by
    have := heapAt_alloc_new ((w.alloc (.cells (ctxCells at_ R (.slice A n cap)) 26)).alloc (.cells #[.int .i64 15, .int .i64 a, .int .i64 b, .int .i64 c, .int .i64 d, .int .u32 k.toNat] 28)) (.cells #[.int .i64 0, .int .u32 0, .int .u32 0, .int .u32 0, .int .u32 0, .int .u32 0, .int .u32 0, .int .u32 0, .int .u32 0, .slice none 0 0] 26)
    simpa using this
  have hG : Grow w (((w.alloc (.cells (ctxCells at_ R (.slice A n cap)) 26)).alloc (.cells #[.int .i64 15, .int .i64 a, .int .i64 b, .int .i64 c, .int .i64 d, .int .u32 k.toNat] 28)).alloc (.cells #[.int .i64 0, .int .u32 0, .int .u32 0, .int .u32 0, .int .u32 0, .int .u32 0, .int .u32 0, .int .u32 0, .int .u32 0, .slice none 0 0] 26)) := ((Grow.alloc w _).trans (Grow.alloc _ _)).trans (Grow.alloc _ _)
  have HF := Lib.hid hf; clear hf
  go_enter Try.func12, Try.ntmps12
  go_wp2_with fail
  generalize ((w.alloc (.cells (ctxCells at_ R (.slice A n cap)) 26)).alloc (.cells #[.int .i64 15, .int .i64 a, .int .i64 b, .int .i64 c, .int .i64 d, .int .u32 k.toNat] 28)).alloc (.cells #[.int .i64 0, .int .u32 0, .int .u32 0, .int .u32 0, .int .u32 0, .int .u32 0, .int .u32 0, .int .u32 0, .int .u32 0, .slice none 0 0] 26) = w1 at hX hO hZ hG ⊢
  refine (formRef_any 15 a b c d k.toNat _).mono ?_
  rw [HF.out]
  rintro e w2 ⟨rfl, hg⟩
  replace hX := hg.at hX
  replace hO := hg.at hO
  replace hZ := hg.at hZ
  replace hG := hG.trans hg
  clear hg
  have HX := Lib.hid hX
  have HINF := Lib.hid (info26c at_ R (.slice A n cap))
  go_wp2_with ((with_reducible refine wpList_load_blk rfl 26 (.tmp 2) rfl w.heap.size 26 (ctxCells at_ R (.slice A n cap)) _ ?_ HX.out Try.underlying26 ?_ HINF.out ?_); (· rfl); (· rfl))
  clear HX
  have hbr : w.heap.size + 2 < w2.heap.size := heapAt_lt hZ
  refine (copy_any _ at_ R A n cap M hn hcap (hM.grow hG)).mono ?_
  rintro e w3 ⟨A', cap', rfl, hown, hcap2, hg⟩
  have hs23 := hg.size
  replace hX := hg.at hX
  replace hO := hg.at hO
  replace hZ := hg.at hZ
  replace hG := hG.trans hg
  have hbr3 : w.heap.size + 2 < w3.heap.size := heapAt_lt hZ
  have hnew := heapAt_alloc_new w3 (.cells #[.int .i64 0, .int .u32 0, .int .u32 0, .int .u32 0, .int .u32 0, .int .u32 0, .int .u32 0, .int .u32 0, .int .u32 0, .slice none 0 0] 26)
  have hg4 := Grow.alloc w3 (.cells #[.int .i64 0, .int .u32 0, .int .u32 0, .int .u32 0, .int .u32 0, .int .u32 0, .int .u32 0, .int .u32 0, .int .u32 0, .slice none 0 0] 26)
  replace hX := hg4.at hX
  replace hO := hg4.at hO
  replace hZ := hg4.at hZ
  replace hG := hG.trans hg4
  have hown4 := hown.grow hg4
  have hlt : 0 < n → ∃ m, A' = some ⟨m, 0, none⟩ ∧ w2.heap.size ≤ m ∧ m < w3.heap.size := fun h => hown.lt h
  have hs10 : (#[.int .i64 0, .int .u32 0, .int .u32 0, .int .u32 0, .int .u32 0, .int .u32 0, .int .u32 0, .int .u32 0, .int .u32 0, .slice none 0 0] : Array Value).size = (ctxCells at_ R (.slice A' n cap')).size := by rw [ctxCells_size]; rfl
  have HN := Lib.hid hnew
  have HS := Lib.hid hs10
  have HI := Lib.hid (info26c at_ R (.slice A' n cap'))
  have HO1 := Lib.hid (ctx_one at_ R (.slice A' n cap') rfl)
  have HL := Lib.hid hlt
  clear hs10 hnew hg hg4 hown hlt
  go_wp2_with ((with_reducible refine wpList_store_blk rfl 26 (.tmp 6) (.tmp 20) rfl w3.heap.size 26 _ (ctxCells at_ R (.slice A' n cap')) ?kx ?ky HN.out HS.out HI.out HO1.out ?kk))
  case kx => rfl
  case ky => rfl
  case kk =>
  intro w4 hb4 ho4
  replace hX := ho4.at (by omega) hX
  replace hO := ho4.at (by omega) hO
  replace hZ := ho4.at (by omega) hZ
  replace hG := hG.only ho4 (by omega)
  have hS4 : St w4 w2.heap.size w3.heap.size at_ R A' n cap' M := ⟨hb4, hown4.only ho4 (fun m hm hn => by obtain ⟨m', e, _, h2⟩ := HL.out hn; rw [hm] at e; injection e with e; injection e with e; omega), by omega, fun hn e => by obtain ⟨m', e', _, h2⟩ := HL.out hn; rw [e] at e'; injection e' with e'; injection e' with e'; omega⟩
  clear HN HS HI HO1 hown4 hb4 ho4
  have c0 := hS4.1.c0
  have f0 := hS4.1.free 0
  have hS := hS4.set0 (at_ + 1)
  replace hX := (set_block_other (w := w4) (b := w3.heap.size) (by omega) 0 (.int .i64 (at_ + 1))).trans hX
  replace hO := (set_block_other (w := w4) (b := w3.heap.size) (by omega) 0 (.int .i64 (at_ + 1))).trans hO
  replace hZ := (set_block_other (w := w4) (b := w3.heap.size) (by omega) 0 (.int .i64 (at_ + 1))).trans hZ
  replace hG := hG.only ((Only.refl w3.heap.size w4).setCell 0 (.int .i64 (at_ + 1))) (by omega)
  generalize hy : w3.heap.size = y at *
  clear hy hS4
  obtain ⟨w5, hw5⟩ : ∃ w5, w5 = w4.setCell ⟨y, 0, none⟩ (.int .i64 (at_ + 1)) := ⟨_, rfl⟩
  rw [← hw5] at hS hX hO hZ hG
  have HW5 := Lib.hid hw5
  clear hw5
  have HX := Lib.hid hX
  have HO := Lib.hid hO
  have HZ := Lib.hid hZ
  have HG := Lib.hid hG
  have HSt := Lib.hid hS
  clear hX hO hZ hG hS h0 h9
  go_upto_region 5 with fail
  rw [← HW5.out]
  clear c0 f0 HW5
  have hO := HO.out
  have d0 := cell_block hO 0
  have d1 := cell_block hO 1
  have d2 := cell_block hO 2
  have d3 := cell_block hO 3
  have d4 := cell_block hO 4
  have d5 := cell_block hO 5
  simp at d0 d1 d2 d3 d4 d5
  clear hO
  have hXc : ∀ j, w5.cell? ⟨w.heap.size, j, none⟩ = (ctxCells at_ R (.slice A n cap))[j]? := fun j => cell_block HX.out j
  have xR := fun j (hj : j < 8) => (hXc (1 + j)).trans (ctx_reg at_ R (.slice A n cap) j hj)
  have xB := xR b hb
  clear hXc xR
  go_upto_region 16 with fail
  go_quiet (fail)
  simp only [e2, E5.out]
  clear e2 E3 E4 E5
  have HX6 := Lib.hid ((Grow.drewN w5 nq).at HX.out)
  have HO6 := Lib.hid ((Grow.drewN w5 nq).at HO.out)
  have HZ6 := Lib.hid ((Grow.drewN w5 nq).at HZ.out)
  have HG6 := Lib.hid (HG.out.trans (Grow.drewN w5 nq))
  have HS6 := Lib.hid (HSt.out.grow (Grow.drewN w5 nq))
  generalize w5.drewN nq = w6 at HX6 HO6 HZ6 HG6 HS6 ⊢
  clear xB d0 d1 d2 d3 d4 d5 HX HO HZ HG HSt
  have hXc : ∀ j, w6.cell? ⟨w.heap.size, j, none⟩ = (ctxCells at_ R (.slice A n cap))[j]? := fun j => cell_block HX6.out j
  have x9 := (hXc 9).trans (ctx_9 at_ R (.slice A n cap))
  have xR := fun j (hj : j < 8) => (hXc (1 + j)).trans (ctx_reg at_ R (.slice A n cap) j hj)
  have hO := HO6.out
  have d0 := cell_block hO 0
  have d1 := cell_block hO 1
  have d2 := cell_block hO 2
  have d3 := cell_block hO 3
  have d4 := cell_block hO 4
  have d5 := cell_block hO 5
  simp at d0 d1 d2 d3 d4 d5
  clear hO hXc
  have hq9 : (q : Int) ≤ 299 := by omega
  have hn0 : 0 < n := by omega
  obtain ⟨xa, hxa, hxm⟩ := (hM.grow HG6.out) hn0
  have xq := hxm q (by omega)
  subst hxa
  clear hxm
  have cA := HS6.out.1.reg a ha
  have fA := HS6.out.1.free (1 + a)
  clear xR
  go_upto_region 20 with fail
  go_still_tail 9, (by kernel_rfl)
  change wpList _ _ _ _ _ w6.drew
  have HX7 := Lib.hid ((Grow.drewN w6 1).at HX6.out)
  have HZ7 := Lib.hid ((Grow.drewN w6 1).at HZ6.out)
  have HG7 := Lib.hid (HG6.out.trans (Grow.drewN w6 1))
  have HS7 := Lib.hid (HS6.out.grow (Grow.drewN w6 1))
  change Hid (w6.drew.heap[_]? = _) at HX7
  change Hid (w6.drew.heap[_]? = _) at HZ7
  change Hid (Grow w w6.drew) at HG7
  change Hid (St w6.drew _ _ _ _ _ _ _ _) at HS7
  generalize w6.drew = w7 at HX7 HZ7 HG7 HS7 ⊢
  clear d0 d1 d2 d3 d4 d5 x9 xq cA fA HX6 HO6 HZ6 HG6 HS6
  have cA := HS7.out.1.reg a ha
  have fA := HS7.out.1.free (1 + a)
  have hS := HS7.out.setR a (M q) ha
  have hZ := (set_block_other (w := w7) (b := y) (by omega) (1 + a) (.int .u32 (M q).toNat)).trans HZ7.out
  have hG := HG7.out.only ((Only.refl y w7).setCell (1 + a) (.int .u32 (M q).toNat)) (by omega)
  obtain ⟨wz, hwz⟩ : ∃ wz, wz = w7.setCell ⟨y, 1 + a, none⟩ (.int .u32 (M q).toNat) := ⟨_, rfl⟩
  rw [← hwz] at hS hZ hG
  have HWZ := Lib.hid hwz
  clear hwz
  go_upto_region 31 with fail
  rw [← HWZ.out]
  clear cA fA HWZ 
  have HY := Lib.hid (show wz.heap[y]? = some (.cells (ctxCells (at_ + 1) (upd R a (M q)) (.slice A' n cap')) 26 (0, 0)) from hS.1)
  have HSf := Lib.hid hS
  have HZf := Lib.hid hZ
  have HGf := Lib.hid hG
  have HIf := Lib.hid (info26c (at_ + 1) (upd R a (M q)) (.slice A' n cap'))
  have HOf := Lib.hid (ctx_one (at_ + 1) (upd R a (M q)) (.slice A' n cap') rfl)
  have hs10 : (#[.int .i64 0, .int .u32 0, .int .u32 0, .int .u32 0, .int .u32 0, .int .u32 0, .int .u32 0, .int .u32 0, .int .u32 0, .slice none 0 0] : Array Value).size = (ctxCells (at_ + 1) (upd R a (M q)) (.slice A' n cap')).size := by rw [ctxCells_size]; rfl
  have HSs := Lib.hid hs10
  clear hs10 hS hZ hG
  go_wp2_with (first
    | ((with_reducible refine wpList_load_blk rfl 26 (.tmp 6) rfl y 26 (ctxCells (at_ + 1) (upd R a (M q)) (.slice A' n cap')) _ ?_ HY.out Try.underlying26 ?_ HIf.out ?_); (· rfl); (· rfl))
    | ((with_reducible refine wpList_store_blk rfl 26 (.tmp 4) (.tmp 144) rfl (w.heap.size + 2) 26 _ (ctxCells (at_ + 1) (upd R a (M q)) (.slice A' n cap')) ?_ ?_ HZf.out HSs.out HIf.out HOf.out ?_); (· rfl); (· rfl); intro wf hbf hof))
  refine bodyPost_ret (v := .tuple #[.agg (ctxCells (at_ + 1) (upd R a (M q)) (.slice A' n cap')), .int .i64 0]) ?hres rfl ⟨A', cap', rfl, ?_, hcap2, HGf.out.only hof (by omega)⟩
  case hres =>
    refine results_cell_tmp (p := 4) (t := 5) (ty := 26) ?_ _ _ wf (w.heap.size + 2) _ ?_ ?_
    · rfl
    · rfl
    · exact run_loadVar_row wf (w.heap.size + 2) _ _ _ (0, 0) _ hbf Try.underlying26 rfl HIf.out
  exact (HSf.out.2.1.only hof (fun m hm hn => by obtain ⟨m', e, h1, _⟩ := HL.out hn; rw [hm] at e; injection e with e; injection e with e; omega)).loc (by omega)

set_option maxHeartbeats 1000000 in
set_option maxRecDepth 100000 in
theorem ref_sto (w : World) (n cap : Nat) (at_ : Int) (R M : Nat → BitVec 32) (A : Option Addr) (a b c : Nat) (d : Int) (k : BitVec 32) (hn : (n : Int) ≤ 300) (hcap : (n : Int) ≤ cap) (hf : formP 16 a b c d k.toNat = 0) (hat0 : 0 ≤ at_) (hat1 : at_ ≤ 2000000000000) (ha : a < 8) (hb : b < 8) (hc : c < 8) (hM : MemAt w A n M) (q : Nat) (hq : (R b + k).toNat = q) (hlt : (q : Int) < n) :
    Calls Try.prog 12 #[.agg (ctxCells at_ R (.slice A n cap)), .agg #[.int .i64 16, .int .i64 a, .int .i64 b, .int .i64 c, .int .i64 d, .int .u32 k.toNat]] w fun e w' => ∃ A' cap', e = .returned (.tuple #[.agg (ctxCells (at_ + 1) (R) (.slice A' n cap')), .int .i64 0]) ∧ MemLoc w A w' A' n (upd M q (R a)) ∧ (n : Int) ≤ cap' ∧ Grow w w' := by
  have hai : (a : Int) < 8 := by omega
  have hbi : (b : Int) < 8 := by omega
  have hci : (c : Int) < 8 := by omega
  have e2 := w_add (R b) k
  rw [hq] at e2
  have hq9 : (q : Int) < 4294967296 := by have := (R b + k).isLt; omega
  have E3 : Hid (((q : Int)).tmod 4294967296 = q) := Lib.hid (by rw [Int.tmod_eq_emod_of_nonneg (by omega)]; omega)
  have E5 : Hid ((q : Int) % 4294967296 = q) := Lib.hid (by omega)
  have E4 : Hid (IntKind.u64.wrap (q : Int) = q) := Lib.hid (u64_in (q : Int) (by omega) (by omega))
  clear hq hq9
  have h0 := ctx_0 at_ R (.slice A n cap)
  have h9 := ctx_9 at_ R (.slice A n cap)
  have hX : (((w.alloc (.cells (ctxCells at_ R (.slice A n cap)) 26)).alloc (.cells #[.int .i64 16, .int .i64 a, .int .i64 b, .int .i64 c, .int .i64 d, .int .u32 k.toNat] 28)).alloc (.cells #[.int .i64 0, .int .u32 0, .int .u32 0, .int .u32 0, .int .u32 0, .int .u32 0, .int .u32 0, .int .u32 0, .int .u32 0, .slice none 0 0] 26)).heap[w.heap.size]? = some (.cells (ctxCells at_ R (.slice A n cap)) 26) := (heapAt_alloc_old _ _ (by simp; omega)).trans ((heapAt_alloc_old _ _ (by simp)).trans (heapAt_alloc_new w _))
  have hO : (((w.alloc (.cells (ctxCells at_ R (.slice A n cap)) 26)).alloc (.cells #[.int .i64 16, .int .i64 a, .int .i64 b, .int .i64 c, .int .i64 d, .int .u32 k.toNat] 28)).alloc (.cells #[.int .i64 0, .int .u32 0, .int .u32 0, .int .u32 0, .int .u32 0, .int .u32 0, .int .u32 0, .int .u32 0, .int .u32 0, .slice none 0 0] 26)).heap[w.heap.size + 1]? = some (.cells #[.int .i64 16, .int .i64 a, .int .i64 b, .int .i64 c, .int .i64 d, .int .u32 k.toNat] 28) := (heapAt_alloc_old _ _ (by simp)).trans (heap_alloc2_new w _ _)
  have hZ : (((w.alloc (.cells (ctxCells at_ R (.slice A n cap)) 26)).alloc (.cells #[.int .i64 16, .int .i64 a, .int .i64 b, .int .i64 c, .int .i64 d, .int .u32 k.toNat] 28)).alloc (.cells #[.int .i64 0, .int .u32 0, .int .u32 0, .int .u32 0, .int .u32 0, .int .u32 0, .int .u32 0, .int .u32 0, .int .u32 0, .slice none 0 0] 26)).heap[w.heap.size + 2]? = some (.cells #[.int .i64 0, .int .u32 0, .int .u32 0, .int .u32 0, .int .u32 0, .int .u32 0, .int .u32 0, .int .u32 0, .int .u32 0, .slice none 0 0] 26) := by
    have := heapAt_alloc_new ((w.alloc (.cells (ctxCells at_ R (.slice A n cap)) 26)).alloc (.cells #[.int .i64 16, .int .i64 a, .int .i64 b, .int .i64 c, .int .i64 d, .int .u32 k.toNat] 28)) (.cells #[.int .i64 0, .int .u32 0, .int .u32 0, .int .u32 0, .int .u32 0, .int .u32 0, .int .u32 0, .int .u32 0, .int .u32 0, .slice none 0 0] 26)
    simpa using this
  have hG : Grow w (((w.alloc (.cells (ctxCells at_ R (.slice A n cap)) 26)).alloc (.cells #[.int .i64 16, .int .i64 a, .int .i64 b, .int .i64 c, .int .i64 d, .int .u32 k.toNat] 28)).alloc (.cells #[.int .i64 0, .int .u32 0, .int .u32 0, .int .u32 0, .int .u32 0, .int .u32 0, .int .u32 0, .int .u32 0, .int .u32 0, .slice none 0 0] 26)) := ((Grow.alloc w _).trans (Grow.alloc _ _)).trans (Grow.alloc _ _)
  have HF := Lib.hid hf; clear hf
  go_enter Try.func12, Try.ntmps12
  go_wp2_with fail
  generalize ((w.alloc (.cells (ctxCells at_ R (.slice A n cap)) 26)).alloc (.cells #[.int .i64 16, .int .i64 a, .int .i64 b, .int .i64 c, .int .i64 d, .int .u32 k.toNat] 28)).alloc (.cells #[.int .i64 0, .int .u32 0, .int .u32 0, .int .u32 0, .int .u32 0, .int .u32 0, .int .u32 0, .int .u32 0, .int .u32 0, .slice none 0 0] 26) = w1 at hX hO hZ hG ⊢
  refine (formRef_any 16 a b c d k.toNat _).mono ?_
  rw [HF.out]
  rintro e w2 ⟨rfl, hg⟩
  replace hX := hg.at hX
  replace hO := hg.at hO
  replace hZ := hg.at hZ
  replace hG := hG.trans hg
  clear hg
  have HX := Lib.hid hX
  have HINF := Lib.hid (info26c at_ R (.slice A n cap))
  go_wp2_with ((with_reducible refine wpList_load_blk rfl 26 (.tmp 2) rfl w.heap.size 26 (ctxCells at_ R (.slice A n cap)) _ ?_ HX.out Try.underlying26 ?_ HINF.out ?_); (· rfl); (· rfl))
  clear HX
  have hbr : w.heap.size + 2 < w2.heap.size := heapAt_lt hZ
  refine (copy_any _ at_ R A n cap M hn hcap (hM.grow hG)).mono ?_
  rintro e w3 ⟨A', cap', rfl, hown, hcap2, hg⟩
  have hs23 := hg.size
  replace hX := hg.at hX
  replace hO := hg.at hO
  replace hZ := hg.at hZ
  replace hG := hG.trans hg
  have hbr3 : w.heap.size + 2 < w3.heap.size := heapAt_lt hZ
  have hnew := heapAt_alloc_new w3 (.cells #[.int .i64 0, .int .u32 0, .int .u32 0, .int .u32 0, .int .u32 0, .int .u32 0, .int .u32 0, .int .u32 0, .int .u32 0, .slice none 0 0] 26)
  have hg4 := Grow.alloc w3 (.cells #[.int .i64 0, .int .u32 0, .int .u32 0, .int .u32 0, .int .u32 0, .int .u32 0, .int .u32 0, .int .u32 0, .int .u32 0, .slice none 0 0] 26)
  replace hX := hg4.at hX
  replace hO := hg4.at hO
  replace hZ := hg4.at hZ
  replace hG := hG.trans hg4
  have hown4 := hown.grow hg4
  have hlt : 0 < n → ∃ m, A' = some ⟨m, 0, none⟩ ∧ w2.heap.size ≤ m ∧ m < w3.heap.size := fun h => hown.lt h
  have hs10 : (#[.int .i64 0, .int .u32 0, .int .u32 0, .int .u32 0, .int .u32 0, .int .u32 0, .int .u32 0, .int .u32 0, .int .u32 0, .slice none 0 0] : Array Value).size = (ctxCells at_ R (.slice A' n cap')).size := by rw [ctxCells_size]; rfl
  have HN := Lib.hid hnew
  have HS := Lib.hid hs10
  have HI := Lib.hid (info26c at_ R (.slice A' n cap'))
  have HO1 := Lib.hid (ctx_one at_ R (.slice A' n cap') rfl)
  have HL := Lib.hid hlt
  clear hs10 hnew hg hg4 hown hlt
  go_wp2_with ((with_reducible refine wpList_store_blk rfl 26 (.tmp 6) (.tmp 20) rfl w3.heap.size 26 _ (ctxCells at_ R (.slice A' n cap')) ?kx ?ky HN.out HS.out HI.out HO1.out ?kk))
  case kx => rfl
  case ky => rfl
  case kk =>
  intro w4 hb4 ho4
  replace hX := ho4.at (by omega) hX
  replace hO := ho4.at (by omega) hO
  replace hZ := ho4.at (by omega) hZ
  replace hG := hG.only ho4 (by omega)
  have hS4 : St w4 w2.heap.size w3.heap.size at_ R A' n cap' M := ⟨hb4, hown4.only ho4 (fun m hm hn => by obtain ⟨m', e, _, h2⟩ := HL.out hn; rw [hm] at e; injection e with e; injection e with e; omega), by omega, fun hn e => by obtain ⟨m', e', _, h2⟩ := HL.out hn; rw [e] at e'; injection e' with e'; injection e' with e'; omega⟩
  clear HN HS HI HO1 hown4 hb4 ho4
  have c0 := hS4.1.c0
  have f0 := hS4.1.free 0
  have hS := hS4.set0 (at_ + 1)
  replace hX := (set_block_other (w := w4) (b := w3.heap.size) (by omega) 0 (.int .i64 (at_ + 1))).trans hX
  replace hO := (set_block_other (w := w4) (b := w3.heap.size) (by omega) 0 (.int .i64 (at_ + 1))).trans hO
  replace hZ := (set_block_other (w := w4) (b := w3.heap.size) (by omega) 0 (.int .i64 (at_ + 1))).trans hZ
  replace hG := hG.only ((Only.refl w3.heap.size w4).setCell 0 (.int .i64 (at_ + 1))) (by omega)
  generalize hy : w3.heap.size = y at *
  clear hy hS4
  obtain ⟨w5, hw5⟩ : ∃ w5, w5 = w4.setCell ⟨y, 0, none⟩ (.int .i64 (at_ + 1)) := ⟨_, rfl⟩
  rw [← hw5] at hS hX hO hZ hG
  have HW5 := Lib.hid hw5
  clear hw5
  have HX := Lib.hid hX
  have HO := Lib.hid hO
  have HZ := Lib.hid hZ
  have HG := Lib.hid hG
  have HSt := Lib.hid hS
  clear hX hO hZ hG hS h0 h9
  go_upto_region 5 with fail
  rw [← HW5.out]
  clear c0 f0 HW5
  have hO := HO.out
  have d0 := cell_block hO 0
  have d1 := cell_block hO 1
  have d2 := cell_block hO 2
  have d3 := cell_block hO 3
  have d4 := cell_block hO 4
  have d5 := cell_block hO 5
  simp at d0 d1 d2 d3 d4 d5
  clear hO
  have hXc : ∀ j, w5.cell? ⟨w.heap.size, j, none⟩ = (ctxCells at_ R (.slice A n cap))[j]? := fun j => cell_block HX.out j
  have xR := fun j (hj : j < 8) => (hXc (1 + j)).trans (ctx_reg at_ R (.slice A n cap) j hj)
  have xB := xR b hb
  clear hXc xR
  go_upto_region 16 with fail
  go_quiet (fail)
  simp only [e2, E5.out]
  clear e2 E3 E4 E5
  have HX6 := Lib.hid ((Grow.drewN w5 nq).at HX.out)
  have HO6 := Lib.hid ((Grow.drewN w5 nq).at HO.out)
  have HZ6 := Lib.hid ((Grow.drewN w5 nq).at HZ.out)
  have HG6 := Lib.hid (HG.out.trans (Grow.drewN w5 nq))
  have HS6 := Lib.hid (HSt.out.grow (Grow.drewN w5 nq))
  generalize w5.drewN nq = w6 at HX6 HO6 HZ6 HG6 HS6 ⊢
  clear xB d0 d1 d2 d3 d4 d5 HX HO HZ HG HSt
  have hXc : ∀ j, w6.cell? ⟨w.heap.size, j, none⟩ = (ctxCells at_ R (.slice A n cap))[j]? := fun j => cell_block HX6.out j
  have x9 := (hXc 9).trans (ctx_9 at_ R (.slice A n cap))
  have xR := fun j (hj : j < 8) => (hXc (1 + j)).trans (ctx_reg at_ R (.slice A n cap) j hj)
  have hO := HO6.out
  have d0 := cell_block hO 0
  have d1 := cell_block hO 1
  have d2 := cell_block hO 2
  have d3 := cell_block hO 3
  have d4 := cell_block hO 4
  have d5 := cell_block hO 5
  simp at d0 d1 d2 d3 d4 d5
  clear hO hXc
  have hq9 : (q : Int) ≤ 299 := by omega
  have hn0 : 0 < n := by omega
  have xA := xR a ha
  have y9 := HS6.out.1.c9
  obtain ⟨m, hA, hBm, hcm, hfm⟩ := HS6.out.2.1 hn0
  have hmy : m ≠ y := fun e => HS6.out.2.2.2 hn0 (by rw [hA, e])
  have hmb : w.heap.size + 2 < m := by omega
  subst hA
  have cM := hcm q (by omega)
  have fM := hfm q
  clear hcm hfm xR
  go_upto_region 21 with fail
  go_still_tail 9, (by kernel_rfl)
  change wpList _ _ _ _ _ w6.drew
  have HX7 := Lib.hid ((Grow.drewN w6 1).at HX6.out)
  have HZ7 := Lib.hid ((Grow.drewN w6 1).at HZ6.out)
  have HG7 := Lib.hid (HG6.out.trans (Grow.drewN w6 1))
  have HS7 := Lib.hid (HS6.out.grow (Grow.drewN w6 1))
  change Hid (w6.drew.heap[_]? = _) at HX7
  change Hid (w6.drew.heap[_]? = _) at HZ7
  change Hid (Grow w w6.drew) at HG7
  change Hid (St w6.drew _ _ _ _ _ _ _ _) at HS7
  generalize w6.drew = w7 at HX7 HZ7 HG7 HS7 ⊢
  clear d0 d1 d2 d3 d4 d5 x9 xA y9 cM fM HX6 HO6 HZ6 HG6 HS6
  obtain ⟨m', hA, _, hcm, hfm⟩ := HS7.out.2.1 hn0
  obtain rfl : m = m' := by injection hA with hA; injection hA
  have cM := hcm q (by omega)
  have fM := hfm q
  clear hcm hfm hA
  have hS := HS7.out.setM q (R a) (by omega)
  have hZ := (set_block_other (w := w7) (b := m) (by omega) q (.int .u32 (R a).toNat)).trans HZ7.out
  have hG := HG7.out.only ((Only.refl m w7).setCell q (.int .u32 (R a).toNat)) (by omega)
  obtain ⟨wz, hwz⟩ : ∃ wz, wz = w7.setCell ⟨m, q, none⟩ (.int .u32 (R a).toNat) := ⟨_, rfl⟩
  rw [← hwz] at hS hZ hG
  have HWZ := Lib.hid hwz
  clear hwz
  go_upto_region 31 with fail
  rw [← HWZ.out]
  clear cM fM HWZ
  have HY := Lib.hid (show wz.heap[y]? = some (.cells (ctxCells (at_ + 1) (R) (.slice (some ⟨m, 0, none⟩) n cap')) 26 (0, 0)) from hS.1)
  have HSf := Lib.hid hS
  have HZf := Lib.hid hZ
  have HGf := Lib.hid hG
  have HIf := Lib.hid (info26c (at_ + 1) (R) (.slice (some ⟨m, 0, none⟩) n cap'))
  have HOf := Lib.hid (ctx_one (at_ + 1) (R) (.slice (some ⟨m, 0, none⟩) n cap') rfl)
  have hs10 : (#[.int .i64 0, .int .u32 0, .int .u32 0, .int .u32 0, .int .u32 0, .int .u32 0, .int .u32 0, .int .u32 0, .int .u32 0, .slice none 0 0] : Array Value).size = (ctxCells (at_ + 1) (R) (.slice (some ⟨m, 0, none⟩) n cap')).size := by rw [ctxCells_size]; rfl
  have HSs := Lib.hid hs10
  clear hs10 hS hZ hG
  go_wp2_with (first
    | ((with_reducible refine wpList_load_blk rfl 26 (.tmp 6) rfl y 26 (ctxCells (at_ + 1) (R) (.slice (some ⟨m, 0, none⟩) n cap')) _ ?_ HY.out Try.underlying26 ?_ HIf.out ?_); (· rfl); (· rfl))
    | ((with_reducible refine wpList_store_blk rfl 26 (.tmp 4) (.tmp 144) rfl (w.heap.size + 2) 26 _ (ctxCells (at_ + 1) (R) (.slice (some ⟨m, 0, none⟩) n cap')) ?_ ?_ HZf.out HSs.out HIf.out HOf.out ?_); (· rfl); (· rfl); intro wf hbf hof))
  refine bodyPost_ret (v := .tuple #[.agg (ctxCells (at_ + 1) (R) (.slice (some ⟨m, 0, none⟩) n cap')), .int .i64 0]) ?hres rfl ⟨some ⟨m, 0, none⟩, cap', rfl, ?_, hcap2, HGf.out.only hof (by omega)⟩
  case hres =>
    refine results_cell_tmp (p := 4) (t := 5) (ty := 26) ?_ _ _ wf (w.heap.size + 2) _ ?_ ?_
    · rfl
    · rfl
    · exact run_loadVar_row wf (w.heap.size + 2) _ _ _ (0, 0) _ hbf Try.underlying26 rfl HIf.out
  exact (HSf.out.2.1.only hof (fun m hm hn => by obtain ⟨m', e, h1, _⟩ := HL.out hn; rw [hm] at e; injection e with e; injection e with e; omega)).loc (by omega)

set_option maxHeartbeats 1000000 in
set_option maxRecDepth 100000 in
theorem ref_val_err (w : World) (n cap : Nat) (at_ : Int) (R M : Nat → BitVec 32) (A : Option Addr) (op : Int) (h3 : 3 ≤ op) (h14 : op ≤ 14) (a b c : Nat) (d : Int) (k : BitVec 32) (hn : (n : Int) ≤ 300) (hcap : (n : Int) ≤ cap) (hf : formP op a b c d k.toNat = 0) (hat0 : 0 ≤ at_) (hat1 : at_ ≤ 2000000000000) (ha : a < 8) (hb : b < 8) (hc : c < 8) (hM : MemAt w A n M) (he : (valE op (R c) != 0) = true) :
    Calls Try.prog 12 #[.agg (ctxCells at_ R (.slice A n cap)), .agg #[.int .i64 op, .int .i64 a, .int .i64 b, .int .i64 c, .int .i64 d, .int .u32 k.toNat]] w fun e w' => ∃ A' cap', e = .returned (.tuple #[.agg (ctxCells at_ R (.slice A' n cap')), .int .i64 (valE op (R c))]) ∧ MemLoc w A w' A' n M ∧ (n : Int) ≤ cap' ∧ Grow w w' := by
  have hai : (a : Int) < 8 := by omega
  have hbi : (b : Int) < 8 := by omega
  have hci : (c : Int) < 8 := by omega
  have n1 : (op == 1) = false := by rw [beq_eq_false_iff_ne]; omega
  have n2 : (op == 2) = false := by rw [beq_eq_false_iff_ne]; omega
  have n15 : (op == 15) = false := by rw [beq_eq_false_iff_ne]; omega
  have n16 : (op == 16) = false := by rw [beq_eq_false_iff_ne]; omega
  have n17 : (op == 17) = false := by rw [beq_eq_false_iff_ne]; omega
  have n18 : (op == 18) = false := by rw [beq_eq_false_iff_ne]; omega
  have n19 : (op == 19) = false := by rw [beq_eq_false_iff_ne]; omega
  have n20 : (op == 20) = false := by rw [beq_eq_false_iff_ne]; omega
  have n21 : ¬ 20 < op := by omega
  have h0 := ctx_0 at_ R (.slice A n cap)
  have h9 := ctx_9 at_ R (.slice A n cap)
  have hX : (((w.alloc (.cells (ctxCells at_ R (.slice A n cap)) 26)).alloc (.cells #[.int .i64 op, .int .i64 a, .int .i64 b, .int .i64 c, .int .i64 d, .int .u32 k.toNat] 28)).alloc (.cells #[.int .i64 0, .int .u32 0, .int .u32 0, .int .u32 0, .int .u32 0, .int .u32 0, .int .u32 0, .int .u32 0, .int .u32 0, .slice none 0 0] 26)).heap[w.heap.size]? = some (.cells (ctxCells at_ R (.slice A n cap)) 26) := (heapAt_alloc_old _ _ (by simp; omega)).trans ((heapAt_alloc_old _ _ (by simp)).trans (heapAt_alloc_new w _))
  have hO : (((w.alloc (.cells (ctxCells at_ R (.slice A n cap)) 26)).alloc (.cells #[.int .i64 op, .int .i64 a, .int .i64 b, .int .i64 c, .int .i64 d, .int .u32 k.toNat] 28)).alloc (.cells #[.int .i64 0, .int .u32 0, .int .u32 0, .int .u32 0, .int .u32 0, .int .u32 0, .int .u32 0, .int .u32 0, .int .u32 0, .slice none 0 0] 26)).heap[w.heap.size + 1]? = some (.cells #[.int .i64 op, .int .i64 a, .int .i64 b, .int .i64 c, .int .i64 d, .int .u32 k.toNat] 28) := (heapAt_alloc_old _ _ (by simp)).trans (heap_alloc2_new w _ _)
  have hZ : (((w.alloc (.cells (ctxCells at_ R (.slice A n cap)) 26)).alloc (.cells #[.int .i64 op, .int .i64 a, .int .i64 b, .int .i64 c, .int .i64 d, .int .u32 k.toNat] 28)).alloc (.cells #[.int .i64 0, .int .u32 0, .int .u32 0, .int .u32 0, .int .u32 0, .int .u32 0, .int .u32 0, .int .u32 0, .int .u32 0, .slice none 0 0] 26)).heap[w.heap.size + 2]? = some (.cells #[.int .i64 0, .int .u32 0, .int .u32 0, .int .u32 0, .int .u32 0, .int .u32 0, .int .u32 0, .int .u32 0, .int .u32 0, .slice none 0 0] 26) := by
    have := heapAt_alloc_new ((w.alloc (.cells (ctxCells at_ R (.slice A n cap)) 26)).alloc (.cells #[.int .i64 op, .int .i64 a, .int .i64 b, .int .i64 c, .int .i64 d, .int .u32 k.toNat] 28)) (.cells #[.int .i64 0, .int .u32 0, .int .u32 0, .int .u32 0, .int .u32 0, .int .u32 0, .int .u32 0, .int .u32 0, .int .u32 0, .slice none 0 0] 26)
    simpa using this
  have hG : Grow w (((w.alloc (.cells (ctxCells at_ R (.slice A n cap)) 26)).alloc (.cells #[.int .i64 op, .int .i64 a, .int .i64 b, .int .i64 c, .int .i64 d, .int .u32 k.toNat] 28)).alloc (.cells #[.int .i64 0, .int .u32 0, .int .u32 0, .int .u32 0, .int .u32 0, .int .u32 0, .int .u32 0, .int .u32 0, .int .u32 0, .slice none 0 0] 26)) := ((Grow.alloc w _).trans (Grow.alloc _ _)).trans (Grow.alloc _ _)
  have HF := Lib.hid hf; clear hf
  go_enter Try.func12, Try.ntmps12
  go_wp2_with fail
  generalize ((w.alloc (.cells (ctxCells at_ R (.slice A n cap)) 26)).alloc (.cells #[.int .i64 op, .int .i64 a, .int .i64 b, .int .i64 c, .int .i64 d, .int .u32 k.toNat] 28)).alloc (.cells #[.int .i64 0, .int .u32 0, .int .u32 0, .int .u32 0, .int .u32 0, .int .u32 0, .int .u32 0, .int .u32 0, .int .u32 0, .slice none 0 0] 26) = w1 at hX hO hZ hG ⊢
  refine (formRef_any op a b c d k.toNat _).mono ?_
  rw [HF.out]
  rintro e w2 ⟨rfl, hg⟩
  replace hX := hg.at hX
  replace hO := hg.at hO
  replace hZ := hg.at hZ
  replace hG := hG.trans hg
  clear hg
  have HX := Lib.hid hX
  have HINF := Lib.hid (info26c at_ R (.slice A n cap))
  go_wp2_with ((with_reducible refine wpList_load_blk rfl 26 (.tmp 2) rfl w.heap.size 26 (ctxCells at_ R (.slice A n cap)) _ ?_ HX.out Try.underlying26 ?_ HINF.out ?_); (· rfl); (· rfl))
  clear HX
  have hbr : w.heap.size + 2 < w2.heap.size := heapAt_lt hZ
  refine (copy_any _ at_ R A n cap M hn hcap (hM.grow hG)).mono ?_
  rintro e w3 ⟨A', cap', rfl, hown, hcap2, hg⟩
  have hs23 := hg.size
  replace hX := hg.at hX
  replace hO := hg.at hO
  replace hZ := hg.at hZ
  replace hG := hG.trans hg
  have hbr3 : w.heap.size + 2 < w3.heap.size := heapAt_lt hZ
  have hnew := heapAt_alloc_new w3 (.cells #[.int .i64 0, .int .u32 0, .int .u32 0, .int .u32 0, .int .u32 0, .int .u32 0, .int .u32 0, .int .u32 0, .int .u32 0, .slice none 0 0] 26)
  have hg4 := Grow.alloc w3 (.cells #[.int .i64 0, .int .u32 0, .int .u32 0, .int .u32 0, .int .u32 0, .int .u32 0, .int .u32 0, .int .u32 0, .int .u32 0, .slice none 0 0] 26)
  replace hX := hg4.at hX
  replace hO := hg4.at hO
  replace hZ := hg4.at hZ
  replace hG := hG.trans hg4
  have hown4 := hown.grow hg4
  have hlt : 0 < n → ∃ m, A' = some ⟨m, 0, none⟩ ∧ w2.heap.size ≤ m ∧ m < w3.heap.size := fun h => hown.lt h
  have hs10 : (#[.int .i64 0, .int .u32 0, .int .u32 0, .int .u32 0, .int .u32 0, .int .u32 0, .int .u32 0, .int .u32 0, .int .u32 0, .slice none 0 0] : Array Value).size = (ctxCells at_ R (.slice A' n cap')).size := by rw [ctxCells_size]; rfl
  have HN := Lib.hid hnew
  have HS := Lib.hid hs10
  have HI := Lib.hid (info26c at_ R (.slice A' n cap'))
  have HO1 := Lib.hid (ctx_one at_ R (.slice A' n cap') rfl)
  have HL := Lib.hid hlt
  clear hs10 hnew hg hg4 hown hlt
  go_wp2_with ((with_reducible refine wpList_store_blk rfl 26 (.tmp 6) (.tmp 20) rfl w3.heap.size 26 _ (ctxCells at_ R (.slice A' n cap')) ?kx ?ky HN.out HS.out HI.out HO1.out ?kk))
  case kx => rfl
  case ky => rfl
  case kk =>
  intro w4 hb4 ho4
  replace hX := ho4.at (by omega) hX
  replace hO := ho4.at (by omega) hO
  replace hZ := ho4.at (by omega) hZ
  replace hG := hG.only ho4 (by omega)
  have hS4 : St w4 w2.heap.size w3.heap.size at_ R A' n cap' M := ⟨hb4, hown4.only ho4 (fun m hm hn => by obtain ⟨m', e, _, h2⟩ := HL.out hn; rw [hm] at e; injection e with e; injection e with e; omega), by omega, fun hn e => by obtain ⟨m', e', _, h2⟩ := HL.out hn; rw [e] at e'; injection e' with e'; injection e' with e'; omega⟩
  clear HN HS HI HO1 hown4 hb4 ho4
  have c0 := hS4.1.c0
  have f0 := hS4.1.free 0
  have hS := hS4.set0 (at_ + 1)
  replace hX := (set_block_other (w := w4) (b := w3.heap.size) (by omega) 0 (.int .i64 (at_ + 1))).trans hX
  replace hO := (set_block_other (w := w4) (b := w3.heap.size) (by omega) 0 (.int .i64 (at_ + 1))).trans hO
  replace hZ := (set_block_other (w := w4) (b := w3.heap.size) (by omega) 0 (.int .i64 (at_ + 1))).trans hZ
  replace hG := hG.only ((Only.refl w3.heap.size w4).setCell 0 (.int .i64 (at_ + 1))) (by omega)
  generalize hy : w3.heap.size = y at *
  clear hy hS4
  obtain ⟨w5, hw5⟩ : ∃ w5, w5 = w4.setCell ⟨y, 0, none⟩ (.int .i64 (at_ + 1)) := ⟨_, rfl⟩
  rw [← hw5] at hS hX hO hZ hG
  have HW5 := Lib.hid hw5
  clear hw5
  have HX := Lib.hid hX
  have HO := Lib.hid hO
  have HZ := Lib.hid hZ
  have HG := Lib.hid hG
  have HSt := Lib.hid hS
  clear hX hO hZ hG hS h0 h9
  go_upto_region 5 with fail
  rw [← HW5.out]
  clear c0 f0 HW5
  have hO := HO.out
  have d0 := cell_block hO 0
  have d1 := cell_block hO 1
  have d2 := cell_block hO 2
  have d3 := cell_block hO 3
  have d4 := cell_block hO 4
  have d5 := cell_block hO 5
  simp at d0 d1 d2 d3 d4 d5
  clear hO
  have hXc : ∀ j, w5.cell? ⟨w.heap.size, j, none⟩ = (ctxCells at_ R (.slice A n cap))[j]? := fun j => cell_block HX.out j
  have xR := fun j (hj : j < 8) => (hXc (1 + j)).trans (ctx_reg at_ R (.slice A n cap) j hj)
  have xB := xR b hb
  have xC := xR c hc
  clear hXc xR
  go_upto_region 6 with fail
  go_quiet ((go_at_call 19; exact Calls.quiet_of_same (value_any op (R b) (R c) _ h3 h14)))
  have HX6 := Lib.hid ((Grow.drewN w5 nq).at HX.out)
  have HO6 := Lib.hid ((Grow.drewN w5 nq).at HO.out)
  have HZ6 := Lib.hid ((Grow.drewN w5 nq).at HZ.out)
  have HG6 := Lib.hid (HG.out.trans (Grow.drewN w5 nq))
  have HS6 := Lib.hid (HSt.out.grow (Grow.drewN w5 nq))
  generalize w5.drewN nq = w6 at HX6 HO6 HZ6 HG6 HS6 ⊢
  clear xB xC d0 d1 d2 d3 d4 d5 HX HO HZ HG HSt
  have hO := HO6.out
  have d0 := cell_block hO 0
  have d1 := cell_block hO 1
  have d2 := cell_block hO 2
  have d3 := cell_block hO 3
  have d4 := cell_block hO 4
  have d5 := cell_block hO 5
  simp at d0 d1 d2 d3 d4 d5
  clear hO
  go_upto_region 8 with fail
  have hX := HX6.out
  have hZ := HZ6.out
  have hG := HG6.out
  clear d0 d1 d2 d3 d4 d5 HO6 HS6 HX6 HZ6 HG6
  have HX8 := Lib.hid hX
  have HZ8 := Lib.hid hZ
  have HG8 := Lib.hid hG
  have HI8 := Lib.hid (info26c at_ R (.slice A n cap))
  have HO8 := Lib.hid (ctx_one at_ R (.slice A n cap) rfl)
  have hs10 : (#[.int .i64 0, .int .u32 0, .int .u32 0, .int .u32 0, .int .u32 0, .int .u32 0, .int .u32 0, .int .u32 0, .int .u32 0, .slice none 0 0] : Array Value).size = (ctxCells at_ R (.slice A n cap)).size := by rw [ctxCells_size]; rfl
  have HS8 := Lib.hid hs10
  clear hs10 hX hZ hG
  go_wp2_with (first
    | ((with_reducible refine wpList_load_blk rfl 26 (.tmp 2) rfl w.heap.size 26 (ctxCells at_ R (.slice A n cap)) _ ?_ HX8.out Try.underlying26 ?_ HI8.out ?_); (· rfl); (· rfl))
    | ((with_reducible refine wpList_store_blk rfl 26 (.tmp 4) (.tmp 45) rfl (w.heap.size + 2) 26 _ (ctxCells at_ R (.slice A n cap)) ?_ ?_ HZ8.out HS8.out HI8.out HO8.out ?_); (· rfl); (· rfl); intro wf hbf hof))
  have hGf := HG8.out.only hof (by omega)
  refine bodyPost_ret (v := .tuple #[.agg (ctxCells at_ R (.slice A n cap)), .int .i64 (valE op (R c))]) ?hres rfl ⟨A, cap, rfl, ⟨hM.grow hGf, fun _ => .inl rfl⟩, hcap, hGf⟩
  case hres =>
    refine results_cell_tmp (p := 4) (t := 5) (ty := 26) ?_ _ _ wf (w.heap.size + 2) _ ?_ ?_
    · rfl
    · rfl
    · exact run_loadVar_row wf (w.heap.size + 2) _ _ _ (0, 0) _ hbf Try.underlying26 rfl HI8.out

set_option maxHeartbeats 1000000 in
set_option maxRecDepth 100000 in
theorem ref_val (w : World) (n cap : Nat) (at_ : Int) (R M : Nat → BitVec 32) (A : Option Addr) (op : Int) (h3 : 3 ≤ op) (h14 : op ≤ 14) (a b c : Nat) (d : Int) (k : BitVec 32) (hn : (n : Int) ≤ 300) (hcap : (n : Int) ≤ cap) (hf : formP op a b c d k.toNat = 0) (hat0 : 0 ≤ at_) (hat1 : at_ ≤ 2000000000000) (ha : a < 8) (hb : b < 8) (hc : c < 8) (hM : MemAt w A n M) (he : valE op (R c) = 0) :
    Calls Try.prog 12 #[.agg (ctxCells at_ R (.slice A n cap)), .agg #[.int .i64 op, .int .i64 a, .int .i64 b, .int .i64 c, .int .i64 d, .int .u32 k.toNat]] w fun e w' => ∃ A' cap', e = .returned (.tuple #[.agg (ctxCells (at_ + 1) (upd R a (valW op (R b) (R c))) (.slice A' n cap')), .int .i64 0]) ∧ MemLoc w A w' A' n M ∧ (n : Int) ≤ cap' ∧ Grow w w' := by
  have hai : (a : Int) < 8 := by omega
  have hbi : (b : Int) < 8 := by omega
  have hci : (c : Int) < 8 := by omega
  have n1 : (op == 1) = false := by rw [beq_eq_false_iff_ne]; omega
  have n2 : (op == 2) = false := by rw [beq_eq_false_iff_ne]; omega
  have n15 : (op == 15) = false := by rw [beq_eq_false_iff_ne]; omega
  have n16 : (op == 16) = false := by rw [beq_eq_false_iff_ne]; omega
  have n17 : (op == 17) = false := by rw [beq_eq_false_iff_ne]; omega
  have n18 : (op == 18) = false := by rw [beq_eq_false_iff_ne]; omega
  have n19 : (op == 19) = false := by rw [beq_eq_false_iff_ne]; omega
  have n20 : (op == 20) = false := by rw [beq_eq_false_iff_ne]; omega
  have n21 : ¬ 20 < op := by omega
  have h0 := ctx_0 at_ R (.slice A n cap)
  have h9 := ctx_9 at_ R (.slice A n cap)
  have hX : (((w.alloc (.cells (ctxCells at_ R (.slice A n cap)) 26)).alloc (.cells #[.int .i64 op, .int .i64 a, .int .i64 b, .int .i64 c, .int .i64 d, .int .u32 k.toNat] 28)).alloc (.cells #[.int .i64 0, .int .u32 0, .int .u32 0, .int .u32 0, .int .u32 0, .int .u32 0, .int .u32 0, .int .u32 0, .int .u32 0, .slice none 0 0] 26)).heap[w.heap.size]? = some (.cells (ctxCells at_ R (.slice A n cap)) 26) := (heapAt_alloc_old _ _ (by simp; omega)).trans ((heapAt_alloc_old _ _ (by simp)).trans (heapAt_alloc_new w _))
  have hO : (((w.alloc (.cells (ctxCells at_ R (.slice A n cap)) 26)).alloc (.cells #[.int .i64 op, .int .i64 a, .int .i64 b, .int .i64 c, .int .i64 d, .int .u32 k.toNat] 28)).alloc (.cells #[.int .i64 0, .int .u32 0, .int .u32 0, .int .u32 0, .int .u32 0, .int .u32 0, .int .u32 0, .int .u32 0, .int .u32 0, .slice none 0 0] 26)).heap[w.heap.size + 1]? = some (.cells #[.int .i64 op, .int .i64 a, .int .i64 b, .int .i64 c, .int .i64 d, .int .u32 k.toNat] 28) := (heapAt_alloc_old _ _ (by simp)).trans (heap_alloc2_new w _ _)
  have hZ : (((w.alloc (.cells (ctxCells at_ R (.slice A n cap)) 26)).alloc (.cells #[.int .i64 op, .int .i64 a, .int .i64 b, .int .i64 c, .int .i64 d, .int .u32 k.toNat] 28)).alloc (.cells #[.int .i64 0, .int .u32 0, .int .u32 0, .int .u32 0, .int .u32 0, .int .u32 0, .int .u32 0, .int .u32 0, .int .u32 0, .slice none 0 0] 26)).heap[w.heap.size + 2]? = some (.cells #[.int .i64 0, .int .u32 0, .int .u32 0, .int .u32 0, .int .u32 0, .int .u32 0, .int .u32 0, .int .u32 0, .int .u32 0, .slice none 0 0] 26) := by
    have := heapAt_alloc_new ((w.alloc (.cells (ctxCells at_ R (.slice A n cap)) 26)).alloc (.cells #[.int .i64 op, .int .i64 a, .int .i64 b, .int .i64 c, .int .i64 d, .int .u32 k.toNat] 28)) (.cells #[.int .i64 0, .int .u32 0, .int .u32 0, .int .u32 0, .int .u32 0, .int .u32 0, .int .u32 0, .int .u32 0, .int .u32 0, .slice none 0 0] 26)
    simpa using this
  have hG : Grow w (((w.alloc (.cells (ctxCells at_ R (.slice A n cap)) 26)).alloc (.cells #[.int .i64 op, .int .i64 a, .int .i64 b, .int .i64 c, .int .i64 d, .int .u32 k.toNat] 28)).alloc (.cells #[.int .i64 0, .int .u32 0, .int .u32 0, .int .u32 0, .int .u32 0, .int .u32 0, .int .u32 0, .int .u32 0, .int .u32 0, .slice none 0 0] 26)) := ((Grow.alloc w _).trans (Grow.alloc _ _)).trans (Grow.alloc _ _)
  have HF := Lib.hid hf; clear hf
  go_enter Try.func12, Try.ntmps12
  go_wp2_with fail
  generalize ((w.alloc (.cells (ctxCells at_ R (.slice A n cap)) 26)).alloc (.cells #[.int .i64 op, .int .i64 a, .int .i64 b, .int .i64 c, .int .i64 d, .int .u32 k.toNat] 28)).alloc (.cells #[.int .i64 0, .int .u32 0, .int .u32 0, .int .u32 0, .int .u32 0, .int .u32 0, .int .u32 0, .int .u32 0, .int .u32 0, .slice none 0 0] 26) = w1 at hX hO hZ hG ⊢
  refine (formRef_any op a b c d k.toNat _).mono ?_
  rw [HF.out]
  rintro e w2 ⟨rfl, hg⟩
  replace hX := hg.at hX
  replace hO := hg.at hO
  replace hZ := hg.at hZ
  replace hG := hG.trans hg
  clear hg
  have HX := Lib.hid hX
  have HINF := Lib.hid (info26c at_ R (.slice A n cap))
  go_wp2_with ((with_reducible refine wpList_load_blk rfl 26 (.tmp 2) rfl w.heap.size 26 (ctxCells at_ R (.slice A n cap)) _ ?_ HX.out Try.underlying26 ?_ HINF.out ?_); (· rfl); (· rfl))
  clear HX
  have hbr : w.heap.size + 2 < w2.heap.size := heapAt_lt hZ
  refine (copy_any _ at_ R A n cap M hn hcap (hM.grow hG)).mono ?_
  rintro e w3 ⟨A', cap', rfl, hown, hcap2, hg⟩
  have hs23 := hg.size
  replace hX := hg.at hX
  replace hO := hg.at hO
  replace hZ := hg.at hZ
  replace hG := hG.trans hg
  have hbr3 : w.heap.size + 2 < w3.heap.size := heapAt_lt hZ
  have hnew := heapAt_alloc_new w3 (.cells #[.int .i64 0, .int .u32 0, .int .u32 0, .int .u32 0, .int .u32 0, .int .u32 0, .int .u32 0, .int .u32 0, .int .u32 0, .slice none 0 0] 26)
  have hg4 := Grow.alloc w3 (.cells #[.int .i64 0, .int .u32 0, .int .u32 0, .int .u32 0, .int .u32 0, .int .u32 0, .int .u32 0, .int .u32 0, .int .u32 0, .slice none 0 0] 26)
  replace hX := hg4.at hX
  replace hO := hg4.at hO
  replace hZ := hg4.at hZ
  replace hG := hG.trans hg4
  have hown4 := hown.grow hg4
  have hlt : 0 < n → ∃ m, A' = some ⟨m, 0, none⟩ ∧ w2.heap.size ≤ m ∧ m < w3.heap.size := fun h => hown.lt h
  have hs10 : (#[.int .i64 0, .int .u32 0, .int .u32 0, .int .u32 0, .int .u32 0, .int .u32 0, .int .u32 0, .int .u32 0, .int .u32 0, .slice none 0 0] : Array Value).size = (ctxCells at_ R (.slice A' n cap')).size := by rw [ctxCells_size]; rfl
  have HN := Lib.hid hnew
  have HS := Lib.hid hs10
  have HI := Lib.hid (info26c at_ R (.slice A' n cap'))
  have HO1 := Lib.hid (ctx_one at_ R (.slice A' n cap') rfl)
  have HL := Lib.hid hlt
  clear hs10 hnew hg hg4 hown hlt
  go_wp2_with ((with_reducible refine wpList_store_blk rfl 26 (.tmp 6) (.tmp 20) rfl w3.heap.size 26 _ (ctxCells at_ R (.slice A' n cap')) ?kx ?ky HN.out HS.out HI.out HO1.out ?kk))
  case kx => rfl
  case ky => rfl
  case kk =>
  intro w4 hb4 ho4
  replace hX := ho4.at (by omega) hX
  replace hO := ho4.at (by omega) hO
  replace hZ := ho4.at (by omega) hZ
  replace hG := hG.only ho4 (by omega)
  have hS4 : St w4 w2.heap.size w3.heap.size at_ R A' n cap' M := ⟨hb4, hown4.only ho4 (fun m hm hn => by obtain ⟨m', e, _, h2⟩ := HL.out hn; rw [hm] at e; injection e with e; injection e with e; omega), by omega, fun hn e => by obtain ⟨m', e', _, h2⟩ := HL.out hn; rw [e] at e'; injection e' with e'; injection e' with e'; omega⟩
  clear HN HS HI HO1 hown4 hb4 ho4
  have c0 := hS4.1.c0
  have f0 := hS4.1.free 0
  have hS := hS4.set0 (at_ + 1)
  replace hX := (set_block_other (w := w4) (b := w3.heap.size) (by omega) 0 (.int .i64 (at_ + 1))).trans hX
  replace hO := (set_block_other (w := w4) (b := w3.heap.size) (by omega) 0 (.int .i64 (at_ + 1))).trans hO
  replace hZ := (set_block_other (w := w4) (b := w3.heap.size) (by omega) 0 (.int .i64 (at_ + 1))).trans hZ
  replace hG := hG.only ((Only.refl w3.heap.size w4).setCell 0 (.int .i64 (at_ + 1))) (by omega)
  generalize hy : w3.heap.size = y at *
  clear hy hS4
  obtain ⟨w5, hw5⟩ : ∃ w5, w5 = w4.setCell ⟨y, 0, none⟩ (.int .i64 (at_ + 1)) := ⟨_, rfl⟩
  rw [← hw5] at hS hX hO hZ hG
  have HW5 := Lib.hid hw5
  clear hw5
  have HX := Lib.hid hX
  have HO := Lib.hid hO
  have HZ := Lib.hid hZ
  have HG := Lib.hid hG
  have HSt := Lib.hid hS
  clear hX hO hZ hG hS h0 h9
  go_upto_region 5 with fail
  rw [← HW5.out]
  clear c0 f0 HW5
  have hO := HO.out
  have d0 := cell_block hO 0
  have d1 := cell_block hO 1
  have d2 := cell_block hO 2
  have d3 := cell_block hO 3
  have d4 := cell_block hO 4
  have d5 := cell_block hO 5
  simp at d0 d1 d2 d3 d4 d5
  clear hO
  have hXc : ∀ j, w5.cell? ⟨w.heap.size, j, none⟩ = (ctxCells at_ R (.slice A n cap))[j]? := fun j => cell_block HX.out j
  have xR := fun j (hj : j < 8) => (hXc (1 + j)).trans (ctx_reg at_ R (.slice A n cap) j hj)
  have xB := xR b hb
  have xC := xR c hc
  clear hXc xR
  go_upto_region 6 with fail
  go_quiet ((go_at_call 19; exact Calls.quiet_of_same (value_any op (R b) (R c) _ h3 h14)))
  have HX6 := Lib.hid ((Grow.drewN w5 nq).at HX.out)
  have HO6 := Lib.hid ((Grow.drewN w5 nq).at HO.out)
  have HZ6 := Lib.hid ((Grow.drewN w5 nq).at HZ.out)
  have HG6 := Lib.hid (HG.out.trans (Grow.drewN w5 nq))
  have HS6 := Lib.hid (HSt.out.grow (Grow.drewN w5 nq))
  generalize w5.drewN nq = w6 at HX6 HO6 HZ6 HG6 HS6 ⊢
  clear xB xC d0 d1 d2 d3 d4 d5 HX HO HZ HG HSt
  have hO := HO6.out
  have d0 := cell_block hO 0
  have d1 := cell_block hO 1
  have d2 := cell_block hO 2
  have d3 := cell_block hO 3
  have d4 := cell_block hO 4
  have d5 := cell_block hO 5
  simp at d0 d1 d2 d3 d4 d5
  clear hO
  have cA := HS6.out.1.reg a ha
  have fA := HS6.out.1.free (1 + a)
  have hS := HS6.out.setR a (valW op (R b) (R c)) ha
  have hZ := (set_block_other (w := w6) (b := y) (by omega) (1 + a) (.int .u32 (valW op (R b) (R c)).toNat)).trans HZ6.out
  have hG := HG6.out.only ((Only.refl y w6).setCell (1 + a) (.int .u32 (valW op (R b) (R c)).toNat)) (by omega)
  obtain ⟨wz, hwz⟩ : ∃ wz, wz = w6.setCell ⟨y, 1 + a, none⟩ (.int .u32 (valW op (R b) (R c)).toNat) := ⟨_, rfl⟩
  rw [← hwz] at hS hZ hG
  have HWZ := Lib.hid hwz
  clear hwz
  go_upto_region 31 with fail
  rw [← HWZ.out]
  clear cA fA HWZ d0 d1 d2 d3 d4 d5 HO6
  have HY := Lib.hid (show wz.heap[y]? = some (.cells (ctxCells (at_ + 1) (upd R a (valW op (R b) (R c))) (.slice A' n cap')) 26 (0, 0)) from hS.1)
  have HSf := Lib.hid hS
  have HZf := Lib.hid hZ
  have HGf := Lib.hid hG
  have HIf := Lib.hid (info26c (at_ + 1) (upd R a (valW op (R b) (R c))) (.slice A' n cap'))
  have HOf := Lib.hid (ctx_one (at_ + 1) (upd R a (valW op (R b) (R c))) (.slice A' n cap') rfl)
  have hs10 : (#[.int .i64 0, .int .u32 0, .int .u32 0, .int .u32 0, .int .u32 0, .int .u32 0, .int .u32 0, .int .u32 0, .int .u32 0, .slice none 0 0] : Array Value).size = (ctxCells (at_ + 1) (upd R a (valW op (R b) (R c))) (.slice A' n cap')).size := by rw [ctxCells_size]; rfl
  have HSs := Lib.hid hs10
  clear hs10 hS hZ hG
  go_wp2_with (first
    | ((with_reducible refine wpList_load_blk rfl 26 (.tmp 6) rfl y 26 (ctxCells (at_ + 1) (upd R a (valW op (R b) (R c))) (.slice A' n cap')) _ ?_ HY.out Try.underlying26 ?_ HIf.out ?_); (· rfl); (· rfl))
    | ((with_reducible refine wpList_store_blk rfl 26 (.tmp 4) (.tmp 144) rfl (w.heap.size + 2) 26 _ (ctxCells (at_ + 1) (upd R a (valW op (R b) (R c))) (.slice A' n cap')) ?_ ?_ HZf.out HSs.out HIf.out HOf.out ?_); (· rfl); (· rfl); intro wf hbf hof))
  refine bodyPost_ret (v := .tuple #[.agg (ctxCells (at_ + 1) (upd R a (valW op (R b) (R c))) (.slice A' n cap')), .int .i64 0]) ?hres rfl ⟨A', cap', rfl, ?_, hcap2, HGf.out.only hof (by omega)⟩
  case hres =>
    refine results_cell_tmp (p := 4) (t := 5) (ty := 26) ?_ _ _ wf (w.heap.size + 2) _ ?_ ?_
    · rfl
    · rfl
    · exact run_loadVar_row wf (w.heap.size + 2) _ _ _ (0, 0) _ hbf Try.underlying26 rfl HIf.out
  exact (HSf.out.2.1.only hof (fun m hm hn => by obtain ⟨m', e, h1, _⟩ := HL.out hn; rw [hm] at e; injection e with e; injection e with e; omega)).loc (by omega)

end Go.Proofs.Ytkjacmnocbdghaa
