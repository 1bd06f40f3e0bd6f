/- The walk of the reference's Do. -/
import Derived.Test.YtkjacmnocbdghaaDoAll
import Derived.Deep.DeepCutAuto
namespace Go.Proofs.Ytkjacmnocbdghaa
open Go.RowKit
set_option linter.unusedVariables false
attribute [local irreducible] hasA hasB hasC hasD hasK bitsOf regP hasStr letter formP bad4 bad6 bad8 bad10 ctxCells regArr valW valE words upd

theorem results_cell_tmp {fn : Func} {p t : Tmp} {ty : TypeId} (h : fn.results = #[.cell p ty, .tmp t]) (tmps : Array Value) (P : Program) (w : World) (g : Nat) (cs : Array Value)
    (hp : tmps.getD p undef = .pointer (some ⟨g, 0, none⟩)) (hl : (loadVar ty ⟨g, 0, none⟩).run P w = .ok (.agg cs) w) :
    (results fn tmps).run P w = .ok (.tuple #[.agg cs, tmps.getD t undef]) w := by
  have hp' : tmps[p]?.getD undef = .pointer (some ⟨g, 0, none⟩) := by simpa using hp
  simp [results, h, hp', asAddr, hl]

/-- Where a memory lies: it is the other one, or new. -/
def MemLoc (w : World) (A : Option Addr) (w' : World) (A' : Option Addr) (n : Nat) (M : Nat → BitVec 32) : Prop := MemAt w' A' n M ∧ (0 < n → A' = A ∨ ∃ g, A' = some ⟨g, 0, none⟩ ∧ w.heap.size ≤ g)
theorem MemOwn.loc {w w' : World} {B n : Nat} {A A' : Option Addr} {M : Nat → BitVec 32} (h : MemOwn w' B A' n M) (hB : w.heap.size ≤ B) : MemLoc w A w' A' n M :=
  ⟨h.at, fun hn => by
    obtain ⟨g, h1, h2, _⟩ := h hn
    exact .inr ⟨g, h1, Nat.le_trans hB h2⟩⟩
theorem MemOwn.lt {w : World} {B n : Nat} {A : Option Addr} {M : Nat → BitVec 32} (h : MemOwn w B A n M) (hn : 0 < n) : ∃ m, A = some ⟨m, 0, none⟩ ∧ B ≤ m ∧ m < w.heap.size := by
  obtain ⟨m, hA, hB, hc, _⟩ := h hn
  exact ⟨m, hA, hB, cell_lt (hc 0 hn)⟩

set_option maxHeartbeats 1000000 in
set_option maxRecDepth 100000 in
theorem ref_set (w : World) (n cap : Nat) (at_ : Int) (R M : Nat → BitVec 32) (A : Option Addr) (a b c : Nat) (d : Int) (k : BitVec 32) (hn : (n : Int) ≤ 300) (hcap : (n : Int) ≤ cap) (hf : formP 1 a b c d k.toNat = 0) (hat0 : 0 ≤ at_) (hat1 : at_ ≤ 2000000000000) (ha : a < 8) (hb : b < 8) (hc : c < 8) (hM : MemAt w A n M) :
    Calls Try.prog 12 #[.agg (ctxCells at_ R (.slice A n cap)), .agg #[.int .i64 1, .int .i64 a, .int .i64 b, .int .i64 c, .int .i64 d, .int .u32 k.toNat]] w fun e w' => ∃ A' cap', e = .returned (.tuple #[.agg (ctxCells (at_ + 1) (upd R a k) (.slice A' n cap')), .int .i64 0]) ∧ MemLoc w A w' A' n M ∧ (n : Int) ≤ cap' ∧ Grow w w' := by
  have hai : (a : Int) < 8 := by omega
  have hbi : (b : Int) < 8 := by omega
  have hci : (c : Int) < 8 := by omega
  have h0 := ctx_0 at_ R (.slice A n cap)
  have h9 := ctx_9 at_ R (.slice A n cap)
  have hX : (((w.alloc (.cells (ctxCells at_ R (.slice A n cap)) 26)).alloc (.cells #[.int .i64 1, .int .i64 a, .int .i64 b, .int .i64 c, .int .i64 d, .int .u32 k.toNat] 28)).alloc (.cells #[.int .i64 0, .int .u32 0, .int .u32 0, .int .u32 0, .int .u32 0, .int .u32 0, .int .u32 0, .int .u32 0, .int .u32 0, .slice none 0 0] 26)).heap[w.heap.size]? = some (.cells (ctxCells at_ R (.slice A n cap)) 26) := (heapAt_alloc_old _ _ (by simp; omega)).trans ((heapAt_alloc_old _ _ (by simp)).trans (heapAt_alloc_new w _))
  have hO : (((w.alloc (.cells (ctxCells at_ R (.slice A n cap)) 26)).alloc (.cells #[.int .i64 1, .int .i64 a, .int .i64 b, .int .i64 c, .int .i64 d, .int .u32 k.toNat] 28)).alloc (.cells #[.int .i64 0, .int .u32 0, .int .u32 0, .int .u32 0, .int .u32 0, .int .u32 0, .int .u32 0, .int .u32 0, .int .u32 0, .slice none 0 0] 26)).heap[w.heap.size + 1]? = some (.cells #[.int .i64 1, .int .i64 a, .int .i64 b, .int .i64 c, .int .i64 d, .int .u32 k.toNat] 28) := (heapAt_alloc_old _ _ (by simp)).trans (heap_alloc2_new w _ _)
  have hZ : (((w.alloc (.cells (ctxCells at_ R (.slice A n cap)) 26)).alloc (.cells #[.int .i64 1, .int .i64 a, .int .i64 b, .int .i64 c, .int .i64 d, .int .u32 k.toNat] 28)).alloc (.cells #[.int .i64 0, .int .u32 0, .int .u32 0, .int .u32 0, .int .u32 0, .int .u32 0, .int .u32 0, .int .u32 0, .int .u32 0, .slice none 0 0] 26)).heap[w.heap.size + 2]? = some (.cells #[.int .i64 0, .int .u32 0, .int .u32 0, .int .u32 0, .int .u32 0, .int .u32 0, .int .u32 0, .int .u32 0, .int .u32 0, .slice none 0 0] 26) := by
    have := heapAt_alloc_new ((w.alloc (.cells (ctxCells at_ R (.slice A n cap)) 26)).alloc (.cells #[.int .i64 1, .int .i64 a, .int .i64 b, .int .i64 c, .int .i64 d, .int .u32 k.toNat] 28)) (.cells #[.int .i64 0, .int .u32 0, .int .u32 0, .int .u32 0, .int .u32 0, .int .u32 0, .int .u32 0, .int .u32 0, .int .u32 0, .slice none 0 0] 26)
    simpa using this
  have hG : Grow w (((w.alloc (.cells (ctxCells at_ R (.slice A n cap)) 26)).alloc (.cells #[.int .i64 1, .int .i64 a, .int .i64 b, .int .i64 c, .int .i64 d, .int .u32 k.toNat] 28)).alloc (.cells #[.int .i64 0, .int .u32 0, .int .u32 0, .int .u32 0, .int .u32 0, .int .u32 0, .int .u32 0, .int .u32 0, .int .u32 0, .slice none 0 0] 26)) := ((Grow.alloc w _).trans (Grow.alloc _ _)).trans (Grow.alloc _ _)
  have HF := Lib.hid hf; clear hf
  go_enter Try.func12, Try.ntmps12
  go_wp2_with fail
  generalize ((w.alloc (.cells (ctxCells at_ R (.slice A n cap)) 26)).alloc (.cells #[.int .i64 1, .int .i64 a, .int .i64 b, .int .i64 c, .int .i64 d, .int .u32 k.toNat] 28)).alloc (.cells #[.int .i64 0, .int .u32 0, .int .u32 0, .int .u32 0, .int .u32 0, .int .u32 0, .int .u32 0, .int .u32 0, .int .u32 0, .slice none 0 0] 26) = w1 at hX hO hZ hG ⊢
  refine (formRef_any 1 a b c d k.toNat _).mono ?_
  rw [HF.out]
  rintro e w2 ⟨rfl, hg⟩
  replace hX := hg.at hX
  replace hO := hg.at hO
  replace hZ := hg.at hZ
  replace hG := hG.trans hg
  clear hg
  have HX := Lib.hid hX
  have HINF := Lib.hid (info26c at_ R (.slice A n cap))
  go_wp2_with ((with_reducible refine wpList_load_blk rfl 26 (.tmp 2) rfl w.heap.size 26 (ctxCells at_ R (.slice A n cap)) _ ?_ HX.out Try.underlying26 ?_ HINF.out ?_); (· rfl); (· rfl))
  clear HX
  have hbr : w.heap.size + 2 < w2.heap.size := heapAt_lt hZ
  refine (copy_any _ at_ R A n cap M hn hcap (hM.grow hG)).mono ?_
  rintro e w3 ⟨A', cap', rfl, hown, hcap2, hg⟩
  have hs23 := hg.size
  replace hX := hg.at hX
  replace hO := hg.at hO
  replace hZ := hg.at hZ
  replace hG := hG.trans hg
  have hbr3 : w.heap.size + 2 < w3.heap.size := heapAt_lt hZ
  have hnew := heapAt_alloc_new w3 (.cells #[.int .i64 0, .int .u32 0, .int .u32 0, .int .u32 0, .int .u32 0, .int .u32 0, .int .u32 0, .int .u32 0, .int .u32 0, .slice none 0 0] 26)
  have hg4 := Grow.alloc w3 (.cells #[.int .i64 0, .int .u32 0, .int .u32 0, .int .u32 0, .int .u32 0, .int .u32 0, .int .u32 0, .int .u32 0, .int .u32 0, .slice none 0 0] 26)
  replace hX := hg4.at hX
  replace hO := hg4.at hO
  replace hZ := hg4.at hZ
  replace hG := hG.trans hg4
  have hown4 := hown.grow hg4
  have hlt : 0 < n → ∃ m, A' = some ⟨m, 0, none⟩ ∧ w2.heap.size ≤ m ∧ m < w3.heap.size := fun h => hown.lt h
  have hs10 : (#[.int .i64 0, .int .u32 0, .int .u32 0, .int .u32 0, .int .u32 0, .int .u32 0, .int .u32 0, .int .u32 0, .int .u32 0, .slice none 0 0] : Array Value).size = (ctxCells at_ R (.slice A' n cap')).size := by rw [ctxCells_size]; rfl
  have HN := Lib.hid hnew
  have HS := Lib.hid hs10
  have HI := Lib.hid (info26c at_ R (.slice A' n cap'))
  have HO1 := Lib.hid (ctx_one at_ R (.slice A' n cap') rfl)
  have HL := Lib.hid hlt
  clear hs10 hnew hg hg4 hown hlt
  go_wp2_with ((with_reducible refine wpList_store_blk rfl 26 (.tmp 6) (.tmp 20) rfl w3.heap.size 26 _ (ctxCells at_ R (.slice A' n cap')) ?kx ?ky HN.out HS.out HI.out HO1.out ?kk))
  case kx => rfl
  case ky => rfl
  case kk =>
  intro w4 hb4 ho4
  replace hX := ho4.at (by omega) hX
  replace hO := ho4.at (by omega) hO
  replace hZ := ho4.at (by omega) hZ
  replace hG := hG.only ho4 (by omega)
  have hS4 : St w4 w2.heap.size w3.heap.size at_ R A' n cap' M := ⟨hb4, hown4.only ho4 (fun m hm hn => by obtain ⟨m', e, _, h2⟩ := HL.out hn; rw [hm] at e; injection e with e; injection e with e; omega), by omega, fun hn e => by obtain ⟨m', e', _, h2⟩ := HL.out hn; rw [e] at e'; injection e' with e'; injection e' with e'; omega⟩
  clear HN HS HI HO1 hown4 hb4 ho4
  have c0 := hS4.1.c0
  have f0 := hS4.1.free 0
  have hS := hS4.set0 (at_ + 1)
  replace hX := (set_block_other (w := w4) (b := w3.heap.size) (by omega) 0 (.int .i64 (at_ + 1))).trans hX
  replace hO := (set_block_other (w := w4) (b := w3.heap.size) (by omega) 0 (.int .i64 (at_ + 1))).trans hO
  replace hZ := (set_block_other (w := w4) (b := w3.heap.size) (by omega) 0 (.int .i64 (at_ + 1))).trans hZ
  replace hG := hG.only ((Only.refl w3.heap.size w4).setCell 0 (.int .i64 (at_ + 1))) (by omega)
  generalize hy : w3.heap.size = y at *
  clear hy hS4
  obtain ⟨w5, hw5⟩ : ∃ w5, w5 = w4.setCell ⟨y, 0, none⟩ (.int .i64 (at_ + 1)) := ⟨_, rfl⟩
  rw [← hw5] at hS hX hO hZ hG
  have HW5 := Lib.hid hw5
  clear hw5
  have HX := Lib.hid hX
  have HO := Lib.hid hO
  have HZ := Lib.hid hZ
  have HG := Lib.hid hG
  have HSt := Lib.hid hS
  clear hX hO hZ hG hS h0 h9
  go_upto_region 5 with fail
  rw [← HW5.out]
  clear c0 f0 HW5
  have hO := HO.out
  have d0 := cell_block hO 0
  have d1 := cell_block hO 1
  have d2 := cell_block hO 2
  have d3 := cell_block hO 3
  have d4 := cell_block hO 4
  have d5 := cell_block hO 5
  simp at d0 d1 d2 d3 d4 d5
  clear hO
  have cA := HSt.out.1.reg a ha
  have fA := HSt.out.1.free (1 + a)
  have hS := HSt.out.setR a k ha
  have hZ := (set_block_other (w := w5) (b := y) (by omega) (1 + a) (.int .u32 k.toNat)).trans HZ.out
  have hG := HG.out.only ((Only.refl y w5).setCell (1 + a) (.int .u32 k.toNat)) (by omega)
  obtain ⟨wz, hwz⟩ : ∃ wz, wz = w5.setCell ⟨y, 1 + a, none⟩ (.int .u32 k.toNat) := ⟨_, rfl⟩
  rw [← hwz] at hS hZ hG
  have HWZ := Lib.hid hwz
  clear hwz
  go_upto_region 31 with fail
  rw [← HWZ.out]
  clear cA fA HWZ d0 d1 d2 d3 d4 d5
  have HY := Lib.hid (show wz.heap[y]? = some (.cells (ctxCells (at_ + 1) (upd R a k) (.slice A' n cap')) 26 (0, 0)) from hS.1)
  have HSf := Lib.hid hS
  have HZf := Lib.hid hZ
  have HGf := Lib.hid hG
  have HIf := Lib.hid (info26c (at_ + 1) (upd R a k) (.slice A' n cap'))
  have HOf := Lib.hid (ctx_one (at_ + 1) (upd R a k) (.slice A' n cap') rfl)
  have hs10 : (#[.int .i64 0, .int .u32 0, .int .u32 0, .int .u32 0, .int .u32 0, .int .u32 0, .int .u32 0, .int .u32 0, .int .u32 0, .slice none 0 0] : Array Value).size = (ctxCells (at_ + 1) (upd R a k) (.slice A' n cap')).size := by rw [ctxCells_size]; rfl
  have HSs := Lib.hid hs10
  clear hs10 hS hZ hG
  go_wp2_with (first
    | ((with_reducible refine wpList_load_blk rfl 26 (.tmp 6) rfl y 26 (ctxCells (at_ + 1) (upd R a k) (.slice A' n cap')) _ ?_ HY.out Try.underlying26 ?_ HIf.out ?_); (· rfl); (· rfl))
    | ((with_reducible refine wpList_store_blk rfl 26 (.tmp 4) (.tmp 144) rfl (w.heap.size + 2) 26 _ (ctxCells (at_ + 1) (upd R a k) (.slice A' n cap')) ?_ ?_ HZf.out HSs.out HIf.out HOf.out ?_); (· rfl); (· rfl); intro wf hbf hof))
  refine bodyPost_ret (v := .tuple #[.agg (ctxCells (at_ + 1) (upd R a k) (.slice A' n cap')), .int .i64 0]) ?hres rfl ⟨A', cap', rfl, ?_, hcap2, HGf.out.only hof (by omega)⟩
  case hres =>
    refine results_cell_tmp (p := 4) (t := 5) (ty := 26) ?_ _ _ wf (w.heap.size + 2) _ ?_ ?_
    · rfl
    · rfl
    · exact run_loadVar_row wf (w.heap.size + 2) _ _ _ (0, 0) _ hbf Try.underlying26 rfl HIf.out
  exact (HSf.out.2.1.only hof (fun m hm hn => by obtain ⟨m', e, h1, _⟩ := HL.out hn; rw [hm] at e; injection e with e; injection e with e; omega)).loc (by omega)

set_option maxHeartbeats 1000000 in
set_option maxRecDepth 100000 in
theorem ref_mov (w : World) (n cap : Nat) (at_ : Int) (R M : Nat → BitVec 32) (A : Option Addr) (a b c : Nat) (d : Int) (k : BitVec 32) (hn : (n : Int) ≤ 300) (hcap : (n : Int) ≤ cap) (hf : formP 2 a b c d k.toNat = 0) (hat0 : 0 ≤ at_) (hat1 : at_ ≤ 2000000000000) (ha : a < 8) (hb : b < 8) (hc : c < 8) (hM : MemAt w A n M) :
    Calls Try.prog 12 #[.agg (ctxCells at_ R (.slice A n cap)), .agg #[.int .i64 2, .int .i64 a, .int .i64 b, .int .i64 c, .int .i64 d, .int .u32 k.toNat]] w fun e w' => ∃ A' cap', e = .returned (.tuple #[.agg (ctxCells (at_ + 1) (upd R a (R b)) (.slice A' n cap')), .int .i64 0]) ∧ MemLoc w A w' A' n M ∧ (n : Int) ≤ cap' ∧ Grow w w' := by
  have hai : (a : Int) < 8 := by omega
  have hbi : (b : Int) < 8 := by omega
  have hci : (c : Int) < 8 := by omega
  have h0 := ctx_0 at_ R (.slice A n cap)
  have h9 := ctx_9 at_ R (.slice A n cap)
  have hX : (((w.alloc (.cells (ctxCells at_ R (.slice A n cap)) 26)).alloc (.cells #[.int .i64 2, .int .i64 a, .int .i64 b, .int .i64 c, .int .i64 d, .int .u32 k.toNat] 28)).alloc (.cells #[.int .i64 0, .int .u32 0, .int .u32 0, .int .u32 0, .int .u32 0, .int .u32 0, .int .u32 0, .int .u32 0, .int .u32 0, .slice none 0 0] 26)).heap[w.heap.size]? = some (.cells (ctxCells at_ R (.slice A n cap)) 26) := (heapAt_alloc_old _ _ (by simp; omega)).trans ((heapAt_alloc_old _ _ (by simp)).trans (heapAt_alloc_new w _))
  have hO : (((w.alloc (.cells (ctxCells at_ R (.slice A n cap)) 26)).alloc (.cells #[.int .i64 2, .int .i64 a, .int .i64 b, .int .i64 c, .int .i64 d, .int .u32 k.toNat] 28)).alloc (.cells #[.int .i64 0, .int .u32 0, .int .u32 0, .int .u32 0, .int .u32 0, .int .u32 0, .int .u32 0, .int .u32 0, .int .u32 0, .slice none 0 0] 26)).heap[w.heap.size + 1]? = some (.cells #[.int .i64 2, .int .i64 a, .int .i64 b, .int .i64 c, .int .i64 d, .int .u32 k.toNat] 28) := (heapAt_alloc_old _ _ (by simp)).trans (heap_alloc2_new w _ _)
  have hZ : (((w.alloc (.cells (ctxCells at_ R (.slice A n cap)) 26)).alloc (.cells #[.int .i64 2, .int .i64 a, .int .i64 b, .int .i64 c, .int .i64 d, .int .u32 k.toNat] 28)).alloc (.cells #[.int .i64 0, .int .u32 0, .int .u32 0, .int .u32 0, .int .u32 0, .int .u32 0, .int .u32 0, .int .u32 0, .int .u32 0, .slice none 0 0] 26)).heap[w.heap.size + 2]? = some (.cells #[.int .i64 0, .int .u32 0, .int .u32 0, .int .u32 0, .int .u32 0, .int .u32 0, .int .u32 0, .int .u32 0, .int .u32 0, .slice none 0 0] 26) := by
    have := heapAt_alloc_new ((w.alloc (.cells (ctxCells at_ R (.slice A n cap)) 26)).alloc (.cells #[.int .i64 2, .int .i64 a, .int .i64 b, .int .i64 c, .int .i64 d, .int .u32 k.toNat] 28)) (.cells #[.int .i64 0, .int .u32 0, .int .u32 0, .int .u32 0, .int .u32 0, .int .u32 0, .int .u32 0, .int .u32 0, .int .u32 0, .slice none 0 0] 26)
    simpa using this
  have hG : Grow w (((w.alloc (.cells (ctxCells at_ R (.slice A n cap)) 26)).alloc (.cells #[.int .i64 2, .int .i64 a, .int .i64 b, .int .i64 c, .int .i64 d, .int .u32 k.toNat] 28)).alloc (.cells #[.int .i64 0, .int .u32 0, .int .u32 0, .int .u32 0, .int .u32 0, .int .u32 0, .int .u32 0, .int .u32 0, .int .u32 0, .slice none 0 0] 26)) := ((Grow.alloc w _).trans (Grow.alloc _ _)).trans (Grow.alloc _ _)
  have HF := Lib.hid hf; clear hf
  go_enter Try.func12, Try.ntmps12
  go_wp2_with fail
  generalize ((w.alloc (.cells (ctxCells at_ R (.slice A n cap)) 26)).alloc (.cells #[.int .i64 2, .int .i64 a, .int .i64 b, .int .i64 c, .int .i64 d, .int .u32 k.toNat] 28)).alloc (.cells #[.int .i64 0, .int .u32 0, .int .u32 0, .int .u32 0, .int .u32 0, .int .u32 0, .int .u32 0, .int .u32 0, .int .u32 0, .slice none 0 0] 26) = w1 at hX hO hZ hG ⊢
  refine (formRef_any 2 a b c d k.toNat _).mono ?_
  rw [HF.out]
  rintro e w2 ⟨rfl, hg⟩
  replace hX := hg.at hX
  replace hO := hg.at hO
  replace hZ := hg.at hZ
  replace hG := hG.trans hg
  clear hg
  have HX := Lib.hid hX
  have HINF := Lib.hid (info26c at_ R (.slice A n cap))
  go_wp2_with ((with_reducible refine wpList_load_blk rfl 26 (.tmp 2) rfl w.heap.size 26 (ctxCells at_ R (.slice A n cap)) _ ?_ HX.out Try.underlying26 ?_ HINF.out ?_); (· rfl); (· rfl))
  clear HX
  have hbr : w.heap.size + 2 < w2.heap.size := heapAt_lt hZ
  refine (copy_any _ at_ R A n cap M hn hcap (hM.grow hG)).mono ?_
  rintro e w3 ⟨A', cap', rfl, hown, hcap2, hg⟩
  have hs23 := hg.size
  replace hX := hg.at hX
  replace hO := hg.at hO
  replace hZ := hg.at hZ
  replace hG := hG.trans hg
  have hbr3 : w.heap.size + 2 < w3.heap.size := heapAt_lt hZ
  have hnew := heapAt_alloc_new w3 (.cells #[.int .i64 0, .int .u32 0, .int .u32 0, .int .u32 0, .int .u32 0, .int .u32 0, .int .u32 0, .int .u32 0, .int .u32 0, .slice none 0 0] 26)
  have hg4 := Grow.alloc w3 (.cells #[.int .i64 0, .int .u32 0, .int .u32 0, .int .u32 0, .int .u32 0, .int .u32 0, .int .u32 0, .int .u32 0, .int .u32 0, .slice none 0 0] 26)
  replace hX := hg4.at hX
  replace hO := hg4.at hO
  replace hZ := hg4.at hZ
  replace hG := hG.trans hg4
  have hown4 := hown.grow hg4
  have hlt : 0 < n → ∃ m, A' = some ⟨m, 0, none⟩ ∧ w2.heap.size ≤ m ∧ m < w3.heap.size := fun h => hown.lt h
  have hs10 : (#[.int .i64 0, .int .u32 0, .int .u32 0, .int .u32 0, .int .u32 0, .int .u32 0, .int .u32 0, .int .u32 0, .int .u32 0, .slice none 0 0] : Array Value).size = (ctxCells at_ R (.slice A' n cap')).size := by rw [ctxCells_size]; rfl
  have HN := Lib.hid hnew
  have HS := Lib.hid hs10
  have HI := Lib.hid (info26c at_ R (.slice A' n cap'))
  have HO1 := Lib.hid (ctx_one at_ R (.slice A' n cap') rfl)
  have HL := Lib.hid hlt
  clear hs10 hnew hg hg4 hown hlt
  go_wp2_with ((with_reducible refine wpList_store_blk rfl 26 (.tmp 6) (.tmp 20) rfl w3.heap.size 26 _ (ctxCells at_ R (.slice A' n cap')) ?kx ?ky HN.out HS.out HI.out HO1.out ?kk))
  case kx => rfl
  case ky => rfl
  case kk =>
  intro w4 hb4 ho4
  replace hX := ho4.at (by omega) hX
  replace hO := ho4.at (by omega) hO
  replace hZ := ho4.at (by omega) hZ
  replace hG := hG.only ho4 (by omega)
  have hS4 : St w4 w2.heap.size w3.heap.size at_ R A' n cap' M := ⟨hb4, hown4.only ho4 (fun m hm hn => by obtain ⟨m', e, _, h2⟩ := HL.out hn; rw [hm] at e; injection e with e; injection e with e; omega), by omega, fun hn e => by obtain ⟨m', e', _, h2⟩ := HL.out hn; rw [e] at e'; injection e' with e'; injection e' with e'; omega⟩
  clear HN HS HI HO1 hown4 hb4 ho4
  have c0 := hS4.1.c0
  have f0 := hS4.1.free 0
  have hS := hS4.set0 (at_ + 1)
  replace hX := (set_block_other (w := w4) (b := w3.heap.size) (by omega) 0 (.int .i64 (at_ + 1))).trans hX
  replace hO := (set_block_other (w := w4) (b := w3.heap.size) (by omega) 0 (.int .i64 (at_ + 1))).trans hO
  replace hZ := (set_block_other (w := w4) (b := w3.heap.size) (by omega) 0 (.int .i64 (at_ + 1))).trans hZ
  replace hG := hG.only ((Only.refl w3.heap.size w4).setCell 0 (.int .i64 (at_ + 1))) (by omega)
  generalize hy : w3.heap.size = y at *
  clear hy hS4
  obtain ⟨w5, hw5⟩ : ∃ w5, w5 = w4.setCell ⟨y, 0, none⟩ (.int .i64 (at_ + 1)) := ⟨_, rfl⟩
  rw [← hw5] at hS hX hO hZ hG
  have HW5 := Lib.hid hw5
  clear hw5
  have HX := Lib.hid hX
  have HO := Lib.hid hO
  have HZ := Lib.hid hZ
  have HG := Lib.hid hG
  have HSt := Lib.hid hS
  clear hX hO hZ hG hS h0 h9
  go_upto_region 5 with fail
  rw [← HW5.out]
  clear c0 f0 HW5
  have hO := HO.out
  have d0 := cell_block hO 0
  have d1 := cell_block hO 1
  have d2 := cell_block hO 2
  have d3 := cell_block hO 3
  have d4 := cell_block hO 4
  have d5 := cell_block hO 5
  simp at d0 d1 d2 d3 d4 d5
  clear hO
  have hXc : ∀ j, w5.cell? ⟨w.heap.size, j, none⟩ = (ctxCells at_ R (.slice A n cap))[j]? := fun j => cell_block HX.out j
  have xR := fun j (hj : j < 8) => (hXc (1 + j)).trans (ctx_reg at_ R (.slice A n cap) j hj)
  have xB := xR b hb
  have cA := HSt.out.1.reg a ha
  have fA := HSt.out.1.free (1 + a)
  clear hXc xR
  go_wp2_with fail
  go_still_tail 9, (by kernel_rfl)
  change wpList _ _ _ _ _ w5.drew
  have HX6 := Lib.hid ((Grow.drewN w5 1).at HX.out)
  have HZ6 := Lib.hid ((Grow.drewN w5 1).at HZ.out)
  have HG6 := Lib.hid (HG.out.trans (Grow.drewN w5 1))
  have HS6 := Lib.hid (HSt.out.grow (Grow.drewN w5 1))
  change Hid (w5.drew.heap[_]? = _) at HX6
  change Hid (w5.drew.heap[_]? = _) at HZ6
  change Hid (Grow w w5.drew) at HG6
  change Hid (St w5.drew _ _ _ _ _ _ _ _) at HS6
  generalize w5.drew = w6 at HX6 HZ6 HG6 HS6 ⊢
  clear d0 d1 d2 d3 d4 d5 xB cA fA HX HO HZ HG HSt
  have cA := HS6.out.1.reg a ha
  have fA := HS6.out.1.free (1 + a)
  have hS := HS6.out.setR a (R b) ha
  have hZ := (set_block_other (w := w6) (b := y) (by omega) (1 + a) (.int .u32 (R b).toNat)).trans HZ6.out
  have hG := HG6.out.only ((Only.refl y w6).setCell (1 + a) (.int .u32 (R b).toNat)) (by omega)
  obtain ⟨wz, hwz⟩ : ∃ wz, wz = w6.setCell ⟨y, 1 + a, none⟩ (.int .u32 (R b).toNat) := ⟨_, rfl⟩
  rw [← hwz] at hS hZ hG
  have HWZ := Lib.hid hwz
  clear hwz
  go_upto_region 31 with fail
  rw [← HWZ.out]
  clear cA fA HWZ 
  have HY := Lib.hid (show wz.heap[y]? = some (.cells (ctxCells (at_ + 1) (upd R a (R b)) (.slice A' n cap')) 26 (0, 0)) from hS.1)
  have HSf := Lib.hid hS
  have HZf := Lib.hid hZ
  have HGf := Lib.hid hG
  have HIf := Lib.hid (info26c (at_ + 1) (upd R a (R b)) (.slice A' n cap'))
  have HOf := Lib.hid (ctx_one (at_ + 1) (upd R a (R b)) (.slice A' n cap') rfl)
  have hs10 : (#[.int .i64 0, .int .u32 0, .int .u32 0, .int .u32 0, .int .u32 0, .int .u32 0, .int .u32 0, .int .u32 0, .int .u32 0, .slice none 0 0] : Array Value).size = (ctxCells (at_ + 1) (upd R a (R b)) (.slice A' n cap')).size := by rw [ctxCells_size]; rfl
  have HSs := Lib.hid hs10
  clear hs10 hS hZ hG
  go_wp2_with (first
    | ((with_reducible refine wpList_load_blk rfl 26 (.tmp 6) rfl y 26 (ctxCells (at_ + 1) (upd R a (R b)) (.slice A' n cap')) _ ?_ HY.out Try.underlying26 ?_ HIf.out ?_); (· rfl); (· rfl))
    | ((with_reducible refine wpList_store_blk rfl 26 (.tmp 4) (.tmp 144) rfl (w.heap.size + 2) 26 _ (ctxCells (at_ + 1) (upd R a (R b)) (.slice A' n cap')) ?_ ?_ HZf.out HSs.out HIf.out HOf.out ?_); (· rfl); (· rfl); intro wf hbf hof))
  refine bodyPost_ret (v := .tuple #[.agg (ctxCells (at_ + 1) (upd R a (R b)) (.slice A' n cap')), .int .i64 0]) ?hres rfl ⟨A', cap', rfl, ?_, hcap2, HGf.out.only hof (by omega)⟩
  case hres =>
    refine results_cell_tmp (p := 4) (t := 5) (ty := 26) ?_ _ _ wf (w.heap.size + 2) _ ?_ ?_
    · rfl
    · rfl
    · exact run_loadVar_row wf (w.heap.size + 2) _ _ _ (0, 0) _ hbf Try.underlying26 rfl HIf.out
  exact (HSf.out.2.1.only hof (fun m hm hn => by obtain ⟨m', e, h1, _⟩ := HL.out hn; rw [hm] at e; injection e with e; injection e with e; omega)).loc (by omega)

set_option maxHeartbeats 1000000 in
set_option maxRecDepth 100000 in
theorem ref_jmp (w : World) (n cap : Nat) (at_ : Int) (R M : Nat → BitVec 32) (A : Option Addr) (a b c : Nat) (d : Int) (k : BitVec 32) (hn : (n : Int) ≤ 300) (hcap : (n : Int) ≤ cap) (hf : formP 17 a b c d k.toNat = 0) (hat0 : 0 ≤ at_) (hat1 : at_ ≤ 2000000000000) (ha : a < 8) (hb : b < 8) (hc : c < 8) (hM : MemAt w A n M) :
    Calls Try.prog 12 #[.agg (ctxCells at_ R (.slice A n cap)), .agg #[.int .i64 17, .int .i64 a, .int .i64 b, .int .i64 c, .int .i64 d, .int .u32 k.toNat]] w fun e w' => ∃ A' cap', e = .returned (.tuple #[.agg (ctxCells (k.toNat) (R) (.slice A' n cap')), .int .i64 0]) ∧ MemLoc w A w' A' n M ∧ (n : Int) ≤ cap' ∧ Grow w w' := by
  have hai : (a : Int) < 8 := by omega
  have hbi : (b : Int) < 8 := by omega
  have hci : (c : Int) < 8 := by omega
  have h0 := ctx_0 at_ R (.slice A n cap)
  have h9 := ctx_9 at_ R (.slice A n cap)
  have hX : (((w.alloc (.cells (ctxCells at_ R (.slice A n cap)) 26)).alloc (.cells #[.int .i64 17, .int .i64 a, .int .i64 b, .int .i64 c, .int .i64 d, .int .u32 k.toNat] 28)).alloc (.cells #[.int .i64 0, .int .u32 0, .int .u32 0, .int .u32 0, .int .u32 0, .int .u32 0, .int .u32 0, .int .u32 0, .int .u32 0, .slice none 0 0] 26)).heap[w.heap.size]? = some (.cells (ctxCells at_ R (.slice A n cap)) 26) := (heapAt_alloc_old _ _ (by simp; omega)).trans ((heapAt_alloc_old _ _ (by simp)).trans (heapAt_alloc_new w _))
  have hO : (((w.alloc (.cells (ctxCells at_ R (.slice A n cap)) 26)).alloc (.cells #[.int .i64 17, .int .i64 a, .int .i64 b, .int .i64 c, .int .i64 d, .int .u32 k.toNat] 28)).alloc (.cells #[.int .i64 0, .int .u32 0, .int .u32 0, .int .u32 0, .int .u32 0, .int .u32 0, .int .u32 0, .int .u32 0, .int .u32 0, .slice none 0 0] 26)).heap[w.heap.size + 1]? = some (.cells #[.int .i64 17, .int .i64 a, .int .i64 b, .int .i64 c, .int .i64 d, .int .u32 k.toNat] 28) := (heapAt_alloc_old _ _ (by simp)).trans (heap_alloc2_new w _ _)
  have hZ : (((w.alloc (.cells (ctxCells at_ R (.slice A n cap)) 26)).alloc (.cells #[.int .i64 17, .int .i64 a, .int .i64 b, .int .i64 c, .int .i64 d, .int .u32 k.toNat] 28)).alloc (.cells #[.int .i64 0, .int .u32 0, .int .u32 0, .int .u32 0, .int .u32 0, .int .u32 0, .int .u32 0, .int .u32 0, .int .u32 0, .slice none 0 0] 26)).heap[w.heap.size + 2]? = some (.cells #[.int .i64 0, .int .u32 0, .int .u32 0, .int .u32 0, .int .u32 0, .int .u32 0, .int .u32 0, .int .u32 0, .int .u32 0, .slice none 0 0] 26) := by
    have := heapAt_alloc_new ((w.alloc (.cells (ctxCells at_ R (.slice A n cap)) 26)).alloc (.cells #[.int .i64 17, .int .i64 a, .int .i64 b, .int .i64 c, .int .i64 d, .int .u32 k.toNat] 28)) (.cells #[.int .i64 0, .int .u32 0, .int .u32 0, .int .u32 0, .int .u32 0, .int .u32 0, .int .u32 0, .int .u32 0, .int .u32 0, .slice none 0 0] 26)
    simpa using this
  have hG : Grow w (((w.alloc (.cells (ctxCells at_ R (.slice A n cap)) 26)).alloc (.cells #[.int .i64 17, .int .i64 a, .int .i64 b, .int .i64 c, .int .i64 d, .int .u32 k.toNat] 28)).alloc (.cells #[.int .i64 0, .int .u32 0, .int .u32 0, .int .u32 0, .int .u32 0, .int .u32 0, .int .u32 0, .int .u32 0, .int .u32 0, .slice none 0 0] 26)) := ((Grow.alloc w _).trans (Grow.alloc _ _)).trans (Grow.alloc _ _)
  have HF := Lib.hid hf; clear hf
  go_enter Try.func12, Try.ntmps12
  go_wp2_with fail
  generalize ((w.alloc (.cells (ctxCells at_ R (.slice A n cap)) 26)).alloc (.cells #[.int .i64 17, .int .i64 a, .int .i64 b, .int .i64 c, .int .i64 d, .int .u32 k.toNat] 28)).alloc (.cells #[.int .i64 0, .int .u32 0, .int .u32 0, .int .u32 0, .int .u32 0, .int .u32 0, .int .u32 0, .int .u32 0, .int .u32 0, .slice none 0 0] 26) = w1 at hX hO hZ hG ⊢
  refine (formRef_any 17 a b c d k.toNat _).mono ?_
  rw [HF.out]
  rintro e w2 ⟨rfl, hg⟩
  replace hX := hg.at hX
  replace hO := hg.at hO
  replace hZ := hg.at hZ
  replace hG := hG.trans hg
  clear hg
  have HX := Lib.hid hX
  have HINF := Lib.hid (info26c at_ R (.slice A n cap))
  go_wp2_with ((with_reducible refine wpList_load_blk rfl 26 (.tmp 2) rfl w.heap.size 26 (ctxCells at_ R (.slice A n cap)) _ ?_ HX.out Try.underlying26 ?_ HINF.out ?_); (· rfl); (· rfl))
  clear HX
  have hbr : w.heap.size + 2 < w2.heap.size := heapAt_lt hZ
  refine (copy_any _ at_ R A n cap M hn hcap (hM.grow hG)).mono ?_
  rintro e w3 ⟨A', cap', rfl, hown, hcap2, hg⟩
  have hs23 := hg.size
  replace hX := hg.at hX
  replace hO := hg.at hO
  replace hZ := hg.at hZ
  replace hG := hG.trans hg
  have hbr3 : w.heap.size + 2 < w3.heap.size := heapAt_lt hZ
  have hnew := heapAt_alloc_new w3 (.cells #[.int .i64 0, .int .u32 0, .int .u32 0, .int .u32 0, .int .u32 0, .int .u32 0, .int .u32 0, .int .u32 0, .int .u32 0, .slice none 0 0] 26)
  have hg4 := Grow.alloc w3 (.cells #[.int .i64 0, .int .u32 0, .int .u32 0, .int .u32 0, .int .u32 0, .int .u32 0, .int .u32 0, .int .u32 0, .int .u32 0, .slice none 0 0] 26)
  replace hX := hg4.at hX
  replace hO := hg4.at hO
  replace hZ := hg4.at hZ
  replace hG := hG.trans hg4
  have hown4 := hown.grow hg4
  have hlt : 0 < n → ∃ m, A' = some ⟨m, 0, none⟩ ∧ w2.heap.size ≤ m ∧ m < w3.heap.size := fun h => hown.lt h
  have hs10 : (#[.int .i64 0, .int .u32 0, .int .u32 0, .int .u32 0, .int .u32 0, .int .u32 0, .int .u32 0, .int .u32 0, .int .u32 0, .slice none 0 0] : Array Value).size = (ctxCells at_ R (.slice A' n cap')).size := by rw [ctxCells_size]; rfl
  have HN := Lib.hid hnew
  have HS := Lib.hid hs10
  have HI := Lib.hid (info26c at_ R (.slice A' n cap'))
  have HO1 := Lib.hid (ctx_one at_ R (.slice A' n cap') rfl)
  have HL := Lib.hid hlt
  clear hs10 hnew hg hg4 hown hlt
  go_wp2_with ((with_reducible refine wpList_store_blk rfl 26 (.tmp 6) (.tmp 20) rfl w3.heap.size 26 _ (ctxCells at_ R (.slice A' n cap')) ?kx ?ky HN.out HS.out HI.out HO1.out ?kk))
  case kx => rfl
  case ky => rfl
  case kk =>
  intro w4 hb4 ho4
  replace hX := ho4.at (by omega) hX
  replace hO := ho4.at (by omega) hO
  replace hZ := ho4.at (by omega) hZ
  replace hG := hG.only ho4 (by omega)
  have hS4 : St w4 w2.heap.size w3.heap.size at_ R A' n cap' M := ⟨hb4, hown4.only ho4 (fun m hm hn => by obtain ⟨m', e, _, h2⟩ := HL.out hn; rw [hm] at e; injection e with e; injection e with e; omega), by omega, fun hn e => by obtain ⟨m', e', _, h2⟩ := HL.out hn; rw [e] at e'; injection e' with e'; injection e' with e'; omega⟩
  clear HN HS HI HO1 hown4 hb4 ho4
  have c0 := hS4.1.c0
  have f0 := hS4.1.free 0
  have hS := hS4.set0 (at_ + 1)
  replace hX := (set_block_other (w := w4) (b := w3.heap.size) (by omega) 0 (.int .i64 (at_ + 1))).trans hX
  replace hO := (set_block_other (w := w4) (b := w3.heap.size) (by omega) 0 (.int .i64 (at_ + 1))).trans hO
  replace hZ := (set_block_other (w := w4) (b := w3.heap.size) (by omega) 0 (.int .i64 (at_ + 1))).trans hZ
  replace hG := hG.only ((Only.refl w3.heap.size w4).setCell 0 (.int .i64 (at_ + 1))) (by omega)
  generalize hy : w3.heap.size = y at *
  clear hy hS4
  obtain ⟨w5, hw5⟩ : ∃ w5, w5 = w4.setCell ⟨y, 0, none⟩ (.int .i64 (at_ + 1)) := ⟨_, rfl⟩
  rw [← hw5] at hS hX hO hZ hG
  have HW5 := Lib.hid hw5
  clear hw5
  have HX := Lib.hid hX
  have HO := Lib.hid hO
  have HZ := Lib.hid hZ
  have HG := Lib.hid hG
  have HSt := Lib.hid hS
  clear hX hO hZ hG hS h0 h9
  go_upto_region 5 with fail
  rw [← HW5.out]
  clear c0 f0 HW5
  have hO := HO.out
  have d0 := cell_block hO 0
  have d1 := cell_block hO 1
  have d2 := cell_block hO 2
  have d3 := cell_block hO 3
  have d4 := cell_block hO 4
  have d5 := cell_block hO 5
  simp at d0 d1 d2 d3 d4 d5
  clear hO
  have hk := k.isLt
  have c0 := HSt.out.1.c0
  have f0 := HSt.out.1.free 0
  have hS := HSt.out.set0 (k.toNat)
  have hZ := (set_block_other (w := w5) (b := y) (by omega) 0 (.int .i64 (k.toNat))).trans HZ.out
  have hG := HG.out.only ((Only.refl y w5).setCell 0 (.int .i64 (k.toNat))) (by omega)
  obtain ⟨wz, hwz⟩ : ∃ wz, wz = w5.setCell ⟨y, 0, none⟩ (.int .i64 (k.toNat)) := ⟨_, rfl⟩
  rw [← hwz] at hS hZ hG
  have HWZ := Lib.hid hwz
  clear hwz
  go_upto_region 31 with fail
  rw [← HWZ.out]
  clear c0 f0 HWZ d0 d1 d2 d3 d4 d5
  have HY := Lib.hid (show wz.heap[y]? = some (.cells (ctxCells (k.toNat) (R) (.slice A' n cap')) 26 (0, 0)) from hS.1)
  have HSf := Lib.hid hS
  have HZf := Lib.hid hZ
  have HGf := Lib.hid hG
  have HIf := Lib.hid (info26c (k.toNat) (R) (.slice A' n cap'))
  have HOf := Lib.hid (ctx_one (k.toNat) (R) (.slice A' n cap') rfl)
  have hs10 : (#[.int .i64 0, .int .u32 0, .int .u32 0, .int .u32 0, .int .u32 0, .int .u32 0, .int .u32 0, .int .u32 0, .int .u32 0, .slice none 0 0] : Array Value).size = (ctxCells (k.toNat) (R) (.slice A' n cap')).size := by rw [ctxCells_size]; rfl
  have HSs := Lib.hid hs10
  clear hs10 hS hZ hG
  go_wp2_with (first
    | ((with_reducible refine wpList_load_blk rfl 26 (.tmp 6) rfl y 26 (ctxCells (k.toNat) (R) (.slice A' n cap')) _ ?_ HY.out Try.underlying26 ?_ HIf.out ?_); (· rfl); (· rfl))
    | ((with_reducible refine wpList_store_blk rfl 26 (.tmp 4) (.tmp 144) rfl (w.heap.size + 2) 26 _ (ctxCells (k.toNat) (R) (.slice A' n cap')) ?_ ?_ HZf.out HSs.out HIf.out HOf.out ?_); (· rfl); (· rfl); intro wf hbf hof))
  refine bodyPost_ret (v := .tuple #[.agg (ctxCells (k.toNat) (R) (.slice A' n cap')), .int .i64 0]) ?hres rfl ⟨A', cap', rfl, ?_, hcap2, HGf.out.only hof (by omega)⟩
  case hres =>
    refine results_cell_tmp (p := 4) (t := 5) (ty := 26) ?_ _ _ wf (w.heap.size + 2) _ ?_ ?_
    · rfl
    · rfl
    · exact run_loadVar_row wf (w.heap.size + 2) _ _ _ (0, 0) _ hbf Try.underlying26 rfl HIf.out
  exact (HSf.out.2.1.only hof (fun m hm hn => by obtain ⟨m', e, h1, _⟩ := HL.out hn; rw [hm] at e; injection e with e; injection e with e; omega)).loc (by omega)

set_option maxHeartbeats 1000000 in
set_option maxRecDepth 100000 in
theorem ref_jz_yes (w : World) (n cap : Nat) (at_ : Int) (R M : Nat → BitVec 32) (A : Option Addr) (a b c : Nat) (d : Int) (k : BitVec 32) (hn : (n : Int) ≤ 300) (hcap : (n : Int) ≤ cap) (hf : formP 18 a b c d k.toNat = 0) (hat0 : 0 ≤ at_) (hat1 : at_ ≤ 2000000000000) (ha : a < 8) (hb : b < 8) (hc : c < 8) (hM : MemAt w A n M) (hz : (((R a).toNat : Int) == 0) = true) :
    Calls Try.prog 12 #[.agg (ctxCells at_ R (.slice A n cap)), .agg #[.int .i64 18, .int .i64 a, .int .i64 b, .int .i64 c, .int .i64 d, .int .u32 k.toNat]] w fun e w' => ∃ A' cap', e = .returned (.tuple #[.agg (ctxCells (k.toNat) (R) (.slice A' n cap')), .int .i64 0]) ∧ MemLoc w A w' A' n M ∧ (n : Int) ≤ cap' ∧ Grow w w' := by
  have hai : (a : Int) < 8 := by omega
  have hbi : (b : Int) < 8 := by omega
  have hci : (c : Int) < 8 := by omega
  have h0 := ctx_0 at_ R (.slice A n cap)
  have h9 := ctx_9 at_ R (.slice A n cap)
  have hX : (((w.alloc (.cells (ctxCells at_ R (.slice A n cap)) 26)).alloc (.cells #[.int .i64 18, .int .i64 a, .int .i64 b, .int .i64 c, .int .i64 d, .int .u32 k.toNat] 28)).alloc (.cells #[.int .i64 0, .int .u32 0, .int .u32 0, .int .u32 0, .int .u32 0, .int .u32 0, .int .u32 0, .int .u32 0, .int .u32 0, .slice none 0 0] 26)).heap[w.heap.size]? = some (.cells (ctxCells at_ R (.slice A n cap)) 26) := (heapAt_alloc_old _ _ (by simp; omega)).trans ((heapAt_alloc_old _ _ (by simp)).trans (heapAt_alloc_new w _))
  have hO : (((w.alloc (.cells (ctxCells at_ R (.slice A n cap)) 26)).alloc (.cells #[.int .i64 18, .int .i64 a, .int .i64 b, .int .i64 c, .int .i64 d, .int .u32 k.toNat] 28)).alloc (.cells #[.int .i64 0, .int .u32 0, .int .u32 0, .int .u32 0, .int .u32 0, .int .u32 0, .int .u32 0, .int .u32 0, .int .u32 0, .slice none 0 0] 26)).heap[w.heap.size + 1]? = some (.cells #[.int .i64 18, .int .i64 a, .int .i64 b, .int .i64 c, .int .i64 d, .int .u32 k.toNat] 28) := (heapAt_alloc_old _ _ (by simp)).trans (heap_alloc2_new w _ _)
  have hZ : (((w.alloc (.cells (ctxCells at_ R (.slice A n cap)) 26)).alloc (.cells #[.int .i64 18, .int .i64 a, .int .i64 b, .int .i64 c, .int .i64 d, .int .u32 k.toNat] 28)).alloc (.cells #[.int .i64 0, .int .u32 0, .int .u32 0, .int .u32 0, .int .u32 0, .int .u32 0, .int .u32 0, .int .u32 0, .int .u32 0, .slice none 0 0] 26)).heap[w.heap.size + 2]? = some (.cells #[.int .i64 0, .int .u32 0, .int .u32 0, .int .u32 0, .int .u32 0, .int .u32 0, .int .u32 0, .int .u32 0, .int .u32 0, .slice none 0 0] 26) := by
    have := heapAt_alloc_new ((w.alloc (.cells (ctxCells at_ R (.slice A n cap)) 26)).alloc (.cells #[.int .i64 18, .int .i64 a, .int .i64 b, .int .i64 c, .int .i64 d, .int .u32 k.toNat] 28)) (.cells #[.int .i64 0, .int .u32 0, .int .u32 0, .int .u32 0, .int .u32 0, .int .u32 0, .int .u32 0, .int .u32 0, .int .u32 0, .slice none 0 0] 26)
    simpa using this
  have hG : Grow w (((w.alloc (.cells (ctxCells at_ R (.slice A n cap)) 26)).alloc (.cells #[.int .i64 18, .int .i64 a, .int .i64 b, .int .i64 c, .int .i64 d, .int .u32 k.toNat] 28)).alloc (.cells #[.int .i64 0, .int .u32 0, .int .u32 0, .int .u32 0, .int .u32 0, .int .u32 0, .int .u32 0, .int .u32 0, .int .u32 0, .slice none 0 0] 26)) := ((Grow.alloc w _).trans (Grow.alloc _ _)).trans (Grow.alloc _ _)
  have HF := Lib.hid hf; clear hf
  go_enter Try.func12, Try.ntmps12
  go_wp2_with fail
  generalize ((w.alloc (.cells (ctxCells at_ R (.slice A n cap)) 26)).alloc (.cells #[.int .i64 18, .int .i64 a, .int .i64 b, .int .i64 c, .int .i64 d, .int .u32 k.toNat] 28)).alloc (.cells #[.int .i64 0, .int .u32 0, .int .u32 0, .int .u32 0, .int .u32 0, .int .u32 0, .int .u32 0, .int .u32 0, .int .u32 0, .slice none 0 0] 26) = w1 at hX hO hZ hG ⊢
  refine (formRef_any 18 a b c d k.toNat _).mono ?_
  rw [HF.out]
  rintro e w2 ⟨rfl, hg⟩
  replace hX := hg.at hX
  replace hO := hg.at hO
  replace hZ := hg.at hZ
  replace hG := hG.trans hg
  clear hg
  have HX := Lib.hid hX
  have HINF := Lib.hid (info26c at_ R (.slice A n cap))
  go_wp2_with ((with_reducible refine wpList_load_blk rfl 26 (.tmp 2) rfl w.heap.size 26 (ctxCells at_ R (.slice A n cap)) _ ?_ HX.out Try.underlying26 ?_ HINF.out ?_); (· rfl); (· rfl))
  clear HX
  have hbr : w.heap.size + 2 < w2.heap.size := heapAt_lt hZ
  refine (copy_any _ at_ R A n cap M hn hcap (hM.grow hG)).mono ?_
  rintro e w3 ⟨A', cap', rfl, hown, hcap2, hg⟩
  have hs23 := hg.size
  replace hX := hg.at hX
  replace hO := hg.at hO
  replace hZ := hg.at hZ
  replace hG := hG.trans hg
  have hbr3 : w.heap.size + 2 < w3.heap.size := heapAt_lt hZ
  have hnew := heapAt_alloc_new w3 (.cells #[.int .i64 0, .int .u32 0, .int .u32 0, .int .u32 0, .int .u32 0, .int .u32 0, .int .u32 0, .int .u32 0, .int .u32 0, .slice none 0 0] 26)
  have hg4 := Grow.alloc w3 (.cells #[.int .i64 0, .int .u32 0, .int .u32 0, .int .u32 0, .int .u32 0, .int .u32 0, .int .u32 0, .int .u32 0, .int .u32 0, .slice none 0 0] 26)
  replace hX := hg4.at hX
  replace hO := hg4.at hO
  replace hZ := hg4.at hZ
  replace hG := hG.trans hg4
  have hown4 := hown.grow hg4
  have hlt : 0 < n → ∃ m, A' = some ⟨m, 0, none⟩ ∧ w2.heap.size ≤ m ∧ m < w3.heap.size := fun h => hown.lt h
  have hs10 : (#[.int .i64 0, .int .u32 0, .int .u32 0, .int .u32 0, .int .u32 0, .int .u32 0, .int .u32 0, .int .u32 0, .int .u32 0, .slice none 0 0] : Array Value).size = (ctxCells at_ R (.slice A' n cap')).size := by rw [ctxCells_size]; rfl
  have HN := Lib.hid hnew
  have HS := Lib.hid hs10
  have HI := Lib.hid (info26c at_ R (.slice A' n cap'))
  have HO1 := Lib.hid (ctx_one at_ R (.slice A' n cap') rfl)
  have HL := Lib.hid hlt
  clear hs10 hnew hg hg4 hown hlt
  go_wp2_with ((with_reducible refine wpList_store_blk rfl 26 (.tmp 6) (.tmp 20) rfl w3.heap.size 26 _ (ctxCells at_ R (.slice A' n cap')) ?kx ?ky HN.out HS.out HI.out HO1.out ?kk))
  case kx => rfl
  case ky => rfl
  case kk =>
  intro w4 hb4 ho4
  replace hX := ho4.at (by omega) hX
  replace hO := ho4.at (by omega) hO
  replace hZ := ho4.at (by omega) hZ
  replace hG := hG.only ho4 (by omega)
  have hS4 : St w4 w2.heap.size w3.heap.size at_ R A' n cap' M := ⟨hb4, hown4.only ho4 (fun m hm hn => by obtain ⟨m', e, _, h2⟩ := HL.out hn; rw [hm] at e; injection e with e; injection e with e; omega), by omega, fun hn e => by obtain ⟨m', e', _, h2⟩ := HL.out hn; rw [e] at e'; injection e' with e'; injection e' with e'; omega⟩
  clear HN HS HI HO1 hown4 hb4 ho4
  have c0 := hS4.1.c0
  have f0 := hS4.1.free 0
  have hS := hS4.set0 (at_ + 1)
  replace hX := (set_block_other (w := w4) (b := w3.heap.size) (by omega) 0 (.int .i64 (at_ + 1))).trans hX
  replace hO := (set_block_other (w := w4) (b := w3.heap.size) (by omega) 0 (.int .i64 (at_ + 1))).trans hO
  replace hZ := (set_block_other (w := w4) (b := w3.heap.size) (by omega) 0 (.int .i64 (at_ + 1))).trans hZ
  replace hG := hG.only ((Only.refl w3.heap.size w4).setCell 0 (.int .i64 (at_ + 1))) (by omega)
  generalize hy : w3.heap.size = y at *
  clear hy hS4
  obtain ⟨w5, hw5⟩ : ∃ w5, w5 = w4.setCell ⟨y, 0, none⟩ (.int .i64 (at_ + 1)) := ⟨_, rfl⟩
  rw [← hw5] at hS hX hO hZ hG
  have HW5 := Lib.hid hw5
  clear hw5
  have HX := Lib.hid hX
  have HO := Lib.hid hO
  have HZ := Lib.hid hZ
  have HG := Lib.hid hG
  have HSt := Lib.hid hS
  clear hX hO hZ hG hS h0 h9
  go_upto_region 5 with fail
  rw [← HW5.out]
  clear c0 f0 HW5
  have hO := HO.out
  have d0 := cell_block hO 0
  have d1 := cell_block hO 1
  have d2 := cell_block hO 2
  have d3 := cell_block hO 3
  have d4 := cell_block hO 4
  have d5 := cell_block hO 5
  simp at d0 d1 d2 d3 d4 d5
  clear hO
  have hk := k.isLt
  have hXc : ∀ j, w5.cell? ⟨w.heap.size, j, none⟩ = (ctxCells at_ R (.slice A n cap))[j]? := fun j => cell_block HX.out j
  have xR := fun j (hj : j < 8) => (hXc (1 + j)).trans (ctx_reg at_ R (.slice A n cap) j hj)
  have xA := xR a ha
  have hz2 : (((R a).toNat : Int) != 0) = !true := by rw [bne, hz]
  simp at hz2
  clear hXc xR
  have c0 := HSt.out.1.c0
  have f0 := HSt.out.1.free 0
  have hS := HSt.out.set0 (k.toNat)
  have hZ := (set_block_other (w := w5) (b := y) (by omega) 0 (.int .i64 (k.toNat))).trans HZ.out
  have hG := HG.out.only ((Only.refl y w5).setCell 0 (.int .i64 (k.toNat))) (by omega)
  obtain ⟨wz, hwz⟩ : ∃ wz, wz = w5.setCell ⟨y, 0, none⟩ (.int .i64 (k.toNat)) := ⟨_, rfl⟩
  rw [← hwz] at hS hZ hG
  have HWZ := Lib.hid hwz
  clear hwz
  go_upto_region 31 with fail
  rw [← HWZ.out]
  clear c0 f0 HWZ d0 d1 d2 d3 d4 d5
  have HY := Lib.hid (show wz.heap[y]? = some (.cells (ctxCells (k.toNat) (R) (.slice A' n cap')) 26 (0, 0)) from hS.1)
  have HSf := Lib.hid hS
  have HZf := Lib.hid hZ
  have HGf := Lib.hid hG
  have HIf := Lib.hid (info26c (k.toNat) (R) (.slice A' n cap'))
  have HOf := Lib.hid (ctx_one (k.toNat) (R) (.slice A' n cap') rfl)
  have hs10 : (#[.int .i64 0, .int .u32 0, .int .u32 0, .int .u32 0, .int .u32 0, .int .u32 0, .int .u32 0, .int .u32 0, .int .u32 0, .slice none 0 0] : Array Value).size = (ctxCells (k.toNat) (R) (.slice A' n cap')).size := by rw [ctxCells_size]; rfl
  have HSs := Lib.hid hs10
  clear hs10 hS hZ hG
  go_wp2_with (first
    | ((with_reducible refine wpList_load_blk rfl 26 (.tmp 6) rfl y 26 (ctxCells (k.toNat) (R) (.slice A' n cap')) _ ?_ HY.out Try.underlying26 ?_ HIf.out ?_); (· rfl); (· rfl))
    | ((with_reducible refine wpList_store_blk rfl 26 (.tmp 4) (.tmp 144) rfl (w.heap.size + 2) 26 _ (ctxCells (k.toNat) (R) (.slice A' n cap')) ?_ ?_ HZf.out HSs.out HIf.out HOf.out ?_); (· rfl); (· rfl); intro wf hbf hof))
  refine bodyPost_ret (v := .tuple #[.agg (ctxCells (k.toNat) (R) (.slice A' n cap')), .int .i64 0]) ?hres rfl ⟨A', cap', rfl, ?_, hcap2, HGf.out.only hof (by omega)⟩
  case hres =>
    refine results_cell_tmp (p := 4) (t := 5) (ty := 26) ?_ _ _ wf (w.heap.size + 2) _ ?_ ?_
    · rfl
    · rfl
    · exact run_loadVar_row wf (w.heap.size + 2) _ _ _ (0, 0) _ hbf Try.underlying26 rfl HIf.out
  exact (HSf.out.2.1.only hof (fun m hm hn => by obtain ⟨m', e, h1, _⟩ := HL.out hn; rw [hm] at e; injection e with e; injection e with e; omega)).loc (by omega)

set_option maxHeartbeats 1000000 in
set_option maxRecDepth 100000 in
theorem ref_jz_no (w : World) (n cap : Nat) (at_ : Int) (R M : Nat → BitVec 32) (A : Option Addr) (a b c : Nat) (d : Int) (k : BitVec 32) (hn : (n : Int) ≤ 300) (hcap : (n : Int) ≤ cap) (hf : formP 18 a b c d k.toNat = 0) (hat0 : 0 ≤ at_) (hat1 : at_ ≤ 2000000000000) (ha : a < 8) (hb : b < 8) (hc : c < 8) (hM : MemAt w A n M) (hz : (((R a).toNat : Int) == 0) = false) :
    Calls Try.prog 12 #[.agg (ctxCells at_ R (.slice A n cap)), .agg #[.int .i64 18, .int .i64 a, .int .i64 b, .int .i64 c, .int .i64 d, .int .u32 k.toNat]] w fun e w' => ∃ A' cap', e = .returned (.tuple #[.agg (ctxCells (at_ + 1) (R) (.slice A' n cap')), .int .i64 0]) ∧ MemLoc w A w' A' n M ∧ (n : Int) ≤ cap' ∧ Grow w w' := by
  have hai : (a : Int) < 8 := by omega
  have hbi : (b : Int) < 8 := by omega
  have hci : (c : Int) < 8 := by omega
  have h0 := ctx_0 at_ R (.slice A n cap)
  have h9 := ctx_9 at_ R (.slice A n cap)
  have hX : (((w.alloc (.cells (ctxCells at_ R (.slice A n cap)) 26)).alloc (.cells #[.int .i64 18, .int .i64 a, .int .i64 b, .int .i64 c, .int .i64 d, .int .u32 k.toNat] 28)).alloc (.cells #[.int .i64 0, .int .u32 0, .int .u32 0, .int .u32 0, .int .u32 0, .int .u32 0, .int .u32 0, .int .u32 0, .int .u32 0, .slice none 0 0] 26)).heap[w.heap.size]? = some (.cells (ctxCells at_ R (.slice A n cap)) 26) := (heapAt_alloc_old _ _ (by simp; omega)).trans ((heapAt_alloc_old _ _ (by simp)).trans (heapAt_alloc_new w _))
  have hO : (((w.alloc (.cells (ctxCells at_ R (.slice A n cap)) 26)).alloc (.cells #[.int .i64 18, .int .i64 a, .int .i64 b, .int .i64 c, .int .i64 d, .int .u32 k.toNat] 28)).alloc (.cells #[.int .i64 0, .int .u32 0, .int .u32 0, .int .u32 0, .int .u32 0, .int .u32 0, .int .u32 0, .int .u32 0, .int .u32 0, .slice none 0 0] 26)).heap[w.heap.size + 1]? = some (.cells #[.int .i64 18, .int .i64 a, .int .i64 b, .int .i64 c, .int .i64 d, .int .u32 k.toNat] 28) := (heapAt_alloc_old _ _ (by simp)).trans (heap_alloc2_new w _ _)
  have hZ : (((w.alloc (.cells (ctxCells at_ R (.slice A n cap)) 26)).alloc (.cells #[.int .i64 18, .int .i64 a, .int .i64 b, .int .i64 c, .int .i64 d, .int .u32 k.toNat] 28)).alloc (.cells #[.int .i64 0, .int .u32 0, .int .u32 0, .int .u32 0, .int .u32 0, .int .u32 0, .int .u32 0, .int .u32 0, .int .u32 0, .slice none 0 0] 26)).heap[w.heap.size + 2]? = some (.cells #[.int .i64 0, .int .u32 0, .int .u32 0, .int .u32 0, .int .u32 0, .int .u32 0, .int .u32 0, .int .u32 0, .int .u32 0, .slice none 0 0] 26) := by
    have := heapAt_alloc_new ((w.alloc (.cells (ctxCells at_ R (.slice A n cap)) 26)).alloc (.cells #[.int .i64 18, .int .i64 a, .int .i64 b, .int .i64 c, .int .i64 d, .int .u32 k.toNat] 28)) (.cells #[.int .i64 0, .int .u32 0, .int .u32 0, .int .u32 0, .int .u32 0, .int .u32 0, .int .u32 0, .int .u32 0, .int .u32 0, .slice none 0 0] 26)
    simpa using this
  have hG : Grow w (((w.alloc (.cells (ctxCells at_ R (.slice A n cap)) 26)).alloc (.cells #[.int .i64 18, .int .i64 a, .int .i64 b, .int .i64 c, .int .i64 d, .int .u32 k.toNat] 28)).alloc (.cells #[.int .i64 0, .int .u32 0, .int .u32 0, .int .u32 0, .int .u32 0, .int .u32 0, .int .u32 0, .int .u32 0, .int .u32 0, .slice none 0 0] 26)) := ((Grow.alloc w _).trans (Grow.alloc _ _)).trans (Grow.alloc _ _)
  have HF := Lib.hid hf; clear hf
  go_enter Try.func12, Try.ntmps12
  go_wp2_with fail
  generalize ((w.alloc (.cells (ctxCells at_ R (.slice A n cap)) 26)).alloc (.cells #[.int .i64 18, .int .i64 a, .int .i64 b, .int .i64 c, .int .i64 d, .int .u32 k.toNat] 28)).alloc (.cells #[.int .i64 0, .int .u32 0, .int .u32 0, .int .u32 0, .int .u32 0, .int .u32 0, .int .u32 0, .int .u32 0, .int .u32 0, .slice none 0 0] 26) = w1 at hX hO hZ hG ⊢
  refine (formRef_any 18 a b c d k.toNat _).mono ?_
  rw [HF.out]
  rintro e w2 ⟨rfl, hg⟩
  replace hX := hg.at hX
  replace hO := hg.at hO
  replace hZ := hg.at hZ
  replace hG := hG.trans hg
  clear hg
  have HX := Lib.hid hX
  have HINF := Lib.hid (info26c at_ R (.slice A n cap))
  go_wp2_with ((with_reducible refine wpList_load_blk rfl 26 (.tmp 2) rfl w.heap.size 26 (ctxCells at_ R (.slice A n cap)) _ ?_ HX.out Try.underlying26 ?_ HINF.out ?_); (· rfl); (· rfl))
  clear HX
  have hbr : w.heap.size + 2 < w2.heap.size := heapAt_lt hZ
  refine (copy_any _ at_ R A n cap M hn hcap (hM.grow hG)).mono ?_
  rintro e w3 ⟨A', cap', rfl, hown, hcap2, hg⟩
  have hs23 := hg.size
  replace hX := hg.at hX
  replace hO := hg.at hO
  replace hZ := hg.at hZ
  replace hG := hG.trans hg
  have hbr3 : w.heap.size + 2 < w3.heap.size := heapAt_lt hZ
  have hnew := heapAt_alloc_new w3 (.cells #[.int .i64 0, .int .u32 0, .int .u32 0, .int .u32 0, .int .u32 0, .int .u32 0, .int .u32 0, .int .u32 0, .int .u32 0, .slice none 0 0] 26)
  have hg4 := Grow.alloc w3 (.cells #[.int .i64 0, .int .u32 0, .int .u32 0, .int .u32 0, .int .u32 0, .int .u32 0, .int .u32 0, .int .u32 0, .int .u32 0, .slice none 0 0] 26)
  replace hX := hg4.at hX
  replace hO := hg4.at hO
  replace hZ := hg4.at hZ
  replace hG := hG.trans hg4
  have hown4 := hown.grow hg4
  have hlt : 0 < n → ∃ m, A' = some ⟨m, 0, none⟩ ∧ w2.heap.size ≤ m ∧ m < w3.heap.size := fun h => hown.lt h
  have hs10 : (#[.int .i64 0, .int .u32 0, .int .u32 0, .int .u32 0, .int .u32 0, .int .u32 0, .int .u32 0, .int .u32 0, .int .u32 0, .slice none 0 0] : Array Value).size = (ctxCells at_ R (.slice A' n cap')).size := by rw [ctxCells_size]; rfl
  have HN := Lib.hid hnew
  have HS := Lib.hid hs10
  have HI := Lib.hid (info26c at_ R (.slice A' n cap'))
  have HO1 := Lib.hid (ctx_one at_ R (.slice A' n cap') rfl)
  have HL := Lib.hid hlt
  clear hs10 hnew hg hg4 hown hlt
  go_wp2_with ((with_reducible refine wpList_store_blk rfl 26 (.tmp 6) (.tmp 20) rfl w3.heap.size 26 _ (ctxCells at_ R (.slice A' n cap')) ?kx ?ky HN.out HS.out HI.out HO1.out ?kk))
  case kx => rfl
  case ky => rfl
  case kk =>
  intro w4 hb4 ho4
  replace hX := ho4.at (by omega) hX
  replace hO := ho4.at (by omega) hO
  replace hZ := ho4.at (by omega) hZ
  replace hG := hG.only ho4 (by omega)
  have hS4 : St w4 w2.heap.size w3.heap.size at_ R A' n cap' M := ⟨hb4, hown4.only ho4 (fun m hm hn => by obtain ⟨m', e, _, h2⟩ := HL.out hn; rw [hm] at e; injection e with e; injection e with e; omega), by omega, fun hn e => by obtain ⟨m', e', _, h2⟩ := HL.out hn; rw [e] at e'; injection e' with e'; injection e' with e'; omega⟩
  clear HN HS HI HO1 hown4 hb4 ho4
  have c0 := hS4.1.c0
  have f0 := hS4.1.free 0
  have hS := hS4.set0 (at_ + 1)
  replace hX := (set_block_other (w := w4) (b := w3.heap.size) (by omega) 0 (.int .i64 (at_ + 1))).trans hX
  replace hO := (set_block_other (w := w4) (b := w3.heap.size) (by omega) 0 (.int .i64 (at_ + 1))).trans hO
  replace hZ := (set_block_other (w := w4) (b := w3.heap.size) (by omega) 0 (.int .i64 (at_ + 1))).trans hZ
  replace hG := hG.only ((Only.refl w3.heap.size w4).setCell 0 (.int .i64 (at_ + 1))) (by omega)
  generalize hy : w3.heap.size = y at *
  clear hy hS4
  obtain ⟨w5, hw5⟩ : ∃ w5, w5 = w4.setCell ⟨y, 0, none⟩ (.int .i64 (at_ + 1)) := ⟨_, rfl⟩
  rw [← hw5] at hS hX hO hZ hG
  have HW5 := Lib.hid hw5
  clear hw5
  have HX := Lib.hid hX
  have HO := Lib.hid hO
  have HZ := Lib.hid hZ
  have HG := Lib.hid hG
  have HSt := Lib.hid hS
  clear hX hO hZ hG hS h0 h9
  go_upto_region 5 with fail
  rw [← HW5.out]
  clear c0 f0 HW5
  have hO := HO.out
  have d0 := cell_block hO 0
  have d1 := cell_block hO 1
  have d2 := cell_block hO 2
  have d3 := cell_block hO 3
  have d4 := cell_block hO 4
  have d5 := cell_block hO 5
  simp at d0 d1 d2 d3 d4 d5
  clear hO
  have hk := k.isLt
  have hXc : ∀ j, w5.cell? ⟨w.heap.size, j, none⟩ = (ctxCells at_ R (.slice A n cap))[j]? := fun j => cell_block HX.out j
  have xR := fun j (hj : j < 8) => (hXc (1 + j)).trans (ctx_reg at_ R (.slice A n cap) j hj)
  have xA := xR a ha
  have hz2 : (((R a).toNat : Int) != 0) = !false := by rw [bne, hz]
  simp at hz2
  clear hXc xR
  go_upto_region 31 with fail
  have hS := HSt.out
  have hZ := HZ.out
  have hG := HG.out
  clear d0 d1 d2 d3 d4 d5
  have HY := Lib.hid (show w5.heap[y]? = some (.cells (ctxCells (at_ + 1) (R) (.slice A' n cap')) 26 (0, 0)) from hS.1)
  have HSf := Lib.hid hS
  have HZf := Lib.hid hZ
  have HGf := Lib.hid hG
  have HIf := Lib.hid (info26c (at_ + 1) (R) (.slice A' n cap'))
  have HOf := Lib.hid (ctx_one (at_ + 1) (R) (.slice A' n cap') rfl)
  have hs10 : (#[.int .i64 0, .int .u32 0, .int .u32 0, .int .u32 0, .int .u32 0, .int .u32 0, .int .u32 0, .int .u32 0, .int .u32 0, .slice none 0 0] : Array Value).size = (ctxCells (at_ + 1) (R) (.slice A' n cap')).size := by rw [ctxCells_size]; rfl
  have HSs := Lib.hid hs10
  clear hs10 hS hZ hG
  go_wp2_with (first
    | ((with_reducible refine wpList_load_blk rfl 26 (.tmp 6) rfl y 26 (ctxCells (at_ + 1) (R) (.slice A' n cap')) _ ?_ HY.out Try.underlying26 ?_ HIf.out ?_); (· rfl); (· rfl))
    | ((with_reducible refine wpList_store_blk rfl 26 (.tmp 4) (.tmp 144) rfl (w.heap.size + 2) 26 _ (ctxCells (at_ + 1) (R) (.slice A' n cap')) ?_ ?_ HZf.out HSs.out HIf.out HOf.out ?_); (· rfl); (· rfl); intro wf hbf hof))
  refine bodyPost_ret (v := .tuple #[.agg (ctxCells (at_ + 1) (R) (.slice A' n cap')), .int .i64 0]) ?hres rfl ⟨A', cap', rfl, ?_, hcap2, HGf.out.only hof (by omega)⟩
  case hres =>
    refine results_cell_tmp (p := 4) (t := 5) (ty := 26) ?_ _ _ wf (w.heap.size + 2) _ ?_ ?_
    · rfl
    · rfl
    · exact run_loadVar_row wf (w.heap.size + 2) _ _ _ (0, 0) _ hbf Try.underlying26 rfl HIf.out
  exact (HSf.out.2.1.only hof (fun m hm hn => by obtain ⟨m', e, h1, _⟩ := HL.out hn; rw [hm] at e; injection e with e; injection e with e; omega)).loc (by omega)

set_option maxHeartbeats 1000000 in
set_option maxRecDepth 100000 in
theorem ref_jnz_no (w : World) (n cap : Nat) (at_ : Int) (R M : Nat → BitVec 32) (A : Option Addr) (a b c : Nat) (d : Int) (k : BitVec 32) (hn : (n : Int) ≤ 300) (hcap : (n : Int) ≤ cap) (hf : formP 19 a b c d k.toNat = 0) (hat0 : 0 ≤ at_) (hat1 : at_ ≤ 2000000000000) (ha : a < 8) (hb : b < 8) (hc : c < 8) (hM : MemAt w A n M) (hz : (((R a).toNat : Int) == 0) = true) :
    Calls Try.prog 12 #[.agg (ctxCells at_ R (.slice A n cap)), .agg #[.int .i64 19, .int .i64 a, .int .i64 b, .int .i64 c, .int .i64 d, .int .u32 k.toNat]] w fun e w' => ∃ A' cap', e = .returned (.tuple #[.agg (ctxCells (at_ + 1) (R) (.slice A' n cap')), .int .i64 0]) ∧ MemLoc w A w' A' n M ∧ (n : Int) ≤ cap' ∧ Grow w w' := by
  have hai : (a : Int) < 8 := by omega
  have hbi : (b : Int) < 8 := by omega
  have hci : (c : Int) < 8 := by omega
  have h0 := ctx_0 at_ R (.slice A n cap)
  have h9 := ctx_9 at_ R (.slice A n cap)
  have hX : (((w.alloc (.cells (ctxCells at_ R (.slice A n cap)) 26)).alloc (.cells #[.int .i64 19, .int .i64 a, .int .i64 b, .int .i64 c, .int .i64 d, .int .u32 k.toNat] 28)).alloc (.cells #[.int .i64 0, .int .u32 0, .int .u32 0, .int .u32 0, .int .u32 0, .int .u32 0, .int .u32 0, .int .u32 0, .int .u32 0, .slice none 0 0] 26)).heap[w.heap.size]? = some (.cells (ctxCells at_ R (.slice A n cap)) 26) := (heapAt_alloc_old _ _ (by simp; omega)).trans ((heapAt_alloc_old _ _ (by simp)).trans (heapAt_alloc_new w _))
  have hO : (((w.alloc (.cells (ctxCells at_ R (.slice A n cap)) 26)).alloc (.cells #[.int .i64 19, .int .i64 a, .int .i64 b, .int .i64 c, .int .i64 d, .int .u32 k.toNat] 28)).alloc (.cells #[.int .i64 0, .int .u32 0, .int .u32 0, .int .u32 0, .int .u32 0, .int .u32 0, .int .u32 0, .int .u32 0, .int .u32 0, .slice none 0 0] 26)).heap[w.heap.size + 1]? = some (.cells #[.int .i64 19, .int .i64 a, .int .i64 b, .int .i64 c, .int .i64 d, .int .u32 k.toNat] 28) := (heapAt_alloc_old _ _ (by simp)).trans (heap_alloc2_new w _ _)
  have hZ : (((w.alloc (.cells (ctxCells at_ R (.slice A n cap)) 26)).alloc (.cells #[.int .i64 19, .int .i64 a, .int .i64 b, .int .i64 c, .int .i64 d, .int .u32 k.toNat] 28)).alloc (.cells #[.int .i64 0, .int .u32 0, .int .u32 0, .int .u32 0, .int .u32 0, .int .u32 0, .int .u32 0, .int .u32 0, .int .u32 0, .slice none 0 0] 26)).heap[w.heap.size + 2]? = some (.cells #[.int .i64 0, .int .u32 0, .int .u32 0, .int .u32 0, .int .u32 0, .int .u32 0, .int .u32 0, .int .u32 0, .int .u32 0, .slice none 0 0] 26) := by
    have := heapAt_alloc_new ((w.alloc (.cells (ctxCells at_ R (.slice A n cap)) 26)).alloc (.cells #[.int .i64 19, .int .i64 a, .int .i64 b, .int .i64 c, .int .i64 d, .int .u32 k.toNat] 28)) (.cells #[.int .i64 0, .int .u32 0, .int .u32 0, .int .u32 0, .int .u32 0, .int .u32 0, .int .u32 0, .int .u32 0, .int .u32 0, .slice none 0 0] 26)
    simpa using this
  have hG : Grow w (((w.alloc (.cells (ctxCells at_ R (.slice A n cap)) 26)).alloc (.cells #[.int .i64 19, .int .i64 a, .int .i64 b, .int .i64 c, .int .i64 d, .int .u32 k.toNat] 28)).alloc (.cells #[.int .i64 0, .int .u32 0, .int .u32 0, .int .u32 0, .int .u32 0, .int .u32 0, .int .u32 0, .int .u32 0, .int .u32 0, .slice none 0 0] 26)) := ((Grow.alloc w _).trans (Grow.alloc _ _)).trans (Grow.alloc _ _)
  have HF := Lib.hid hf; clear hf
  go_enter Try.func12, Try.ntmps12
  go_wp2_with fail
  generalize ((w.alloc (.cells (ctxCells at_ R (.slice A n cap)) 26)).alloc (.cells #[.int .i64 19, .int .i64 a, .int .i64 b, .int .i64 c, .int .i64 d, .int .u32 k.toNat] 28)).alloc (.cells #[.int .i64 0, .int .u32 0, .int .u32 0, .int .u32 0, .int .u32 0, .int .u32 0, .int .u32 0, .int .u32 0, .int .u32 0, .slice none 0 0] 26) = w1 at hX hO hZ hG ⊢
  refine (formRef_any 19 a b c d k.toNat _).mono ?_
  rw [HF.out]
  rintro e w2 ⟨rfl, hg⟩
  replace hX := hg.at hX
  replace hO := hg.at hO
  replace hZ := hg.at hZ
  replace hG := hG.trans hg
  clear hg
  have HX := Lib.hid hX
  have HINF := Lib.hid (info26c at_ R (.slice A n cap))
  go_wp2_with ((with_reducible refine wpList_load_blk rfl 26 (.tmp 2) rfl w.heap.size 26 (ctxCells at_ R (.slice A n cap)) _ ?_ HX.out Try.underlying26 ?_ HINF.out ?_); (· rfl); (· rfl))
  clear HX
  have hbr : w.heap.size + 2 < w2.heap.size := heapAt_lt hZ
  refine (copy_any _ at_ R A n cap M hn hcap (hM.grow hG)).mono ?_
  rintro e w3 ⟨A', cap', rfl, hown, hcap2, hg⟩
  have hs23 := hg.size
  replace hX := hg.at hX
  replace hO := hg.at hO
  replace hZ := hg.at hZ
  replace hG := hG.trans hg
  have hbr3 : w.heap.size + 2 < w3.heap.size := heapAt_lt hZ
  have hnew := heapAt_alloc_new w3 (.cells #[.int .i64 0, .int .u32 0, .int .u32 0, .int .u32 0, .int .u32 0, .int .u32 0, .int .u32 0, .int .u32 0, .int .u32 0, .slice none 0 0] 26)
  have hg4 := Grow.alloc w3 (.cells #[.int .i64 0, .int .u32 0, .int .u32 0, .int .u32 0, .int .u32 0, .int .u32 0, .int .u32 0, .int .u32 0, .int .u32 0, .slice none 0 0] 26)
  replace hX := hg4.at hX
  replace hO := hg4.at hO
  replace hZ := hg4.at hZ
  replace hG := hG.trans hg4
  have hown4 := hown.grow hg4
  have hlt : 0 < n → ∃ m, A' = some ⟨m, 0, none⟩ ∧ w2.heap.size ≤ m ∧ m < w3.heap.size := fun h => hown.lt h
  have hs10 : (#[.int .i64 0, .int .u32 0, .int .u32 0, .int .u32 0, .int .u32 0, .int .u32 0, .int .u32 0, .int .u32 0, .int .u32 0, .slice none 0 0] : Array Value).size = (ctxCells at_ R (.slice A' n cap')).size := by rw [ctxCells_size]; rfl
  have HN := Lib.hid hnew
  have HS := Lib.hid hs10
  have HI := Lib.hid (info26c at_ R (.slice A' n cap'))
  have HO1 := Lib.hid (ctx_one at_ R (.slice A' n cap') rfl)
  have HL := Lib.hid hlt
  clear hs10 hnew hg hg4 hown hlt
  go_wp2_with ((with_reducible refine wpList_store_blk rfl 26 (.tmp 6) (.tmp 20) rfl w3.heap.size 26 _ (ctxCells at_ R (.slice A' n cap')) ?kx ?ky HN.out HS.out HI.out HO1.out ?kk))
  case kx => rfl
  case ky => rfl
  case kk =>
  intro w4 hb4 ho4
  replace hX := ho4.at (by omega) hX
  replace hO := ho4.at (by omega) hO
  replace hZ := ho4.at (by omega) hZ
  replace hG := hG.only ho4 (by omega)
  have hS4 : St w4 w2.heap.size w3.heap.size at_ R A' n cap' M := ⟨hb4, hown4.only ho4 (fun m hm hn => by obtain ⟨m', e, _, h2⟩ := HL.out hn; rw [hm] at e; injection e with e; injection e with e; omega), by omega, fun hn e => by obtain ⟨m', e', _, h2⟩ := HL.out hn; rw [e] at e'; injection e' with e'; injection e' with e'; omega⟩
  clear HN HS HI HO1 hown4 hb4 ho4
  have c0 := hS4.1.c0
  have f0 := hS4.1.free 0
  have hS := hS4.set0 (at_ + 1)
  replace hX := (set_block_other (w := w4) (b := w3.heap.size) (by omega) 0 (.int .i64 (at_ + 1))).trans hX
  replace hO := (set_block_other (w := w4) (b := w3.heap.size) (by omega) 0 (.int .i64 (at_ + 1))).trans hO
  replace hZ := (set_block_other (w := w4) (b := w3.heap.size) (by omega) 0 (.int .i64 (at_ + 1))).trans hZ
  replace hG := hG.only ((Only.refl w3.heap.size w4).setCell 0 (.int .i64 (at_ + 1))) (by omega)
  generalize hy : w3.heap.size = y at *
  clear hy hS4
  obtain ⟨w5, hw5⟩ : ∃ w5, w5 = w4.setCell ⟨y, 0, none⟩ (.int .i64 (at_ + 1)) := ⟨_, rfl⟩
  rw [← hw5] at hS hX hO hZ hG
  have HW5 := Lib.hid hw5
  clear hw5
  have HX := Lib.hid hX
  have HO := Lib.hid hO
  have HZ := Lib.hid hZ
  have HG := Lib.hid hG
  have HSt := Lib.hid hS
  clear hX hO hZ hG hS h0 h9
  go_upto_region 5 with fail
  rw [← HW5.out]
  clear c0 f0 HW5
  have hO := HO.out
  have d0 := cell_block hO 0
  have d1 := cell_block hO 1
  have d2 := cell_block hO 2
  have d3 := cell_block hO 3
  have d4 := cell_block hO 4
  have d5 := cell_block hO 5
  simp at d0 d1 d2 d3 d4 d5
  clear hO
  have hk := k.isLt
  have hXc : ∀ j, w5.cell? ⟨w.heap.size, j, none⟩ = (ctxCells at_ R (.slice A n cap))[j]? := fun j => cell_block HX.out j
  have xR := fun j (hj : j < 8) => (hXc (1 + j)).trans (ctx_reg at_ R (.slice A n cap) j hj)
  have xA := xR a ha
  have hz2 : (((R a).toNat : Int) != 0) = !true := by rw [bne, hz]
  simp at hz2
  clear hXc xR
  go_upto_region 31 with fail
  have hS := HSt.out
  have hZ := HZ.out
  have hG := HG.out
  clear d0 d1 d2 d3 d4 d5
  have HY := Lib.hid (show w5.heap[y]? = some (.cells (ctxCells (at_ + 1) (R) (.slice A' n cap')) 26 (0, 0)) from hS.1)
  have HSf := Lib.hid hS
  have HZf := Lib.hid hZ
  have HGf := Lib.hid hG
  have HIf := Lib.hid (info26c (at_ + 1) (R) (.slice A' n cap'))
  have HOf := Lib.hid (ctx_one (at_ + 1) (R) (.slice A' n cap') rfl)
  have hs10 : (#[.int .i64 0, .int .u32 0, .int .u32 0, .int .u32 0, .int .u32 0, .int .u32 0, .int .u32 0, .int .u32 0, .int .u32 0, .slice none 0 0] : Array Value).size = (ctxCells (at_ + 1) (R) (.slice A' n cap')).size := by rw [ctxCells_size]; rfl
  have HSs := Lib.hid hs10
  clear hs10 hS hZ hG
  go_wp2_with (first
    | ((with_reducible refine wpList_load_blk rfl 26 (.tmp 6) rfl y 26 (ctxCells (at_ + 1) (R) (.slice A' n cap')) _ ?_ HY.out Try.underlying26 ?_ HIf.out ?_); (· rfl); (· rfl))
    | ((with_reducible refine wpList_store_blk rfl 26 (.tmp 4) (.tmp 144) rfl (w.heap.size + 2) 26 _ (ctxCells (at_ + 1) (R) (.slice A' n cap')) ?_ ?_ HZf.out HSs.out HIf.out HOf.out ?_); (· rfl); (· rfl); intro wf hbf hof))
  refine bodyPost_ret (v := .tuple #[.agg (ctxCells (at_ + 1) (R) (.slice A' n cap')), .int .i64 0]) ?hres rfl ⟨A', cap', rfl, ?_, hcap2, HGf.out.only hof (by omega)⟩
  case hres =>
    refine results_cell_tmp (p := 4) (t := 5) (ty := 26) ?_ _ _ wf (w.heap.size + 2) _ ?_ ?_
    · rfl
    · rfl
    · exact run_loadVar_row wf (w.heap.size + 2) _ _ _ (0, 0) _ hbf Try.underlying26 rfl HIf.out
  exact (HSf.out.2.1.only hof (fun m hm hn => by obtain ⟨m', e, h1, _⟩ := HL.out hn; rw [hm] at e; injection e with e; injection e with e; omega)).loc (by omega)

set_option maxHeartbeats 1000000 in
set_option maxRecDepth 100000 in
theorem ref_jnz_yes (w : World) (n cap : Nat) (at_ : Int) (R M : Nat → BitVec 32) (A : Option Addr) (a b c : Nat) (d : Int) (k : BitVec 32) (hn : (n : Int) ≤ 300) (hcap : (n : Int) ≤ cap) (hf : formP 19 a b c d k.toNat = 0) (hat0 : 0 ≤ at_) (hat1 : at_ ≤ 2000000000000) (ha : a < 8) (hb : b < 8) (hc : c < 8) (hM : MemAt w A n M) (hz : (((R a).toNat : Int) == 0) = false) :
    Calls Try.prog 12 #[.agg (ctxCells at_ R (.slice A n cap)), .agg #[.int .i64 19, .int .i64 a, .int .i64 b, .int .i64 c, .int .i64 d, .int .u32 k.toNat]] w fun e w' => ∃ A' cap', e = .returned (.tuple #[.agg (ctxCells (k.toNat) (R) (.slice A' n cap')), .int .i64 0]) ∧ MemLoc w A w' A' n M ∧ (n : Int) ≤ cap' ∧ Grow w w' := by
  have hai : (a : Int) < 8 := by omega
  have hbi : (b : Int) < 8 := by omega
  have hci : (c : Int) < 8 := by omega
  have h0 := ctx_0 at_ R (.slice A n cap)
  have h9 := ctx_9 at_ R (.slice A n cap)
  have hX : (((w.alloc (.cells (ctxCells at_ R (.slice A n cap)) 26)).alloc (.cells #[.int .i64 19, .int .i64 a, .int .i64 b, .int .i64 c, .int .i64 d, .int .u32 k.toNat] 28)).alloc (.cells #[.int .i64 0, .int .u32 0, .int .u32 0, .int .u32 0, .int .u32 0, .int .u32 0, .int .u32 0, .int .u32 0, .int .u32 0, .slice none 0 0] 26)).heap[w.heap.size]? = some (.cells (ctxCells at_ R (.slice A n cap)) 26) := (heapAt_alloc_old _ _ (by simp; omega)).trans ((heapAt_alloc_old _ _ (by simp)).trans (heapAt_alloc_new w _))
  have hO : (((w.alloc (.cells (ctxCells at_ R (.slice A n cap)) 26)).alloc (.cells #[.int .i64 19, .int .i64 a, .int .i64 b, .int .i64 c, .int .i64 d, .int .u32 k.toNat] 28)).alloc (.cells #[.int .i64 0, .int .u32 0, .int .u32 0, .int .u32 0, .int .u32 0, .int .u32 0, .int .u32 0, .int .u32 0, .int .u32 0, .slice none 0 0] 26)).heap[w.heap.size + 1]? = some (.cells #[.int .i64 19, .int .i64 a, .int .i64 b, .int .i64 c, .int .i64 d, .int .u32 k.toNat] 28) := (heapAt_alloc_old _ _ (by simp)).trans (heap_alloc2_new w _ _)
  have hZ : (((w.alloc (.cells (ctxCells at_ R (.slice A n cap)) 26)).alloc (.cells #[.int .i64 19, .int .i64 a, .int .i64 b, .int .i64 c, .int .i64 d, .int .u32 k.toNat] 28)).alloc (.cells #[.int .i64 0, .int .u32 0, .int .u32 0, .int .u32 0, .int .u32 0, .int .u32 0, .int .u32 0, .int .u32 0, .int .u32 0, .slice none 0 0] 26)).heap[w.heap.size + 2]? = some (.cells #[.int .i64 0, .int .u32 0, .int .u32 0, .int .u32 0, .int .u32 0, .int .u32 0, .int .u32 0, .int .u32 0, .int .u32 0, .slice none 0 0] 26) := by
    have := heapAt_alloc_new ((w.alloc (.cells (ctxCells at_ R (.slice A n cap)) 26)).alloc (.cells #[.int .i64 19, .int .i64 a, .int .i64 b, .int .i64 c, .int .i64 d, .int .u32 k.toNat] 28)) (.cells #[.int .i64 0, .int .u32 0, .int .u32 0, .int .u32 0, .int .u32 0, .int .u32 0, .int .u32 0, .int .u32 0, .int .u32 0, .slice none 0 0] 26)
    simpa using this
  have hG : Grow w (((w.alloc (.cells (ctxCells at_ R (.slice A n cap)) 26)).alloc (.cells #[.int .i64 19, .int .i64 a, .int .i64 b, .int .i64 c, .int .i64 d, .int .u32 k.toNat] 28)).alloc (.cells #[.int .i64 0, .int .u32 0, .int .u32 0, .int .u32 0, .int .u32 0, .int .u32 0, .int .u32 0, .int .u32 0, .int .u32 0, .slice none 0 0] 26)) := ((Grow.alloc w _).trans (Grow.alloc _ _)).trans (Grow.alloc _ _)
  have HF := Lib.hid hf; clear hf
  go_enter Try.func12, Try.ntmps12
  go_wp2_with fail
  generalize ((w.alloc (.cells (ctxCells at_ R (.slice A n cap)) 26)).alloc (.cells #[.int .i64 19, .int .i64 a, .int .i64 b, .int .i64 c, .int .i64 d, .int .u32 k.toNat] 28)).alloc (.cells #[.int .i64 0, .int .u32 0, .int .u32 0, .int .u32 0, .int .u32 0, .int .u32 0, .int .u32 0, .int .u32 0, .int .u32 0, .slice none 0 0] 26) = w1 at hX hO hZ hG ⊢
  refine (formRef_any 19 a b c d k.toNat _).mono ?_
  rw [HF.out]
  rintro e w2 ⟨rfl, hg⟩
  replace hX := hg.at hX
  replace hO := hg.at hO
  replace hZ := hg.at hZ
  replace hG := hG.trans hg
  clear hg
  have HX := Lib.hid hX
  have HINF := Lib.hid (info26c at_ R (.slice A n cap))
  go_wp2_with ((with_reducible refine wpList_load_blk rfl 26 (.tmp 2) rfl w.heap.size 26 (ctxCells at_ R (.slice A n cap)) _ ?_ HX.out Try.underlying26 ?_ HINF.out ?_); (· rfl); (· rfl))
  clear HX
  have hbr : w.heap.size + 2 < w2.heap.size := heapAt_lt hZ
  refine (copy_any _ at_ R A n cap M hn hcap (hM.grow hG)).mono ?_
  rintro e w3 ⟨A', cap', rfl, hown, hcap2, hg⟩
  have hs23 := hg.size
  replace hX := hg.at hX
  replace hO := hg.at hO
  replace hZ := hg.at hZ
  replace hG := hG.trans hg
  have hbr3 : w.heap.size + 2 < w3.heap.size := heapAt_lt hZ
  have hnew := heapAt_alloc_new w3 (.cells #[.int .i64 0, .int .u32 0, .int .u32 0, .int .u32 0, .int .u32 0, .int .u32 0, .int .u32 0, .int .u32 0, .int .u32 0, .slice none 0 0] 26)
  have hg4 := Grow.alloc w3 (.cells #[.int .i64 0, .int .u32 0, .int .u32 0, .int .u32 0, .int .u32 0, .int .u32 0, .int .u32 0, .int .u32 0, .int .u32 0, .slice none 0 0] 26)
  replace hX := hg4.at hX
  replace hO := hg4.at hO
  replace hZ := hg4.at hZ
  replace hG := hG.trans hg4
  have hown4 := hown.grow hg4
  have hlt : 0 < n → ∃ m, A' = some ⟨m, 0, none⟩ ∧ w2.heap.size ≤ m ∧ m < w3.heap.size := fun h => hown.lt h
  have hs10 : (#[.int .i64 0, .int .u32 0, .int .u32 0, .int .u32 0, .int .u32 0, .int .u32 0, .int .u32 0, .int .u32 0, .int .u32 0, .slice none 0 0] : Array Value).size = (ctxCells at_ R (.slice A' n cap')).size := by rw [ctxCells_size]; rfl
  have HN := Lib.hid hnew
  have HS := Lib.hid hs10
  have HI := Lib.hid (info26c at_ R (.slice A' n cap'))
  have HO1 := Lib.hid (ctx_one at_ R (.slice A' n cap') rfl)
  have HL := Lib.hid hlt
  clear hs10 hnew hg hg4 hown hlt
  go_wp2_with ((with_reducible refine wpList_store_blk rfl 26 (.tmp 6) (.tmp 20) rfl w3.heap.size 26 _ (ctxCells at_ R (.slice A' n cap')) ?kx ?ky HN.out HS.out HI.out HO1.out ?kk))
  case kx => rfl
  case ky => rfl
  case kk =>
  intro w4 hb4 ho4
  replace hX := ho4.at (by omega) hX
  replace hO := ho4.at (by omega) hO
  replace hZ := ho4.at (by omega) hZ
  replace hG := hG.only ho4 (by omega)
  have hS4 : St w4 w2.heap.size w3.heap.size at_ R A' n cap' M := ⟨hb4, hown4.only ho4 (fun m hm hn => by obtain ⟨m', e, _, h2⟩ := HL.out hn; rw [hm] at e; injection e with e; injection e with e; omega), by omega, fun hn e => by obtain ⟨m', e', _, h2⟩ := HL.out hn; rw [e] at e'; injection e' with e'; injection e' with e'; omega⟩
  clear HN HS HI HO1 hown4 hb4 ho4
  have c0 := hS4.1.c0
  have f0 := hS4.1.free 0
  have hS := hS4.set0 (at_ + 1)
  replace hX := (set_block_other (w := w4) (b := w3.heap.size) (by omega) 0 (.int .i64 (at_ + 1))).trans hX
  replace hO := (set_block_other (w := w4) (b := w3.heap.size) (by omega) 0 (.int .i64 (at_ + 1))).trans hO
  replace hZ := (set_block_other (w := w4) (b := w3.heap.size) (by omega) 0 (.int .i64 (at_ + 1))).trans hZ
  replace hG := hG.only ((Only.refl w3.heap.size w4).setCell 0 (.int .i64 (at_ + 1))) (by omega)
  generalize hy : w3.heap.size = y at *
  clear hy hS4
  obtain ⟨w5, hw5⟩ : ∃ w5, w5 = w4.setCell ⟨y, 0, none⟩ (.int .i64 (at_ + 1)) := ⟨_, rfl⟩
  rw [← hw5] at hS hX hO hZ hG
  have HW5 := Lib.hid hw5
  clear hw5
  have HX := Lib.hid hX
  have HO := Lib.hid hO
  have HZ := Lib.hid hZ
  have HG := Lib.hid hG
  have HSt := Lib.hid hS
  clear hX hO hZ hG hS h0 h9
  go_upto_region 5 with fail
  rw [← HW5.out]
  clear c0 f0 HW5
  have hO := HO.out
  have d0 := cell_block hO 0
  have d1 := cell_block hO 1
  have d2 := cell_block hO 2
  have d3 := cell_block hO 3
  have d4 := cell_block hO 4
  have d5 := cell_block hO 5
  simp at d0 d1 d2 d3 d4 d5
  clear hO
  have hk := k.isLt
  have hXc : ∀ j, w5.cell? ⟨w.heap.size, j, none⟩ = (ctxCells at_ R (.slice A n cap))[j]? := fun j => cell_block HX.out j
  have xR := fun j (hj : j < 8) => (hXc (1 + j)).trans (ctx_reg at_ R (.slice A n cap) j hj)
  have xA := xR a ha
  have hz2 : (((R a).toNat : Int) != 0) = !false := by rw [bne, hz]
  simp at hz2
  clear hXc xR
  have c0 := HSt.out.1.c0
  have f0 := HSt.out.1.free 0
  have hS := HSt.out.set0 (k.toNat)
  have hZ := (set_block_other (w := w5) (b := y) (by omega) 0 (.int .i64 (k.toNat))).trans HZ.out
  have hG := HG.out.only ((Only.refl y w5).setCell 0 (.int .i64 (k.toNat))) (by omega)
  obtain ⟨wz, hwz⟩ : ∃ wz, wz = w5.setCell ⟨y, 0, none⟩ (.int .i64 (k.toNat)) := ⟨_, rfl⟩
  rw [← hwz] at hS hZ hG
  have HWZ := Lib.hid hwz
  clear hwz
  go_upto_region 31 with fail
  rw [← HWZ.out]
  clear c0 f0 HWZ d0 d1 d2 d3 d4 d5
  have HY := Lib.hid (show wz.heap[y]? = some (.cells (ctxCells (k.toNat) (R) (.slice A' n cap')) 26 (0, 0)) from hS.1)
  have HSf := Lib.hid hS
  have HZf := Lib.hid hZ
  have HGf := Lib.hid hG
  have HIf := Lib.hid (info26c (k.toNat) (R) (.slice A' n cap'))
  have HOf := Lib.hid (ctx_one (k.toNat) (R) (.slice A' n cap') rfl)
  have hs10 : (#[.int .i64 0, .int .u32 0, .int .u32 0, .int .u32 0, .int .u32 0, .int .u32 0, .int .u32 0, .int .u32 0, .int .u32 0, .slice none 0 0] : Array Value).size = (ctxCells (k.toNat) (R) (.slice A' n cap')).size := by rw [ctxCells_size]; rfl
  have HSs := Lib.hid hs10
  clear hs10 hS hZ hG
  go_wp2_with (first
    | ((with_reducible refine wpList_load_blk rfl 26 (.tmp 6) rfl y 26 (ctxCells (k.toNat) (R) (.slice A' n cap')) _ ?_ HY.out Try.underlying26 ?_ HIf.out ?_); (· rfl); (· rfl))
    | ((with_reducible refine wpList_store_blk rfl 26 (.tmp 4) (.tmp 144) rfl (w.heap.size + 2) 26 _ (ctxCells (k.toNat) (R) (.slice A' n cap')) ?_ ?_ HZf.out HSs.out HIf.out HOf.out ?_); (· rfl); (· rfl); intro wf hbf hof))
  refine bodyPost_ret (v := .tuple #[.agg (ctxCells (k.toNat) (R) (.slice A' n cap')), .int .i64 0]) ?hres rfl ⟨A', cap', rfl, ?_, hcap2, HGf.out.only hof (by omega)⟩
  case hres =>
    refine results_cell_tmp (p := 4) (t := 5) (ty := 26) ?_ _ _ wf (w.heap.size + 2) _ ?_ ?_
    · rfl
    · rfl
    · exact run_loadVar_row wf (w.heap.size + 2) _ _ _ (0, 0) _ hbf Try.underlying26 rfl HIf.out
  exact (HSf.out.2.1.only hof (fun m hm hn => by obtain ⟨m', e, h1, _⟩ := HL.out hn; rw [hm] at e; injection e with e; injection e with e; omega)).loc (by omega)

set_option maxHeartbeats 1000000 in
set_option maxRecDepth 100000 in
theorem ref_work (w : World) (n cap : Nat) (at_ : Int) (R M : Nat → BitVec 32) (A : Option Addr) (a b c : Nat) (d : Int) (k : BitVec 32) (hn : (n : Int) ≤ 300) (hcap : (n : Int) ≤ cap) (hf : formP 20 a b c d k.toNat = 0) (hat0 : 0 ≤ at_) (hat1 : at_ ≤ 2000000000000) (ha : a < 8) (hb : b < 8) (hc : c < 8) (hM : MemAt w A n M) :
    Calls Try.prog 12 #[.agg (ctxCells at_ R (.slice A n cap)), .agg #[.int .i64 20, .int .i64 a, .int .i64 b, .int .i64 c, .int .i64 d, .int .u32 k.toNat]] w fun e w' => ∃ A' cap', e = .returned (.tuple #[.agg (ctxCells (at_ + 1) (R) (.slice A' n cap')), .int .i64 0]) ∧ MemLoc w A w' A' n M ∧ (n : Int) ≤ cap' ∧ Grow w w' := by
  have hai : (a : Int) < 8 := by omega
  have hbi : (b : Int) < 8 := by omega
  have hci : (c : Int) < 8 := by omega
  have h0 := ctx_0 at_ R (.slice A n cap)
  have h9 := ctx_9 at_ R (.slice A n cap)
  have hX : (((w.alloc (.cells (ctxCells at_ R (.slice A n cap)) 26)).alloc (.cells #[.int .i64 20, .int .i64 a, .int .i64 b, .int .i64 c, .int .i64 d, .int .u32 k.toNat] 28)).alloc (.cells #[.int .i64 0, .int .u32 0, .int .u32 0, .int .u32 0, .int .u32 0, .int .u32 0, .int .u32 0, .int .u32 0, .int .u32 0, .slice none 0 0] 26)).heap[w.heap.size]? = some (.cells (ctxCells at_ R (.slice A n cap)) 26) := (heapAt_alloc_old _ _ (by simp; omega)).trans ((heapAt_alloc_old _ _ (by simp)).trans (heapAt_alloc_new w _))
  have hO : (((w.alloc (.cells (ctxCells at_ R (.slice A n cap)) 26)).alloc (.cells #[.int .i64 20, .int .i64 a, .int .i64 b, .int .i64 c, .int .i64 d, .int .u32 k.toNat] 28)).alloc (.cells #[.int .i64 0, .int .u32 0, .int .u32 0, .int .u32 0, .int .u32 0, .int .u32 0, .int .u32 0, .int .u32 0, .int .u32 0, .slice none 0 0] 26)).heap[w.heap.size + 1]? = some (.cells #[.int .i64 20, .int .i64 a, .int .i64 b, .int .i64 c, .int .i64 d, .int .u32 k.toNat] 28) := (heapAt_alloc_old _ _ (by simp)).trans (heap_alloc2_new w _ _)
  have hZ : (((w.alloc (.cells (ctxCells at_ R (.slice A n cap)) 26)).alloc (.cells #[.int .i64 20, .int .i64 a, .int .i64 b, .int .i64 c, .int .i64 d, .int .u32 k.toNat] 28)).alloc (.cells #[.int .i64 0, .int .u32 0, .int .u32 0, .int .u32 0, .int .u32 0, .int .u32 0, .int .u32 0, .int .u32 0, .int .u32 0, .slice none 0 0] 26)).heap[w.heap.size + 2]? = some (.cells #[.int .i64 0, .int .u32 0, .int .u32 0, .int .u32 0, .int .u32 0, .int .u32 0, .int .u32 0, .int .u32 0, .int .u32 0, .slice none 0 0] 26) := by
    have := heapAt_alloc_new ((w.alloc (.cells (ctxCells at_ R (.slice A n cap)) 26)).alloc (.cells #[.int .i64 20, .int .i64 a, .int .i64 b, .int .i64 c, .int .i64 d, .int .u32 k.toNat] 28)) (.cells #[.int .i64 0, .int .u32 0, .int .u32 0, .int .u32 0, .int .u32 0, .int .u32 0, .int .u32 0, .int .u32 0, .int .u32 0, .slice none 0 0] 26)
    simpa using this
  have hG : Grow w (((w.alloc (.cells (ctxCells at_ R (.slice A n cap)) 26)).alloc (.cells #[.int .i64 20, .int .i64 a, .int .i64 b, .int .i64 c, .int .i64 d, .int .u32 k.toNat] 28)).alloc (.cells #[.int .i64 0, .int .u32 0, .int .u32 0, .int .u32 0, .int .u32 0, .int .u32 0, .int .u32 0, .int .u32 0, .int .u32 0, .slice none 0 0] 26)) := ((Grow.alloc w _).trans (Grow.alloc _ _)).trans (Grow.alloc _ _)
  have HF := Lib.hid hf; clear hf
  go_enter Try.func12, Try.ntmps12
  go_wp2_with fail
  generalize ((w.alloc (.cells (ctxCells at_ R (.slice A n cap)) 26)).alloc (.cells #[.int .i64 20, .int .i64 a, .int .i64 b, .int .i64 c, .int .i64 d, .int .u32 k.toNat] 28)).alloc (.cells #[.int .i64 0, .int .u32 0, .int .u32 0, .int .u32 0, .int .u32 0, .int .u32 0, .int .u32 0, .int .u32 0, .int .u32 0, .slice none 0 0] 26) = w1 at hX hO hZ hG ⊢
  refine (formRef_any 20 a b c d k.toNat _).mono ?_
  rw [HF.out]
  rintro e w2 ⟨rfl, hg⟩
  replace hX := hg.at hX
  replace hO := hg.at hO
  replace hZ := hg.at hZ
  replace hG := hG.trans hg
  clear hg
  have HX := Lib.hid hX
  have HINF := Lib.hid (info26c at_ R (.slice A n cap))
  go_wp2_with ((with_reducible refine wpList_load_blk rfl 26 (.tmp 2) rfl w.heap.size 26 (ctxCells at_ R (.slice A n cap)) _ ?_ HX.out Try.underlying26 ?_ HINF.out ?_); (· rfl); (· rfl))
  clear HX
  have hbr : w.heap.size + 2 < w2.heap.size := heapAt_lt hZ
  refine (copy_any _ at_ R A n cap M hn hcap (hM.grow hG)).mono ?_
  rintro e w3 ⟨A', cap', rfl, hown, hcap2, hg⟩
  have hs23 := hg.size
  replace hX := hg.at hX
  replace hO := hg.at hO
  replace hZ := hg.at hZ
  replace hG := hG.trans hg
  have hbr3 : w.heap.size + 2 < w3.heap.size := heapAt_lt hZ
  have hnew := heapAt_alloc_new w3 (.cells #[.int .i64 0, .int .u32 0, .int .u32 0, .int .u32 0, .int .u32 0, .int .u32 0, .int .u32 0, .int .u32 0, .int .u32 0, .slice none 0 0] 26)
  have hg4 := Grow.alloc w3 (.cells #[.int .i64 0, .int .u32 0, .int .u32 0, .int .u32 0, .int .u32 0, .int .u32 0, .int .u32 0, .int .u32 0, .int .u32 0, .slice none 0 0] 26)
  replace hX := hg4.at hX
  replace hO := hg4.at hO
  replace hZ := hg4.at hZ
  replace hG := hG.trans hg4
  have hown4 := hown.grow hg4
  have hlt : 0 < n → ∃ m, A' = some ⟨m, 0, none⟩ ∧ w2.heap.size ≤ m ∧ m < w3.heap.size := fun h => hown.lt h
  have hs10 : (#[.int .i64 0, .int .u32 0, .int .u32 0, .int .u32 0, .int .u32 0, .int .u32 0, .int .u32 0, .int .u32 0, .int .u32 0, .slice none 0 0] : Array Value).size = (ctxCells at_ R (.slice A' n cap')).size := by rw [ctxCells_size]; rfl
  have HN := Lib.hid hnew
  have HS := Lib.hid hs10
  have HI := Lib.hid (info26c at_ R (.slice A' n cap'))
  have HO1 := Lib.hid (ctx_one at_ R (.slice A' n cap') rfl)
  have HL := Lib.hid hlt
  clear hs10 hnew hg hg4 hown hlt
  go_wp2_with ((with_reducible refine wpList_store_blk rfl 26 (.tmp 6) (.tmp 20) rfl w3.heap.size 26 _ (ctxCells at_ R (.slice A' n cap')) ?kx ?ky HN.out HS.out HI.out HO1.out ?kk))
  case kx => rfl
  case ky => rfl
  case kk =>
  intro w4 hb4 ho4
  replace hX := ho4.at (by omega) hX
  replace hO := ho4.at (by omega) hO
  replace hZ := ho4.at (by omega) hZ
  replace hG := hG.only ho4 (by omega)
  have hS4 : St w4 w2.heap.size w3.heap.size at_ R A' n cap' M := ⟨hb4, hown4.only ho4 (fun m hm hn => by obtain ⟨m', e, _, h2⟩ := HL.out hn; rw [hm] at e; injection e with e; injection e with e; omega), by omega, fun hn e => by obtain ⟨m', e', _, h2⟩ := HL.out hn; rw [e] at e'; injection e' with e'; injection e' with e'; omega⟩
  clear HN HS HI HO1 hown4 hb4 ho4
  have c0 := hS4.1.c0
  have f0 := hS4.1.free 0
  have hS := hS4.set0 (at_ + 1)
  replace hX := (set_block_other (w := w4) (b := w3.heap.size) (by omega) 0 (.int .i64 (at_ + 1))).trans hX
  replace hO := (set_block_other (w := w4) (b := w3.heap.size) (by omega) 0 (.int .i64 (at_ + 1))).trans hO
  replace hZ := (set_block_other (w := w4) (b := w3.heap.size) (by omega) 0 (.int .i64 (at_ + 1))).trans hZ
  replace hG := hG.only ((Only.refl w3.heap.size w4).setCell 0 (.int .i64 (at_ + 1))) (by omega)
  generalize hy : w3.heap.size = y at *
  clear hy hS4
  obtain ⟨w5, hw5⟩ : ∃ w5, w5 = w4.setCell ⟨y, 0, none⟩ (.int .i64 (at_ + 1)) := ⟨_, rfl⟩
  rw [← hw5] at hS hX hO hZ hG
  have HW5 := Lib.hid hw5
  clear hw5
  have HX := Lib.hid hX
  have HO := Lib.hid hO
  have HZ := Lib.hid hZ
  have HG := Lib.hid hG
  have HSt := Lib.hid hS
  clear hX hO hZ hG hS h0 h9
  go_upto_region 5 with fail
  rw [← HW5.out]
  clear c0 f0 HW5
  have hO := HO.out
  have d0 := cell_block hO 0
  have d1 := cell_block hO 1
  have d2 := cell_block hO 2
  have d3 := cell_block hO 3
  have d4 := cell_block hO 4
  have d5 := cell_block hO 5
  simp at d0 d1 d2 d3 d4 d5
  clear hO
  go_upto_region 31 with fail
  have hS := HSt.out
  have hZ := HZ.out
  have hG := HG.out
  clear d0 d1 d2 d3 d4 d5
  have HY := Lib.hid (show w5.heap[y]? = some (.cells (ctxCells (at_ + 1) (R) (.slice A' n cap')) 26 (0, 0)) from hS.1)
  have HSf := Lib.hid hS
  have HZf := Lib.hid hZ
  have HGf := Lib.hid hG
  have HIf := Lib.hid (info26c (at_ + 1) (R) (.slice A' n cap'))
  have HOf := Lib.hid (ctx_one (at_ + 1) (R) (.slice A' n cap') rfl)
  have hs10 : (#[.int .i64 0, .int .u32 0, .int .u32 0, .int .u32 0, .int .u32 0, .int .u32 0, .int .u32 0, .int .u32 0, .int .u32 0, .slice none 0 0] : Array Value).size = (ctxCells (at_ + 1) (R) (.slice A' n cap')).size := by rw [ctxCells_size]; rfl
  have HSs := Lib.hid hs10
  clear hs10 hS hZ hG
  go_wp2_with (first
    | ((with_reducible refine wpList_load_blk rfl 26 (.tmp 6) rfl y 26 (ctxCells (at_ + 1) (R) (.slice A' n cap')) _ ?_ HY.out Try.underlying26 ?_ HIf.out ?_); (· rfl); (· rfl))
    | ((with_reducible refine wpList_store_blk rfl 26 (.tmp 4) (.tmp 144) rfl (w.heap.size + 2) 26 _ (ctxCells (at_ + 1) (R) (.slice A' n cap')) ?_ ?_ HZf.out HSs.out HIf.out HOf.out ?_); (· rfl); (· rfl); intro wf hbf hof))
  refine bodyPost_ret (v := .tuple #[.agg (ctxCells (at_ + 1) (R) (.slice A' n cap')), .int .i64 0]) ?hres rfl ⟨A', cap', rfl, ?_, hcap2, HGf.out.only hof (by omega)⟩
  case hres =>
    refine results_cell_tmp (p := 4) (t := 5) (ty := 26) ?_ _ _ wf (w.heap.size + 2) _ ?_ ?_
    · rfl
    · rfl
    · exact run_loadVar_row wf (w.heap.size + 2) _ _ _ (0, 0) _ hbf Try.underlying26 rfl HIf.out
  exact (HSf.out.2.1.only hof (fun m hm hn => by obtain ⟨m', e, h1, _⟩ := HL.out hn; rw [hm] at e; injection e with e; injection e with e; omega)).loc (by omega)

end Go.Proofs.Ytkjacmnocbdghaa
