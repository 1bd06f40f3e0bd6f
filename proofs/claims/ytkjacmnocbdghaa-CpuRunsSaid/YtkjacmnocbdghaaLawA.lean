/- The walks of CpuNil and CpuDoes. -/
import Derived.Test.YtkjacmnocbdghaaRun
import Derived.Test.YtkjacmnocbdghaaAwake
import Derived.Test.YtkjacmnocbdghaaCopyB
namespace Go.Proofs.Ytkjacmnocbdghaa
open Go.RowKit
set_option linter.unusedVariables false
attribute [local irreducible] hasA hasB hasC hasD hasK bitsOf regP hasStr letter formP bad4 bad6 bad8 bad10 ctxCells regArr valW valE words upd stepP goS runP

theorem wpList_load_blk_if {P : Program} {ops : Array Oper} {rest : List Oper} {op : Oper} {a : Act} {w : World} {Q : Exit → Act → World → Prop} (hw : Region.wanted op (yielded ops a.tmps) = true) (ty : TypeId) (x : Operand) (ho : op.op = .load ty x)
    (g : Nat) (t : TypeId) (cells : Array Value) (d : TypeDesc) (hx : a.eval x = .pointer (some ⟨g, 0, none⟩)) (hold : w.heap[g]? = some (.cells cells t (0, 0)))
    (hu : P.underlying ty = some d) (hd : (match d with | .struct _ | .array _ _ => true | _ => false) = true) (hi : (P.info? ty).map (·.size) = some cells.size)
    (h : wpList P ops Q rest (a.put op.dst (.agg cells)) w) : wpList P ops Q (op :: rest) a w :=
  wpList_step fun K hK => by
    rw [if_pos hw]
    exact wp_load_row ty x ho g hx t cells (0, 0) d hold hu hd hi (hK _ _ h)

theorem do_nil (w : World) (v : Array Value) : Calls Try.prog 11 #[.pointer none, .agg v] w fun e w' => e = .returned (.int .i64 16) ∧ Grow w w' := by
  go_enter Try.func11, Try.ntmps11
  go_wp2
  go_ret
  exact ⟨rfl, Grow.alloc _ _⟩
theorem cpuNil_walk (op a b c d most : Int) (k : BitVec 32) (w : World) :
    Calls Try.prog 7 #[.agg #[.int .i64 op, .int .i64 a, .int .i64 b, .int .i64 c, .int .i64 d, .int .u32 k.toNat], .int .i64 most] w fun e w' => e = .returned (.bool true) ∧ Below w.heap.size w w' := by
  have hX := heap_alloc2_old w (.cells #[.int .i64 op, .int .i64 a, .int .i64 b, .int .i64 c, .int .i64 d, .int .u32 k.toNat] 28) (.cells #[.int .i64 op, .int .i64 a, .int .i64 b, .int .i64 c, .int .i64 d, .int .u32 k.toNat] 28)
  have hG : Grow w ((w.alloc (.cells #[.int .i64 op, .int .i64 a, .int .i64 b, .int .i64 c, .int .i64 d, .int .u32 k.toNat] 28)).alloc (.cells #[.int .i64 op, .int .i64 a, .int .i64 b, .int .i64 c, .int .i64 d, .int .u32 k.toNat] 28)) := (Grow.alloc w _).trans (Grow.alloc _ _)
  go_enter Try.func7, Try.ntmps7
  go_wp2_with fail
  refine (run_nil _ _ _).mono ?_
  rintro e w' ⟨rfl, rfl⟩
  go_wp2_with fail
  generalize (w.alloc (.cells #[.int .i64 op, .int .i64 a, .int .i64 b, .int .i64 c, .int .i64 d, .int .u32 k.toNat] 28)).alloc (.cells #[.int .i64 op, .int .i64 a, .int .i64 b, .int .i64 c, .int .i64 d, .int .u32 k.toNat] 28) = w1 at hX hG ⊢
  refine (awake_any _).mono ?_
  rintro e w2 ⟨rfl, hg⟩
  replace hX := hg.at hX
  replace hG := hG.trans hg
  have HG := Lib.hid hG; clear hg hG
  have c0 := cell_block hX 0
  have c1 := cell_block hX 1
  have c2 := cell_block hX 2
  have c3 := cell_block hX 3
  have c4 := cell_block hX 4
  have c5 := cell_block hX 5
  clear hX
  go_wp2_with fail
  refine (do_nil _ _).mono ?_
  rintro e w3 ⟨rfl, hg⟩
  replace HG := Lib.hid (HG.out.trans hg)
  clear hg
  go_wp2
  go_ret
  exact ⟨rfl, HG.out⟩

set_option maxRecDepth 100000 in
set_option maxHeartbeats 1000000 in
theorem cpuDoes_great (at_ : Int) (R : Nat → BitVec 32) (A : Option Addr) (n cap : Nat) (op a b c d : Int) (k : BitVec 32) (w : World) (hgr : 300 < (n : Int) ∨ at_ < 0 ∨ 1099511627776 < at_) :
    Calls Try.prog 3 #[.agg (ctxCells at_ R (.slice A n cap)), .agg #[.int .i64 op, .int .i64 a, .int .i64 b, .int .i64 c, .int .i64 d, .int .u32 k.toNat]] w fun e w' => e = .returned (.bool true) ∧ Below w.heap.size w w' := by
  have hX := heap_alloc2_old w (.cells (ctxCells at_ R (.slice A n cap)) 26) (.cells #[.int .i64 op, .int .i64 a, .int .i64 b, .int .i64 c, .int .i64 d, .int .u32 k.toNat] 28)
  have hG : Grow w ((w.alloc (.cells (ctxCells at_ R (.slice A n cap)) 26)).alloc (.cells #[.int .i64 op, .int .i64 a, .int .i64 b, .int .i64 c, .int .i64 d, .int .u32 k.toNat] 28)) := (Grow.alloc w _).trans (Grow.alloc _ _)
  go_enter Try.func3, Try.ntmps3
  go_wp2_with fail
  generalize (w.alloc (.cells (ctxCells at_ R (.slice A n cap)) 26)).alloc (.cells #[.int .i64 op, .int .i64 a, .int .i64 b, .int .i64 c, .int .i64 d, .int .u32 k.toNat] 28) = w1 at hX hG ⊢
  refine (awake_any _).mono ?_
  rintro e w2 ⟨rfl, hg⟩
  replace hX := hg.at hX
  replace hG := hG.trans hg
  have HG := Lib.hid hG; clear hg hG
  have HX := Lib.hid hX; clear hX
  have HINF := Lib.hid (info26c at_ R (.slice A n cap))
  have HGR := Lib.hid hgr; clear hgr
  go_wp2_with (first | ((with_reducible refine wpList_load_blk_if ?_ 26 (.tmp 2) rfl w.heap.size 26 (ctxCells at_ R (.slice A n cap)) _ ?_ HX.out Try.underlying26 ?_ HINF.out ?_); (· rfl); (· rfl); (· rfl)))
  refine (great_yes _ at_ R A n cap HGR.out).mono ?_
  rintro e w3 ⟨rfl, hg⟩
  replace HG := Lib.hid (HG.out.trans hg)
  clear hg
  go_wp2_with fail
  refine (awake_any _).mono ?_
  rintro e w4 ⟨rfl, hg⟩
  replace HG := Lib.hid (HG.out.trans hg)
  clear hg
  go_wp2
  go_ret
  exact ⟨rfl, HG.out⟩
set_option maxRecDepth 100000 in
set_option maxHeartbeats 1000000 in
theorem cpuDoes_walk (at_ : Int) (R M : Nat → BitVec 32) (A : Option Addr) (n cap : Nat) (op a b c d : Int) (k : BitVec 32) (w : World) (hcap : (n : Int) ≤ cap) (hM : MemAt w A n M) (hn : (n : Int) ≤ 300) (h0 : 0 ≤ at_) (h1 : at_ ≤ 1099511627776) :
    Calls Try.prog 3 #[.agg (ctxCells at_ R (.slice A n cap)), .agg #[.int .i64 op, .int .i64 a, .int .i64 b, .int .i64 c, .int .i64 d, .int .u32 k.toNat]] w fun e w' => e = .returned (.bool true) ∧ Below w.heap.size w w' := by
  have hX := heap_alloc2_old w (.cells (ctxCells at_ R (.slice A n cap)) 26) (.cells #[.int .i64 op, .int .i64 a, .int .i64 b, .int .i64 c, .int .i64 d, .int .u32 k.toNat] 28)
  have hY := heap_alloc2_new w (.cells (ctxCells at_ R (.slice A n cap)) 26) (.cells #[.int .i64 op, .int .i64 a, .int .i64 b, .int .i64 c, .int .i64 d, .int .u32 k.toNat] 28)
  have hG : Grow w ((w.alloc (.cells (ctxCells at_ R (.slice A n cap)) 26)).alloc (.cells #[.int .i64 op, .int .i64 a, .int .i64 b, .int .i64 c, .int .i64 d, .int .u32 k.toNat] 28)) := (Grow.alloc w _).trans (Grow.alloc _ _)
  go_enter Try.func3, Try.ntmps3
  go_wp2_with fail
  generalize (w.alloc (.cells (ctxCells at_ R (.slice A n cap)) 26)).alloc (.cells #[.int .i64 op, .int .i64 a, .int .i64 b, .int .i64 c, .int .i64 d, .int .u32 k.toNat] 28) = w1 at hX hY hG ⊢
  refine (awake_any _).mono ?_
  rintro e w2 ⟨rfl, hg⟩
  replace hX := hg.at hX
  replace hY := hg.at hY
  replace hG := hG.trans hg
  have HG := Lib.hid hG; clear hg hG
  have HX := Lib.hid hX; clear hX
  have HY := Lib.hid hY; clear hY
  have HINF := Lib.hid (info26c at_ R (.slice A n cap))
  go_wp2_with (first | ((with_reducible refine wpList_load_blk_if ?_ 26 (.tmp 2) rfl w.heap.size 26 (ctxCells at_ R (.slice A n cap)) _ ?_ HX.out Try.underlying26 ?_ HINF.out ?_); (· rfl); (· rfl); (· rfl)))
  refine (great_no _ at_ R A n cap hn h0 h1).mono ?_
  rintro e w3 ⟨rfl, hg⟩
  replace HX := Lib.hid (hg.at HX.out)
  replace HY := Lib.hid (hg.at HY.out)
  replace HG := Lib.hid (HG.out.trans hg)
  clear hg
  go_wp2_with (first | ((with_reducible refine wpList_load_blk_if ?_ 26 (.tmp 2) rfl w.heap.size 26 (ctxCells at_ R (.slice A n cap)) _ ?_ HX.out Try.underlying26 ?_ HINF.out ?_); (· rfl); (· rfl); (· rfl)))
  refine (copy_new _ at_ R A n cap M hn hcap (hM.grow HG.out)).mono ?_
  rintro e w4 ⟨A1, cap1, rfl, hown, hcap1, hg, hold1⟩
  have HY0 := HY
  have HOLD1 := Lib.hid hold1; clear hold1
  have hs10_w4 : (#[.int .i64 0, .int .u32 0, .int .u32 0, .int .u32 0, .int .u32 0, .int .u32 0, .int .u32 0, .int .u32 0, .int .u32 0, .slice none 0 0] : Array Value).size = (ctxCells at_ R (.slice A1 n cap1)).size := by rw [ctxCells_size]; rfl
  have HN_w4 := Lib.hid (heapAt_alloc_new w4 (.cells #[.int .i64 0, .int .u32 0, .int .u32 0, .int .u32 0, .int .u32 0, .int .u32 0, .int .u32 0, .int .u32 0, .int .u32 0, .slice none 0 0] 26))
  have HS_w4 := Lib.hid hs10_w4
  have HI_w4 := Lib.hid (info26c at_ R (.slice A1 n cap1))
  have HO_w4 := Lib.hid (ctx_one at_ R (.slice A1 n cap1) rfl)
  clear hs10_w4
  go_wp2_with ((with_reducible refine wpList_store_blk rfl 26 (.tmp 5) (.tmp 17) rfl w4.heap.size 26 _ (ctxCells at_ R (.slice A1 n cap1)) ?kx ?ky HN_w4.out HS_w4.out HI_w4.out HO_w4.out ?kk))
  case kx => rfl
  case ky => rfl
  case kk =>
  intro w5 hb5 ho5
  clear HN_w4 HS_w4 HI_w4 HO_w4
  obtain ⟨hst5, hg2⟩ := st_made hown hg.size _ hb5 ho5

  replace HX := Lib.hid (hg2.at (hg.at HX.out))
  replace HY := Lib.hid (hg2.at (hg.at HY.out))
  replace HG := Lib.hid (HG.out.trans (hg.trans hg2))
  have HB := Lib.hid (show w.heap.size + 1 < w3.heap.size ∧ w3.heap.size ≤ w4.heap.size from ⟨heapAt_lt HY0.out, hg.size⟩)
  clear hg hg2 hb5 ho5 hown HY0
  have hS := hst5
  clear hst5
  have c0 := cell_block HY.out 0
  have c1 := cell_block HY.out 1
  have c2 := cell_block HY.out 2
  have c3 := cell_block HY.out 3
  have c4 := cell_block HY.out 4
  have c5 := cell_block HY.out 5
  go_wp2_with fail
  have h2e : at_ ≤ 2000000000000 := by omega
  refine (do_any _ w3.heap.size w4.heap.size n cap1 at_ R M A1 op a b c d k hn hcap1 h0 h2e hS).mono ?_
  generalize hs : stepP at_ R M n op a b c d k = s
  rintro e w6 ⟨rfl, hS6, hk⟩
  clear hS c0 c1 c2 c3 c4 c5
  have hX6 := hk.at (mine_old HB.out.2 HOLD1.out (by have := HB.out; omega)) HX.out
  have hY6 := hk.at (mine_old HB.out.2 HOLD1.out (by have := HB.out; omega)) HY.out
  have hG6 := kept_grow hk HG.out (Nat.le_of_lt (by have := HB.out; omega)) HB.out.2 HOLD1.out
  clear hk HX HY HG
  have HX := Lib.hid hX6; clear hX6
  have HY := Lib.hid hY6; clear hY6
  have HG := Lib.hid hG6; clear hG6
  have HS := Lib.hid hS6; clear hS6
  have c0 := cell_block HY.out 0
  have c1 := cell_block HY.out 1
  have c2 := cell_block HY.out 2
  have c3 := cell_block HY.out 3
  have c4 := cell_block HY.out 4
  have c5 := cell_block HY.out 5
  go_wp2_with (first | ((with_reducible refine wpList_load_blk_if ?_ 26 (.tmp 2) rfl w.heap.size 26 (ctxCells at_ R (.slice A n cap)) _ ?_ HX.out Try.underlying26 ?_ HINF.out ?_); (· rfl); (· rfl); (· rfl)))
  refine (doRef_any _ n cap at_ R M A op a b c d k hn hcap h0 h2e (hM.grow HG.out)).mono ?_
  rw [hs]
  rintro e w7 ⟨A2, cap2, rfl, ⟨hm2, _⟩, hcap2, hg⟩
  clear c0 c1 c2 c3 c4 c5
  have HM2 := Lib.hid hm2; clear hm2
  have hs10_w7 : (#[.int .i64 0, .int .u32 0, .int .u32 0, .int .u32 0, .int .u32 0, .int .u32 0, .int .u32 0, .int .u32 0, .int .u32 0, .slice none 0 0] : Array Value).size = (ctxCells s.at_ s.R (.slice A2 n cap2)).size := by rw [ctxCells_size]; rfl
  have HN_w7 := Lib.hid (heapAt_alloc_new w7 (.cells #[.int .i64 0, .int .u32 0, .int .u32 0, .int .u32 0, .int .u32 0, .int .u32 0, .int .u32 0, .int .u32 0, .int .u32 0, .slice none 0 0] 26))
  have HS_w7 := Lib.hid hs10_w7
  have HI_w7 := Lib.hid (info26c s.at_ s.R (.slice A2 n cap2))
  have HO_w7 := Lib.hid (ctx_one s.at_ s.R (.slice A2 n cap2) rfl)
  clear hs10_w7
  go_wp2_with ((with_reducible refine wpList_store_blk rfl 26 (.tmp 7) (.tmp 24) rfl w7.heap.size 26 _ (ctxCells s.at_ s.R (.slice A2 n cap2)) ?kx ?ky HN_w7.out HS_w7.out HI_w7.out HO_w7.out ?kk))
  case kx => rfl
  case ky => rfl
  case kk =>
  intro w8 hb8 ho8
  clear HN_w7 HS_w7 HI_w7 HO_w7
  have hg2 : Grow w7 w8 := (Grow.alloc w7 _).only ho8 (Nat.le_refl _)

  replace HX := Lib.hid (hg2.at (hg.at HX.out))
  replace HS := Lib.hid (HS.out.grow (hg.trans hg2))
  replace HG := Lib.hid (HG.out.trans (hg.trans hg2))
  replace HM2 := Lib.hid (HM2.out.grow hg2)
  clear hg hg2 ho8 HY
  have HINF1 := Lib.hid (info26c s.at_ s.R (.slice A1 n cap1))
  have HINF2 := Lib.hid (info26c s.at_ s.R (.slice A2 n cap2))
  have HS1 := Lib.hid (show w8.heap[w4.heap.size]? = some (.cells (ctxCells s.at_ s.R (.slice A1 n cap1)) 26 (0, 0)) from HS.out.1)
  have HS2 := Lib.hid hb8
  clear hb8
  go_wp2_with (first
    | ((with_reducible refine wpList_load_blk_if ?_ 26 (.tmp 5) rfl w4.heap.size 26 (ctxCells s.at_ s.R (.slice A1 n cap1)) _ ?_ HS1.out Try.underlying26 ?_ HINF1.out ?_); (· rfl); (· rfl); (· rfl))
    | ((with_reducible refine wpList_load_blk_if ?_ 26 (.tmp 7) rfl w7.heap.size 26 (ctxCells s.at_ s.R (.slice A2 n cap2)) _ ?_ HS2.out Try.underlying26 ?_ HINF2.out ?_); (· rfl); (· rfl); (· rfl)))
  refine (same_yes _ s.at_ s.R A1 A2 n cap1 cap2 s.M hn hcap1 hcap2 HS.out.2.1.at HM2.out).mono ?_
  rintro e w9 ⟨rfl, hg⟩
  replace HG := Lib.hid (HG.out.trans hg)
  clear hg
  go_wp2
  go_ret
  exact ⟨rfl, HG.out⟩
end Go.Proofs.Ytkjacmnocbdghaa
