/- The walks of great and Same. -/
import Derived.Test.YtkjacmnocbdghaaArr
import Derived.Deep.DeepCutAuto
namespace Go.Proofs.Ytkjacmnocbdghaa
open Go.RowKit
set_option linter.unusedVariables false
attribute [local irreducible] hasA hasB hasC hasD hasK bitsOf regP hasStr letter formP bad4 bad6 bad8 bad10 ctxCells regArr valW valE words upd

theorem great_no (w : World) (at_ : Int) (R : Nat → BitVec 32) (A : Option Addr) (n cap : Nat) (hn : (n : Int) ≤ 300) (h0 : 0 ≤ at_) (h1 : at_ ≤ 1099511627776) :
    Calls Try.prog 9 #[.agg (ctxCells at_ R (.slice A n cap))] w fun e w' => e = .returned (.bool false) ∧ Grow w w' := by
  have c0 := ctx_0 at_ R (.slice A n cap)
  have c9 := ctx_9 at_ R (.slice A n cap)
  have g1 : decide ((1099511627776 : Int) < at_) = false := by simp; omega
  have g1' : ¬ ((1099511627776 : Int) < at_) := by omega
  clear h1
  go_enter Try.func9, Try.ntmps9
  go_wp2
  go_ret
  exact ⟨ret_bool (by simp; omega), Grow.alloc _ _⟩
theorem great_yes (w : World) (at_ : Int) (R : Nat → BitVec 32) (A : Option Addr) (n cap : Nat) (h : 300 < (n : Int) ∨ at_ < 0 ∨ 1099511627776 < at_) :
    Calls Try.prog 9 #[.agg (ctxCells at_ R (.slice A n cap))] w fun e w' => e = .returned (.bool true) ∧ Grow w w' := by
  have c0 := ctx_0 at_ R (.slice A n cap)
  have c9 := ctx_9 at_ R (.slice A n cap)
  by_cases h1 : 300 < (n : Int)
  · clear h
    go_enter Try.func9, Try.ntmps9
    go_wp2
    go_ret
    exact ⟨rfl, Grow.alloc _ _⟩
  by_cases h2 : at_ < 0
  · clear h
    go_enter Try.func9, Try.ntmps9
    go_wp2
    go_ret
    exact ⟨rfl, Grow.alloc _ _⟩
  · have h3 : 1099511627776 < at_ := by omega
    clear h
    go_enter Try.func9, Try.ntmps9
    go_wp2
    go_ret
    exact ⟨rfl, Grow.alloc _ _⟩
set_option maxHeartbeats 1000000 in
set_option maxRecDepth 100000 in
/-- Two contexts that are the same. -/
theorem same_yes (w : World) (at_ : Int) (R : Nat → BitVec 32) (A1 A2 : Option Addr) (n c1 c2 : Nat) (M : Nat → BitVec 32) (hn : (n : Int) ≤ 300) (hc1 : (n : Int) ≤ c1) (hc2 : (n : Int) ≤ c2) (hM1 : MemAt w A1 n M) (hM2 : MemAt w A2 n M) :
    Calls Try.prog 13 #[.agg (ctxCells at_ R (.slice A1 n c1)), .agg (ctxCells at_ R (.slice A2 n c2))] w fun e w' => e = .returned (.bool true) ∧ Grow w w' := by
  have hG : Grow w ((w.alloc (.cells (ctxCells at_ R (.slice A1 n c1)) 26)).alloc (.cells (ctxCells at_ R (.slice A2 n c2)) 26)) := (Grow.alloc w _).trans (Grow.alloc _ _)
  have hX : CtxAt ((w.alloc (.cells (ctxCells at_ R (.slice A1 n c1)) 26)).alloc (.cells (ctxCells at_ R (.slice A2 n c2)) 26)) w.heap.size at_ R (.slice A1 n c1) := heap_alloc2_old w _ _
  have hY : CtxAt ((w.alloc (.cells (ctxCells at_ R (.slice A1 n c1)) 26)).alloc (.cells (ctxCells at_ R (.slice A2 n c2)) 26)) (w.heap.size + 1) at_ R (.slice A2 n c2) := heap_alloc2_new w _ _
  go_enter Try.func13, Try.ntmps13
  go_upto_region 1 with fail
  generalize (w.alloc (.cells (ctxCells at_ R (.slice A1 n c1)) 26)).alloc (.cells (ctxCells at_ R (.slice A2 n c2)) 26) = w1 at hG hX hY ⊢
  have H1 := Lib.hid (hM1.grow hG)
  have H2 := Lib.hid (hM2.grow hG)
  have HG := Lib.hid hG
  clear hG
  have x0 := hX.c0
  have x9 := hX.c9
  have y0 := hY.c0
  have y9 := hY.c9
  have rx0 := hX.reg 0 (by omega)
  have rx1 := hX.reg 1 (by omega)
  have rx2 := hX.reg 2 (by omega)
  have rx3 := hX.reg 3 (by omega)
  have rx4 := hX.reg 4 (by omega)
  have rx5 := hX.reg 5 (by omega)
  have rx6 := hX.reg 6 (by omega)
  have rx7 := hX.reg 7 (by omega)
  have ry0 := hY.reg 0 (by omega)
  have ry1 := hY.reg 1 (by omega)
  have ry2 := hY.reg 2 (by omega)
  have ry3 := hY.reg 3 (by omega)
  have ry4 := hY.reg 4 (by omega)
  have ry5 := hY.reg 5 (by omega)
  have ry6 := hY.reg 6 (by omega)
  have ry7 := hY.reg 7 (by omega)
  have hneq := regs_same (#[.int .u32 (R 0).toNat, .int .u32 (R 1).toNat, .int .u32 (R 2).toNat, .int .u32 (R 3).toNat, .int .u32 (R 4).toNat, .int .u32 (R 5).toNat, .int .u32 (R 6).toNat, .int .u32 (R 7).toNat] : Array Value) (fun i hi => by
    match i, hi with
    | 0, _ => exact ⟨_, rfl⟩
    | 1, _ => exact ⟨_, rfl⟩
    | 2, _ => exact ⟨_, rfl⟩
    | 3, _ => exact ⟨_, rfl⟩
    | 4, _ => exact ⟨_, rfl⟩
    | 5, _ => exact ⟨_, rfl⟩
    | 6, _ => exact ⟨_, rfl⟩
    | 7, _ => exact ⟨_, rfl⟩
    | n + 8, h => omega)
  have HX := Lib.hid hX
  have HY := Lib.hid hY
  clear hX hY
  go_upto_region 3 with fail
  clear hneq x0 y0 x9 y9 rx0 rx1 rx2 rx3 rx4 rx5 rx6 rx7 ry0 ry1 ry2 ry3 ry4 ry5 ry6 ry7
  generalize w.heap.size = b at HX HY ⊢
  go_wp2_with fail
  go_loopw [5] (fun i wr => ∃ k : Nat, k ≤ n ∧ i = .int .i64 k ∧ Grow w1 wr) (fun i _ => n - (intOf i).toNat)
  case atStart => exact ⟨0, by omega, rfl, Grow.refl _⟩
  case round =>
    obtain ⟨k, hk, rfl, hg⟩ := hrel
    have HGr := Lib.hid hg; clear hg
    have x9 := (HX.out.grow HGr.out).c9
    have y9 := (HY.out.grow HGr.out).c9
    by_cases hlt : k < n
    · obtain ⟨a1, hA1, hm1⟩ := (H1.out.grow HGr.out) (by omega)
      obtain ⟨a2, hA2, hm2⟩ := (H2.out.grow HGr.out) (by omega)
      have m1 := hm1 k hlt
      have m2 := hm2 k hlt
      rw [hA1] at x9
      rw [hA2] at y9
      clear hm1 hm2 hA1 hA2
      have k0 : (0 : Int) ≤ (k : Int) := by omega
      have kn : (k : Int) < (n : Int) := by omega
      go_wp2_with fail
      go_quiet (fail)
      have HG2 := Lib.hid (HGr.out.trans (Grow.drewN wr nq))
      go_wp2_with fail
      go_roundw
      case rel => exact ⟨k + 1, by omega, by go_num, HG2.out⟩
      case measure => simp [intOf]; omega
    · go_wp2
      go_ret
      exact ⟨rfl, HG.out.trans HGr.out⟩
end Go.Proofs.Ytkjacmnocbdghaa
