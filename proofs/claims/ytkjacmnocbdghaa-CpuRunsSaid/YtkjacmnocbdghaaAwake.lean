/- The walk of awake. -/
import Derived.Test.YtkjacmnocbdghaaSame
namespace Go.Proofs.Ytkjacmnocbdghaa
open Go.RowKit
set_option linter.unusedVariables false
def R0 : Nat → BitVec 32 := fun i => if i = 1 then 4294967295#32 else if i = 2 then 2#32 else 0#32
def M0 : Nat → BitVec 32 := fun i => if i = 0 then 5#32 else 6#32
def s0 : CS := ⟨0, 0, R0, M0⟩
def s1 : CS := stepP s0.at_ s0.R s0.M 2 3 0 1 2 0 0#32
def s2 : CS := stepP s1.at_ s1.R s1.M 2 6 3 1 4 0 0#32
def s3 : CS := stepP s2.at_ s2.R s2.M 2 15 3 2 0 0 0#32
def s4 : CS := stepP s3.at_ s3.R s3.M 2 15 3 0 0 0 0#32
theorem cells0 (v : Value) : (#[Value.int .i64 0, .int .u32 0, .int .u32 4294967295, .int .u32 2, .int .u32 0, .int .u32 0, .int .u32 0, .int .u32 0, .int .u32 0, v] : Array Value) = ctxCells s0.at_ s0.R v := by
  unfold ctxCells regArr s0 R0
  simp
theorem v1_err : s1.err = 0 := by decide +kernel
theorem v1_at : s1.at_ = 1 := by decide +kernel
theorem v2_err : s2.err = 13 := by decide +kernel
theorem v2_at : s2.at_ = 1 := by decide +kernel
theorem v3_err : s3.err = 12 := by decide +kernel
theorem v3_at : s3.at_ = 1 := by decide +kernel
theorem v4_err : s4.err = 0 := by decide +kernel
theorem v4_at : s4.at_ = 2 := by decide +kernel
theorem v4_r0 : (s4.R 0).toNat = 1 := by decide +kernel
theorem v4_r3 : (s4.R 3).toNat = 6 := by decide +kernel
attribute [local irreducible] hasA hasB hasC hasD hasK bitsOf regP hasStr letter formP bad4 bad6 bad8 bad10 ctxCells regArr valW valE words upd stepP
theorem a_do1 (w : World) (B g m : Nat) (h : St w B g s0.at_ s0.R (some ⟨m, 0, none⟩) 2 2 s0.M) : Calls Try.prog 11 #[.pointer (some ⟨g, 0, none⟩), .agg #[.int .i64 3, .int .i64 0, .int .i64 1, .int .i64 2, .int .i64 0, .int .u32 0]] w fun e w' => e = .returned (.int .i64 0) ∧ St w' B g s1.at_ s1.R (some ⟨m, 0, none⟩) 2 2 s1.M ∧ Kept (Mine g (some ⟨m, 0, none⟩)) w w' := by
  have := do_any w B g 2 2 s0.at_ s0.R s0.M (some ⟨m, 0, none⟩) 3 0 1 2 0 0#32 (by omega) (by omega) (by decide +kernel) (by decide +kernel) h
  exact this.mono fun e w' ⟨he, hs⟩ => ⟨he.trans (congrArg (fun x => Ending.returned (.int .i64 x)) v1_err), hs⟩
theorem a_do2 (w : World) (B g m : Nat) (h : St w B g s1.at_ s1.R (some ⟨m, 0, none⟩) 2 2 s1.M) : Calls Try.prog 11 #[.pointer (some ⟨g, 0, none⟩), .agg #[.int .i64 6, .int .i64 3, .int .i64 1, .int .i64 4, .int .i64 0, .int .u32 0]] w fun e w' => e = .returned (.int .i64 13) ∧ St w' B g s2.at_ s2.R (some ⟨m, 0, none⟩) 2 2 s2.M ∧ Kept (Mine g (some ⟨m, 0, none⟩)) w w' := by
  have := do_any w B g 2 2 s1.at_ s1.R s1.M (some ⟨m, 0, none⟩) 6 3 1 4 0 0#32 (by omega) (by omega) (by decide +kernel) (by decide +kernel) h
  exact this.mono fun e w' ⟨he, hs⟩ => ⟨he.trans (congrArg (fun x => Ending.returned (.int .i64 x)) v2_err), hs⟩
theorem a_do3 (w : World) (B g m : Nat) (h : St w B g s2.at_ s2.R (some ⟨m, 0, none⟩) 2 2 s2.M) : Calls Try.prog 11 #[.pointer (some ⟨g, 0, none⟩), .agg #[.int .i64 15, .int .i64 3, .int .i64 2, .int .i64 0, .int .i64 0, .int .u32 0]] w fun e w' => e = .returned (.int .i64 12) ∧ St w' B g s3.at_ s3.R (some ⟨m, 0, none⟩) 2 2 s3.M ∧ Kept (Mine g (some ⟨m, 0, none⟩)) w w' := by
  have := do_any w B g 2 2 s2.at_ s2.R s2.M (some ⟨m, 0, none⟩) 15 3 2 0 0 0#32 (by omega) (by omega) (by decide +kernel) (by decide +kernel) h
  exact this.mono fun e w' ⟨he, hs⟩ => ⟨he.trans (congrArg (fun x => Ending.returned (.int .i64 x)) v3_err), hs⟩
theorem a_do4 (w : World) (B g m : Nat) (h : St w B g s3.at_ s3.R (some ⟨m, 0, none⟩) 2 2 s3.M) : Calls Try.prog 11 #[.pointer (some ⟨g, 0, none⟩), .agg #[.int .i64 15, .int .i64 3, .int .i64 0, .int .i64 0, .int .i64 0, .int .u32 0]] w fun e w' => e = .returned (.int .i64 0) ∧ St w' B g s4.at_ s4.R (some ⟨m, 0, none⟩) 2 2 s4.M ∧ Kept (Mine g (some ⟨m, 0, none⟩)) w w' := by
  have := do_any w B g 2 2 s3.at_ s3.R s3.M (some ⟨m, 0, none⟩) 15 3 0 0 0 0#32 (by omega) (by omega) (by decide +kernel) (by decide +kernel) h
  exact this.mono fun e w' ⟨he, hs⟩ => ⟨he.trans (congrArg (fun x => Ending.returned (.int .i64 x)) v4_err), hs⟩
attribute [local irreducible] s0 s1 s2 s3 s4
set_option maxRecDepth 100000 in
theorem awake_any (w : World) : Calls Try.prog 8 #[] w fun e w' => e = .returned (.bool true) ∧ Grow w w' := by
  go_enter Try.func8, Try.ntmps8
  go_wp2_with fail
  rw [cells0]
  have hG : Grow w ((w.alloc (.cells #[.int .u32 5, .int .u32 6] 22)).alloc (.cells (ctxCells s0.at_ s0.R (.slice (some ⟨w.heap.size, 0, none⟩) 2 2)) 26)) := (Grow.alloc w _).trans (Grow.alloc _ _)
  have hX := heap_alloc2_old w (.cells #[.int .u32 5, .int .u32 6] 22) (.cells (ctxCells s0.at_ s0.R (.slice (some ⟨w.heap.size, 0, none⟩) 2 2)) 26)
  have hY := heap_alloc2_new w (.cells #[.int .u32 5, .int .u32 6] 22) (.cells (ctxCells s0.at_ s0.R (.slice (some ⟨w.heap.size, 0, none⟩) 2 2)) 26)
  generalize (w.alloc (.cells #[.int .u32 5, .int .u32 6] 22)).alloc (.cells (ctxCells s0.at_ s0.R (.slice (some ⟨w.heap.size, 0, none⟩) 2 2)) 26) = w0 at hG hX hY ⊢
  have hm0 : s0.M = M0 := by unfold s0; rfl
  have hS : St w0 w.heap.size (w.heap.size + 1) s0.at_ s0.R (some ⟨w.heap.size, 0, none⟩) 2 2 s0.M := ⟨hY, fun _ => ⟨_, rfl, Nat.le_refl _, fun j hj => by
    rw [hm0, cell_block hX]
    match j, hj with
    | 0, _ => rfl
    | 1, _ => rfl, fun j => free_block hX j⟩, by omega, fun _ e => by injection e with e; injection e with e; omega⟩
  obtain ⟨B, hB⟩ : ∃ B, B = w.heap.size := ⟨_, rfl⟩
  have hBw : B ≤ w0.heap.size := by have := hG.size; omega
  rw [← hB] at hS ⊢
  have HB := Lib.hid hB
  clear hX hY hm0 hB
  have HK : Hid (Kept (Mine (B + 1) (some ⟨B, 0, none⟩)) w0 w0) := Lib.hid (Kept.refl _ _)
  have HG := Lib.hid hG
  clear hG
  refine (a_do1 _ B (B + 1) B hS).mono ?_
  rintro e w1 ⟨rfl, hS1, hk⟩
  replace HK := Lib.hid (HK.out.trans hk)
  clear hS hk
  have hS := hS1
  clear hS1
  go_wp2_with fail
  refine (a_do2 _ B (B + 1) B hS).mono ?_
  rintro e w2 ⟨rfl, hS2, hk⟩
  replace HK := Lib.hid (HK.out.trans hk)
  clear hS hk
  have hS := hS2
  clear hS2
  go_wp2_with fail
  refine (a_do3 _ B (B + 1) B hS).mono ?_
  rintro e w3 ⟨rfl, hS3, hk⟩
  replace HK := Lib.hid (HK.out.trans hk)
  clear hS hk
  have hS := hS3
  clear hS3
  go_wp2_with fail
  refine (a_do4 _ B (B + 1) B hS).mono ?_
  rintro e w4 ⟨rfl, hS4, hk⟩
  replace HK := Lib.hid (HK.out.trans hk)
  clear hS hk
  have hS := hS4
  clear hS4
  have c0 := hS.1.c0
  have r0 := hS.1.reg 0 (by omega)
  have r3 := hS.1.reg 3 (by omega)
  rw [v4_at] at c0
  rw [v4_r0] at r0
  rw [v4_r3] at r3
  clear hS
  go_wp2
  go_ret
  refine ⟨rfl, ?_⟩
  have hb := HK.out.below (B := w.heap.size) (by rw [← HB.out]; exact hBw) (fun j hj => by
    have hBe := HB.out
    rcases hj with h | ⟨m, h, h2⟩
    · omega
    · have e : B = m := by injection h with h; injection h
      omega)
  exact Below.trans HG.out hb
end Go.Proofs.Ytkjacmnocbdghaa
