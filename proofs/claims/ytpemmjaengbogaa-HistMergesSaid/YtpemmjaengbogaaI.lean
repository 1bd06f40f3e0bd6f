/- The walks of awake and HistNil. -/
import Derived.Test.YtpemmjaengbogaaH
namespace Go.Proofs.Ytpemmjaengbogaa
open Go.RowKit
set_option linter.unusedVariables false
def Bd0 : Nat → Nat := fun i => if i = 0 then 1 else 10
def Bd1 : Nat → Nat := fun _ => 1
def V0 : Nat → Nat := fun i => if i = 0 then 0 else if i = 1 then 1 else if i = 2 then 2 else 11
def K0 : Nat → Nat := fun i => if i = 0 then 2 else 1
theorem bd0_asc : Asc Bd0 2 ∧ 2 ≤ 32 := ⟨fun i hi => by have : i = 0 := by omega
                                                        subst this; decide, by omega⟩
theorem bd1_asc : ¬ (Asc Bd1 2 ∧ 2 ≤ 32) := fun h => by have := h.1 0 (by omega); exact absurd this (by decide)
theorem v0_lt (i : Nat) : V0 i < 18446744073709551616 := by unfold V0; split <;> (try split) <;> (try split) <;> omega
theorem cum01 : cumP (cntP Bd0 2 V0 4) 1 = 2 := by decide +kernel
theorem cum02 : cumP (cntP Bd0 2 V0 4) 2 = 3 := by decide +kernel
theorem top04 : topP V0 4 = 11 := by decide +kernel
theorem sum04 : sumP V0 4 = 14 := by decide +kernel
theorem cnt04 (j : Nat) (hj : j < 3) : cntP Bd0 2 V0 4 j = K0 j := by
  match j, hj with
  | 0, _ => decide +kernel
  | 1, _ => decide +kernel
  | 2, _ => decide +kernel
attribute [local irreducible] whereP sumP satP cntArr leastN topN cntP leastP topP cumP cntLe
theorem part12 {r : Nat} (h : PartR (fun i => 4 * 1 ≤ cumP (cntP Bd0 2 V0 4) (i + 1) * 2) Bd0 2 (topP V0 4) r) : r = 1 :=
  h.unique (.inl ⟨0, by omega, (by rw [cum01]; omega), fun j hj => absurd hj (Nat.not_lt_zero _), rfl⟩) (fun _ _ => Iff.rfl)
theorem part34 {r : Nat} (h : PartR (fun i => 4 * 3 ≤ cumP (cntP Bd0 2 V0 4) (i + 1) * 4) Bd0 2 (topP V0 4) r) : r = 10 :=
  h.unique (.inl ⟨1, by omega, (by rw [cum02]; omega), fun j hj => by have : j = 0 := by omega
                                                                      subst this; rw [cum01]; omega, rfl⟩) (fun _ _ => Iff.rfl)
theorem part11 {r : Nat} (h : PartR (fun i => 4 * 1 ≤ cumP (cntP Bd0 2 V0 4) (i + 1) * 1) Bd0 2 (topP V0 4) r) : r = 11 := by
  have := h.unique (.inr ⟨fun j hj => by
    have : j = 0 ∨ j = 1 := by omega
    rcases this with rfl | rfl
    · rw [cum01]; omega
    · rw [cum02]; omega, rfl⟩) (fun _ _ => Iff.rfl)
  rw [this, top04]
theorem lit2 (w : World) (a b : Nat) (M : Nat → Nat) (h0 : M 0 = a) (h1 : M 1 = b) : MemAt (w.alloc (.cells #[.int .u64 (a : Int), .int .u64 (b : Int)] 28)) (some ⟨w.heap.size, 0, none⟩) 2 M := fun _ => ⟨_, rfl, fun j hj => by
  rw [add_zero_block, cell_block (heapAt_alloc_new _ _)]
  match j, hj with
  | 0, _ => rw [h0]; rfl
  | 1, _ => rw [h1]; rfl⟩
theorem lit3 (w : World) (a b c : Nat) (M : Nat → Nat) (h0 : M 0 = a) (h1 : M 1 = b) (h2 : M 2 = c) : MemAt (w.alloc (.cells #[.int .u64 (a : Int), .int .u64 (b : Int), .int .u64 (c : Int)] 28)) (some ⟨w.heap.size, 0, none⟩) 3 M := fun _ => ⟨_, rfl, fun j hj => by
  rw [add_zero_block, cell_block (heapAt_alloc_new _ _)]
  match j, hj with
  | 0, _ => rw [h0]; rfl
  | 1, _ => rw [h1]; rfl
  | 2, _ => rw [h2]; rfl⟩
theorem lit4 (w : World) (a b c d : Nat) (M : Nat → Nat) (h0 : M 0 = a) (h1 : M 1 = b) (h2 : M 2 = c) (h3 : M 3 = d) : MemAt (w.alloc (.cells #[.int .u64 (a : Int), .int .u64 (b : Int), .int .u64 (c : Int), .int .u64 (d : Int)] 28)) (some ⟨w.heap.size, 0, none⟩) 4 M := fun _ => ⟨_, rfl, fun j hj => by
  rw [add_zero_block, cell_block (heapAt_alloc_new _ _)]
  match j, hj with
  | 0, _ => rw [h0]; rfl
  | 1, _ => rw [h1]; rfl
  | 2, _ => rw [h2]; rfl
  | 3, _ => rw [h3]; rfl⟩
theorem cnt_lt (Bd : Nat → Nat) (nb : Nat) (V : Nat → Nat) (ln : Nat) (h : ln < 10000) (k : Nat) : cumP (cntP Bd nb V ln) k < 1000000 := by have := cum_le Bd nb V ln k; omega
set_option maxHeartbeats 1000000 in
set_option maxRecDepth 100000 in
theorem awake_any (w : World) : Calls Try.prog 9 #[] w fun e w' => e = .returned (.bool true) ∧ Grow w w' := by
  have m1 := (lit2 w 1 10 Bd0 rfl rfl).grow (Grow.alloc _ (.cells #[.int .u64 0, .int .u64 1, .int .u64 2, .int .u64 11] 28))
  have m2 := lit4 (w.alloc (.cells #[.int .u64 1, .int .u64 10] 28)) 0 1 2 11 V0 rfl rfl rfl rfl
  have hG : Grow w ((w.alloc (.cells #[.int .u64 1, .int .u64 10] 28)).alloc (.cells #[.int .u64 0, .int .u64 1, .int .u64 2, .int .u64 11] 28)) := (Grow.alloc _ _).trans (Grow.alloc _ _)
  have es : (w.alloc (.cells #[.int .u64 1, .int .u64 10] 28)).heap.size = w.heap.size + 1 := by simp
  rw [es] at m2
  go_enter Try.func9, Try.ntmps9
  go_wp2_with fail
  have M1 := Lib.hid m1; clear m1
  have M2 := Lib.hid m2; clear m2
  have HG := Lib.hid hG; clear hG es
  refine (of_any _ _ _ 2 2 4 4 Bd0 V0 (by omega) (by omega) (by omega) (by omega) M1.out M2.out v0_lt).mono ?_
  rintro e w1 ⟨hg, ⟨hno, _⟩ | ⟨_, h, A, cap, c, rfl, hst⟩⟩
  · exact absurd bd0_asc hno
  have HH := Lib.hid hst; clear hst
  replace HG := Lib.hid (HG.out.trans hg); clear hg M1 M2
  go_wp2_with fail
  refine (part_any w1 _ h A 2 cap Bd0 c _ 4 _ _ _ 1 2 HH.out (by omega) (by omega) (by omega) (by omega) (by omega) (by omega) (fun k _ => cnt_lt Bd0 2 V0 4 (by omega) k)).mono ?_
  rintro e w2 ⟨r, rfl, hr, rfl⟩
  obtain rfl := part12 hr
  clear hr
  go_wp2_with fail
  refine (part_any w2 _ h A 2 cap Bd0 c _ 4 _ _ _ 3 4 HH.out (by omega) (by omega) (by omega) (by omega) (by omega) (by omega) (fun k _ => cnt_lt Bd0 2 V0 4 (by omega) k)).mono ?_
  rintro e w3 ⟨r, rfl, hr, rfl⟩
  obtain rfl := part34 hr
  clear hr
  go_wp2_with fail
  refine (part_any w3 _ h A 2 cap Bd0 c _ 4 _ _ _ 1 1 HH.out (by omega) (by omega) (by omega) (by omega) (by omega) (by omega) (fun k _ => cnt_lt Bd0 2 V0 4 (by omega) k)).mono ?_
  rintro e w4 ⟨r, rfl, hr, rfl⟩
  obtain rfl := part11 hr
  clear hr
  go_wp2_with fail
  refine (part_no w4 _ h A 2 cap Bd0 c _ 4 _ _ _ 0 1 HH.out (.inr (.inl rfl))).mono ?_
  rintro e w5 ⟨rfl, rfl⟩
  go_wp2_with fail
  have M3 := Lib.hid (lit2 w5 1 1 Bd1 rfl rfl)
  have hga := Grow.alloc w5 (.cells #[.int .u64 1, .int .u64 1] 28)
  refine (new_any _ _ 2 2 Bd1 (by omega) (by omega) (fun h => by cases h) M3.out).mono ?_
  rintro e w6 ⟨hg, hcase⟩
  obtain rfl : e = .returned (.tuple #[.pointer none, .int .i64 1]) := by
    rcases hcase with ⟨_, h⟩ | ⟨hy, _⟩
    · exact h
    · exact absurd hy bd1_asc
  clear hcase
  replace HH := Lib.hid (HSt.grow HH.out (hga.trans hg))
  replace HG := Lib.hid (HG.out.trans (hga.trans hg)); clear hg hga M3
  go_wp2_with fail
  refine (counts_any w6 _ h A 2 cap Bd0 c _ 4 _ _ _ HH.out (by omega)).mono ?_
  rintro e w7 ⟨A7, c7, rfl, hm7, hc7, hg⟩
  replace HH := Lib.hid (HSt.grow HH.out hg)
  replace HG := Lib.hid (HG.out.trans hg)
  have M7 := Lib.hid hm7; clear hm7 hg
  go_wp2_with fail
  have M8 := Lib.hid (lit3 w7 2 1 1 K0 rfl rfl rfl)
  have hga := Grow.alloc w7 (.cells #[.int .u64 2, .int .u64 1, .int .u64 1] 28)
  refine (same_any _ A7 _ 3 c7 3 K0 (by omega) (by omega) (by omega) ((M7.out.at.grow hga).congr (fun j hj => (cnt04 j hj).symm)) M8.out).mono ?_
  rintro e w8 ⟨rfl, hg⟩
  replace HH := Lib.hid (HSt.grow HH.out (hga.trans hg))
  replace HG := Lib.hid (HG.out.trans (hga.trans hg)); clear hg hga M7 M8 hc7
  go_wp2_with fail
  refine (all_any w8 _ h A 2 cap Bd0 c _ 4 _ _ _ HH.out).mono ?_
  rintro e w9 ⟨rfl, rfl⟩
  go_wp2_with fail
  have hsum := sum_any w9 _ h A 2 cap Bd0 c _ 4 _ _ _ HH.out
  rw [sum04] at hsum
  refine hsum.mono ?_
  rintro e w10 ⟨rfl, rfl⟩
  clear hsum
  go_wp2
  go_ret
  exact ⟨rfl, HG.out⟩
theorem merge_nil (w : World) : Calls Try.prog 24 #[.pointer none, .pointer none] w fun e w' => e = .returned (.int .i64 16) ∧ w' = w := by
  go_enter Try.func24, Try.ntmps24
  go_wp2
  go_ret
  exact ⟨rfl, rfl⟩
set_option maxRecDepth 100000 in
theorem histNil_walk (v : Nat) (w : World) : Calls Try.prog 8 #[.int .u64 v] w fun e w' => e = .returned (.bool true) ∧ Below w.heap.size w w' := by
  go_enter Try.func8, Try.ntmps8
  go_wp2_with fail
  refine (ends_nil _).mono ?_
  rintro e w' ⟨rfl, rfl⟩
  go_wp2_with fail
  refine (part_nil _ v v).mono ?_
  rintro e w2 ⟨rfl, rfl⟩
  go_wp2_with fail
  refine (awake_any _).mono ?_
  rintro e w3 ⟨rfl, hg⟩
  have HG := Lib.hid hg; clear hg
  go_wp2_with fail
  refine (where_nil _ v).mono ?_
  rintro e w4 ⟨rfl, rfl⟩
  go_wp2_with fail
  refine (add_nil _ v).mono ?_
  rintro e w5 ⟨rfl, rfl⟩
  go_wp2_with fail
  refine (counts_nil _).mono ?_
  rintro e w6 ⟨rfl, rfl⟩
  go_wp2_with fail
  refine (all_nil _).mono ?_
  rintro e w7 ⟨rfl, rfl⟩
  go_wp2_with fail
  refine (sum_nil _).mono ?_
  rintro e w8 ⟨rfl, rfl⟩
  go_wp2_with fail
  refine (merge_nil _).mono ?_
  rintro e w9 ⟨rfl, rfl⟩
  go_wp2
  go_ret
  exact ⟨rfl, HG.out⟩
end Go.Proofs.Ytpemmjaengbogaa
