/- The walks of move and Do. -/
import Derived.Test.YtkjacmnocbdghaaStep
namespace Go.Proofs.Ytkjacmnocbdghaa
open Go.RowKit
set_option linter.unusedVariables false
attribute [local irreducible] hasA hasB hasC hasD hasK bitsOf regP hasStr letter formP bad4 bad6 bad8 bad10 ctxCells regArr valW valE words upd

set_option maxHeartbeats 1000000 in
set_option maxRecDepth 100000 in
theorem do_set (w : World) (B g n cap : Nat) (at_ : Int) (R M : Nat → BitVec 32) (A : Option Addr) (a b c : Nat) (d : Int) (k : BitVec 32) (hf : formP 1 a b c d k.toNat = 0) (hat0 : 0 ≤ at_) (hat1 : at_ ≤ 2000000000000) (ha : a < 8) (hb : b < 8) (hc : c < 8) (hst : St w B g at_ R A n cap M) :
    Calls Try.prog 11 #[.pointer (some ⟨g, 0, none⟩), .agg #[.int .i64 1, .int .i64 a, .int .i64 b, .int .i64 c, .int .i64 d, .int .u32 k.toNat]] w fun e w' => e = .returned (.int .i64 0) ∧ St w' B g (at_ + 1) (upd R a k) A n cap M ∧ Kept (Mine g A) w w' := by
  have hai : (a : Int) < 8 := by omega
  have hbi : (b : Int) < 8 := by omega
  have hci : (c : Int) < 8 := by omega
  have hG := Grow.alloc w (.cells #[.int .i64 1, .int .i64 a, .int .i64 b, .int .i64 c, .int .i64 d, .int .u32 k.toNat] 28)
  have hO := heapAt_alloc_new w (.cells #[.int .i64 1, .int .i64 a, .int .i64 b, .int .i64 c, .int .i64 d, .int .u32 k.toNat] 28)
  have HF := Lib.hid hf; clear hf
  have ho : w.heap.size < (w.alloc (.cells #[.int .i64 1, .int .i64 a, .int .i64 b, .int .i64 c, .int .i64 d, .int .u32 k.toNat] 28)).heap.size := heapAt_lt hO
  go_enter Try.func11, Try.ntmps11
  go_wp2_with fail
  generalize w.alloc (.cells #[.int .i64 1, .int .i64 a, .int .i64 b, .int .i64 c, .int .i64 d, .int .u32 k.toNat] 28) = w1 at hG hO ho ⊢
  generalize w.heap.size = z at hO ho ⊢
  refine (form_any 1 a b c d k.toNat _).mono ?_
  rw [HF.out]
  rintro e w2 ⟨rfl, hg⟩
  have hO := hg.at hO
  have hK := (Kept.refl (Mine g A) w).grow (hG.trans hg)
  have hS := hst.grow (hG.trans hg)
  clear hG hg ho hst
  have d0 := cell_block hO 0
  have d1 := cell_block hO 1
  have d2 := cell_block hO 2
  have d3 := cell_block hO 3
  have d4 := cell_block hO 4
  have d5 := cell_block hO 5
  simp at d0 d1 d2 d3 d4 d5
  clear hO
  have cA := hS.1.reg a ha
  have fA := hS.1.free (1 + a)
  go_wp2_with fail
  go_still_tail 8, (by kernel_rfl)
  change wpList _ _ _ _ _ w2.drew
  have hS3 := hS.grow (Grow.drewN w2 1)
  have hK3 := hK.drewN 1
  change St w2.drew _ _ _ _ _ _ _ _ at hS3
  change Kept _ _ w2.drew at hK3
  generalize w2.drew = w3 at hS3 hK3 ⊢
  clear d0 d1 d2 d3 d4 d5 cA fA hS hK
  have cA := hS3.1.reg a ha
  have fA := hS3.1.free (1 + a)
  have hS4 := hS3.setR a k ha
  have hK4 := hK3.set (b := g) (.inl rfl) (1 + a) (.int .u32 k.toNat)
  have c0 := hS4.1.c0
  have f0 := hS4.1.free 0
  have HS5 := Lib.hid (hS4.set0 (at_ + 1))
  have HK5 := Lib.hid (hK4.set (b := g) (.inl rfl) 0 (.int .i64 (at_ + 1)))
  clear hS3 hK3 hS4 hK4
  go_wp2
  go_ret
  exact ⟨rfl, HS5.out, HK5.out⟩

set_option maxHeartbeats 1000000 in
set_option maxRecDepth 100000 in
theorem do_mov (w : World) (B g n cap : Nat) (at_ : Int) (R M : Nat → BitVec 32) (A : Option Addr) (a b c : Nat) (d : Int) (k : BitVec 32) (hf : formP 2 a b c d k.toNat = 0) (hat0 : 0 ≤ at_) (hat1 : at_ ≤ 2000000000000) (ha : a < 8) (hb : b < 8) (hc : c < 8) (hst : St w B g at_ R A n cap M) :
    Calls Try.prog 11 #[.pointer (some ⟨g, 0, none⟩), .agg #[.int .i64 2, .int .i64 a, .int .i64 b, .int .i64 c, .int .i64 d, .int .u32 k.toNat]] w fun e w' => e = .returned (.int .i64 0) ∧ St w' B g (at_ + 1) (upd R a (R b)) A n cap M ∧ Kept (Mine g A) w w' := by
  have hai : (a : Int) < 8 := by omega
  have hbi : (b : Int) < 8 := by omega
  have hci : (c : Int) < 8 := by omega
  have hG := Grow.alloc w (.cells #[.int .i64 2, .int .i64 a, .int .i64 b, .int .i64 c, .int .i64 d, .int .u32 k.toNat] 28)
  have hO := heapAt_alloc_new w (.cells #[.int .i64 2, .int .i64 a, .int .i64 b, .int .i64 c, .int .i64 d, .int .u32 k.toNat] 28)
  have HF := Lib.hid hf; clear hf
  have ho : w.heap.size < (w.alloc (.cells #[.int .i64 2, .int .i64 a, .int .i64 b, .int .i64 c, .int .i64 d, .int .u32 k.toNat] 28)).heap.size := heapAt_lt hO
  go_enter Try.func11, Try.ntmps11
  go_wp2_with fail
  generalize w.alloc (.cells #[.int .i64 2, .int .i64 a, .int .i64 b, .int .i64 c, .int .i64 d, .int .u32 k.toNat] 28) = w1 at hG hO ho ⊢
  generalize w.heap.size = z at hO ho ⊢
  refine (form_any 2 a b c d k.toNat _).mono ?_
  rw [HF.out]
  rintro e w2 ⟨rfl, hg⟩
  have hO := hg.at hO
  have hK := (Kept.refl (Mine g A) w).grow (hG.trans hg)
  have hS := hst.grow (hG.trans hg)
  clear hG hg ho hst
  have d0 := cell_block hO 0
  have d1 := cell_block hO 1
  have d2 := cell_block hO 2
  have d3 := cell_block hO 3
  have d4 := cell_block hO 4
  have d5 := cell_block hO 5
  simp at d0 d1 d2 d3 d4 d5
  clear hO
  have cA := hS.1.reg a ha
  have cB := hS.1.reg b hb
  have fA := hS.1.free (1 + a)
  go_wp2_with fail
  go_still_tail 13, (by kernel_rfl)
  change wpList _ _ _ _ _ w2.drew
  have hS3 := hS.grow (Grow.drewN w2 1)
  have hK3 := hK.drewN 1
  change St w2.drew _ _ _ _ _ _ _ _ at hS3
  change Kept _ _ w2.drew at hK3
  generalize w2.drew = w3 at hS3 hK3 ⊢
  clear d0 d1 d2 d3 d4 d5 cA cB fA hS hK
  have cA := hS3.1.reg a ha
  have fA := hS3.1.free (1 + a)
  have hS4 := hS3.setR a (R b) ha
  have hK4 := hK3.set (b := g) (.inl rfl) (1 + a) (.int .u32 (R b).toNat)
  have c0 := hS4.1.c0
  have f0 := hS4.1.free 0
  have HS5 := Lib.hid (hS4.set0 (at_ + 1))
  have HK5 := Lib.hid (hK4.set (b := g) (.inl rfl) 0 (.int .i64 (at_ + 1)))
  clear hS3 hK3 hS4 hK4
  go_wp2
  go_ret
  exact ⟨rfl, HS5.out, HK5.out⟩

set_option maxHeartbeats 1000000 in
set_option maxRecDepth 100000 in
theorem do_jmp (w : World) (B g n cap : Nat) (at_ : Int) (R M : Nat → BitVec 32) (A : Option Addr) (a b c : Nat) (d : Int) (k : BitVec 32) (hf : formP 17 a b c d k.toNat = 0) (hat0 : 0 ≤ at_) (hat1 : at_ ≤ 2000000000000) (ha : a < 8) (hb : b < 8) (hc : c < 8) (hst : St w B g at_ R A n cap M) :
    Calls Try.prog 11 #[.pointer (some ⟨g, 0, none⟩), .agg #[.int .i64 17, .int .i64 a, .int .i64 b, .int .i64 c, .int .i64 d, .int .u32 k.toNat]] w fun e w' => e = .returned (.int .i64 0) ∧ St w' B g (k.toNat) (R) A n cap M ∧ Kept (Mine g A) w w' := by
  have hai : (a : Int) < 8 := by omega
  have hbi : (b : Int) < 8 := by omega
  have hci : (c : Int) < 8 := by omega
  have hG := Grow.alloc w (.cells #[.int .i64 17, .int .i64 a, .int .i64 b, .int .i64 c, .int .i64 d, .int .u32 k.toNat] 28)
  have hO := heapAt_alloc_new w (.cells #[.int .i64 17, .int .i64 a, .int .i64 b, .int .i64 c, .int .i64 d, .int .u32 k.toNat] 28)
  have HF := Lib.hid hf; clear hf
  have ho : w.heap.size < (w.alloc (.cells #[.int .i64 17, .int .i64 a, .int .i64 b, .int .i64 c, .int .i64 d, .int .u32 k.toNat] 28)).heap.size := heapAt_lt hO
  go_enter Try.func11, Try.ntmps11
  go_wp2_with fail
  generalize w.alloc (.cells #[.int .i64 17, .int .i64 a, .int .i64 b, .int .i64 c, .int .i64 d, .int .u32 k.toNat] 28) = w1 at hG hO ho ⊢
  generalize w.heap.size = z at hO ho ⊢
  refine (form_any 17 a b c d k.toNat _).mono ?_
  rw [HF.out]
  rintro e w2 ⟨rfl, hg⟩
  have hO := hg.at hO
  have hK := (Kept.refl (Mine g A) w).grow (hG.trans hg)
  have hS := hst.grow (hG.trans hg)
  clear hG hg ho hst
  have d0 := cell_block hO 0
  have d1 := cell_block hO 1
  have d2 := cell_block hO 2
  have d3 := cell_block hO 3
  have d4 := cell_block hO 4
  have d5 := cell_block hO 5
  simp at d0 d1 d2 d3 d4 d5
  have hk := k.isLt
  have cA := hS.1.reg a ha
  go_wp2_with fail
  go_quiet (fail)
  have hS1 := hS.grow (Grow.drewN w2 nq)
  have hK1 := hK.drewN nq
  have hO1 : (w2.drewN nq).heap[z]? = _ := hO
  generalize w2.drewN nq = w3 at hS1 hK1 hO1 ⊢
  clear d0 d1 d2 d3 d4 d5 cA hS hK hO
  have d0 := cell_block hO1 0
  have d1 := cell_block hO1 1
  have d2 := cell_block hO1 2
  have d3 := cell_block hO1 3
  have d4 := cell_block hO1 4
  have d5 := cell_block hO1 5
  simp at d0 d1 d2 d3 d4 d5
  have hS := hS1
  have hK := hK1
  clear hS1 hK1 hO1
  have c0 := hS.1.c0
  have f0 := hS.1.free 0
  have HS5 := Lib.hid (hS.set0 (k.toNat))
  have HK5 := Lib.hid (hK.set (b := g) (.inl rfl) 0 (.int .i64 (k.toNat)))
  clear hS hK
  go_wp2
  go_ret
  exact ⟨rfl, HS5.out, HK5.out⟩

set_option maxHeartbeats 1000000 in
set_option maxRecDepth 100000 in
theorem do_jz_yes (w : World) (B g n cap : Nat) (at_ : Int) (R M : Nat → BitVec 32) (A : Option Addr) (a b c : Nat) (d : Int) (k : BitVec 32) (hf : formP 18 a b c d k.toNat = 0) (hat0 : 0 ≤ at_) (hat1 : at_ ≤ 2000000000000) (ha : a < 8) (hb : b < 8) (hc : c < 8) (hst : St w B g at_ R A n cap M) (hz : (((R a).toNat : Int) == 0) = true) :
    Calls Try.prog 11 #[.pointer (some ⟨g, 0, none⟩), .agg #[.int .i64 18, .int .i64 a, .int .i64 b, .int .i64 c, .int .i64 d, .int .u32 k.toNat]] w fun e w' => e = .returned (.int .i64 0) ∧ St w' B g (k.toNat) (R) A n cap M ∧ Kept (Mine g A) w w' := by
  have hai : (a : Int) < 8 := by omega
  have hbi : (b : Int) < 8 := by omega
  have hci : (c : Int) < 8 := by omega
  have hG := Grow.alloc w (.cells #[.int .i64 18, .int .i64 a, .int .i64 b, .int .i64 c, .int .i64 d, .int .u32 k.toNat] 28)
  have hO := heapAt_alloc_new w (.cells #[.int .i64 18, .int .i64 a, .int .i64 b, .int .i64 c, .int .i64 d, .int .u32 k.toNat] 28)
  have HF := Lib.hid hf; clear hf
  have ho : w.heap.size < (w.alloc (.cells #[.int .i64 18, .int .i64 a, .int .i64 b, .int .i64 c, .int .i64 d, .int .u32 k.toNat] 28)).heap.size := heapAt_lt hO
  go_enter Try.func11, Try.ntmps11
  go_wp2_with fail
  generalize w.alloc (.cells #[.int .i64 18, .int .i64 a, .int .i64 b, .int .i64 c, .int .i64 d, .int .u32 k.toNat] 28) = w1 at hG hO ho ⊢
  generalize w.heap.size = z at hO ho ⊢
  refine (form_any 18 a b c d k.toNat _).mono ?_
  rw [HF.out]
  rintro e w2 ⟨rfl, hg⟩
  have hO := hg.at hO
  have hK := (Kept.refl (Mine g A) w).grow (hG.trans hg)
  have hS := hst.grow (hG.trans hg)
  clear hG hg ho hst
  have d0 := cell_block hO 0
  have d1 := cell_block hO 1
  have d2 := cell_block hO 2
  have d3 := cell_block hO 3
  have d4 := cell_block hO 4
  have d5 := cell_block hO 5
  simp at d0 d1 d2 d3 d4 d5
  have hk := k.isLt
  have cA := hS.1.reg a ha
  go_wp2_with fail
  go_quiet (fail)
  have hS1 := hS.grow (Grow.drewN w2 nq)
  have hK1 := hK.drewN nq
  have hO1 : (w2.drewN nq).heap[z]? = _ := hO
  generalize w2.drewN nq = w3 at hS1 hK1 hO1 ⊢
  clear d0 d1 d2 d3 d4 d5 cA hS hK hO
  have d0 := cell_block hO1 0
  have d1 := cell_block hO1 1
  have d2 := cell_block hO1 2
  have d3 := cell_block hO1 3
  have d4 := cell_block hO1 4
  have d5 := cell_block hO1 5
  simp at d0 d1 d2 d3 d4 d5
  have hS := hS1
  have hK := hK1
  clear hS1 hK1 hO1
  have c0 := hS.1.c0
  have f0 := hS.1.free 0
  have HS5 := Lib.hid (hS.set0 (k.toNat))
  have HK5 := Lib.hid (hK.set (b := g) (.inl rfl) 0 (.int .i64 (k.toNat)))
  clear hS hK
  go_wp2
  go_ret
  exact ⟨rfl, HS5.out, HK5.out⟩

set_option maxHeartbeats 1000000 in
set_option maxRecDepth 100000 in
theorem do_jz_no (w : World) (B g n cap : Nat) (at_ : Int) (R M : Nat → BitVec 32) (A : Option Addr) (a b c : Nat) (d : Int) (k : BitVec 32) (hf : formP 18 a b c d k.toNat = 0) (hat0 : 0 ≤ at_) (hat1 : at_ ≤ 2000000000000) (ha : a < 8) (hb : b < 8) (hc : c < 8) (hst : St w B g at_ R A n cap M) (hz : (((R a).toNat : Int) == 0) = false) :
    Calls Try.prog 11 #[.pointer (some ⟨g, 0, none⟩), .agg #[.int .i64 18, .int .i64 a, .int .i64 b, .int .i64 c, .int .i64 d, .int .u32 k.toNat]] w fun e w' => e = .returned (.int .i64 0) ∧ St w' B g (at_ + 1) (R) A n cap M ∧ Kept (Mine g A) w w' := by
  have hai : (a : Int) < 8 := by omega
  have hbi : (b : Int) < 8 := by omega
  have hci : (c : Int) < 8 := by omega
  have hG := Grow.alloc w (.cells #[.int .i64 18, .int .i64 a, .int .i64 b, .int .i64 c, .int .i64 d, .int .u32 k.toNat] 28)
  have hO := heapAt_alloc_new w (.cells #[.int .i64 18, .int .i64 a, .int .i64 b, .int .i64 c, .int .i64 d, .int .u32 k.toNat] 28)
  have HF := Lib.hid hf; clear hf
  have ho : w.heap.size < (w.alloc (.cells #[.int .i64 18, .int .i64 a, .int .i64 b, .int .i64 c, .int .i64 d, .int .u32 k.toNat] 28)).heap.size := heapAt_lt hO
  go_enter Try.func11, Try.ntmps11
  go_wp2_with fail
  generalize w.alloc (.cells #[.int .i64 18, .int .i64 a, .int .i64 b, .int .i64 c, .int .i64 d, .int .u32 k.toNat] 28) = w1 at hG hO ho ⊢
  generalize w.heap.size = z at hO ho ⊢
  refine (form_any 18 a b c d k.toNat _).mono ?_
  rw [HF.out]
  rintro e w2 ⟨rfl, hg⟩
  have hO := hg.at hO
  have hK := (Kept.refl (Mine g A) w).grow (hG.trans hg)
  have hS := hst.grow (hG.trans hg)
  clear hG hg ho hst
  have d0 := cell_block hO 0
  have d1 := cell_block hO 1
  have d2 := cell_block hO 2
  have d3 := cell_block hO 3
  have d4 := cell_block hO 4
  have d5 := cell_block hO 5
  simp at d0 d1 d2 d3 d4 d5
  have hk := k.isLt
  have cA := hS.1.reg a ha
  go_wp2_with fail
  go_quiet (fail)
  have hS1 := hS.grow (Grow.drewN w2 nq)
  have hK1 := hK.drewN nq
  have hO1 : (w2.drewN nq).heap[z]? = _ := hO
  generalize w2.drewN nq = w3 at hS1 hK1 hO1 ⊢
  clear d0 d1 d2 d3 d4 d5 cA hS hK hO
  have d0 := cell_block hO1 0
  have d1 := cell_block hO1 1
  have d2 := cell_block hO1 2
  have d3 := cell_block hO1 3
  have d4 := cell_block hO1 4
  have d5 := cell_block hO1 5
  simp at d0 d1 d2 d3 d4 d5
  have hS := hS1
  have hK := hK1
  clear hS1 hK1 hO1
  have c0 := hS.1.c0
  have f0 := hS.1.free 0
  have HS5 := Lib.hid (hS.set0 (at_ + 1))
  have HK5 := Lib.hid (hK.set (b := g) (.inl rfl) 0 (.int .i64 (at_ + 1)))
  clear hS hK
  go_wp2
  go_ret
  exact ⟨rfl, HS5.out, HK5.out⟩

set_option maxHeartbeats 1000000 in
set_option maxRecDepth 100000 in
theorem do_jnz_no (w : World) (B g n cap : Nat) (at_ : Int) (R M : Nat → BitVec 32) (A : Option Addr) (a b c : Nat) (d : Int) (k : BitVec 32) (hf : formP 19 a b c d k.toNat = 0) (hat0 : 0 ≤ at_) (hat1 : at_ ≤ 2000000000000) (ha : a < 8) (hb : b < 8) (hc : c < 8) (hst : St w B g at_ R A n cap M) (hz : (((R a).toNat : Int) == 0) = true) :
    Calls Try.prog 11 #[.pointer (some ⟨g, 0, none⟩), .agg #[.int .i64 19, .int .i64 a, .int .i64 b, .int .i64 c, .int .i64 d, .int .u32 k.toNat]] w fun e w' => e = .returned (.int .i64 0) ∧ St w' B g (at_ + 1) (R) A n cap M ∧ Kept (Mine g A) w w' := by
  have hai : (a : Int) < 8 := by omega
  have hbi : (b : Int) < 8 := by omega
  have hci : (c : Int) < 8 := by omega
  have hG := Grow.alloc w (.cells #[.int .i64 19, .int .i64 a, .int .i64 b, .int .i64 c, .int .i64 d, .int .u32 k.toNat] 28)
  have hO := heapAt_alloc_new w (.cells #[.int .i64 19, .int .i64 a, .int .i64 b, .int .i64 c, .int .i64 d, .int .u32 k.toNat] 28)
  have HF := Lib.hid hf; clear hf
  have ho : w.heap.size < (w.alloc (.cells #[.int .i64 19, .int .i64 a, .int .i64 b, .int .i64 c, .int .i64 d, .int .u32 k.toNat] 28)).heap.size := heapAt_lt hO
  go_enter Try.func11, Try.ntmps11
  go_wp2_with fail
  generalize w.alloc (.cells #[.int .i64 19, .int .i64 a, .int .i64 b, .int .i64 c, .int .i64 d, .int .u32 k.toNat] 28) = w1 at hG hO ho ⊢
  generalize w.heap.size = z at hO ho ⊢
  refine (form_any 19 a b c d k.toNat _).mono ?_
  rw [HF.out]
  rintro e w2 ⟨rfl, hg⟩
  have hO := hg.at hO
  have hK := (Kept.refl (Mine g A) w).grow (hG.trans hg)
  have hS := hst.grow (hG.trans hg)
  clear hG hg ho hst
  have d0 := cell_block hO 0
  have d1 := cell_block hO 1
  have d2 := cell_block hO 2
  have d3 := cell_block hO 3
  have d4 := cell_block hO 4
  have d5 := cell_block hO 5
  simp at d0 d1 d2 d3 d4 d5
  have hk := k.isLt
  have cA := hS.1.reg a ha
  go_wp2_with fail
  go_quiet (fail)
  have hS1 := hS.grow (Grow.drewN w2 nq)
  have hK1 := hK.drewN nq
  have hO1 : (w2.drewN nq).heap[z]? = _ := hO
  generalize w2.drewN nq = w3 at hS1 hK1 hO1 ⊢
  clear d0 d1 d2 d3 d4 d5 cA hS hK hO
  have d0 := cell_block hO1 0
  have d1 := cell_block hO1 1
  have d2 := cell_block hO1 2
  have d3 := cell_block hO1 3
  have d4 := cell_block hO1 4
  have d5 := cell_block hO1 5
  simp at d0 d1 d2 d3 d4 d5
  have hS := hS1
  have hK := hK1
  clear hS1 hK1 hO1
  have c0 := hS.1.c0
  have f0 := hS.1.free 0
  have HS5 := Lib.hid (hS.set0 (at_ + 1))
  have HK5 := Lib.hid (hK.set (b := g) (.inl rfl) 0 (.int .i64 (at_ + 1)))
  clear hS hK
  go_wp2
  go_ret
  exact ⟨rfl, HS5.out, HK5.out⟩

set_option maxHeartbeats 1000000 in
set_option maxRecDepth 100000 in
theorem do_jnz_yes (w : World) (B g n cap : Nat) (at_ : Int) (R M : Nat → BitVec 32) (A : Option Addr) (a b c : Nat) (d : Int) (k : BitVec 32) (hf : formP 19 a b c d k.toNat = 0) (hat0 : 0 ≤ at_) (hat1 : at_ ≤ 2000000000000) (ha : a < 8) (hb : b < 8) (hc : c < 8) (hst : St w B g at_ R A n cap M) (hz : (((R a).toNat : Int) == 0) = false) :
    Calls Try.prog 11 #[.pointer (some ⟨g, 0, none⟩), .agg #[.int .i64 19, .int .i64 a, .int .i64 b, .int .i64 c, .int .i64 d, .int .u32 k.toNat]] w fun e w' => e = .returned (.int .i64 0) ∧ St w' B g (k.toNat) (R) A n cap M ∧ Kept (Mine g A) w w' := by
  have hai : (a : Int) < 8 := by omega
  have hbi : (b : Int) < 8 := by omega
  have hci : (c : Int) < 8 := by omega
  have hG := Grow.alloc w (.cells #[.int .i64 19, .int .i64 a, .int .i64 b, .int .i64 c, .int .i64 d, .int .u32 k.toNat] 28)
  have hO := heapAt_alloc_new w (.cells #[.int .i64 19, .int .i64 a, .int .i64 b, .int .i64 c, .int .i64 d, .int .u32 k.toNat] 28)
  have HF := Lib.hid hf; clear hf
  have ho : w.heap.size < (w.alloc (.cells #[.int .i64 19, .int .i64 a, .int .i64 b, .int .i64 c, .int .i64 d, .int .u32 k.toNat] 28)).heap.size := heapAt_lt hO
  go_enter Try.func11, Try.ntmps11
  go_wp2_with fail
  generalize w.alloc (.cells #[.int .i64 19, .int .i64 a, .int .i64 b, .int .i64 c, .int .i64 d, .int .u32 k.toNat] 28) = w1 at hG hO ho ⊢
  generalize w.heap.size = z at hO ho ⊢
  refine (form_any 19 a b c d k.toNat _).mono ?_
  rw [HF.out]
  rintro e w2 ⟨rfl, hg⟩
  have hO := hg.at hO
  have hK := (Kept.refl (Mine g A) w).grow (hG.trans hg)
  have hS := hst.grow (hG.trans hg)
  clear hG hg ho hst
  have d0 := cell_block hO 0
  have d1 := cell_block hO 1
  have d2 := cell_block hO 2
  have d3 := cell_block hO 3
  have d4 := cell_block hO 4
  have d5 := cell_block hO 5
  simp at d0 d1 d2 d3 d4 d5
  have hk := k.isLt
  have cA := hS.1.reg a ha
  go_wp2_with fail
  go_quiet (fail)
  have hS1 := hS.grow (Grow.drewN w2 nq)
  have hK1 := hK.drewN nq
  have hO1 : (w2.drewN nq).heap[z]? = _ := hO
  generalize w2.drewN nq = w3 at hS1 hK1 hO1 ⊢
  clear d0 d1 d2 d3 d4 d5 cA hS hK hO
  have d0 := cell_block hO1 0
  have d1 := cell_block hO1 1
  have d2 := cell_block hO1 2
  have d3 := cell_block hO1 3
  have d4 := cell_block hO1 4
  have d5 := cell_block hO1 5
  simp at d0 d1 d2 d3 d4 d5
  have hS := hS1
  have hK := hK1
  clear hS1 hK1 hO1
  have c0 := hS.1.c0
  have f0 := hS.1.free 0
  have HS5 := Lib.hid (hS.set0 (k.toNat))
  have HK5 := Lib.hid (hK.set (b := g) (.inl rfl) 0 (.int .i64 (k.toNat)))
  clear hS hK
  go_wp2
  go_ret
  exact ⟨rfl, HS5.out, HK5.out⟩

set_option maxHeartbeats 1000000 in
set_option maxRecDepth 100000 in
theorem do_work (w : World) (B g n cap : Nat) (at_ : Int) (R M : Nat → BitVec 32) (A : Option Addr) (a b c : Nat) (d : Int) (k : BitVec 32) (hf : formP 20 a b c d k.toNat = 0) (hat0 : 0 ≤ at_) (hat1 : at_ ≤ 2000000000000) (ha : a < 8) (hb : b < 8) (hc : c < 8) (hst : St w B g at_ R A n cap M) :
    Calls Try.prog 11 #[.pointer (some ⟨g, 0, none⟩), .agg #[.int .i64 20, .int .i64 a, .int .i64 b, .int .i64 c, .int .i64 d, .int .u32 k.toNat]] w fun e w' => e = .returned (.int .i64 0) ∧ St w' B g (at_ + 1) (R) A n cap M ∧ Kept (Mine g A) w w' := by
  have hai : (a : Int) < 8 := by omega
  have hbi : (b : Int) < 8 := by omega
  have hci : (c : Int) < 8 := by omega
  have hG := Grow.alloc w (.cells #[.int .i64 20, .int .i64 a, .int .i64 b, .int .i64 c, .int .i64 d, .int .u32 k.toNat] 28)
  have hO := heapAt_alloc_new w (.cells #[.int .i64 20, .int .i64 a, .int .i64 b, .int .i64 c, .int .i64 d, .int .u32 k.toNat] 28)
  have HF := Lib.hid hf; clear hf
  have ho : w.heap.size < (w.alloc (.cells #[.int .i64 20, .int .i64 a, .int .i64 b, .int .i64 c, .int .i64 d, .int .u32 k.toNat] 28)).heap.size := heapAt_lt hO
  go_enter Try.func11, Try.ntmps11
  go_wp2_with fail
  generalize w.alloc (.cells #[.int .i64 20, .int .i64 a, .int .i64 b, .int .i64 c, .int .i64 d, .int .u32 k.toNat] 28) = w1 at hG hO ho ⊢
  generalize w.heap.size = z at hO ho ⊢
  refine (form_any 20 a b c d k.toNat _).mono ?_
  rw [HF.out]
  rintro e w2 ⟨rfl, hg⟩
  have hO := hg.at hO
  have hK := (Kept.refl (Mine g A) w).grow (hG.trans hg)
  have hS := hst.grow (hG.trans hg)
  clear hG hg ho hst
  have d0 := cell_block hO 0
  have d1 := cell_block hO 1
  have d2 := cell_block hO 2
  have d3 := cell_block hO 3
  have d4 := cell_block hO 4
  have d5 := cell_block hO 5
  simp at d0 d1 d2 d3 d4 d5
  have c0 := hS.1.c0
  have f0 := hS.1.free 0
  have HS5 := Lib.hid (hS.set0 (at_ + 1))
  have HK5 := Lib.hid (hK.set (b := g) (.inl rfl) 0 (.int .i64 (at_ + 1)))
  clear hS hK
  go_wp2
  go_ret
  exact ⟨rfl, HS5.out, HK5.out⟩

end Go.Proofs.Ytkjacmnocbdghaa
