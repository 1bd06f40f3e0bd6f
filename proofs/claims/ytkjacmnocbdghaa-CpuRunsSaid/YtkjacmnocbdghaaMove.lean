/- The walks of move, and of Do's loads and stores. -/
import Derived.Test.YtkjacmnocbdghaaStep
import Derived.IntWalk
namespace Go.Proofs.Ytkjacmnocbdghaa
open Go.RowKit
set_option linter.unusedVariables false
attribute [local irreducible] hasA hasB hasC hasD hasK bitsOf regP hasStr letter formP bad4 bad6 bad8 bad10 ctxCells regArr valW valE words upd

set_option maxHeartbeats 1000000 in
set_option maxRecDepth 100000 in
theorem move_out (w : World) (B g n cap q : Nat) (at_ : Int) (R M : Nat → BitVec 32) (A : Option Addr) (op : Int) (a b c : Nat) (d : Int) (k : BitVec 32) (hq : (R b + k).toNat = q) (hn : (n : Int) ≤ 300) (hcap : (n : Int) ≤ cap) (ha : a < 8) (hb : b < 8) (hst : St w B g at_ R A n cap M) (hge : (n : Int) ≤ q) :
    Calls Try.prog 16 #[.pointer (some ⟨g, 0, none⟩), .agg #[.int .i64 op, .int .i64 a, .int .i64 b, .int .i64 c, .int .i64 d, .int .u32 k.toNat]] w fun e w' => e = .returned (.int .i64 12) ∧ Kept (fun _ => False) w w' := by
  have hai : (a : Int) < 8 := by omega
  have hbi : (b : Int) < 8 := by omega
  have e2 := w_add (R b) k
  rw [hq] at e2
  have hql : (q : Int) < 4294967296 := by have := (R b + k).isLt; omega
  clear hq
  have hG := Grow.alloc w (.cells #[.int .i64 op, .int .i64 a, .int .i64 b, .int .i64 c, .int .i64 d, .int .u32 k.toNat] 28)
  have hO := heapAt_alloc_new w (.cells #[.int .i64 op, .int .i64 a, .int .i64 b, .int .i64 c, .int .i64 d, .int .u32 k.toNat] 28)
  have hKS := (Kept.refl (fun _ => False) w).grow hG
  have hS := hst.grow hG
  clear hst
  go_enter Try.func16, Try.ntmps16
  go_wp2_with fail
  generalize w.alloc (.cells #[.int .i64 op, .int .i64 a, .int .i64 b, .int .i64 c, .int .i64 d, .int .u32 k.toNat] 28) = w2 at hO hKS hS ⊢
  generalize w.heap.size = z at hO ⊢
  clear hG
  have d0 := cell_block hO 0
  have d1 := cell_block hO 1
  have d2 := cell_block hO 2
  have d3 := cell_block hO 3
  have d4 := cell_block hO 4
  have d5 := cell_block hO 5
  simp at d0 d1 d2 d3 d4 d5
  have cB := hS.1.reg b hb
  have HKS := Lib.hid hKS
  clear hKS
  go_quiet (fail)
  have hS1 := hS.grow (Grow.drewN w2 nq)
  have HKS1 := Lib.hid (HKS.out.drewN nq)
  have hO1 : (w2.drewN nq).heap[z]? = _ := hO
  generalize w2.drewN nq = w3 at hS1 HKS1 hO1 ⊢
  clear d0 d1 d2 d3 d4 d5 cB hS HKS hO
  have d0 := cell_block hO1 0
  have d1 := cell_block hO1 1
  have d2 := cell_block hO1 2
  have d3 := cell_block hO1 3
  have d4 := cell_block hO1 4
  have d5 := cell_block hO1 5
  simp at d0 d1 d2 d3 d4 d5
  have c9 := hS1.1.c9
  simp only [e2]
  clear e2
  go_wp2
  go_ret
  exact ⟨rfl, HKS1.out⟩

set_option maxHeartbeats 1000000 in
set_option maxRecDepth 100000 in
theorem move_load (w : World) (B g n cap q : Nat) (at_ : Int) (R M : Nat → BitVec 32) (A : Option Addr) (a b c : Nat) (d : Int) (k : BitVec 32) (hq : (R b + k).toNat = q) (hn : (n : Int) ≤ 300) (hcap : (n : Int) ≤ cap) (ha : a < 8) (hb : b < 8) (hst : St w B g at_ R A n cap M) (hlt : (q : Int) < n) :
    Calls Try.prog 16 #[.pointer (some ⟨g, 0, none⟩), .agg #[.int .i64 15, .int .i64 a, .int .i64 b, .int .i64 c, .int .i64 d, .int .u32 k.toNat]] w fun e w' => e = .returned (.int .i64 0) ∧ St w' B g (at_) (upd R a (M q)) A n cap M ∧ Kept (Mine g A) w w' := by
  have hai : (a : Int) < 8 := by omega
  have hbi : (b : Int) < 8 := by omega
  have e2 := w_add (R b) k
  rw [hq] at e2
  have hql : (q : Int) < 4294967296 := by have := (R b + k).isLt; omega
  clear hq
  have hG := Grow.alloc w (.cells #[.int .i64 15, .int .i64 a, .int .i64 b, .int .i64 c, .int .i64 d, .int .u32 k.toNat] 28)
  have hO := heapAt_alloc_new w (.cells #[.int .i64 15, .int .i64 a, .int .i64 b, .int .i64 c, .int .i64 d, .int .u32 k.toNat] 28)
  have hKS := (Kept.refl (Mine g A) w).grow hG
  have hS := hst.grow hG
  clear hst
  go_enter Try.func16, Try.ntmps16
  go_wp2_with fail
  generalize w.alloc (.cells #[.int .i64 15, .int .i64 a, .int .i64 b, .int .i64 c, .int .i64 d, .int .u32 k.toNat] 28) = w2 at hO hKS hS ⊢
  generalize w.heap.size = z at hO ⊢
  clear hG
  have d0 := cell_block hO 0
  have d1 := cell_block hO 1
  have d2 := cell_block hO 2
  have d3 := cell_block hO 3
  have d4 := cell_block hO 4
  have d5 := cell_block hO 5
  simp at d0 d1 d2 d3 d4 d5
  have cB := hS.1.reg b hb
  have HKS := Lib.hid hKS
  clear hKS
  go_quiet (fail)
  have hS1 := hS.grow (Grow.drewN w2 nq)
  have HKS1 := Lib.hid (HKS.out.drewN nq)
  have hO1 : (w2.drewN nq).heap[z]? = _ := hO
  generalize w2.drewN nq = w3 at hS1 HKS1 hO1 ⊢
  clear d0 d1 d2 d3 d4 d5 cB hS HKS hO
  have d0 := cell_block hO1 0
  have d1 := cell_block hO1 1
  have d2 := cell_block hO1 2
  have d3 := cell_block hO1 3
  have d4 := cell_block hO1 4
  have d5 := cell_block hO1 5
  simp at d0 d1 d2 d3 d4 d5
  have c9 := hS1.1.c9
  simp only [e2]
  clear e2
  have hn0 : 0 < n := by omega
  have hq9 : (q : Int) ≤ 299 := by omega
  clear hql
  obtain ⟨m, hA, hBm, hcm, hfm⟩ := hS1.2.1 hn0
  have hmg : m ≠ g := fun e => hS1.2.2.2 hn0 (by rw [hA, e])
  subst hA
  have cM := hcm q (by omega)
  have fM := hfm q
  have cA := hS1.1.reg a ha
  have fA := hS1.1.free (1 + a)
  clear hcm hfm
  go_wp2_with fail
  have hq0 : (0 : Int) ≤ (q : Int) := by omega
  have hqn : decide (q < n) = true := by simp; omega
  go_still_tail 13, (by kernel_rfl)
  change wpList _ _ _ _ _ w3.drew
  have hS3 := hS1.grow (Grow.drewN w3 1)
  have hK3 := HKS1.out.drewN 1
  change St w3.drew _ _ _ _ _ _ _ _ at hS3
  change Kept _ _ w3.drew at hK3
  have cM3 : w3.drew.cell? ⟨m, q, none⟩ = some (.int .u32 (M q).toNat) := cM
  have fM3 : w3.drew.frozen? ⟨m, q, none⟩ = false := fM
  generalize w3.drew = w4 at hS3 hK3 cM3 fM3 ⊢
  clear d0 d1 d2 d3 d4 d5 cA fA cM fM c9 hS1 HKS1 hO1
  have cA := hS3.1.reg a ha
  have fA := hS3.1.free (1 + a)
  have HS4 := Lib.hid (hS3.setR a (M q) ha)
  have HK4 := Lib.hid (hK3.set (b := g) (.inl rfl) (1 + a) (.int .u32 (M q).toNat))
  clear hS3 hK3
  go_wp2
  go_ret
  exact ⟨rfl, HS4.out, HK4.out⟩

/-- The memory's block, written at one word. -/
theorem MemOwn.set {w : World} {B n m : Nat} {M : Nat → BitVec 32} (h : MemOwn w B (some ⟨m, 0, none⟩) n M) (j : Nat) (v : BitVec 32) (hj : j < n) : MemOwn (w.setCell ⟨m, j, none⟩ (.int .u32 v.toNat)) B (some ⟨m, 0, none⟩) n (upd M j v) := fun hn => by
  obtain ⟨g', hA, hB, hc, hf⟩ := h hn
  obtain rfl : m = g' := by injection hA with h; injection h
  refine ⟨m, rfl, hB, fun i hi => ?_, fun i => ?_⟩
  · by_cases e : i = j
    · subst e; rw [World.cell?_setCell_same w ⟨m, i, none⟩ _ (hc i hi)]; rw [upd_same]
    · rw [World.cell?_setCell_other w ⟨m, j, none⟩ ⟨m, i, none⟩ _ (by intro h; injection h with _ h; exact e h.symm), hc i hi, upd_other _ _ _ _ e]
  · rw [World.frozen?_setCell]; exact hf i

theorem St.setM {w : World} {B g n cap m : Nat} {at_ : Int} {R M : Nat → BitVec 32} (h : St w B g at_ R (some ⟨m, 0, none⟩) n cap M) (j : Nat) (v : BitVec 32) (hj : j < n) :
    St (w.setCell ⟨m, j, none⟩ (.int .u32 v.toNat)) B g at_ R (some ⟨m, 0, none⟩) n cap (upd M j v) :=
  ⟨h.1.far (fun e => h.2.2.2 (by omega) (by rw [e])) j _, h.2.1.set j v hj, h.2.2.1, h.2.2.2⟩

set_option maxHeartbeats 1000000 in
set_option maxRecDepth 100000 in
theorem move_store (w : World) (B g n cap q : Nat) (at_ : Int) (R M : Nat → BitVec 32) (A : Option Addr) (a b c : Nat) (d : Int) (k : BitVec 32) (hq : (R b + k).toNat = q) (hn : (n : Int) ≤ 300) (hcap : (n : Int) ≤ cap) (ha : a < 8) (hb : b < 8) (hst : St w B g at_ R A n cap M) (hlt : (q : Int) < n) :
    Calls Try.prog 16 #[.pointer (some ⟨g, 0, none⟩), .agg #[.int .i64 16, .int .i64 a, .int .i64 b, .int .i64 c, .int .i64 d, .int .u32 k.toNat]] w fun e w' => e = .returned (.int .i64 0) ∧ St w' B g (at_) (R) A n cap (upd M q (R a)) ∧ Kept (Mine g A) w w' := by
  have hai : (a : Int) < 8 := by omega
  have hbi : (b : Int) < 8 := by omega
  have e2 := w_add (R b) k
  rw [hq] at e2
  have hql : (q : Int) < 4294967296 := by have := (R b + k).isLt; omega
  clear hq
  have hG := Grow.alloc w (.cells #[.int .i64 16, .int .i64 a, .int .i64 b, .int .i64 c, .int .i64 d, .int .u32 k.toNat] 28)
  have hO := heapAt_alloc_new w (.cells #[.int .i64 16, .int .i64 a, .int .i64 b, .int .i64 c, .int .i64 d, .int .u32 k.toNat] 28)
  have hKS := (Kept.refl (Mine g A) w).grow hG
  have hS := hst.grow hG
  clear hst
  go_enter Try.func16, Try.ntmps16
  go_wp2_with fail
  generalize w.alloc (.cells #[.int .i64 16, .int .i64 a, .int .i64 b, .int .i64 c, .int .i64 d, .int .u32 k.toNat] 28) = w2 at hO hKS hS ⊢
  generalize w.heap.size = z at hO ⊢
  clear hG
  have d0 := cell_block hO 0
  have d1 := cell_block hO 1
  have d2 := cell_block hO 2
  have d3 := cell_block hO 3
  have d4 := cell_block hO 4
  have d5 := cell_block hO 5
  simp at d0 d1 d2 d3 d4 d5
  have cB := hS.1.reg b hb
  have HKS := Lib.hid hKS
  clear hKS
  go_quiet (fail)
  have hS1 := hS.grow (Grow.drewN w2 nq)
  have HKS1 := Lib.hid (HKS.out.drewN nq)
  have hO1 : (w2.drewN nq).heap[z]? = _ := hO
  generalize w2.drewN nq = w3 at hS1 HKS1 hO1 ⊢
  clear d0 d1 d2 d3 d4 d5 cB hS HKS hO
  have d0 := cell_block hO1 0
  have d1 := cell_block hO1 1
  have d2 := cell_block hO1 2
  have d3 := cell_block hO1 3
  have d4 := cell_block hO1 4
  have d5 := cell_block hO1 5
  simp at d0 d1 d2 d3 d4 d5
  have c9 := hS1.1.c9
  simp only [e2]
  clear e2
  have hn0 : 0 < n := by omega
  have hq9 : (q : Int) ≤ 299 := by omega
  clear hql
  obtain ⟨m, hA, hBm, hcm, hfm⟩ := hS1.2.1 hn0
  have hmg : m ≠ g := fun e => hS1.2.2.2 hn0 (by rw [hA, e])
  subst hA
  have cM := hcm q (by omega)
  have fM := hfm q
  have cA := hS1.1.reg a ha
  have fA := hS1.1.free (1 + a)
  clear hcm hfm
  go_wp2_with fail
  have hq0 : (0 : Int) ≤ (q : Int) := by omega
  have hqn : decide (q < n) = true := by simp; omega
  go_still_tail 13, (by kernel_rfl)
  change wpList _ _ _ _ _ w3.drew
  have hS3 := hS1.grow (Grow.drewN w3 1)
  have hK3 := HKS1.out.drewN 1
  change St w3.drew _ _ _ _ _ _ _ _ at hS3
  change Kept _ _ w3.drew at hK3
  have cM3 : w3.drew.cell? ⟨m, q, none⟩ = some (.int .u32 (M q).toNat) := cM
  have fM3 : w3.drew.frozen? ⟨m, q, none⟩ = false := fM
  generalize w3.drew = w4 at hS3 hK3 cM3 fM3 ⊢
  clear d0 d1 d2 d3 d4 d5 cA fA cM fM c9 hS1 HKS1 hO1
  have HS4 := Lib.hid (hS3.setM q (R a) (by omega))
  have HK4 := Lib.hid (hK3.set (b := m) (.inr ⟨m, rfl, rfl⟩) q (.int .u32 (R a).toNat))
  clear hS3 hK3
  go_wp2
  go_ret
  exact ⟨rfl, HS4.out, HK4.out⟩

end Go.Proofs.Ytkjacmnocbdghaa
