/- The walks of the histogram's methods. -/
import Derived.Test.YtpemmjaengbogaaC
import Derived.StillTailTactics
import Derived.BigRegion
import Derived.Deep.DeepCutAuto
namespace Go.Proofs.Ytpemmjaengbogaa
open Go.RowKit
set_option linter.unusedVariables false
attribute [local irreducible] whereP sumP satP cntArr

section
variable {w w' : World} {B h : Nat} {A : Option Addr} {nb bcap : Nat} {Bd : Nat → Nat} {c : Nat} {K : Nat → Nat} {al sm lt tp : Nat}
theorem HSt.c0 (H : HSt w B h A nb bcap Bd c K al sm lt tp) : w.cell? ⟨h, 0, none⟩ = some (.slice A nb bcap) := by rw [cell_block H.blk]; rfl
theorem HSt.c1 (H : HSt w B h A nb bcap Bd c K al sm lt tp) : w.cell? ⟨h, 1, none⟩ = some (.slice (some ⟨c, 0, none⟩) (nb + 1) (nb + 1)) := by rw [cell_block H.blk]; rfl
theorem HSt.c2 (H : HSt w B h A nb bcap Bd c K al sm lt tp) : w.cell? ⟨h, 2, none⟩ = some (.int .u64 (al : Int)) := by rw [cell_block H.blk]; rfl
theorem HSt.c3 (H : HSt w B h A nb bcap Bd c K al sm lt tp) : w.cell? ⟨h, 3, none⟩ = some (.int .u64 (sm : Int)) := by rw [cell_block H.blk]; rfl
theorem HSt.c4 (H : HSt w B h A nb bcap Bd c K al sm lt tp) : w.cell? ⟨h, 4, none⟩ = some (.int .u64 (lt : Int)) := by rw [cell_block H.blk]; rfl
theorem HSt.c5 (H : HSt w B h A nb bcap Bd c K al sm lt tp) : w.cell? ⟨h, 5, none⟩ = some (.int .u64 (tp : Int)) := by rw [cell_block H.blk]; rfl
theorem HSt.free (H : HSt w B h A nb bcap Bd c K al sm lt tp) (i : Nat) : w.frozen? ⟨h, i, none⟩ = false := free_block H.blk i
theorem HSt.k (H : HSt w B h A nb bcap Bd c K al sm lt tp) (i : Nat) (hi : i < nb + 1) : w.cell? ⟨c, i, none⟩ = some (.int .u64 (K i : Int)) := by rw [cell_block H.cnt, cntArr_at _ _ _ hi]
theorem HSt.kfree (H : HSt w B h A nb bcap Bd c K al sm lt tp) (i : Nat) : w.frozen? ⟨c, i, none⟩ = false := free_block H.cnt i
theorem HSt.grow (H : HSt w B h A nb bcap Bd c K al sm lt tp) (hg : Grow w w') : HSt w' B h A nb bcap Bd c K al sm lt tp :=
  ⟨hg.at H.blk, H.bnd.grow hg, H.hcap, hg.at H.cnt, H.hB, H.cB, H.ch, H.ab, H.nil⟩
theorem HSt.drew (H : HSt w B h A nb bcap Bd c K al sm lt tp) : HSt w.drew B h A nb bcap Bd c K al sm lt tp := ⟨H.blk, H.bnd, H.hcap, H.cnt, H.hB, H.cB, H.ch, H.ab, H.nil⟩
theorem HSt.setH (H : HSt w B h A nb bcap Bd c K al sm lt tp) (j : Nat) (v : Value) {al' sm' lt' tp' : Nat} (e : (histCells A nb bcap c al sm lt tp).setIfInBounds j v = histCells A nb bcap c al' sm' lt' tp') : HSt (w.setCell ⟨h, j, none⟩ v) B h A nb bcap Bd c K al' sm' lt' tp' :=
  ⟨by rw [set_block H.blk, e], H.bnd.only ((Only.refl h w).setCell j v) (fun m hm _ => (H.ab m hm).2.1), H.hcap, (set_block_other H.ch j v).trans H.cnt, H.hB, H.cB, H.ch, H.ab, H.nil⟩
theorem HSt.set2 (H : HSt w B h A nb bcap Bd c K al sm lt tp) (v : Nat) : HSt (w.setCell ⟨h, 2, none⟩ (.int .u64 (v : Int))) B h A nb bcap Bd c K v sm lt tp := H.setH 2 _ rfl
theorem HSt.set3 (H : HSt w B h A nb bcap Bd c K al sm lt tp) (v : Nat) : HSt (w.setCell ⟨h, 3, none⟩ (.int .u64 (v : Int))) B h A nb bcap Bd c K al v lt tp := H.setH 3 _ rfl
theorem HSt.set4 (H : HSt w B h A nb bcap Bd c K al sm lt tp) (v : Nat) : HSt (w.setCell ⟨h, 4, none⟩ (.int .u64 (v : Int))) B h A nb bcap Bd c K al sm v tp := H.setH 4 _ rfl
theorem HSt.set5 (H : HSt w B h A nb bcap Bd c K al sm lt tp) (v : Nat) : HSt (w.setCell ⟨h, 5, none⟩ (.int .u64 (v : Int))) B h A nb bcap Bd c K al sm lt v := H.setH 5 _ rfl
theorem HSt.setK (H : HSt w B h A nb bcap Bd c K al sm lt tp) (i v : Nat) (hi : i < nb + 1) : HSt (w.setCell ⟨c, i, none⟩ (.int .u64 (v : Int))) B h A nb bcap Bd c (upd K i v) al sm lt tp :=
  ⟨(set_block_other (Ne.symm H.ch) i _).trans H.blk, H.bnd.only ((Only.refl c w).setCell i _) (fun m hm _ => (H.ab m hm).1), H.hcap, by rw [set_block H.cnt, cntArr_set _ _ _ _ hi], H.hB, H.cB, H.ch, H.ab, H.nil⟩
end
/-- Blocks but two are as they were. -/
def Keep (a b : Nat) (w w' : World) : Prop := w'.os = w.os ∧ w'.tape = w.tape ∧ w'.output = w.output ∧ w.heap.size ≤ w'.heap.size ∧ ∀ k, k < w.heap.size → k ≠ a → k ≠ b → w'.heap[k]? = w.heap[k]?
theorem Keep.refl (a b : Nat) (w : World) : Keep a b w w := ⟨rfl, rfl, rfl, Nat.le_refl _, fun _ _ _ _ => rfl⟩
theorem Keep.trans {a b : Nat} {w w1 w2 : World} (h : Keep a b w w1) (g : Keep a b w1 w2) : Keep a b w w2 :=
  ⟨g.1.trans h.1, g.2.1.trans h.2.1, g.2.2.1.trans h.2.2.1, Nat.le_trans h.2.2.2.1 g.2.2.2.1, fun k hk h1 h2 => (g.2.2.2.2 k (Nat.lt_of_lt_of_le hk h.2.2.2.1) h1 h2).trans (h.2.2.2.2 k hk h1 h2)⟩
theorem Keep.grow {a b : Nat} {w w1 w2 : World} (h : Keep a b w w1) (g : Grow w1 w2) : Keep a b w w2 :=
  ⟨g.os.trans h.1, g.tape.trans h.2.1, g.output.trans h.2.2.1, Nat.le_trans h.2.2.2.1 g.size, fun k hk h1 h2 => (g.block k (Nat.lt_of_lt_of_le hk h.2.2.2.1)).trans (h.2.2.2.2 k hk h1 h2)⟩
theorem Keep.drewN {a b : Nat} {w w1 : World} (h : Keep a b w w1) (n : Nat) : Keep a b w (w1.drewN n) := h
theorem Keep.drew {a b : Nat} {w w1 : World} (h : Keep a b w w1) : Keep a b w w1.drew := h
theorem Keep.setA {a b : Nat} {w w1 : World} (h : Keep a b w w1) (j : Nat) (v : Value) : Keep a b w (w1.setCell ⟨a, j, none⟩ v) :=
  h.trans ⟨rfl, rfl, rfl, by simp [World.setCell], fun k _ hne _ => set_block_other hne j v⟩
theorem Keep.setB {a b : Nat} {w w1 : World} (h : Keep a b w w1) (j : Nat) (v : Value) : Keep a b w (w1.setCell ⟨b, j, none⟩ v) :=
  h.trans ⟨rfl, rfl, rfl, by simp [World.setCell], fun k _ _ hne => set_block_other hne j v⟩
theorem Keep.made {a b : Nat} {w0 w w1 : World} (h : Keep a b w w1) (g : Grow w0 w) (ha : w0.heap.size ≤ a) (hb : w0.heap.size ≤ b) : Grow w0 w1 :=
  ⟨h.1.trans g.os, h.2.1.trans g.tape, h.2.2.1.trans g.output, Nat.le_trans g.size h.2.2.2.1, fun k hk => (h.2.2.2.2 k (Nat.lt_of_lt_of_le hk g.size) (by omega) (by omega)).trans (g.block k hk)⟩
theorem Keep.at {a b k : Nat} {w w1 : World} {o : Obj} (h : Keep a b w w1) (h1 : k ≠ a) (h2 : k ≠ b) (ho : w.heap[k]? = some o) : w1.heap[k]? = some o := (h.2.2.2.2 k (heapAt_lt ho) h1 h2).trans ho

/-! ### The simple ones -/
theorem where_nil (w : World) (v : Nat) : Calls Try.prog 21 #[.pointer none, .int .u64 v] w fun e w' => e = .returned (.int .i64 (-1)) ∧ w' = w := by
  go_enter Try.func21, Try.ntmps21
  go_wp2
  go_ret
  exact ⟨rfl, rfl⟩
theorem where_any (w : World) (B h : Nat) (A : Option Addr) (nb bcap : Nat) (Bd : Nat → Nat) (c : Nat) (K : Nat → Nat) (al sm lt tp : Nat) (v : Nat) (H : HSt w B h A nb bcap Bd c K al sm lt tp) (hnb : (nb : Int) ≤ 1000) (hs : Sorted Bd nb) :
    Calls Try.prog 21 #[.pointer (some ⟨h, 0, none⟩), .int .u64 v] w fun e w' => e = .returned (.int .i64 (whereP Bd v nb : Nat)) ∧ w' = w := by
  have c0 := H.c0
  have hm := H.bnd.at
  have hc := H.hcap
  have HH := Lib.hid H; clear H
  go_enter Try.func21, Try.ntmps21
  go_wp2_with fail
  refine (search_any w A nb bcap v Bd hnb hc hm hs).mono ?_
  rintro e w' ⟨b, rfl, rfl⟩
  go_wp2
  go_ret
  exact ⟨rfl, rfl⟩
theorem all_nil (w : World) : Calls Try.prog 18 #[.pointer none] w fun e w' => e = .returned (.int .u64 0) ∧ w' = w := by
  go_enter Try.func18, Try.ntmps18
  go_wp2
  go_ret
  exact ⟨rfl, rfl⟩
theorem all_any (w : World) (B h : Nat) (A : Option Addr) (nb bcap : Nat) (Bd : Nat → Nat) (c : Nat) (K : Nat → Nat) (al sm lt tp : Nat) (H : HSt w B h A nb bcap Bd c K al sm lt tp) : Calls Try.prog 18 #[.pointer (some ⟨h, 0, none⟩)] w fun e w' => e = .returned (.int .u64 (al : Nat)) ∧ w' = w := by
  have c2 := H.c2
  clear H
  go_enter Try.func18, Try.ntmps18
  go_wp2
  go_ret
  exact ⟨rfl, rfl⟩
theorem sum_nil (w : World) : Calls Try.prog 19 #[.pointer none] w fun e w' => e = .returned (.int .u64 0) ∧ w' = w := by
  go_enter Try.func19, Try.ntmps19
  go_wp2
  go_ret
  exact ⟨rfl, rfl⟩
theorem sum_any (w : World) (B h : Nat) (A : Option Addr) (nb bcap : Nat) (Bd : Nat → Nat) (c : Nat) (K : Nat → Nat) (al sm lt tp : Nat) (H : HSt w B h A nb bcap Bd c K al sm lt tp) : Calls Try.prog 19 #[.pointer (some ⟨h, 0, none⟩)] w fun e w' => e = .returned (.int .u64 (sm : Nat)) ∧ w' = w := by
  have c2 := H.c3
  clear H
  go_enter Try.func19, Try.ntmps19
  go_wp2
  go_ret
  exact ⟨rfl, rfl⟩
theorem ends_nil (w : World) : Calls Try.prog 14 #[.pointer none] w fun e w' => e = .returned (.tuple #[.int .u64 0, .int .u64 0, .bool false]) ∧ w' = w := by
  go_enter Try.func14, Try.ntmps14
  go_wp2
  go_ret3
  exact ⟨rfl, rfl⟩
theorem ends_any (w : World) (B h : Nat) (A : Option Addr) (nb bcap : Nat) (Bd : Nat → Nat) (c : Nat) (K : Nat → Nat) (al sm lt tp : Nat) (H : HSt w B h A nb bcap Bd c K al sm lt tp) : Calls Try.prog 14 #[.pointer (some ⟨h, 0, none⟩)] w fun e w' => e = .returned (.tuple #[.int .u64 (if al = 0 then 0 else lt : Nat), .int .u64 (if al = 0 then 0 else tp : Nat), .bool (decide (al ≠ 0))]) ∧ Grow w w' := by
  have c2 := H.c2
  have c4 := H.c4
  have c5 := H.c5
  clear H
  go_enter Try.func14, Try.ntmps14
  by_cases h0 : al = 0
  · subst h0
    go_wp2
    go_ret3
    exact ⟨rfl, Grow.refl _⟩
  · have hb : ((al : Int) == 0) = false := by simp; omega
    have HN := Lib.hid h0; clear h0
    go_wp2_with fail
    go_quiet (fail)
    have HG2 := Lib.hid (Grow.drewN w nq)
    go_wp2
    go_ret3
    exact ⟨rfl, HG2.out⟩
theorem counts_nil (w : World) : Calls Try.prog 16 #[.pointer none] w fun e w' => e = .returned (.slice none 0 0) ∧ w' = w := by
  go_enter Try.func16, Try.ntmps16
  go_wp2
  go_ret
  exact ⟨rfl, rfl⟩
theorem counts_any (w : World) (B h : Nat) (A : Option Addr) (nb bcap : Nat) (Bd : Nat → Nat) (c : Nat) (K : Nat → Nat) (al sm lt tp : Nat) (H : HSt w B h A nb bcap Bd c K al sm lt tp) (hnb : (nb : Int) ≤ 100) :
    Calls Try.prog 16 #[.pointer (some ⟨h, 0, none⟩)] w fun e w' => ∃ A' cap', e = .returned (.slice A' (nb + 1) cap') ∧ MemOwn w' w.heap.size A' (nb + 1) K ∧ ((nb + 1 : Nat) : Int) ≤ cap' ∧ Grow w w' := by
  have c1 := H.c1
  have hm : MemAt w (some ⟨c, 0, none⟩) (nb + 1) K := fun _ => ⟨_, rfl, fun j hj => by rw [add_zero_block]; exact H.k j hj⟩
  clear H
  go_enter Try.func16, Try.ntmps16
  go_wp2_with fail
  refine (clone_some w _ (nb + 1) (nb + 1) K (by omega) hm).mono ?_
  rintro e w' ⟨A', cap', rfl, h1, h2, h3, _⟩
  have HH := Lib.hid (And.intro h1 (And.intro h2 h3)); clear h1 h2 h3
  go_wp2
  go_ret
  obtain ⟨h1, h2, h3⟩ := HH.out
  exact ⟨A', cap', rfl, h1, h2, h3⟩
theorem add_nil (w : World) (v : Nat) : Calls Try.prog 26 #[.pointer none, .int .u64 v] w fun e w' => e = .returned (.bool false) ∧ w' = w := by
  go_enter Try.func26, Try.ntmps26
  go_wp2
  go_ret
  exact ⟨rfl, rfl⟩
def leastN (al lt v : Nat) : Nat := if al = 0 then v else min lt v
def topN (al tp v : Nat) : Nat := if al = 0 then v else max tp v
attribute [local irreducible] leastN topN
set_option maxHeartbeats 1000000 in
set_option maxRecDepth 100000 in
theorem add_any (w : World) (B h : Nat) (A : Option Addr) (nb bcap : Nat) (Bd : Nat → Nat) (c : Nat) (K : Nat → Nat) (al sm lt tp : Nat) (v : Nat) (H : HSt w B h A nb bcap Bd c K al sm lt tp) (hnb : (nb : Int) ≤ 1000) (hs : Sorted Bd nb) (hK : ∀ i, K i < 1000000) (hal : (al : Int) < 1000000) (hsm : sm < 18446744073709551616) (hv : v < 18446744073709551616) (hlt : lt < 18446744073709551616) (htp : tp < 18446744073709551616) :
    Calls Try.prog 26 #[.pointer (some ⟨h, 0, none⟩), .int .u64 v] w fun e w' => e = .returned (.bool true) ∧ HSt w' B h A nb bcap Bd c (upd K (whereP Bd v nb) (K (whereP Bd v nb) + 1)) (al + 1) (satP sm v) (leastN al lt v) (topN al tp v) ∧ Keep h c w w' := by
  go_enter Try.func26, Try.ntmps26
  by_cases h0 : al = 0
  · have hb : ((al : Int) == 0) = true := by simp [h0]
    have H0 := Lib.hid h0; clear h0
    have c2 := H.c2
    have c4 := H.c4
    have c5 := H.c5
    have f4 := H.free 4
    have f5 := H.free 5
    have HQ0 := Lib.hid (((H.set4 v).set5 v))
    have HKP0 := Lib.hid (((Keep.refl h c w).setA 4 (.int .u64 (v : Int))).setA 5 (.int .u64 (v : Int)))
    clear H
    obtain ⟨w0, hw0⟩ : ∃ w0, w0 = (w.setCell ⟨h, 4, none⟩ (.int .u64 (v : Int))).setCell ⟨h, 5, none⟩ (.int .u64 (v : Int)) := ⟨_, rfl⟩
    rw [← hw0] at HQ0 HKP0
    have HQ := HQ0
    have HKP := HKP0
    clear HQ0 HKP0
    have HW0 := Lib.hid hw0; clear hw0
    go_upto_region 5 with fail
    rw [← HW0.out]
    clear c2 c4 c5 f4 f5 HW0
    obtain ⟨p, hp⟩ : ∃ p, p = whereP Bd v nb := ⟨_, rfl⟩
    have hpn : p ≤ nb := by rw [hp]; exact whereP_le Bd v nb
    have hw := fun (w' : World) (H' : HSt w' B h A nb bcap Bd c K al sm v v) => where_any w' B h A nb bcap Bd c K al sm v v v H' hnb hs
    rw [← hp] at hw
    have hKp := hK p
    have HP := Lib.hid hp; clear hp
    have HW := Lib.hid hw; clear hw
    have hpi : (p : Int) < (nb : Int) + 1 := by omega
    have hp0 : (0 : Int) ≤ (p : Int) := by omega
    have hK0 : (0 : Int) ≤ (K p : Int) := by omega
    have hK1 : (K p : Int) < 1000000 := by omega
    have x1 := HQ.out.c1
    have xk := HQ.out.k p (by omega)
    have xf := HQ.out.kfree p
    go_wp2_with fail
    go_still_tail 11, (by kernel_rfl)
    still_call (HW.out _ HQ.out.drew)
    repeat still_step
    refine wpStill_nil ?_
    change wpList _ _ _ _ _ w0.drew
    clear x1 xk xf
    have hH : HSt w0.drew B h A nb bcap Bd c K al sm v v := HQ.out.drew
    have hKp2 : Keep h c w w0.drew := HKP.out.drew
    generalize w0.drew = w1 at hH hKp2 ⊢
    have x1 := hH.c1
    have xk := hH.k p (by omega)
    have xf := hH.kfree p
    have hH2 := hH.setK p (K p + 1) (by omega)
    have hKp3 := hKp2.setB p (.int .u64 ((K p + 1 : Nat) : Int))
    have e1 : ((K p + 1 : Nat) : Int) = (K p : Int) + 1 := by omega
    rw [e1] at hH2 hKp3
    clear e1 hKp2
    obtain ⟨w2, hw2⟩ : ∃ w2, w2 = w1.setCell ⟨c, p, none⟩ (.int .u64 ((K p : Int) + 1)) := ⟨_, rfl⟩
    rw [← hw2] at hH2 hKp3
    have HW2 := Lib.hid hw2; clear hw2 hH
    have HH2 := Lib.hid hH2; clear hH2
    have HK3 := Lib.hid hKp3; clear hKp3
    go_upto_region 6 with fail
    rw [← HW2.out]
    clear x1 xk xf HW2
    have c2 := HH2.out.c2
    have f2 := HH2.out.free 2
    have hH3 := HH2.out.set2 (al + 1)
    have hKp4 := HK3.out.setA 2 (.int .u64 ((al + 1 : Nat) : Int))
    have e1 : ((al + 1 : Nat) : Int) = (al : Int) + 1 := by omega
    rw [e1] at hH3 hKp4
    clear e1
    have hal0 : (0 : Int) ≤ (al : Int) := by omega
    obtain ⟨w3, hw3⟩ : ∃ w3, w3 = w2.setCell ⟨h, 2, none⟩ (.int .u64 ((al : Int) + 1)) := ⟨_, rfl⟩
    rw [← hw3] at hH3 hKp4
    have HW3 := Lib.hid hw3; clear hw3 HH2 HK3
    have HH3 := Lib.hid hH3; clear hH3
    have HK4 := Lib.hid hKp4; clear hKp4
    go_upto_region 7 with fail
    rw [← HW3.out]
    clear c2 f2 HW3
    have c3 := HH3.out.c3
    have f3 := HH3.out.free 3
    have hH4 := HH3.out.set3 (satP sm v)
    have hKp5 := HK4.out.setA 3 (.int .u64 ((satP sm v : Nat) : Int))
    obtain ⟨w4, hw4⟩ : ∃ w4, w4 = w3.setCell ⟨h, 3, none⟩ (.int .u64 ((satP sm v : Nat) : Int)) := ⟨_, rfl⟩
    rw [← hw4] at hH4 hKp5
    have HW4 := Lib.hid hw4; clear hw4 HH3 HK4
    have HH4 := Lib.hid hH4; clear hH4
    have HK5 := Lib.hid hKp5; clear hKp5
    go_wp2_with (go_at_call 31; refine (more_any sm v hsm hv _).mono ?_; rintro e w' ⟨rfl, hww⟩; subst hww)
    rw [← HW4.out]
    clear c3 f3 HW4
    obtain ⟨mn, hmE⟩ : ∃ mn, mn = min v v := ⟨_, rfl⟩
    obtain ⟨mx, hxE⟩ : ∃ mx, mx = max v v := ⟨_, rfl⟩
    have hmn : (if v < v then (v : Int) else (v : Int)) = (v : Int) := by split <;> omega
    have hmx : (if v < v then (v : Int) else (v : Int)) = (v : Int) := by split <;> omega
    have HME := Lib.hid hmE; clear hmE
    have HXE := Lib.hid hxE; clear hxE
    have c4 := HH4.out.c4
    have c5 := HH4.out.c5
    have f4 := HH4.out.free 4
    have f5 := HH4.out.free 5
    go_region
    have hFin : HSt ((w4.setCell ⟨h, 4, none⟩ (.int .u64 (v : Int))).setCell ⟨h, 5, none⟩ (.int .u64 (v : Int))).drew B h A nb bcap Bd c (upd K p (K p + 1)) (al + 1) (satP sm v) v v := ((HH4.out.set4 v).set5 v).drew
    have hFinK : Keep h c w ((w4.setCell ⟨h, 4, none⟩ (.int .u64 (v : Int))).setCell ⟨h, 5, none⟩ (.int .u64 (v : Int))).drew := ((HK5.out.setA 4 _).setA 5 _).drew
    have HFIN := Lib.hid (And.intro hFin hFinK)
    clear hFin hFinK
    generalize ((w4.setCell ⟨h, 4, none⟩ (.int .u64 (v : Int))).setCell ⟨h, 5, none⟩ (.int .u64 (v : Int))).drew = wF at HFIN ⊢
    clear c4 c5 f4 f5 hmn hmx
    go_wp2
    go_ret
    obtain ⟨h1, h2⟩ := HFIN.out; rw [HP.out] at h1; refine ⟨rfl, ?_, h2⟩; unfold leastN topN; rw [if_pos H0.out, if_pos H0.out]; exact h1
  · have hb : ((al : Int) == 0) = false := by simp; omega
    have c2 := H.c2
    have HQ := Lib.hid H; clear H
    have HKP := Lib.hid (Keep.refl h c w)
    go_upto_region 5 with fail
    clear c2

    obtain ⟨p, hp⟩ : ∃ p, p = whereP Bd v nb := ⟨_, rfl⟩
    have hpn : p ≤ nb := by rw [hp]; exact whereP_le Bd v nb
    have hw := fun (w' : World) (H' : HSt w' B h A nb bcap Bd c K al sm lt tp) => where_any w' B h A nb bcap Bd c K al sm lt tp v H' hnb hs
    rw [← hp] at hw
    have hKp := hK p
    have HP := Lib.hid hp; clear hp
    have HW := Lib.hid hw; clear hw
    have hpi : (p : Int) < (nb : Int) + 1 := by omega
    have hp0 : (0 : Int) ≤ (p : Int) := by omega
    have hK0 : (0 : Int) ≤ (K p : Int) := by omega
    have hK1 : (K p : Int) < 1000000 := by omega
    have x1 := HQ.out.c1
    have xk := HQ.out.k p (by omega)
    have xf := HQ.out.kfree p
    go_wp2_with fail
    go_still_tail 11, (by kernel_rfl)
    still_call (HW.out _ HQ.out.drew)
    repeat still_step
    refine wpStill_nil ?_
    change wpList _ _ _ _ _ w.drew
    clear x1 xk xf
    have hH : HSt w.drew B h A nb bcap Bd c K al sm lt tp := HQ.out.drew
    have hKp2 : Keep h c w w.drew := HKP.out.drew
    generalize w.drew = w1 at hH hKp2 ⊢
    have x1 := hH.c1
    have xk := hH.k p (by omega)
    have xf := hH.kfree p
    have hH2 := hH.setK p (K p + 1) (by omega)
    have hKp3 := hKp2.setB p (.int .u64 ((K p + 1 : Nat) : Int))
    have e1 : ((K p + 1 : Nat) : Int) = (K p : Int) + 1 := by omega
    rw [e1] at hH2 hKp3
    clear e1 hKp2
    obtain ⟨w2, hw2⟩ : ∃ w2, w2 = w1.setCell ⟨c, p, none⟩ (.int .u64 ((K p : Int) + 1)) := ⟨_, rfl⟩
    rw [← hw2] at hH2 hKp3
    have HW2 := Lib.hid hw2; clear hw2 hH
    have HH2 := Lib.hid hH2; clear hH2
    have HK3 := Lib.hid hKp3; clear hKp3
    go_upto_region 6 with fail
    rw [← HW2.out]
    clear x1 xk xf HW2
    have c2 := HH2.out.c2
    have f2 := HH2.out.free 2
    have hH3 := HH2.out.set2 (al + 1)
    have hKp4 := HK3.out.setA 2 (.int .u64 ((al + 1 : Nat) : Int))
    have e1 : ((al + 1 : Nat) : Int) = (al : Int) + 1 := by omega
    rw [e1] at hH3 hKp4
    clear e1
    have hal0 : (0 : Int) ≤ (al : Int) := by omega
    obtain ⟨w3, hw3⟩ : ∃ w3, w3 = w2.setCell ⟨h, 2, none⟩ (.int .u64 ((al : Int) + 1)) := ⟨_, rfl⟩
    rw [← hw3] at hH3 hKp4
    have HW3 := Lib.hid hw3; clear hw3 HH2 HK3
    have HH3 := Lib.hid hH3; clear hH3
    have HK4 := Lib.hid hKp4; clear hKp4
    go_upto_region 7 with fail
    rw [← HW3.out]
    clear c2 f2 HW3
    have c3 := HH3.out.c3
    have f3 := HH3.out.free 3
    have hH4 := HH3.out.set3 (satP sm v)
    have hKp5 := HK4.out.setA 3 (.int .u64 ((satP sm v : Nat) : Int))
    obtain ⟨w4, hw4⟩ : ∃ w4, w4 = w3.setCell ⟨h, 3, none⟩ (.int .u64 ((satP sm v : Nat) : Int)) := ⟨_, rfl⟩
    rw [← hw4] at hH4 hKp5
    have HW4 := Lib.hid hw4; clear hw4 HH3 HK4
    have HH4 := Lib.hid hH4; clear hH4
    have HK5 := Lib.hid hKp5; clear hKp5
    go_wp2_with (go_at_call 31; refine (more_any sm v hsm hv _).mono ?_; rintro e w' ⟨rfl, hww⟩; subst hww)
    rw [← HW4.out]
    clear c3 f3 HW4
    obtain ⟨mn, hmE⟩ : ∃ mn, mn = min lt v := ⟨_, rfl⟩
    obtain ⟨mx, hxE⟩ : ∃ mx, mx = max tp v := ⟨_, rfl⟩
    have hmn : (if v < lt then (v : Int) else (lt : Int)) = (mn : Int) := by split <;> omega
    have hmx : (if tp < v then (v : Int) else (tp : Int)) = (mx : Int) := by split <;> omega
    have HME := Lib.hid hmE; clear hmE
    have HXE := Lib.hid hxE; clear hxE
    have c4 := HH4.out.c4
    have c5 := HH4.out.c5
    have f4 := HH4.out.free 4
    have f5 := HH4.out.free 5
    go_region
    have hFin : HSt ((w4.setCell ⟨h, 4, none⟩ (.int .u64 (mn : Int))).setCell ⟨h, 5, none⟩ (.int .u64 (mx : Int))).drew B h A nb bcap Bd c (upd K p (K p + 1)) (al + 1) (satP sm v) mn mx := ((HH4.out.set4 mn).set5 mx).drew
    have hFinK : Keep h c w ((w4.setCell ⟨h, 4, none⟩ (.int .u64 (mn : Int))).setCell ⟨h, 5, none⟩ (.int .u64 (mx : Int))).drew := ((HK5.out.setA 4 _).setA 5 _).drew
    have HFIN := Lib.hid (And.intro hFin hFinK)
    clear hFin hFinK
    generalize ((w4.setCell ⟨h, 4, none⟩ (.int .u64 (mn : Int))).setCell ⟨h, 5, none⟩ (.int .u64 (mx : Int))).drew = wF at HFIN ⊢
    clear c4 c5 f4 f5 hmn hmx
    go_wp2
    go_ret
    obtain ⟨h1, h2⟩ := HFIN.out; rw [HP.out, HME.out, HXE.out] at h1; refine ⟨rfl, ?_, h2⟩; unfold leastN topN; rw [if_neg h0, if_neg h0]; exact h1
  end Go.Proofs.Ytpemmjaengbogaa
