/- Texts of the proof, merged: KTell, KDelta, KDelta2, KLine, KLock, KOne, KRel. -/
import Derived.Test.YtnhmdinpfcoebaaGreatDoorM25
import Derived.Test.YtnhmdinpfcoebaaGreatDoorM26
import Derived.Test.YtnhmdinpfcoebaaGreatDoorM03
import Derived.Test.YtnhmdinpfcoebaaGreatDoorM09
/-! === KTell -/
section
/- kern.Kernel: tell, take. -/
namespace Go.Proofs.YtnhmdinpfcoebaaGreatDoor
open Go.Proofs.YtnhmdinpfcoebaaGreatDoor.Qu
open Go.RowKit
set_option linter.unusedVariables false
set_option linter.unusedSimpArgs false
set_option maxRecDepth 100000

open Go.Lib
attribute [local simp] RelKnown Is
attribute [local irreducible] kCells
set_option maxHeartbeats 4000000 in
theorem pass_any (w : World) (fi : BitVec 32) (kind : Nat) (h1 : 1 ≤ kind) (h2 : kind < 24) : Calls Tryz.prog 144 #[.int .u32 fi.toNat, .int .i64 kind] w fun e w' => e = .returned (.bool (fi.getLsbD kind)) ∧ w' = w := by
  have hb := bit_word fi kind (by omega)
  have HI := Lib.hid (show Top.isKind (kind : Int) = true by unfold Top.isKind; simp; omega)
  have h24 : ((kind : Int) == 24) = false := by
    have : ¬ (kind : Int) = 24 := by omega
    simpa using this
  have hk : (0 : Int) ≤ (kind : Int) := by omega
  have hk3 : (kind : Int) < 32 := by omega
  have h1b : (bits .and .u32 ((fi.toNat : Int) / 2 ^ kind) 1 == 1) = fi.getLsbD kind := by
    have h := bits_and32 (BitVec.ofNat 32 (fi.toNat / 2 ^ kind)) 1#32
    have hx : fi.toNat / 2 ^ kind < 4294967296 := Nat.lt_of_le_of_lt (Nat.div_le_self _ _) fi.isLt
    rw [BitVec.toNat_and, BitVec.toNat_ofNat, Nat.mod_eq_of_lt (show _ < 2 ^ 32 from hx)] at h
    have e0 : ((fi.toNat : Int) / 2 ^ kind) = ((fi.toNat / 2 ^ kind : Nat) : Int) := by rw [Int.natCast_ediv, Int.natCast_pow]; rfl
    rw [e0, show (1 : Int) = ((1#32).toNat : Int) from rfl, h, ← BitVec.testBit_toNat, Nat.testBit_eq_decide_div_mod_eq]
    have : fi.toNat / 2 ^ kind &&& (1#32).toNat = fi.toNat / 2 ^ kind % 2 := Nat.and_one_is_mod _
    rw [this]
    rcases Nat.mod_two_eq_zero_or_one (fi.toNat / 2 ^ kind) with e | e <;> rw [e] <;> rfl
  clear hb h1 h2
  go_enter Tryz.func144, Tryz.ntmps144
  go_wp2_with fail
  refine (is_any w kind true HI.out).mono ?_
  rintro _ w2 ⟨rfl, rfl⟩
  go_wp2
  go_ret
  exact ⟨rfl, rfl⟩
/-- What tell leaves. -/
def Told (w0 : World) (B b : Nat) (s : KS) (ch : Nat) (L : List Top.Ev) (w : World) : Prop :=
  ∃ v', KAt w b { s with told := v', cycle := s.cycle + ch } ∧ w.ownsRow B 98 6 v' L.length (evsC L) ∧ Kp (fun k => k ≠ b ∧ s.told.ownBlock ≠ some k) w0 w ∧ ∀ k, k < w0.heap.size → v'.ownBlock = some k → s.told.ownBlock = some k
set_option maxHeartbeats 8000000 in
theorem tell_w (w : World) (B b : Nat) (s : KS) (fi : BitVec 32) (ch kind a a2 vv : Nat) (L : List Top.Ev) (hK : KAt w b s) (ho : w.ownsRow B 98 6 s.told L.length (evsC L)) (hB : B ≤ w.heap.size) (hfi : s.cf 8 = .int .u32 fi.toNat) (hch : s.cf 9 = .int .i64 ch) (hps : fi.getLsbD kind = true)
    (hk1 : 1 ≤ kind) (hk2 : kind < 24) (ha : a < 4294967296) (ha2 : a2 < 4294967296) (hcy : s.cycle + ch < 18446744073709551616) (hL : L.length ≤ 100000) :
    Calls Tryz.prog 117 #[.pointer (some ⟨b, 0, none⟩), .int .i64 kind, .int .i64 a, .int .i64 a2, .int .u32 vv] w fun r w' => r = .returned (.tuple #[]) ∧ Told w B b s ch (L ++ [⟨kind, s.cycle, s.count, a, a2, vv⟩]) w' := by
  obtain ⟨A, cap, htv, _⟩ := own_slice ho
  have HTV := Lib.hid htv
  rw [htv] at ho
  have HO := Lib.hid ho
  have HK := Lib.hid hK
  have HB := Lib.hid hB
  have HFI := Lib.hid hfi
  have HCH := Lib.hid hch
  have HPS := Lib.hid hps
  have HLN := Lib.hid hL
  have HWA := Lib.hid (show IntKind.u32.wrap (a : Int) = (a : Int) by rw [IntKind.wrap_u32']; omega)
  have HWB := Lib.hid (show IntKind.u32.wrap (a2 : Int) = (a2 : Int) by rw [IntKind.wrap_u32']; omega)
  have HCW := Lib.hid (show IntKind.u64.wrap (ch : Int) = (ch : Int) by rw [wrap_u64n]; omega)
  have HW64 := Lib.hid (show IntKind.u64.wrap ((s.cycle : Int) + (ch : Int)) = ((s.cycle + ch : Nat) : Int) by rw [wrap_u64n]; omega)
  obtain ⟨i0, hi, hz0, hz1, hz2⟩ := info_parts info98z
  have HI0 := Lib.hid hi; clear hi
  have HZ0 := Lib.hid hz0; clear hz0
  have HZ1 := Lib.hid hz1; clear hz1
  have HZ2 := Lib.hid hz2; clear hz2
  clear ho hK hB hfi hch hps ha ha2 hcy hL htv
  go_enter Tryz.func117, Tryz.ntmps117
  have k526 := HK.out.cf 8 (by decide) 526 rfl _ HFI.out
  go_wp2_with fail
  refine (pass_any w fi kind hk1 hk2).mono ?_
  rw [HPS.out]
  rintro _ w2 ⟨rfl, hw⟩
  have hw := hw.symm
  subst hw
  clear k526
  have k0 := HK.out.count
  have k1 := HK.out.cycle
  have k549 := HK.out.told
  rw [HTV.out] at k549
  go_upto_region 1 with (fail)
  have hwa := HWA.out
  have hwb := HWB.out
  refine wp_region_rel_float 23 0 (_) (_) _ Grow (fun _ wQ => Grow w wQ) [([(0, none)], none), ([(0, none)], none), ([(18, some 0)], none), ([(19, some 0)], none), ([(20, some 0)], none), ([(1, none)], none), ([(0, none)], none), ([(23, some 0)], none), ([(24, some 0)], none), ([(25, some 0)], none), ([(26, some 0)], none), ([(0, none)], none), ([(28, some 0)], none), ([(29, some 0)], none), ([(30, some 0)], none), ([(31, some 0)], none), ([(2, none)], none), ([(33, some 0)], none), ([(3, none)], none), ([(35, some 0)], none), ([(4, none)], none), ([(22, some 15), (27, some 10), (32, some 5), (34, some 3), (36, some 1), (37, some 0)], none), ([(38, some 0)], none)] (by kernel_rfl) (by decide +kernel) rfl rfl (by kernel_rfl) (Grow.drewN w 1) ?_
  (refine relF_pure ?_; apply Exists.intro; refine ⟨fun aR wQ hF hk => relT_none fun K hK => ?_, ?_⟩; focus ((try simp at hk); go_simp; exact hK _ _ (Grow.refl _) hF rfl))
  (refine relF_pure ?_; apply Exists.intro; refine ⟨fun aR wQ hF hk => relT_none fun K hK => ?_, ?_⟩; focus ((try simp at hk); go_simp; exact hK _ _ (Grow.refl _) hF rfl))
  (refine relF_pure ?_; apply Exists.intro; refine ⟨fun aR wQ hF hk => relT_none fun K hK => ?_, ?_⟩; focus ((try simp at hk); go_simp; exact hK _ _ (Grow.refl _) hF rfl))
  (refine relF_pure ?_; apply Exists.intro; refine ⟨fun aR wQ hF hk => relT_none fun K hK => ?_, ?_⟩; focus ((try simp at hk); go_simp; exact hK _ _ (Grow.refl _) hF rfl))
  (refine relF_pure ?_; apply Exists.intro; refine ⟨fun aR wQ hF hk => relT_none fun K hK => ?_, ?_⟩; focus ((try simp at hk); have k549 := cell_below hF (Nat.le_refl _) k549; go_simp; exact hK _ _ (Grow.refl _) hF rfl))
  (refine relF_pure ?_; apply Exists.intro; refine ⟨fun aR wQ hF hk => relT_none fun K hK => ?_, ?_⟩; focus ((try simp at hk); go_simp; exact hK _ _ (Grow.refl _) hF rfl))
  (refine relF_pure ?_; apply Exists.intro; refine ⟨fun aR wQ hF hk => relT_none fun K hK => ?_, ?_⟩; focus ((try simp at hk); go_simp; exact hK _ _ (Grow.refl _) hF rfl))
  (refine relF_pure ?_; apply Exists.intro; refine ⟨fun aR wQ hF hk => relT_none fun K hK => ?_, ?_⟩; focus ((try simp at hk); go_simp; exact hK _ _ (Grow.refl _) hF rfl))
  (refine relF_pure ?_; apply Exists.intro; refine ⟨fun aR wQ hF hk => relT_none fun K hK => ?_, ?_⟩; focus ((try simp at hk); go_simp; exact hK _ _ (Grow.refl _) hF rfl))
  (refine relF_pure ?_; apply Exists.intro; refine ⟨fun aR wQ hF hk => relT_none fun K hK => ?_, ?_⟩; focus ((try simp at hk); go_simp; exact hK _ _ (Grow.refl _) hF rfl))
  (refine relF_pure ?_; apply Exists.intro; refine ⟨fun aR wQ hF hk => relT_none fun K hK => ?_, ?_⟩; focus ((try simp at hk); have k1 := cell_below hF (Nat.le_refl _) k1; go_simp; exact hK _ _ (Grow.refl _) hF rfl))
  (refine relF_pure ?_; apply Exists.intro; refine ⟨fun aR wQ hF hk => relT_none fun K hK => ?_, ?_⟩; focus ((try simp at hk); go_simp; exact hK _ _ (Grow.refl _) hF rfl))
  (refine relF_pure ?_; apply Exists.intro; refine ⟨fun aR wQ hF hk => relT_none fun K hK => ?_, ?_⟩; focus ((try simp at hk); go_simp; exact hK _ _ (Grow.refl _) hF rfl))
  (refine relF_pure ?_; apply Exists.intro; refine ⟨fun aR wQ hF hk => relT_none fun K hK => ?_, ?_⟩; focus ((try simp at hk); go_simp; exact hK _ _ (Grow.refl _) hF rfl))
  (refine relF_pure ?_; apply Exists.intro; refine ⟨fun aR wQ hF hk => relT_none fun K hK => ?_, ?_⟩; focus ((try simp at hk); go_simp; exact hK _ _ (Grow.refl _) hF rfl))
  (refine relF_pure ?_; apply Exists.intro; refine ⟨fun aR wQ hF hk => relT_none fun K hK => ?_, ?_⟩; focus ((try simp at hk); have k0 := cell_below hF (Nat.le_refl _) k0; go_simp; exact hK _ _ (Grow.refl _) hF rfl))
  (refine relF_pure ?_; apply Exists.intro; refine ⟨fun aR wQ hF hk => relT_none fun K hK => ?_, ?_⟩; focus ((try simp at hk); go_simp; exact hK _ _ (Grow.refl _) hF rfl))
  (refine relF_pure ?_; apply Exists.intro; refine ⟨fun aR wQ hF hk => relT_none fun K hK => ?_, ?_⟩; focus ((try simp at hk); go_simp; exact hK _ _ (Grow.refl _) hF rfl))
  (refine relF_pure ?_; apply Exists.intro; refine ⟨fun aR wQ hF hk => relT_none fun K hK => ?_, ?_⟩; focus ((try simp at hk); go_simp; exact hK _ _ (Grow.refl _) hF rfl))
  (refine relF_pure ?_; apply Exists.intro; refine ⟨fun aR wQ hF hk => relT_none fun K hK => ?_, ?_⟩; focus ((try simp at hk); go_simp; exact hK _ _ (Grow.refl _) hF rfl))
  (refine relF_pure ?_; apply Exists.intro; refine ⟨fun aR wQ hF hk => relT_none fun K hK => ?_, ?_⟩; focus ((try simp at hk); go_simp; exact hK _ _ (Grow.refl _) hF rfl))
  (refine relF_pure ?_; apply Exists.intro; refine ⟨fun aR wQ hF hk => relT_none fun K hK => ?_, ?_⟩; focus ((try simp at hk); go_simp; exact hK _ _ (Grow.refl _) hF rfl))
  (refine relF_some (fun v wv => ∃ gb, v = .slice (some ⟨gb, 0, none⟩) 1 1 ∧ wv.heap[gb]? = some (.cells (evC ⟨kind, s.cycle, s.count, a, a2, vv⟩) 98 (0, 0))) (fun v w1 w2 hg ⟨gb, hv, hb⟩ => ⟨gb, hv, Grow.at hg hb⟩) (fun aR wQ hF hk => relT_none fun K hK => ?_) ?_; focus ((try simp at hk); go_simp; exact hK _ _ (Grow.alloc _ _) (Grow.trans hF (Grow.alloc _ _)) ⟨_, rfl, heapAt_alloc_new _ _⟩))
  refine relF_done (fun wR => ?_) (fun wR => ?_)
  · refine fun v hv => ?_; obtain rfl : v = _ := hv
    refine fun v hv => ?_; obtain rfl : v = _ := hv
    refine fun v hv => ?_; obtain rfl : v = _ := hv
    refine fun v hv => ?_; obtain rfl : v = _ := hv
    refine fun v hv => ?_; obtain rfl : v = _ := hv
    refine fun v hv => ?_; obtain rfl : v = _ := hv
    refine fun v hv => ?_; obtain rfl : v = _ := hv
    refine fun v hv => ?_; obtain rfl : v = _ := hv
    refine fun v hv => ?_; obtain rfl : v = _ := hv
    refine fun v hv => ?_; obtain rfl : v = _ := hv
    refine fun v hv => ?_; obtain rfl : v = _ := hv
    refine fun v hv => ?_; obtain rfl : v = _ := hv
    refine fun v hv => ?_; obtain rfl : v = _ := hv
    refine fun v hv => ?_; obtain rfl : v = _ := hv
    refine fun v hv => ?_; obtain rfl : v = _ := hv
    refine fun v hv => ?_; obtain rfl : v = _ := hv
    refine fun v hv => ?_; obtain rfl : v = _ := hv
    refine fun v hv => ?_; obtain rfl : v = _ := hv
    refine fun v hv => ?_; obtain rfl : v = _ := hv
    refine fun v hv => ?_; obtain rfl : v = _ := hv
    refine fun v hv => ?_; obtain rfl : v = _ := hv
    refine fun v hv => ?_; obtain rfl : v = _ := hv
    refine fun v1022 hv1022 => ?_
    obtain ⟨gb22, rfl, hgb22⟩ := hv1022
    simp only [Act.put, List.setIfInBounds_toArray, List.set_cons_zero, List.set_cons_succ]
    refine relT_nil fun hF => ?_
    simp only [List.drop_succ_cons, List.drop_zero]
    have HRK := Lib.hid (show KAt wR b s from hF.at HK.out)
    have HRO := Lib.hid (own_grow HO.out hF)
    have HRR := Lib.hid (show Reads wR wR.heap.size 6 (some ⟨gb22, 0, none⟩) 1 (evL ⟨kind, s.cycle, s.count, a, a2, vv⟩) from reads_ev hgb22)
    have HRP := Lib.hid (Kp.of_grow (P := fun k => k ≠ b ∧ (Value.slice A L.length cap).ownBlock ≠ some k) hF)
    have HRB := Lib.hid (show B ≤ wR.heap.size from Nat.le_trans HB.out hF.size)
    clear hF hgb22 k0 k1 k549
    go_wp2_with (at_builtin; refine wpList_append_any _ rfl (.tmp 21) (.tmp 39) 41 rfl B 98 i0 _ 6 40 Tryz.underlying41 HI0.out HZ0.out HZ1.out HZ2.out rfl (by decide) _ L.length (evsC L) (by rfl) HRO.out _ (some ⟨gb22, 0, none⟩) 1 1 (evL ⟨kind, s.cycle, s.count, a, a2, vv⟩) (by rfl) HRR.out (evL_one _) ?c40 ?c50 ?c60 ?c70)
    case c40 => have := HLN.out; unfold maxLen; omega
    case c50 => have := HLN.out; omega
    case c60 => exact HRB.out
    case c70 =>
      intro v' w10 hown hgr hblk
      have HK10 := Lib.hid (show KAt w10 b s from at_grown HRO.out hgr HRK.out (by decide))
      have HP10 := Lib.hid (HRP.out.trans (Kp.of_grown hgr (fun k h => h.2)))
      have HBLK := Lib.hid (show ∀ k, k < w.heap.size → v'.ownBlock = some k → (Value.slice A L.length cap).ownBlock = some k from fun k hk h => by
        rcases hblk with h2 | h2
        · rw [← h2]; exact h
        · rw [h2] at h; injection h with h; have := HRP.out.size; omega)
      have HW10 := Lib.hid hown
      have HV := Lib.hid (own_one hown)
      have HKH := Lib.hid (show w10.heap[b]? = some (.cells (kCells s) 187 (0, 0)) from HK10.out)
      clear hown hgr hblk
      go_upto_region 2 with (first
        | ((with_reducible refine store_in rfl 41 _ _ rfl b 549 187 _ (kCells { s with told := v' }) v' info41s HKH.out HV.out ?_ ?_ ?_ ?_ ?_); (· rfl); (· rfl); (· rw [kCells_size]; decide); (· exact k_told s v'); intro w11 hw11 hb11 ho11; clear hw11))
      try simp only [Act.put, List.setIfInBounds_toArray, List.set_cons_zero, List.set_cons_succ]
      have HK11 := Lib.hid (show KAt w11 b { s with told := v' } from hb11)
      have HW11 := Lib.hid (own_only HW10.out ho11 HK10.out (by decide))
      have HP11 := Lib.hid (HP10.out.trans (Kp.of_only ho11 (fun h => h.1 rfl)))
      clear hb11 ho11 HK10 HW10 HP10
      have k1 := HK11.out.cycle
      have k527 := HK11.out.cf 9 (by decide) 527 rfl _ HCH.out
      have hw64 := HW64.out
      have hch := HCW.out
      dsimp only at k1
      refine wp_region_rel_tail 12 _ Grow (fun _ wQ => Grow w11 wQ) [([(0, none)], none), ([(43, some 0)], none), ([(44, some 0)], none), ([(45, some 0)], none), ([(46, some 0)], none), ([(0, none)], none), ([(48, some 0)], none), ([(49, some 0)], none), ([(50, some 0)], none), ([(51, some 0)], none), ([(52, some 0)], none), ([(47, some 6), (53, some 0)], none)] (by kernel_rfl) (by kernel_rfl) (by kernel_rfl) (Grow.drewN w11 1) ?_
      (refine relT_pure ?_; apply Exists.intro; refine ⟨fun aR wQ hF hk => relT_none fun K hK => ?_, ?_⟩; focus ((try simp at hk); go_simp; exact hK _ _ (Grow.refl _) hF rfl))
      (refine relT_pure ?_; apply Exists.intro; refine ⟨fun aR wQ hF hk => relT_none fun K hK => ?_, ?_⟩; focus ((try simp at hk); go_simp; exact hK _ _ (Grow.refl _) hF rfl))
      (refine relT_pure ?_; apply Exists.intro; refine ⟨fun aR wQ hF hk => relT_none fun K hK => ?_, ?_⟩; focus ((try simp at hk); go_simp; exact hK _ _ (Grow.refl _) hF rfl))
      (refine relT_pure ?_; apply Exists.intro; refine ⟨fun aR wQ hF hk => relT_none fun K hK => ?_, ?_⟩; focus ((try simp at hk); go_simp; exact hK _ _ (Grow.refl _) hF rfl))
      (refine relT_pure ?_; apply Exists.intro; refine ⟨fun aR wQ hF hk => relT_none fun K hK => ?_, ?_⟩; focus ((try simp at hk); have k1 := cell_below hF (Nat.le_refl _) k1; go_simp; exact hK _ _ (Grow.refl _) hF rfl))
      (refine relT_pure ?_; apply Exists.intro; refine ⟨fun aR wQ hF hk => relT_none fun K hK => ?_, ?_⟩; focus ((try simp at hk); go_simp; exact hK _ _ (Grow.refl _) hF rfl))
      (refine relT_pure ?_; apply Exists.intro; refine ⟨fun aR wQ hF hk => relT_none fun K hK => ?_, ?_⟩; focus ((try simp at hk); go_simp; exact hK _ _ (Grow.refl _) hF rfl))
      (refine relT_pure ?_; apply Exists.intro; refine ⟨fun aR wQ hF hk => relT_none fun K hK => ?_, ?_⟩; focus ((try simp at hk); go_simp; exact hK _ _ (Grow.refl _) hF rfl))
      (refine relT_pure ?_; apply Exists.intro; refine ⟨fun aR wQ hF hk => relT_none fun K hK => ?_, ?_⟩; focus ((try simp at hk); go_simp; exact hK _ _ (Grow.refl _) hF rfl))
      (refine relT_pure ?_; apply Exists.intro; refine ⟨fun aR wQ hF hk => relT_none fun K hK => ?_, ?_⟩; focus ((try simp at hk); have k527 := cell_below hF (Nat.le_refl _) k527; go_simp; exact hK _ _ (Grow.refl _) hF rfl))
      (refine relT_pure ?_; apply Exists.intro; refine ⟨fun aR wQ hF hk => relT_none fun K hK => ?_, ?_⟩; focus ((try simp at hk); go_simp; exact hK _ _ (Grow.refl _) hF rfl))
      (refine relT_pure ?_; apply Exists.intro; refine ⟨fun aR wQ hF hk => relT_none fun K hK => ?_, ?_⟩; focus ((try simp at hk); go_simp; exact hK _ _ (Grow.refl _) hF rfl))
      refine relT_done fun wR => ?_
      refine fun v hv => ?_; obtain rfl : v = _ := hv
      refine fun v hv => ?_; obtain rfl : v = _ := hv
      refine fun v hv => ?_; obtain rfl : v = _ := hv
      refine fun v hv => ?_; obtain rfl : v = _ := hv
      refine fun v hv => ?_; obtain rfl : v = _ := hv
      refine fun v hv => ?_; obtain rfl : v = _ := hv
      refine fun v hv => ?_; obtain rfl : v = _ := hv
      refine fun v hv => ?_; obtain rfl : v = _ := hv
      refine fun v hv => ?_; obtain rfl : v = _ := hv
      refine fun v hv => ?_; obtain rfl : v = _ := hv
      refine fun v hv => ?_; obtain rfl : v = _ := hv
      refine fun v hv => ?_; obtain rfl : v = _ := hv
      simp only [Act.put, List.setIfInBounds_toArray, List.set_cons_zero, List.set_cons_succ]
      refine relT_nil fun hF => ?_
      simp only [List.drop_succ_cons, List.drop_zero]
    
      have HK12 := Lib.hid (show KAt wR b { s with told := v' } from hF.at HK11.out)
      have HW12 := Lib.hid (own_grow HW11.out hF)
      have HP12 := Lib.hid (HP11.out.trans (Kp.of_grow hF))
      have HKI := Lib.hid (show wR.heap[b]? = some (.cells (kCells { s with told := v' }) 187 (0, 0)) from HK12.out)
      clear hF HK11 HW11 HP11 k1 k527
      go_wp2_with (first
        | ((with_reducible refine store_in rfl 53 _ _ rfl b 1 187 _ (kCells { s with told := v', cycle := s.cycle + ch }) (.int .u64 ((s.cycle : Int) + (ch : Int))) info53 HKI.out rfl ?_ ?_ ?_ ?_ ?_); (· rfl); (· rfl); (· rw [kCells_size]; decide); (· rw [show ((s.cycle : Int) + (ch : Int)) = ((s.cycle + ch : Nat) : Int) from (Int.natCast_add _ _).symm]; exact k_cycle { s with told := v' } (s.cycle + ch)); intro w13 hw13 hb13 ho13; clear hw13))
      go_end0
      refine ⟨rfl, ?_⟩
      unfold Told
      rw [HTV.out]
      refine ⟨v', hb13, ?_, HP12.out.trans (Kp.of_only ho13 (fun h => h.1 rfl)), HBLK.out⟩
      rw [List.length_append, evsC_append]
      show w13.ownsRow B 98 6 v' (L.length + 1) (evsC L ++ (evL _ ++ []))
      rw [List.append_nil]
      exact own_only HW12.out ho13 HK12.out (by decide)
  · refine fun v hv => ?_; obtain rfl : v = _ := hv
    refine fun v hv => ?_; obtain rfl : v = _ := hv
    refine fun v hv => ?_; obtain rfl : v = _ := hv
    refine fun v hv => ?_; obtain rfl : v = _ := hv
    refine fun v hv => ?_; obtain rfl : v = _ := hv
    refine fun v hv => ?_; obtain rfl : v = _ := hv
    refine fun v hv => ?_; obtain rfl : v = _ := hv
    refine fun v hv => ?_; obtain rfl : v = _ := hv
    refine fun v hv => ?_; obtain rfl : v = _ := hv
    refine fun v hv => ?_; obtain rfl : v = _ := hv
    refine fun v hv => ?_; obtain rfl : v = _ := hv
    refine fun v hv => ?_; obtain rfl : v = _ := hv
    refine fun v hv => ?_; obtain rfl : v = _ := hv
    refine fun v hv => ?_; obtain rfl : v = _ := hv
    refine fun v hv => ?_; obtain rfl : v = _ := hv
    refine fun v hv => ?_; obtain rfl : v = _ := hv
    refine fun v hv => ?_; obtain rfl : v = _ := hv
    refine fun v hv => ?_; obtain rfl : v = _ := hv
    refine fun v hv => ?_; obtain rfl : v = _ := hv
    refine fun v hv => ?_; obtain rfl : v = _ := hv
    refine fun v hv => ?_; obtain rfl : v = _ := hv
    refine fun v1022 hv1022 => ?_
    obtain ⟨gb22, rfl, hgb22⟩ := hv1022
    simp only [Act.put, List.setIfInBounds_toArray, List.set_cons_zero, List.set_cons_succ]
    refine relT_nil fun hF => ?_
    simp only [List.drop_succ_cons, List.drop_zero]
    have HRK := Lib.hid (show KAt wR b s from hF.at HK.out)
    have HRO := Lib.hid (own_grow HO.out hF)
    have HRR := Lib.hid (show Reads wR wR.heap.size 6 (some ⟨gb22, 0, none⟩) 1 (evL ⟨kind, s.cycle, s.count, a, a2, vv⟩) from reads_ev hgb22)
    have HRP := Lib.hid (Kp.of_grow (P := fun k => k ≠ b ∧ (Value.slice A L.length cap).ownBlock ≠ some k) hF)
    have HRB := Lib.hid (show B ≤ wR.heap.size from Nat.le_trans HB.out hF.size)
    clear hF hgb22 k0 k1 k549
    go_wp2_with (at_builtin; refine wpList_append_any _ rfl (.tmp 21) (.tmp 39) 41 rfl B 98 i0 _ 6 40 Tryz.underlying41 HI0.out HZ0.out HZ1.out HZ2.out rfl (by decide) _ L.length (evsC L) (by rfl) HRO.out _ (some ⟨gb22, 0, none⟩) 1 1 (evL ⟨kind, s.cycle, s.count, a, a2, vv⟩) (by rfl) HRR.out (evL_one _) ?c41 ?c51 ?c61 ?c71)
    case c41 => have := HLN.out; unfold maxLen; omega
    case c51 => have := HLN.out; omega
    case c61 => exact HRB.out
    case c71 =>
      intro v' w10 hown hgr hblk
      have HK10 := Lib.hid (show KAt w10 b s from at_grown HRO.out hgr HRK.out (by decide))
      have HP10 := Lib.hid (HRP.out.trans (Kp.of_grown hgr (fun k h => h.2)))
      have HBLK := Lib.hid (show ∀ k, k < w.heap.size → v'.ownBlock = some k → (Value.slice A L.length cap).ownBlock = some k from fun k hk h => by
        rcases hblk with h2 | h2
        · rw [← h2]; exact h
        · rw [h2] at h; injection h with h; have := HRP.out.size; omega)
      have HW10 := Lib.hid hown
      have HV := Lib.hid (own_one hown)
      have HKH := Lib.hid (show w10.heap[b]? = some (.cells (kCells s) 187 (0, 0)) from HK10.out)
      clear hown hgr hblk
      go_upto_region 2 with (first
        | ((with_reducible refine store_in rfl 41 _ _ rfl b 549 187 _ (kCells { s with told := v' }) v' info41s HKH.out HV.out ?_ ?_ ?_ ?_ ?_); (· rfl); (· rfl); (· rw [kCells_size]; decide); (· exact k_told s v'); intro w11 hw11 hb11 ho11; clear hw11))
      try simp only [Act.put, List.setIfInBounds_toArray, List.set_cons_zero, List.set_cons_succ]
      have HK11 := Lib.hid (show KAt w11 b { s with told := v' } from hb11)
      have HW11 := Lib.hid (own_only HW10.out ho11 HK10.out (by decide))
      have HP11 := Lib.hid (HP10.out.trans (Kp.of_only ho11 (fun h => h.1 rfl)))
      clear hb11 ho11 HK10 HW10 HP10
      have k1 := HK11.out.cycle
      have k527 := HK11.out.cf 9 (by decide) 527 rfl _ HCH.out
      have hw64 := HW64.out
      have hch := HCW.out
      dsimp only at k1
      refine wp_region_rel_tail 12 _ Grow (fun _ wQ => Grow w11 wQ) [([(0, none)], none), ([(43, some 0)], none), ([(44, some 0)], none), ([(45, some 0)], none), ([(46, some 0)], none), ([(0, none)], none), ([(48, some 0)], none), ([(49, some 0)], none), ([(50, some 0)], none), ([(51, some 0)], none), ([(52, some 0)], none), ([(47, some 6), (53, some 0)], none)] (by kernel_rfl) (by kernel_rfl) (by kernel_rfl) (Grow.drewN w11 1) ?_
      (refine relT_pure ?_; apply Exists.intro; refine ⟨fun aR wQ hF hk => relT_none fun K hK => ?_, ?_⟩; focus ((try simp at hk); go_simp; exact hK _ _ (Grow.refl _) hF rfl))
      (refine relT_pure ?_; apply Exists.intro; refine ⟨fun aR wQ hF hk => relT_none fun K hK => ?_, ?_⟩; focus ((try simp at hk); go_simp; exact hK _ _ (Grow.refl _) hF rfl))
      (refine relT_pure ?_; apply Exists.intro; refine ⟨fun aR wQ hF hk => relT_none fun K hK => ?_, ?_⟩; focus ((try simp at hk); go_simp; exact hK _ _ (Grow.refl _) hF rfl))
      (refine relT_pure ?_; apply Exists.intro; refine ⟨fun aR wQ hF hk => relT_none fun K hK => ?_, ?_⟩; focus ((try simp at hk); go_simp; exact hK _ _ (Grow.refl _) hF rfl))
      (refine relT_pure ?_; apply Exists.intro; refine ⟨fun aR wQ hF hk => relT_none fun K hK => ?_, ?_⟩; focus ((try simp at hk); have k1 := cell_below hF (Nat.le_refl _) k1; go_simp; exact hK _ _ (Grow.refl _) hF rfl))
      (refine relT_pure ?_; apply Exists.intro; refine ⟨fun aR wQ hF hk => relT_none fun K hK => ?_, ?_⟩; focus ((try simp at hk); go_simp; exact hK _ _ (Grow.refl _) hF rfl))
      (refine relT_pure ?_; apply Exists.intro; refine ⟨fun aR wQ hF hk => relT_none fun K hK => ?_, ?_⟩; focus ((try simp at hk); go_simp; exact hK _ _ (Grow.refl _) hF rfl))
      (refine relT_pure ?_; apply Exists.intro; refine ⟨fun aR wQ hF hk => relT_none fun K hK => ?_, ?_⟩; focus ((try simp at hk); go_simp; exact hK _ _ (Grow.refl _) hF rfl))
      (refine relT_pure ?_; apply Exists.intro; refine ⟨fun aR wQ hF hk => relT_none fun K hK => ?_, ?_⟩; focus ((try simp at hk); go_simp; exact hK _ _ (Grow.refl _) hF rfl))
      (refine relT_pure ?_; apply Exists.intro; refine ⟨fun aR wQ hF hk => relT_none fun K hK => ?_, ?_⟩; focus ((try simp at hk); have k527 := cell_below hF (Nat.le_refl _) k527; go_simp; exact hK _ _ (Grow.refl _) hF rfl))
      (refine relT_pure ?_; apply Exists.intro; refine ⟨fun aR wQ hF hk => relT_none fun K hK => ?_, ?_⟩; focus ((try simp at hk); go_simp; exact hK _ _ (Grow.refl _) hF rfl))
      (refine relT_pure ?_; apply Exists.intro; refine ⟨fun aR wQ hF hk => relT_none fun K hK => ?_, ?_⟩; focus ((try simp at hk); go_simp; exact hK _ _ (Grow.refl _) hF rfl))
      refine relT_done fun wR => ?_
      refine fun v hv => ?_; obtain rfl : v = _ := hv
      refine fun v hv => ?_; obtain rfl : v = _ := hv
      refine fun v hv => ?_; obtain rfl : v = _ := hv
      refine fun v hv => ?_; obtain rfl : v = _ := hv
      refine fun v hv => ?_; obtain rfl : v = _ := hv
      refine fun v hv => ?_; obtain rfl : v = _ := hv
      refine fun v hv => ?_; obtain rfl : v = _ := hv
      refine fun v hv => ?_; obtain rfl : v = _ := hv
      refine fun v hv => ?_; obtain rfl : v = _ := hv
      refine fun v hv => ?_; obtain rfl : v = _ := hv
      refine fun v hv => ?_; obtain rfl : v = _ := hv
      refine fun v hv => ?_; obtain rfl : v = _ := hv
      simp only [Act.put, List.setIfInBounds_toArray, List.set_cons_zero, List.set_cons_succ]
      refine relT_nil fun hF => ?_
      simp only [List.drop_succ_cons, List.drop_zero]
    
      have HK12 := Lib.hid (show KAt wR b { s with told := v' } from hF.at HK11.out)
      have HW12 := Lib.hid (own_grow HW11.out hF)
      have HP12 := Lib.hid (HP11.out.trans (Kp.of_grow hF))
      have HKI := Lib.hid (show wR.heap[b]? = some (.cells (kCells { s with told := v' }) 187 (0, 0)) from HK12.out)
      clear hF HK11 HW11 HP11 k1 k527
      go_wp2_with (first
        | ((with_reducible refine store_in rfl 53 _ _ rfl b 1 187 _ (kCells { s with told := v', cycle := s.cycle + ch }) (.int .u64 ((s.cycle : Int) + (ch : Int))) info53 HKI.out rfl ?_ ?_ ?_ ?_ ?_); (· rfl); (· rfl); (· rw [kCells_size]; decide); (· rw [show ((s.cycle : Int) + (ch : Int)) = ((s.cycle + ch : Nat) : Int) from (Int.natCast_add _ _).symm]; exact k_cycle { s with told := v' } (s.cycle + ch)); intro w13 hw13 hb13 ho13; clear hw13))
      go_end0
      refine ⟨rfl, ?_⟩
      unfold Told
      rw [HTV.out]
      refine ⟨v', hb13, ?_, HP12.out.trans (Kp.of_only ho13 (fun h => h.1 rfl)), HBLK.out⟩
      rw [List.length_append, evsC_append]
      show w13.ownsRow B 98 6 v' (L.length + 1) (evsC L ++ (evL _ ++ []))
      rw [List.append_nil]
      exact own_only HW12.out ho13 HK12.out (by decide)
end Go.Proofs.YtnhmdinpfcoebaaGreatDoor
end

/-! === KDelta -/
section
/- delta.List within the kernel: the first clock put; one clock over; none; none cancelled. -/
namespace Go.Proofs.YtnhmdinpfcoebaaGreatDoor
open Go.Proofs.YtnhmdinpfcoebaaGreatDoor.Qu
open Go.RowKit
set_option linter.unusedVariables false
set_option linter.unusedSimpArgs false
set_option maxRecDepth 100000

open Go.Lib
attribute [local simp] RelKnown Is
attribute [local irreducible] kCells
set_option maxHeartbeats 4000000 in
theorem info240z : (Tryz.prog.info? 240).map (fun i => (i.zero, i.size, i.bytes)) = some (some (.agg #[.int .i64 0, .int .i64 0]), 2, 16) := by kernel_rfl
set_option maxHeartbeats 4000000 in
theorem info166s : (Tryz.prog.info? 166).map (·.size) = some 1 := by kernel_rfl
set_option maxHeartbeats 4000000 in
theorem take_w (w : World) (b : Nat) (s : KS) (hK : KAt w b s) : Calls Tryz.prog 119 #[.pointer (some ⟨b, 0, none⟩)] w fun r w' => r = .returned s.told ∧ KAt w' b { s with told := .slice none 0 0 } ∧ Only b w w' := by
  have k := hK.told
  have HK := Lib.hid (show w.heap[b]? = some (.cells (kCells s) 187 (0, 0)) from hK)
  clear hK
  go_enter Tryz.func119, Tryz.ntmps119
  go_wp2_with (first
    | ((with_reducible refine store_in rfl 41 _ _ rfl b 549 187 _ (kCells { s with told := .slice none 0 0 }) (.slice none 0 0) info41s HK.out rfl ?_ ?_ ?_ ?_ ?_); (· rfl); (· rfl); (· rw [kCells_size]; decide); (· exact k_told s _); intro w1 hw1 hb1 ho1; clear hw1))
  go_ret
  exact ⟨rfl, hb1, ho1⟩
theorem reads_clock {w : World} {b : Nat} {x y : Value} {fr : Nat × Nat} (h : w.heap[b]? = some (.cells #[x, y] 240 fr)) : Reads w w.heap.size 2 (some ⟨b, 0, none⟩) 1 [x, y] :=
  ⟨rfl, fun _ => ⟨_, rfl, heapAt_lt h, fun j u hu => by
    have e8 : (⟨b, 0, none⟩ : Addr).add j = ⟨b, j, none⟩ := by unfold Addr.add; split <;> simp_all
    rw [e8, cell_block h j, ← hu]
    simp⟩⟩
set_option maxHeartbeats 4000000 in
/-- slices.Insert of one clock into none. -/
theorem insert_first (w : World) (B g : Nat) (x y : Int) (h : w.heap[g]? = some (.cells #[.int .i64 x, .int .i64 y] 240 (0, 0))) (hB : B ≤ w.heap.size) :
    Calls Tryz.prog 113 #[.slice none 0 0, .int .i64 0, .slice (some ⟨g, 0, none⟩) 1 1] w fun r w' => ∃ v, r = .returned v ∧ w'.ownsRow B 240 2 v 1 [.int .i64 x, .int .i64 y] ∧ Grow w w' := by
  obtain ⟨i0, hi, hz0, hz1, hz2⟩ := info_parts info240z
  have HI0 := Lib.hid hi; clear hi
  have HZ0 := Lib.hid hz0; clear hz0
  have HZ1 := Lib.hid hz1; clear hz1
  have HZ2 := Lib.hid hz2; clear hz2
  have HR := Lib.hid (reads_clock h)
  have HB := Lib.hid hB
  clear h hB
  go_enter Tryz.func113, Tryz.ntmps113
  go_wp2_with (at_builtin; refine wpList_append_any _ rfl (.tmp 23) (.tmp 24) 166 rfl B 240 i0 _ 2 16 Tryz.underlying166 HI0.out HZ0.out HZ1.out HZ2.out rfl (by decide) _ 0 [] (by rfl) (World.ownsRow_nil _ _ _ _) _ (some ⟨g, 0, none⟩) 1 1 [.int .i64 x, .int .i64 y] (by rfl) HR.out (by simp [Value.oneCell']) ?c4 ?c5 ?c6 ?c7)
  case c4 => unfold maxLen; omega
  case c5 => omega
  case c6 => exact HB.out
  case c7 =>
    intro v' w1 hown hgr hblk
    have HO := Lib.hid hown
    have HG := Lib.hid (show Grow w w1 from ⟨hgr.os, hgr.tape, hgr.output, hgr.size, fun k hk => hgr.block k hk (by simp [Value.ownBlock])⟩)
    clear hown hgr hblk
    go_wp2
    go_ret
    exact ⟨v', rfl, HO.out, HG.out⟩
theorem k_runs (s : KS) (i : Nat) (hi : i < 256) (x : Bool) : (kCells s).setIfInBounds (3 + i) (.bool x) = kCells { s with runs := upB s.runs i x } :=
  runs_set s i hi x
set_option maxHeartbeats 4000000 in
theorem dput_first (w : World) (B b id ticks : Nat) (s : KS) (hK : KAt w b s) (hr : s.row = .slice none 0 0) (hid : id < 256) (hrun : s.runs id = false) (ht1 : 1 ≤ ticks) (ht2 : ticks < 4294967296) (hB : B ≤ w.heap.size) :
    Calls Tryz.prog 77 #[.pointer (some ⟨b, 2, none⟩), .int .i64 id, .int .i64 ticks] w fun r w' => ∃ rv, r = .returned (.int .i64 0) ∧ KAt w' b { s with row := rv, runs := upB s.runs id true } ∧ w'.ownsRow B 240 2 rv 1 [.int .i64 id, .int .i64 ticks] ∧ Kp (· ≠ b) w w' := by
  have HK := Lib.hid hK
  have HKH := Lib.hid (show w.heap[b]? = some (.cells (kCells s) 187 (0, 0)) from hK)
  have k2 := hK.row
  rw [hr] at k2
  have kr := hK.runs id hid
  rw [hrun] at kr
  have HR := Lib.hid hr
  have HB := Lib.hid hB
  have HID := Lib.hid hid
  have i0 : (0 : Int) ≤ (id : Int) := by omega
  have i1 : (id : Int) < 256 := by omega
  have j1 : ¬ (ticks : Int) < 1 := by omega
  have j2 : (ticks : Int) < 4294967296 := by omega
  have j3 : (1 : Int) ≤ (ticks : Int) := by omega
  have j4 : decide ((ticks : Int) < 1) = false := by simp; omega
  have i2 : decide ((id : Int) < 0) = false := by simp
  have i3 : decide ((256 : Int) ≤ (id : Int)) = false := by simp; omega
  have j6 : decide ((4294967296 : Int) ≤ (ticks : Int)) = false := by simp; omega
  clear hK hr hid hrun ht1 ht2 hB
  go_enter Tryz.func77, Tryz.ntmps77
  go_wp2_with fail
  go_loop [2, 7] (fun tk at_ => tk = .int .i64 ticks ∧ at_ = .int .i64 0) (fun _ _ => 0)
  case atStart => exact ⟨rfl, rfl⟩
  case round =>
    obtain ⟨rfl, rfl⟩ := hrel
    have HG1 := Lib.hid (heapAt_alloc_new w (.cells #[.int .i64 id, .int .i64 ticks] 240))
    have HGW := Lib.hid (Grow.alloc w (.cells #[.int .i64 id, .int .i64 ticks] 240))
    go_wp2_with fail
    refine (insert_first _ B w.heap.size id ticks HG1.out (Nat.le_trans HB.out HGW.out.size)).mono ?_
    rintro _ w2 ⟨rv, rfl, ho, hg⟩
    have HO := Lib.hid ho
    have HG2 := Lib.hid (HGW.out.trans hg)
    have HV := Lib.hid (own_one ho)
    have HK2 := Lib.hid (HG2.out.at HKH.out)
    clear ho hg k2 kr HG1
    go_wp2_with (first
      | ((with_reducible refine store_in rfl 166 _ _ rfl b 2 187 _ (kCells { s with row := rv }) rv info166s HK2.out HV.out ?_ ?_ ?_ ?_ ?_); (· rfl); (· rfl); (· rw [kCells_size]; decide); (· exact k_row s rv); intro w3 hw3 hb3 ho3; clear hw3)
      | ((with_reducible refine store_in rfl 4 _ _ rfl b (3 + id) 187 _ (kCells { s with row := rv, runs := upB s.runs id true }) (.bool true) info4s hb3 rfl ?_ ?_ ?_ ?_ ?_); (· rfl); (· rfl); (· rw [kCells_size]; have := HID.out; omega); (· exact k_runs { s with row := rv } id HID.out true); intro w4 hw4 hb4 ho4; clear hw4))
    go_ret
    exact ⟨rv, rfl, hb4, own_only (own_only HO.out ho3 HK2.out (by decide)) ho4 hb3 (by decide), (Kp.of_grow HG2.out).trans (Kp.of_only (ho3.trans ho4) (fun h => h rfl))⟩
end Go.Proofs.YtnhmdinpfcoebaaGreatDoor
end

/-! === KDelta2 -/
section
/- delta.List within the kernel: Tick, Cancel. -/
namespace Go.Proofs.YtnhmdinpfcoebaaGreatDoor
open Go.Proofs.YtnhmdinpfcoebaaGreatDoor.Qu
open Go.RowKit
set_option linter.unusedVariables false
set_option linter.unusedSimpArgs false
set_option maxRecDepth 100000

open Go.Lib
attribute [local simp] RelKnown Is
attribute [local irreducible] kCells
theorem own_open {w : World} {B s n : Nat} {e : TypeId} {v : Value} {xs : List Value} (h : w.ownsRow B e s v n xs) (hn : 0 < n) : ∃ g cap rest, v = .slice (some ⟨g, 0, none⟩) n cap ∧ n ≤ cap ∧ B ≤ g ∧ w.heap[g]? = some (.cells (xs ++ rest).toArray e (0, 0)) ∧ cap ≤ maxLen := by
  rcases h.2 with ⟨_, h0⟩ | ⟨g, cap, cur, rfl, hB, hb, h3, h4, h5, h6⟩
  · omega
  · refine ⟨g, cap, cur.toList.drop (n * s), rfl, h3, hB, ?_, h4⟩
    rw [hb, ← h6, List.take_append_drop]
theorem info3zz : (Tryz.prog.info? 3).map (fun i => (i.zero, i.size, i.bytes)) = some (some (.int .i64 0), 1, 8) := by kernel_rfl
theorem dtick_none (w : World) (b : Nat) (A : Option Addr) (c : Nat) (s : KS) (hK : KAt w b s) (hr : s.row = .slice A 0 c) : Calls Tryz.prog 114 #[.pointer (some ⟨b, 2, none⟩)] w fun r w' => r = .returned (.slice none 0 0) ∧ w' = w := by
  have k2 := hK.row
  rw [hr] at k2
  clear hK hr
  go_enter Tryz.func114, Tryz.ntmps114
  go_wp2
  go_ret
  exact ⟨rfl, rfl⟩
set_option maxHeartbeats 4000000 in
theorem dcancel_no (w : World) (b id : Nat) (s : KS) (hK : KAt w b s) (hid : id < 256) (hrun : s.runs id = false) : Calls Tryz.prog 172 #[.pointer (some ⟨b, 2, none⟩), .int .i64 id] w fun r w' => r = .returned (.bool false) ∧ Grow w w' := by
  have HG := Lib.hid (Grow.alloc w (.cells #[.int .i64 id] 3))
  have HK := Lib.hid (show KAt (w.alloc (.cells #[.int .i64 id] 3)) b s from HG.out.at hK)
  have HB := Lib.hid (heapAt_alloc_new w (.cells #[.int .i64 id] 3))
  have HR := Lib.hid hrun
  have HID := Lib.hid hid
  have i0 : (0 : Int) ≤ (id : Int) := by omega
  have i1 : (id : Int) < 256 := by omega
  have i2 : decide ((id : Int) < 0) = false := by simp
  have i3 : decide ((256 : Int) ≤ (id : Int)) = false := by simp; omega
  clear hK hid hrun
  go_enter Tryz.func172, Tryz.ntmps172
  go_upto_region 1 with (fail)
  generalize w.heap.size = g at HB ⊢
  generalize w.alloc (.cells #[.int .i64 id] 3) = w1 at HG HK HB ⊢
  have kr := HK.out.runs id HID.out
  rw [HR.out] at kr
  have d0 := cell_block HB.out 0
  simp at d0
  go_quiet (fail)
  go_wp2
  go_ret
  exact ⟨rfl, HG.out.trans (Grow.drewN w1 _)⟩
theorem reads_int {w : World} {b : Nat} {x : Value} {e : TypeId} {fr : Nat × Nat} (h : w.heap[b]? = some (.cells #[x] e fr)) : Reads w w.heap.size 1 (some ⟨b, 0, none⟩) 1 [x] :=
  ⟨rfl, fun _ => ⟨_, rfl, heapAt_lt h, fun j u hu => by
    have e8 : (⟨b, 0, none⟩ : Addr).add j = ⟨b, j, none⟩ := by unfold Addr.add; split <;> simp_all
    rw [e8, cell_block h j, ← hu]
    simp⟩⟩
/-- How far Tick is. -/
def TK (w0 : World) (B b lb id cap : Nat) (s : KS) (rest : List Value) (ov : Value) (w : World) : Prop :=
  (ov = .slice none 0 0 ∧ KAt w b s ∧ w.heap[lb]? = some (.cells (.int .i64 (id : Int) :: .int .i64 0 :: rest).toArray 240 (0, 0)) ∧ Kp (fun k => k ≠ b ∧ k ≠ lb) w0 w) ∨
  (∃ A c, KAt w b { s with row := .slice A 0 c, runs := upB s.runs id false } ∧ w.ownsRow B 3 1 ov 1 [.int .i64 (id : Int)] ∧ Kp (fun k => k ≠ b ∧ k ≠ lb) w0 w)
def tkM (b : Nat) (w : World) : Nat := match w.cell? ⟨b, 2, none⟩ with
  | some (.slice _ n _) => n
  | _ => 0
set_option maxHeartbeats 8000000 in
theorem dtick_one (w : World) (B b lb id cap : Nat) (s : KS) (rest : List Value) (hK : KAt w b s) (hr : s.row = .slice (some ⟨lb, 0, none⟩) 1 cap) (hc : 1 ≤ cap) (hc2 : cap ≤ maxLen) (hb : w.heap[lb]? = some (.cells (.int .i64 (id : Int) :: .int .i64 1 :: rest).toArray 240 (0, 0))) (hid : id < 256) (hB : B ≤ w.heap.size) :
    Calls Tryz.prog 114 #[.pointer (some ⟨b, 2, none⟩)] w fun r w' => ∃ ov A c, r = .returned ov ∧ KAt w' b { s with row := .slice A 0 c, runs := upB s.runs id false } ∧ w'.ownsRow B 3 1 ov 1 [.int .i64 (id : Int)] ∧ Kp (fun k => k ≠ b ∧ k ≠ lb) w w' := by
  obtain ⟨i0, hi, hz0, hz1, hz2⟩ := info_parts info3zz
  have HI0 := Lib.hid hi; clear hi
  have HZ0 := Lib.hid hz0; clear hz0
  have HZ1 := Lib.hid hz1; clear hz1
  have HZ2 := Lib.hid hz2; clear hz2
  have HK := Lib.hid hK
  have HR := Lib.hid hr
  have HLB := Lib.hid hb
  have HID := Lib.hid hid
  have HB := Lib.hid hB
  have HNE := Lib.hid (show lb ≠ b from ty_ne2 hb hK (by decide))
  have k2 := hK.row
  rw [hr] at k2
  have l1 := cell_block hb 1
  simp at l1
  have HC := Lib.hid hc
  have HC2 := Lib.hid hc2
  have ci : (1 : Int) ≤ (cap : Int) := by omega
  clear hK hr hb hid hB hc hc2
  go_enter Tryz.func114, Tryz.ntmps114
  go_wp2_with (first
    | ((with_reducible refine store_in rfl 3 _ _ rfl lb 1 240 _ (.int .i64 (id : Int) :: .int .i64 0 :: rest).toArray (.int .i64 0) info3 HLB.out rfl ?_ ?_ ?_ ?_ ?_); (· rfl); (· rfl); (· simp); (· simp); intro w1 hw1 hb1 ho1; clear hw1))
  have HS1 := Lib.hid (show TK w B b lb id cap s rest (.slice none 0 0) w1 from .inl ⟨rfl, HK.out.only ho1 HNE.out.symm, hb1, Kp.of_only ho1 (fun h => h.2 rfl)⟩)
  clear hb1 ho1 k2 l1
  go_loopw [3] (fun ov wr => TK w B b lb id cap s rest ov wr) (fun _ wr => tkM b wr)
  case atStart => exact HS1.out
  case round =>
    clear HS1
    unfold TK at hrel
    rcases hrel with ⟨rfl, hk, hl, hp⟩ | ⟨A, c, hk, ho, hp⟩
    · have HK1 := Lib.hid hk
      have HL1 := Lib.hid hl
      have HP1 := Lib.hid hp
      have k2 := hk.row
      rw [HR.out] at k2
      have HTM := Lib.hid (show tkM b wr = 1 by unfold tkM; rw [k2])
      have l0 := cell_block hl 0
      have l1 := cell_block hl 1
      simp at l0 l1
      clear hk hl hp
      have HG2 := Lib.hid (Grow.alloc wr (.cells #[.int .i64 (id : Int)] 3))
      have HRD := Lib.hid (reads_int (heapAt_alloc_new wr (.cells #[.int .i64 (id : Int)] 3)))
      have HBW := Lib.hid (show B ≤ (wr.alloc (.cells #[.int .i64 (id : Int)] 3)).heap.size from Nat.le_trans HB.out (Nat.le_trans HP1.out.size HG2.out.size))
      go_wp2_with (at_builtin; refine wpList_append_any _ rfl (.tmp 40) (.tmp 48) 60 rfl B 3 i0 _ 1 8 Tryz.underlying60 HI0.out HZ0.out HZ1.out HZ2.out rfl (by decide) _ 0 [] (by rfl) (World.ownsRow_nil _ _ _ _) _ (some ⟨wr.heap.size, 0, none⟩) 1 1 [.int .i64 (id : Int)] (by rfl) HRD.out (by simp [Value.oneCell']) ?c4 ?c5 ?c6 ?c7)
      case c4 => unfold maxLen; omega
      case c5 => omega
      case c6 => exact HBW.out
      case c7 =>
        intro v' w2 hown hgr hblk
        have HGR := Lib.hid (show Grow wr w2 from HG2.out.trans ⟨hgr.os, hgr.tape, hgr.output, hgr.size, fun k hk => hgr.block k hk (by simp [Value.ownBlock])⟩)
        have HO2 := Lib.hid hown
        have HK2 := Lib.hid (show KAt w2 b s from HGR.out.at HK1.out)
        have HL2 := Lib.hid (HGR.out.at HL1.out)
        have HP2 := Lib.hid (HP1.out.trans (Kp.of_grow HGR.out))
        have hvs := own_slice hown
        clear hown hgr hblk k2 l0 l1 HK1 HL1 HP1 HRD HBW HG2
        go_upto_region 7 with (fail)
        have k2 := HK2.out.row
        rw [HR.out] at k2
        have l0 := cell_block HL2.out 0
        simp at l0
        have c1 : (0 : Int) < 1 := by omega
        refine wp_region_rel_tail 10 _ Grow (fun _ wQ => Grow w2 wQ) [([(0, none)], none), ([(0, none)], none), ([(51, some 0)], none), ([(52, some 0)], none), ([(53, some 0)], none), ([(54, some 0)], none), ([(55, some 0)], none), ([(56, some 0)], none), ([(50, some 7)], none), ([(58, some 0)], none)] (by kernel_rfl) (by kernel_rfl) (by kernel_rfl) (Grow.drewN w2 1) ?_
        (refine relT_pure ?_; apply Exists.intro; refine ⟨fun aR wQ hF hk => relT_none fun K hK => ?_, ?_⟩; focus ((try simp at hk); go_simp; exact hK _ _ (Grow.refl _) hF rfl))
        (refine relT_pure ?_; apply Exists.intro; refine ⟨fun aR wQ hF hk => relT_none fun K hK => ?_, ?_⟩; focus ((try simp at hk); go_simp; exact hK _ _ (Grow.refl _) hF rfl))
        (refine relT_pure ?_; apply Exists.intro; refine ⟨fun aR wQ hF hk => relT_none fun K hK => ?_, ?_⟩; focus ((try simp at hk); go_simp; exact hK _ _ (Grow.refl _) hF rfl))
        (refine relT_pure ?_; apply Exists.intro; refine ⟨fun aR wQ hF hk => relT_none fun K hK => ?_, ?_⟩; focus ((try simp at hk); go_simp; exact hK _ _ (Grow.refl _) hF rfl))
        (refine relT_pure ?_; apply Exists.intro; refine ⟨fun aR wQ hF hk => relT_none fun K hK => ?_, ?_⟩; focus ((try simp at hk); have k2 := cell_below hF (Nat.le_refl _) k2; go_simp; exact hK _ _ (Grow.refl _) hF rfl))
        (refine relT_pure ?_; apply Exists.intro; refine ⟨fun aR wQ hF hk => relT_none fun K hK => ?_, ?_⟩; focus ((try simp at hk); go_simp; exact hK _ _ (Grow.refl _) hF rfl))
        (refine relT_pure ?_; apply Exists.intro; refine ⟨fun aR wQ hF hk => relT_none fun K hK => ?_, ?_⟩; focus ((try simp at hk); go_simp; exact hK _ _ (Grow.refl _) hF rfl))
        (refine relT_pure ?_; apply Exists.intro; refine ⟨fun aR wQ hF hk => relT_none fun K hK => ?_, ?_⟩; focus ((try simp at hk); have l0 := cell_below hF (Nat.le_refl _) l0; go_simp; exact hK _ _ (Grow.refl _) hF rfl))
        (refine relT_pure ?_; apply Exists.intro; refine ⟨fun aR wQ hF hk => relT_none fun K hK => ?_, ?_⟩; focus ((try simp at hk); go_simp; exact hK _ _ (Grow.refl _) hF rfl))
        (refine relT_pure ?_; apply Exists.intro; refine ⟨fun aR wQ hF hk => relT_none fun K hK => ?_, ?_⟩; focus ((try simp at hk); go_simp; exact hK _ _ (Grow.refl _) hF rfl))
        refine relT_done fun wR => ?_
        refine fun v hv => ?_; obtain rfl : v = _ := hv
        refine fun v hv => ?_; obtain rfl : v = _ := hv
        refine fun v hv => ?_; obtain rfl : v = _ := hv
        refine fun v hv => ?_; obtain rfl : v = _ := hv
        refine fun v hv => ?_; obtain rfl : v = _ := hv
        refine fun v hv => ?_; obtain rfl : v = _ := hv
        refine fun v hv => ?_; obtain rfl : v = _ := hv
        refine fun v hv => ?_; obtain rfl : v = _ := hv
        refine fun v hv => ?_; obtain rfl : v = _ := hv
        refine fun v hv => ?_; obtain rfl : v = _ := hv
        simp only [Act.put, List.setIfInBounds_toArray, List.set_cons_zero, List.set_cons_succ]
        refine relT_nil fun hF => ?_
        simp only [List.drop_succ_cons, List.drop_zero]
        have HKR := Lib.hid (show KAt wR b s from hF.at HK2.out)
        have HKH := Lib.hid (show wR.heap[b]? = some (.cells (kCells s) 187 (0, 0)) from HKR.out)
        have HOR := Lib.hid (own_grow HO2.out hF)
        have HPR := Lib.hid (HP2.out.trans (Kp.of_grow hF))
        clear hF HK2 HO2 HP2 k2 l0 HL2
        have i0' : (0 : Int) ≤ (id : Int) := by omega
        have i1' : (id : Int) < 256 := by have := HID.out; omega
        go_upto_region 8 with (first
          | ((with_reducible refine store_in rfl 4 _ _ rfl b (3 + id) 187 _ (kCells { s with runs := upB s.runs id false }) (.bool false) info4s HKH.out rfl ?_ ?_ ?_ ?_ ?_); (· rfl); (· rfl); (· rw [kCells_size]; have := HID.out; omega); (· exact k_runs s id HID.out false); intro w4 hw4 hb4 ho4; clear hw4))
        have HK4 := Lib.hid (show KAt w4 b { s with runs := upB s.runs id false } from hb4)
        have HKH4 := Lib.hid (show w4.heap[b]? = some (.cells (kCells { s with runs := upB s.runs id false }) 187 (0, 0)) from hb4)
        have HO4 := Lib.hid (own_only HOR.out ho4 HKH.out (by decide))
        have HP4 := Lib.hid (HPR.out.trans (Kp.of_only ho4 (fun h => h.1 rfl)))
        clear hb4 ho4 HKR HKH HOR HPR
        have k2 := HK4.out.row
        dsimp only at k2
        rw [HR.out] at k2
        have fz := HK4.out.free 2
        by_cases hc1 : cap = 1
        · subst hc1
          go_wp2_with fail
          have hn := KAt.set_row HK4.out (.slice (some ⟨lb, 0, none⟩) 0 0)
          refine ⟨.inr ⟨_, _, hn, own_only HO4.out ((Only.refl b w4).setCell 2 (.slice (some ⟨lb, 0, none⟩) 0 0)) HKH4.out (by decide), HP4.out.trans (Kp.of_only ((Only.refl b w4).setCell 2 (.slice (some ⟨lb, 0, none⟩) 0 0)) (fun h => h.1 rfl))⟩, ?_⟩
          rw [HTM.out]
          unfold tkM
          have hr2 := hn.row
          dsimp only at hr2
          rw [hr2]
          exact Nat.zero_lt_one
        · have hcn : ¬ ((cap : Int) = 1) := by omega
          have hcn2 : ((cap : Int) == 1) = false := by simpa using hcn
          have hcn3 : (1 : Int) < (cap : Int) := by omega
          go_wp2_with fail
          have hn := KAt.set_row HK4.out (.slice (some ⟨lb, 2, none⟩) 0 (cap - 1))
          refine ⟨.inr ⟨_, _, hn, own_only HO4.out ((Only.refl b w4).setCell 2 (.slice (some ⟨lb, 2, none⟩) 0 (cap - 1))) HKH4.out (by decide), HP4.out.trans (Kp.of_only ((Only.refl b w4).setCell 2 (.slice (some ⟨lb, 2, none⟩) 0 (cap - 1))) (fun h => h.1 rfl))⟩, ?_⟩
          rw [HTM.out]
          unfold tkM
          have hr2 := hn.row
          dsimp only at hr2
          rw [hr2]
          exact Nat.zero_lt_one
    · have k2 := hk.row
      have HK1 := Lib.hid hk
      have HO1 := Lib.hid ho
      have HP1 := Lib.hid hp
      clear hk ho hp
      dsimp only at k2
      go_wp2
      go_ret
      exact ⟨_, A, c, rfl, HK1.out, HO1.out, HP1.out⟩
end Go.Proofs.YtnhmdinpfcoebaaGreatDoor
end

/-! === KLine -/
section
/- line.Lines of no lines: New, Raise, Active, Enter. -/
namespace Go.Proofs.YtnhmdinpfcoebaaGreatDoor
open Go.Proofs.YtnhmdinpfcoebaaGreatDoor.Qu
open Go.RowKit
set_option linter.unusedVariables false
set_option linter.unusedSimpArgs false
set_option maxRecDepth 100000

open Go.Lib
/-- No lines. -/
def LnAt (w : World) (n : Nat) : Prop := w.heap[n]? = some (.cells #[.int .u32 0, .int .u32 0, .int .u32 0, .int .i64 255] 255 (0, 0))
set_option maxHeartbeats 4000000 in
theorem info40s : (Tryz.prog.info? 40).map (·.size) = some 1 := by kernel_rfl
theorem lnew_w (w : World) : Calls Tryz.prog 81 #[.int .i64 0, .int .u32 0] w fun r w' => r = .returned (.tuple #[.pointer (some ⟨w.heap.size, 0, none⟩), .int .i64 0]) ∧ LnAt w' w.heap.size ∧ Grow w w' := by
  go_enter Tryz.func81, Tryz.ntmps81
  go_wp2
  go_ret2
  exact ⟨rfl, heapAt_alloc_new _ _, Grow.alloc _ _⟩
theorem lraise_w (w : World) (n : Nat) (h : LnAt w n) : Calls Tryz.prog 120 #[.pointer (some ⟨n, 0, none⟩), .int .u32 0] w fun r w' => r = .returned (.tuple #[.int .u32 0, .int .u32 0]) ∧ LnAt w' n ∧ Only n w w' := by
  unfold LnAt at h
  have c0 := cell_block h 0
  have c1 := cell_block h 1
  simp at c0 c1
  have HB := Lib.hid h
  have b1 : bits .and .u32 0 0 = 0 := by decide
  have b2 : bits .or .u32 0 0 = 0 := by decide
  clear h
  go_enter Tryz.func120, Tryz.ntmps120
  go_wp2_with (first
    | ((with_reducible refine store_in rfl 40 _ _ rfl n 1 255 _ #[.int .u32 0, .int .u32 0, .int .u32 0, .int .i64 255] (.int .u32 0) info40s HB.out rfl ?_ ?_ ?_ ?_ ?_); (· rfl); (· rfl); (· simp); (· rfl); intro w1 hw1 hb1 ho1; clear hw1))
  go_ret2
  exact ⟨rfl, hb1, ho1⟩
theorem lactive_w (w : World) (n : Nat) (h : LnAt w n) : Calls Tryz.prog 121 #[.pointer (some ⟨n, 0, none⟩)] w fun r w' => r = .returned (.int .i64 255) ∧ w' = w := by
  unfold LnAt at h
  have c3 := cell_block h 3
  simp at c3
  clear h
  go_enter Tryz.func121, Tryz.ntmps121
  go_wp2
  go_ret
  exact ⟨rfl, rfl⟩
theorem lenter_w (w : World) (n : Nat) (h : LnAt w n) : Calls Tryz.prog 123 #[.pointer (some ⟨n, 0, none⟩)] w fun r w' => r = .returned (.tuple #[.int .i64 0, .bool false]) ∧ Grow w w' := by
  unfold LnAt at h
  have c1 := cell_block h 1
  have c2 := cell_block h 2
  have c3 := cell_block h 3
  simp at c1 c2 c3
  have b1 : bits .and .u32 0 0 = 0 := by decide
  clear h
  go_enter Tryz.func123, Tryz.ntmps123
  go_upto_region 1 with (fail)
  go_quiet (fail)
  go_wp2
  go_ret2
  exact ⟨rfl, Grow.drewN w _⟩
end Go.Proofs.YtnhmdinpfcoebaaGreatDoor
end

/-! === KLock -/
section
/- lock.Locks of one task and no mutexes. -/
namespace Go.Proofs.YtnhmdinpfcoebaaGreatDoor
open Go.Proofs.YtnhmdinpfcoebaaGreatDoor.Qu
open Go.RowKit
set_option linter.unusedVariables false
set_option linter.unusedSimpArgs false
set_option maxRecDepth 100000

open Go.Lib
attribute [local simp] RelKnown Is
/-- One task of level 0, no mutexes. -/
structure LkAt (w : World) (k : Nat) (ov nv mv xv : Value) : Prop where
  bk : w.heap[k]? = some (.cells #[ov, nv, xv, mv] 244 (0, 0))
  o : ∃ A c, ov = .slice A 1 c
  n : w.ownsRow 0 3 1 nv 1 [.int .i64 0]
  m : ∃ A, mv = .slice A 0 0
set_option maxHeartbeats 4000000 in
theorem info60s : (Tryz.prog.info? 60).map (·.size) = some 1 := by kernel_rfl
theorem clone_one (w : World) (A : Option Addr) (cap : Nat) (h : RowAt w A 1 1 (fun _ => [.int .i64 0])) (hc : cap ≤ maxLen) : Calls Tryz.prog 112 #[.slice A 1 cap] w fun e w' => ∃ v, e = .returned v ∧ w'.ownsRow w.heap.size 3 1 v 1 [.int .i64 0] ∧ Grow w w' :=
  (Sy.clone24_any w A 1 cap (fun _ => [.int .i64 0]) (fun _ => rfl) (fun j u hu => by simp at hu; subst hu; rfl) (by decide) h).mono fun e w' ⟨v, h1, h2, h3⟩ => ⟨v, h1, h2, h3⟩
/-- What New gives. -/
def LkOut (w : World) (r : Ending) (w' : World) : Prop := ∃ k ov nv mv xv, r = .returned (.tuple #[.pointer (some ⟨k, 0, none⟩), .int .i64 0]) ∧ LkAt w' k ov nv mv xv ∧ w.heap.size ≤ k ∧ Grow w w'
/-- How far New is. -/
def LN (w0 : World) (g : Nat) (A1 : Option Addr) (c1 : Nat) (A2 : Option Addr) (c2 : Nat) (mA : Option Addr) (k : Nat) (w : World) : Prop :=
  (k = 0 ∧ w.heap[g]? = some (.cells #[.slice A1 1 c1, .slice A2 1 c2, .slice none 0 0, .slice mA 0 0] 244 (0, 0)) ∧ w.ownsRow w0.heap.size 3 1 (.slice A1 1 c1) 1 [.int .i64 0] ∧ w.ownsRow w0.heap.size 3 1 (.slice A2 1 c2) 1 [.int .i64 0] ∧ Grow w0 w) ∨
  (k = 1 ∧ ∃ xv, w.heap[g]? = some (.cells #[.slice A1 1 c1, .slice A2 1 c2, xv, .slice mA 0 0] 244 (0, 0)) ∧ w.ownsRow w0.heap.size 3 1 (.slice A1 1 c1) 1 [.int .i64 0] ∧ w.ownsRow w0.heap.size 3 1 (.slice A2 1 c2) 1 [.int .i64 0] ∧ Grow w0 w)
set_option maxHeartbeats 8000000 in
theorem locknew_w (w : World) (A : Option Addr) (cap : Nat) (hR : RowAt w A 1 1 (fun _ => [.int .i64 0])) (hcap : cap ≤ maxLen) :
    Calls Tryz.prog 78 #[.slice A 1 cap, .int .i64 0] w fun r w' => LkOut w r w' := by
  have HR := Lib.hid hR
  clear hR
  obtain ⟨i0, hi, hz0, hz1, hz2⟩ := info_parts info3zz
  have HI0 := Lib.hid hi; clear hi
  have HZ0 := Lib.hid hz0; clear hz0
  have HZ1 := Lib.hid hz1; clear hz1
  have HZ2 := Lib.hid hz2; clear hz2
  go_enter Tryz.func78, Tryz.ntmps78
  go_upto_region 3 with (fail)
  refine wp_region_rel _ Grow (fun w' => Grow w w') [([(0, none)], none), ([(21, some 0)], none), ([(0, none)], none), ([(23, some 0)], none), ([(1, none)], none), ([(25, some 0)], none), ([(22, some 4), (24, some 2), (26, some 0)], none), ([(27, some 0)], none), ([(28, some 0)], none)] (by kernel_rfl) (by kernel_rfl) (Grow.drewN w 1) ?_
  (refine rel_pure ?_; apply Exists.intro; refine ⟨fun aR wQ hF hk => ?_, ?_⟩; focus (first | exact rel_no hk.1 rfl rfl | ((first | (refine rel_none fun K hK => ?_) | (refine rel_yes hk.1 fun K hK => ?_)); (try simp at hk); go_simp; exact hK _ _ (Grow.refl _) hF rfl)))
  (refine rel_some (fun v wv => wv.ownsRow w.heap.size 3 1 v 1 [.int .i64 0]) (fun v w1 w2 hg h => own_grow h hg) (fun aR wQ hF hk => ?_) ?_; focus (refine rel_none fun K hK => ?_; (try simp at hk); go_simp; refine (clone_one _ A cap (HR.out.grow hF) hcap).mono ?_; rintro e w' ⟨v, rfl, hown, hg⟩; exact hK _ _ hg (hF.trans hg) (own_mono hown hF.size)))
  (refine rel_pure ?_; apply Exists.intro; refine ⟨fun aR wQ hF hk => ?_, ?_⟩; focus (first | exact rel_no hk.1 rfl rfl | ((first | (refine rel_none fun K hK => ?_) | (refine rel_yes hk.1 fun K hK => ?_)); (try simp at hk); go_simp; exact hK _ _ (Grow.refl _) hF rfl)))
  (refine rel_some (fun v wv => wv.ownsRow w.heap.size 3 1 v 1 [.int .i64 0]) (fun v w1 w2 hg h => own_grow h hg) (fun aR wQ hF hk => ?_) ?_; focus (refine rel_none fun K hK => ?_; (try simp at hk); go_simp; refine (clone_one _ A cap (HR.out.grow hF) hcap).mono ?_; rintro e w' ⟨v, rfl, hown, hg⟩; exact hK _ _ hg (hF.trans hg) (own_mono hown hF.size)))
  (refine rel_pure ?_; apply Exists.intro; refine ⟨fun aR wQ hF hk => ?_, ?_⟩; focus (first | exact rel_no hk.1 rfl rfl | ((first | (refine rel_none fun K hK => ?_) | (refine rel_yes hk.1 fun K hK => ?_)); (try simp at hk); go_simp; exact hK _ _ (Grow.refl _) hF rfl)))
  (refine rel_some (fun v (wv : World) => ∃ mA : Option Addr, v = .slice mA 0 0) (fun v w1 w2 hg h => h) (fun aR wQ hF hk => ?_) ?_; focus (refine rel_none fun K hK => ?_; (try simp at hk); go_simp; exact hK _ _ (Grow.alloc _ _) (hF.trans (Grow.alloc _ _)) ⟨_, rfl⟩))
  (refine rel_some (fun v wv => ∃ A1 c1 A2 c2 mA, v = .agg #[.slice A1 1 c1, .slice A2 1 c2, .slice none 0 0, .slice mA 0 0] ∧ wv.ownsRow w.heap.size 3 1 (.slice A1 1 c1) 1 [.int .i64 0] ∧ wv.ownsRow w.heap.size 3 1 (.slice A2 1 c2) 1 [.int .i64 0]) (fun v w1 w2 hg ⟨A1, c1, A2, c2, mA, h1, h2, h3⟩ => ⟨A1, c1, A2, c2, mA, h1, own_grow h2 hg, own_grow h3 hg⟩) (fun aR wQ hF hk => ?_) ?_; focus (refine rel_none fun K hK => ?_; have e1 : wQ.ownsRow w.heap.size 3 1 (aR.tmps.getD 22 undef) 1 [.int .i64 0] := hk.1; have e2 : wQ.ownsRow w.heap.size 3 1 (aR.tmps.getD 24 undef) 1 [.int .i64 0] := hk.2.1; obtain ⟨mA, e3⟩ : ∃ mA : Option Addr, aR.tmps.getD 26 undef = .slice mA 0 0 := hk.2.2.1; obtain ⟨A1, c1, f1, _⟩ := own_slice e1; obtain ⟨A2, c2, f2, _⟩ := own_slice e2; rw [f1] at e1; rw [f2] at e2; have e1 := Lib.hid e1; have e2 := Lib.hid e2; rw [Array.getD_eq_getD_getElem?] at f1 f2 e3; clear hk; go_simp; exact hK _ _ (Grow.refl _) hF ⟨A1, c1, A2, c2, mA, rfl, e1.out, e2.out⟩))
  (refine rel_some (fun v wv => ∃ g A1 c1 A2 c2 mA, v = .pointer (some ⟨g, 0, none⟩) ∧ w.heap.size ≤ g ∧ wv.heap[g]? = some (.cells #[.slice A1 1 c1, .slice A2 1 c2, .slice none 0 0, .slice mA 0 0] 244 (0, 0)) ∧ wv.ownsRow w.heap.size 3 1 (.slice A1 1 c1) 1 [.int .i64 0] ∧ wv.ownsRow w.heap.size 3 1 (.slice A2 1 c2) 1 [.int .i64 0]) (fun v w1 w2 hg ⟨g, A1, c1, A2, c2, mA, h1, h0, h4, h2, h3⟩ => ⟨g, A1, c1, A2, c2, mA, h1, h0, hg.at h4, own_grow h2 hg, own_grow h3 hg⟩) (fun aR wQ hF hk => ?_) ?_; focus (refine rel_none fun K hK => ?_; obtain ⟨A1, c1, A2, c2, mA, e1, e2, e3⟩ := hk.1; rw [Array.getD_eq_getD_getElem?] at e1; have e2 := Lib.hid e2; have e3 := Lib.hid e3; clear hk; go_simp; exact hK _ _ (Grow.alloc _ _) (hF.trans (Grow.alloc _ _)) ⟨_, A1, c1, A2, c2, mA, rfl, hF.size, heapAt_alloc_new _ _, own_grow e2.out (Grow.alloc _ _), own_grow e3.out (Grow.alloc _ _)⟩))
  (refine rel_some (fun v wv => ∃ g A1 c1 A2 c2 mA, v = .pointer (some ⟨g, 0, none⟩) ∧ w.heap.size ≤ g ∧ wv.heap[g]? = some (.cells #[.slice A1 1 c1, .slice A2 1 c2, .slice none 0 0, .slice mA 0 0] 244 (0, 0)) ∧ wv.ownsRow w.heap.size 3 1 (.slice A1 1 c1) 1 [.int .i64 0] ∧ wv.ownsRow w.heap.size 3 1 (.slice A2 1 c2) 1 [.int .i64 0]) (fun v w1 w2 hg ⟨g, A1, c1, A2, c2, mA, h1, h0, h4, h2, h3⟩ => ⟨g, A1, c1, A2, c2, mA, h1, h0, hg.at h4, own_grow h2 hg, own_grow h3 hg⟩) (fun aR wQ hF hk => ?_) ?_; focus (refine rel_none fun K hK => ?_; obtain ⟨g, A1, c1, A2, c2, mA, e1, e0, e4, e2, e3⟩ := hk.1; rw [Array.getD_eq_getD_getElem?] at e1; have e2 := Lib.hid e2; have e3 := Lib.hid e3; have e4 := Lib.hid e4; have e0 := Lib.hid e0; clear hk; go_simp; exact hK _ _ (Grow.refl _) hF ⟨g, A1, c1, A2, c2, mA, rfl, e0.out, e4.out, e2.out, e3.out⟩))
  refine rel_done fun wR hF => ?_
  refine fun v hv => ?_; obtain rfl : v = _ := hv
  refine fun v22 hv22 => ?_
  refine fun v hv => ?_; obtain rfl : v = _ := hv
  refine fun v24 hv24 => ?_
  refine fun v hv => ?_; obtain rfl : v = _ := hv
  refine fun v26 hv26 => ?_
  refine fun v27 hv27 => ?_
  refine fun v28 hv28 => ?_
  refine fun v6 hv6 => ?_
  clear hv22 hv24 hv26 hv27 hv28
  obtain ⟨g, A1, c1, A2, c2, mA, rfl, hgb, hbk, ho1, ho2⟩ := hv6
  simp only [Act.put, List.setIfInBounds_toArray, List.set_cons_zero, List.set_cons_succ]
  refine rel_nil ?_
  have HS := Lib.hid (show LN w g A1 c1 A2 c2 mA 0 wR from .inl ⟨rfl, hbk, ho1, ho2, hF⟩)
  have HGB := Lib.hid hgb
  clear hbk ho1 ho2 hF hgb
  go_wp2_with fail
  go_loopw [31] (fun i wr => ∃ k : Nat, i = .int .i64 k ∧ LN w g A1 c1 A2 c2 mA k wr) (fun i _ => 1 - (RowKit.intOf i).toNat)
  case atStart => exact ⟨0, rfl, HS.out⟩
  case round =>
    clear HS
    obtain ⟨k, rfl, hk⟩ := hrel
    rcases hk with ⟨rfl, hb, h1, h2, hg⟩ | ⟨rfl, xv, hb, h1, h2, hg⟩
    · have HB := Lib.hid hb
      have H1 := Lib.hid h1
      have H2 := Lib.hid h2
      have HG := Lib.hid hg
      clear hb h1 h2 hg
      obtain ⟨a, hA, hc⟩ := (HR.out.grow HG.out) (by decide)
      have l0 := hc 0 (by decide) 0 _ rfl
      simp only [Nat.zero_mul, add_zero'] at l0
      clear hc
      rw [hA]
      have c2' := cell_block HB.out 2
      simp at c2'
      have HGA := Lib.hid (Grow.alloc wr (.cells #[.int .i64 (-1)] 3))
      have HRD := Lib.hid (reads_int (heapAt_alloc_new wr (.cells #[.int .i64 (-1)] 3)))
      have HBW := Lib.hid (show w.heap.size ≤ (wr.alloc (.cells #[.int .i64 (-1)] 3)).heap.size from Nat.le_trans HG.out.size HGA.out.size)
      go_wp2_with (at_builtin; refine wpList_append_any _ rfl (.tmp 45) (.tmp 46) 60 rfl w.heap.size 3 i0 _ 1 8 Tryz.underlying60 HI0.out HZ0.out HZ1.out HZ2.out rfl (by decide) _ 0 [] (by rfl) (World.ownsRow_nil _ _ _ _) _ (some ⟨wr.heap.size, 0, none⟩) 1 1 [.int .i64 (-1)] (by rfl) HRD.out (by simp [Value.oneCell']) ?c4 ?c5 ?c6 ?c7)
      case c4 => unfold maxLen; omega
      case c5 => omega
      case c6 => exact HBW.out
      case c7 =>
        intro xv w2 hown hgr hblk
        have HGR := Lib.hid (show Grow wr w2 from HGA.out.trans ⟨hgr.os, hgr.tape, hgr.output, hgr.size, fun k hk => hgr.block k hk (by simp [Value.ownBlock])⟩)
        have HB2 := Lib.hid (HGR.out.at HB.out)
        have H12 := Lib.hid (own_grow H1.out HGR.out)
        have H22 := Lib.hid (own_grow H2.out HGR.out)
        have HG2 := Lib.hid (HG.out.trans HGR.out)
        have HV := Lib.hid (own_one hown)
        clear hown hgr hblk l0 c2'
        go_wp2_with (first
          | ((with_reducible refine store_in rfl 60 _ _ rfl g 2 244 _ #[.slice A1 1 c1, .slice A2 1 c2, xv, .slice mA 0 0] xv info60s HB2.out HV.out ?_ ?_ ?_ ?_ ?_); (· rfl); (· rfl); (· simp); (· rfl); intro w3 hw3 hb3 ho3; clear hw3))
        go_roundw
        case rel => exact ⟨1, by go_num, .inr ⟨rfl, xv, hb3, own_only H12.out ho3 HB2.out (by decide), own_only H22.out ho3 HB2.out (by decide), HG2.out.only ho3 HGB.out⟩⟩
        case measure => simp [RowKit.intOf]
    · have HB := Lib.hid hb
      have H1 := Lib.hid h1
      have H2 := Lib.hid h2
      have HG := Lib.hid hg
      have c3' := cell_block hb 3
      simp at c3'
      clear hb h1 h2 hg
      go_wp2_with fail
      go_loop [56] (fun i => i = .int .i64 0) (fun _ => 0)
      case atStart => rfl
      case round =>
        obtain rfl := hrel
        go_wp2
        go_ret2
        exact ⟨g, _, _, _, xv, rfl, ⟨HB.out, ⟨_, _, rfl⟩, own_mono H2.out (Nat.zero_le _), ⟨_, rfl⟩⟩, HGB.out, HG.out⟩
theorem own_row1 {w : World} {B : Nat} {v : Value} {x : Value} {e : TypeId} (h : w.ownsRow B e 1 v 1 [x]) : ∃ A c, v = .slice A 1 c ∧ c ≤ maxLen ∧ RowAt w A 1 1 (fun _ => [x]) := by
  obtain ⟨g, cp, rst, he, _, _, hb, hc⟩ := own_open h (by decide)
  refine ⟨_, cp, he, hc, fun _ => ⟨⟨g, 0, none⟩, rfl, fun j hj r u hu => ?_⟩⟩
  obtain rfl : j = 0 := by omega
  have hr : r = 0 := by
    cases r with
    | zero => rfl
    | succ r => simp at hu
  subst hr
  simp at hu
  subst hu
  simp only [Nat.zero_mul, add_zero']
  rw [cell_block hb]
  rfl
theorem LkAt.kp {P : Nat → Prop} {w w' : World} {k : Nat} {ov nv mv xv : Value} (h : LkAt w k ov nv mv xv) (hg : Kp P w w') (hP : ∀ k cs t fr, w.heap[k]? = some (.cells cs t fr) → t = 244 ∨ t = 3 → P k) : LkAt w' k ov nv mv xv := by
  obtain ⟨h1, h2, h3, h6⟩ := h
  exact ⟨hg.at (hP _ _ _ _ h1 (.inl rfl)) h1, h2, own_kp h3 hg fun k hk => (by obtain ⟨cur, hc⟩ := own_blk h3 hk; exact hP _ _ _ _ hc (.inr rfl)), h6⟩
theorem levels_w (w : World) (k : Nat) (ov nv mv xv : Value) (h : LkAt w k ov nv mv xv) : Calls Tryz.prog 146 #[.pointer (some ⟨k, 0, none⟩)] w fun r w' => ∃ v, r = .returned v ∧ w'.ownsRow w.heap.size 3 1 v 1 [.int .i64 0] ∧ Grow w w' := by
  obtain ⟨h1, h2, h3, h6⟩ := h
  obtain ⟨A, c, rfl, h4, h5⟩ := own_row1 h3
  have c1 := cell_block h1 1
  simp at c1
  have HC := Lib.hid (clone_one w A c h5 h4)
  clear h1 h2 h3 h4 h5 h6
  go_enter Tryz.func146, Tryz.ntmps146
  go_wp2_with fail
  refine HC.out.mono ?_
  rintro _ w2 ⟨v, rfl, ho, hg⟩
  have HO := Lib.hid ho
  have HG := Lib.hid hg
  clear ho hg
  go_wp2
  go_ret
  exact ⟨v, rfl, HO.out, HG.out⟩
theorem ltask_w (w : World) (k : Nat) (ov nv mv xv : Value) (h : LkAt w k ov nv mv xv) : Calls Tryz.prog 219 #[.pointer (some ⟨k, 0, none⟩), .int .i64 0] w fun r w' => r = .returned (.bool true) ∧ w' = w := by
  obtain ⟨h1, ⟨A, c, rfl⟩, h3, h6⟩ := h
  have c0 := cell_block h1 0
  simp at c0
  clear h1 h3 h6
  go_enter Tryz.func219, Tryz.ntmps219
  go_wp2
  go_ret
  exact ⟨rfl, rfl⟩
theorem held_w (w : World) (k : Nat) (ov nv mv xv : Value) (h : LkAt w k ov nv mv xv) : Calls Tryz.prog 184 #[.pointer (some ⟨k, 0, none⟩), .int .i64 0] w fun r w' => r = .returned (.slice none 0 0) ∧ w' = w := by
  have HT := Lib.hid (ltask_w w k ov nv mv xv h)
  obtain ⟨h1, h2, h3, ⟨A, rfl⟩⟩ := h
  have c3 := cell_block h1 3
  simp at c3
  clear h1 h3 h2
  go_enter Tryz.func184, Tryz.ntmps184
  go_wp2_with fail
  refine HT.out.mono ?_
  rintro _ w2 ⟨rfl, hw⟩
  have hw := hw.symm
  subst hw
  go_wp2_with fail
  go_loop [5, 20] (fun o i => o = .slice none 0 0 ∧ i = .int .i64 0) (fun _ _ => 0)
  case atStart => exact ⟨rfl, rfl⟩
  case round =>
    obtain ⟨rfl, rfl⟩ := hrel
    go_wp2
    go_ret
    exact ⟨rfl, rfl⟩
end Go.Proofs.YtnhmdinpfcoebaaGreatDoor
end

/-! === KOne -/
section
/- The kernel of a system of one task: what stands from call to call. -/
namespace Go.Proofs.YtnhmdinpfcoebaaGreatDoor
open Go.Proofs.YtnhmdinpfcoebaaGreatDoor.Qu
open Go.RowKit
set_option linter.unusedVariables false
set_option linter.unusedSimpArgs false
set_option maxRecDepth 100000

open Go.Lib
attribute [local irreducible] kCells
/-- What a kernel may change since w0: its own blocks, all made since B. -/
structure Kt (B : Nat) (w0 w : World) : Prop where
  b : Below B w0 w
  z : w0.heap.size ≤ w.heap.size
  k : ∀ (k : Nat) (cs : Array Value) (t : TypeId) (fr : Nat × Nat), t ≠ 187 → t ≠ 189 → t ≠ 255 → t ≠ 240 → w0.heap[k]? = some (.cells cs t fr) → w.heap[k]? = some (.cells cs t fr)
theorem Kt.refl (B : Nat) (w : World) : Kt B w w := ⟨Below.refl _ _, Nat.le_refl _, fun _ _ _ _ _ _ _ _ h => h⟩
theorem Kt.trans {B : Nat} {a b c : World} (h : Kt B a b) (g : Kt B b c) : Kt B a c := ⟨h.b.trans g.b, Nat.le_trans h.z g.z, fun k cs t fr h1 h2 h3 h4 h5 => g.k k cs t fr h1 h2 h3 h4 (h.k k cs t fr h1 h2 h3 h4 h5)⟩
theorem Kt.step {B : Nat} {P : Nat → Prop} {w0 w w' : World} (h : Kt B w0 w) (hB : B ≤ w0.heap.size) (hp : Kp P w w') (hP : ∀ k, k < B → P k) (hP2 : ∀ k cs t fr, k < w0.heap.size → t ≠ 187 → t ≠ 189 → t ≠ 255 → t ≠ 240 → w.heap[k]? = some (.cells cs t fr) → P k) : Kt B w0 w' :=
  ⟨h.b.trans (hp.below (Nat.le_trans hB h.z) hP), Nat.le_trans h.z hp.size, fun k cs t fr h1 h2 h3 h4 h5 => by
    have h6 := h.k k cs t fr h1 h2 h3 h4 h5
    exact hp.at (hP2 k cs t fr (heapAt_lt h5) h1 h2 h3 h4 h6) h6⟩
theorem Kt.grow {B : Nat} {w0 w w' : World} (h : Kt B w0 w) (hB : B ≤ w0.heap.size) (hg : Grow w w') : Kt B w0 w' := h.step hB (Kp.of_grow (P := fun _ => True) hg) (fun _ _ => trivial) (fun _ _ _ _ _ _ _ _ _ _ => trivial)
/-- What is never written: the lock's rows, the system's. -/
structure Sys1 (w : World) (s : KS) (nb kb cb xb : Nat) : Prop where
  lines : s.lines = .pointer (some ⟨nb, 0, none⟩)
  lk : s.locks = .pointer (some ⟨kb, 0, none⟩)
  la : ∃ ov nv mv xv, LkAt w kb ov nv mv xv
  cf0 : ∃ cc, s.cf 0 = .slice (some ⟨cb, 0, none⟩) 1 cc
  cfb : ∃ xc rest, w.heap[cb]? = some (.cells (.int .i64 0 :: .int .i64 1 :: .int .i64 0 :: .int .i64 0 :: .int .i64 0 :: .slice (some ⟨xb, 0, none⟩) 1 xc :: rest).toArray 67 (0, 0))
  cfx : ∃ rest, w.heap[xb]? = some (.cells (.int .i64 37 :: .int .i64 0 :: .int .i64 0 :: .int .i64 0 :: .int .i64 0 :: .int .u32 0 :: rest).toArray 64 (0, 0))
  cf1 : ∃ A c, s.cf 1 = .slice A 0 c
  cf8 : s.cf 8 = .int .u32 ((4294967295#32).toNat : Int)
  cf9 : s.cf 9 = .int .i64 ((0 : Nat) : Int)
  st : s.stopped = false
theorem Sys1.kp {P : Nat → Prop} {w w' : World} {s s' : KS} {nb kb cb xb : Nat} (h : Sys1 w s nb kb cb xb) (hp : Kp P w w') (hP : ∀ k cs t fr, w.heap[k]? = some (.cells cs t fr) → t = 244 ∨ t = 3 ∨ t = 67 ∨ t = 64 → P k) (h1 : s'.lines = s.lines) (h2 : s'.locks = s.locks) (h3 : s'.cf = s.cf) (h4 : s'.stopped = s.stopped) : Sys1 w' s' nb kb cb xb := by
  obtain ⟨a1, a2, ⟨ov, nv, mv, xv, a3⟩, a4, ⟨xc, r1, a5⟩, ⟨r2, a6⟩, a7, a8, a9, a10⟩ := h
  exact ⟨h1.trans a1, h2.trans a2, ⟨ov, nv, mv, xv, a3.kp hp fun k cs t fr hk ht => hP k cs t fr hk (by rcases ht with ht | ht; exact .inl ht; exact .inr (.inl ht))⟩, by rw [h3]; exact a4, ⟨xc, r1, hp.at (hP _ _ _ _ a5 (.inr (.inr (.inl rfl)))) a5⟩, ⟨r2, hp.at (hP _ _ _ _ a6 (.inr (.inr (.inr rfl)))) a6⟩, by rw [h3]; exact a7, by rw [h3]; exact a8, by rw [h3]; exact a9, h4.trans a10⟩
/-- The kernel, from call to call; told and the queues lie behind letters. -/
structure K1 (B : Nat) (w0 w : World) (b tb nb kb cb xb : Nat) (s : KS) (Lq : Qu.Rows) (T : List Value) (L : List Top.Ev) : Prop where
  k : ∃ tv q, KAt w b { s with told := tv, q := q } ∧ Rep q Lq ∧ w.ownsRow w0.heap.size 98 6 tv L.length (evsC L)
  y : Sys1 w s nb kb cb xb
  n : LnAt w nb
  t : ∃ cap rest, s.tasks = .slice (some ⟨tb, 0, none⟩) 1 cap ∧ w.heap[tb]? = some (.cells (T ++ rest).toArray 189 (0, 0))
  g : Kt B w0 w
  bb : B ≤ b
  bt : B ≤ tb
  bn : B ≤ nb
  b0 : B ≤ w0.heap.size
section
variable {B : Nat} {w0 w w' : World} {b tb nb kb cb xb : Nat} {s : KS} {Lq : Qu.Rows} {T : List Value} {L : List Top.Ev}
theorem K1.size (h : K1 B w0 w b tb nb kb cb xb s Lq T L) : w0.heap.size ≤ w.heap.size := h.g.z
/-- Calls that write the kernel's block alone, or make memory. -/
theorem K1.kern {tv : Value} {q : QS} {P : Nat → Prop} (h : K1 B w0 w b tb nb kb cb xb s Lq T L) {s' : KS} {Lq' : Qu.Rows} {L' : List Top.Ev} (hk : KAt w' b { s' with told := tv, q := q }) (hr : Rep q Lq') (ho : w'.ownsRow w0.heap.size 98 6 tv L'.length (evsC L')) (hp : Kp P w w')
    (hP : ∀ k cs t fr, w.heap[k]? = some (.cells cs t fr) → t ≠ 187 → t ≠ 98 → t ≠ 240 → P k) (hP98 : ∀ k cs fr, k < w0.heap.size → w.heap[k]? = some (.cells cs 98 fr) → P k) (hPB : ∀ k, k < B → P k) (h1 : s'.lines = s.lines) (h2 : s'.locks = s.locks) (h3 : s'.cf = s.cf) (h4 : s'.stopped = s.stopped) (h5 : s'.tasks = s.tasks) : K1 B w0 w' b tb nb kb cb xb s' Lq' T L' := by
  refine ⟨⟨tv, q, hk, hr, ho⟩, h.y.kp hp (fun k cs t fr hk ht => hP k cs t fr hk (by rcases ht with rfl | rfl | rfl | rfl <;> decide) (by rcases ht with rfl | rfl | rfl | rfl <;> decide) (by rcases ht with rfl | rfl | rfl | rfl <;> decide)) h1 h2 h3 h4, hp.at (hP _ _ _ _ h.n (by decide) (by decide) (by decide)) h.n, ?_, h.g.step h.b0 hp hPB (fun k cs t fr hk e1 _ _ e4 hh => ?_), h.bb, h.bt, h.bn, h.b0⟩
  · obtain ⟨cap, rest, e1, e2⟩ := h.t
    exact ⟨cap, rest, h5.trans e1, hp.at (hP _ _ _ _ e2 (by decide) (by decide) (by decide)) e2⟩
  · by_cases e : t = 98
    · subst e; exact hP98 k cs fr hk hh
    · exact hP k cs t fr hh e1 e e4
theorem K1.only {tv : Value} {q : QS} (h : K1 B w0 w b tb nb kb cb xb s Lq T L) {s' : KS} {Lq' : Qu.Rows} {L' : List Top.Ev} (hk : KAt w' b { s' with told := tv, q := q }) (hr : Rep q Lq') (ho : w'.ownsRow w0.heap.size 98 6 tv L'.length (evsC L')) (hp : Kp (· ≠ b) w w')
    (h1 : s'.lines = s.lines) (h2 : s'.locks = s.locks) (h3 : s'.cf = s.cf) (h4 : s'.stopped = s.stopped) (h5 : s'.tasks = s.tasks) : K1 B w0 w' b tb nb kb cb xb s' Lq' T L' := by
  obtain ⟨tv0, q0, hk0, _, _⟩ := h.k
  refine h.kern hk hr ho hp (fun k cs t fr h6 h7 _ _ => ty_ne2 h6 hk0 h7) (fun k cs fr _ h6 => ty_ne2 h6 hk0 (by decide)) (fun k hk2 => ?_) h1 h2 h3 h4 h5
  have := h.bb
  omega
theorem K1.grow (h : K1 B w0 w b tb nb kb cb xb s Lq T L) (hg : Grow w w') : K1 B w0 w' b tb nb kb cb xb s Lq T L := by
  obtain ⟨tv0, q0, hk0, h2, h3⟩ := h.k
  exact h.only (hg.at hk0) h2 (own_grow h3 hg) (Kp.of_grow hg) rfl rfl rfl rfl rfl
theorem K1.told {tv : Value} {q : QS} {e : Top.Ev} (h : K1 B w0 w b tb nb kb cb xb s Lq T L) (hk : KAt w b { s with told := tv, q := q }) (hr : Rep q Lq) (ho : w.ownsRow w0.heap.size 98 6 tv L.length (evsC L)) (ht : Told w w0.heap.size b { s with told := tv, q := q } 0 (L ++ [e]) w') : K1 B w0 w' b tb nb kb cb xb s Lq T (L ++ [e]) := by
  unfold Told at ht
  obtain ⟨tv', h1, h2, h3, h4⟩ := ht
  refine h.kern (tv := tv') (q := q) h1 hr h2 h3 (fun k cs t fr h6 h7 h8 _ => ⟨ty_ne2 h6 hk h7, fun e2 => ?_⟩) (fun k cs fr hlt h6 => ⟨ty_ne2 h6 hk (by decide), fun e2 => ?_⟩) (fun k hkB => ⟨?_, fun e2 => ?_⟩) rfl rfl rfl rfl rfl
  · obtain ⟨cur, hc⟩ := own_blk ho e2
    exact ty_ne2 h6 hc h8 rfl
  · have := (ho.lt k e2).1; omega
  · have := h.bb; omega
  · have := (ho.lt k e2).1; have := h.b0; omega
end
/-- tell, in the system's words. -/
theorem tell1 {B : Nat} {w0 w : World} {b tb nb kb cb xb : Nat} {s : KS} {Lq : Qu.Rows} {T : List Value} {L : List Top.Ev} (h : K1 B w0 w b tb nb kb cb xb s Lq T L) (kind a a2 vv : Nat) (hk1 : 1 ≤ kind) (hk2 : kind < 24) (ha : a < 4294967296) (ha2 : a2 < 4294967296) (hcy : s.cycle < 1000000) (hL : L.length ≤ 100000) :
    Calls Tryz.prog 117 #[.pointer (some ⟨b, 0, none⟩), .int .i64 kind, .int .i64 a, .int .i64 a2, .int .u32 vv] w fun r w' => r = .returned (.tuple #[]) ∧ K1 B w0 w' b tb nb kb cb xb s Lq T (L ++ [⟨kind, s.cycle, s.count, a, a2, vv⟩]) := by
  obtain ⟨tv, q, h1, h2, h3⟩ := h.k
  refine (tell_w w w0.heap.size b { s with told := tv, q := q } 4294967295#32 0 kind a a2 vv L h1 h3 h.size h.y.cf8 h.y.cf9 ?_ hk1 hk2 ha ha2 (by show s.cycle + 0 < _; omega) hL).mono ?_
  · have h32 : ∀ k, k < 32 → (4294967295#32).getLsbD k = true := by decide
    exact h32 kind (by omega)
  · rintro _ w' ⟨rfl, ht⟩
    exact ⟨rfl, h.told h1 h2 h3 ht⟩
end Go.Proofs.YtnhmdinpfcoebaaGreatDoor
end

/-! === KRel -/
section
/- kern.Kernel of one task: relevel, release, gone. -/
namespace Go.Proofs.YtnhmdinpfcoebaaGreatDoor
open Go.Proofs.YtnhmdinpfcoebaaGreatDoor.Qu
open Go.RowKit
set_option linter.unusedVariables false
set_option linter.unusedSimpArgs false
set_option maxRecDepth 100000

open Go.Lib
attribute [local simp] RelKnown Is
attribute [local irreducible] kCells
/-- The task's cells. -/
abbrev tkC (st job at_ : Nat) (mv : Value) : List Value := [.int .i64 st, .int .i64 0, .int .i64 0, .int .i64 0, .int .u32 job, .int .i64 at_, .int .u32 0, .int .u32 0, .int .u32 0, .int .u32 0, .int .u32 0, .int .u32 0, .int .u32 0, .int .u32 0, mv]
section
variable {B : Nat} {w0 w : World} {b tb nb kb cb xb : Nat} {s : KS} {Lq : Qu.Rows} {L : List Top.Ev} {st job at_ : Nat} {mv : Value}
set_option maxHeartbeats 4000000 in
theorem relevel1 (h : K1 B w0 w b tb nb kb cb xb s Lq (tkC st job at_ mv) L) : Calls Tryz.prog 187 #[.pointer (some ⟨b, 0, none⟩)] w fun r w' => r = .returned (.tuple #[]) ∧ K1 B w0 w' b tb nb kb cb xb s Lq (tkC st job at_ mv) L := by
  have H := Lib.hid h
  obtain ⟨tv, q, h1, h2, h3⟩ := h.k
  obtain ⟨ov, nv, mv2, xv, hla⟩ := h.y.la
  have k543 := h1.locks
  dsimp only at k543
  rw [h.y.lk] at k543
  have HLV := Lib.hid (levels_w w kb ov nv mv2 xv hla)
  clear h h1 h2 h3 hla
  go_enter Tryz.func187, Tryz.ntmps187
  go_wp2_with fail
  refine HLV.out.mono ?_
  rintro _ w2 ⟨v, rfl, ho, hg⟩
  have H2 := Lib.hid (H.out.grow hg)
  obtain ⟨A, c, rfl, _, hrow⟩ := own_row1 ho
  have HRW := Lib.hid hrow
  clear ho hg hrow k543
  go_wp2_with fail
  go_loop [11] (fun i => ∃ k : Nat, k ≤ 1 ∧ i = .int .i64 k) (fun i => 1 - (RowKit.intOf i).toNat)
  case atStart => exact ⟨0, by omega, rfl⟩
  case round =>
    obtain ⟨k, hk, rfl⟩ := hrel
    by_cases e : k = 0
    · subst e
      obtain ⟨tv, q, h1, h2, h3⟩ := H2.out.k
      obtain ⟨cap, rest, e1, e2⟩ := H2.out.t
      obtain ⟨a, hA, hc⟩ := HRW.out (by decide)
      have l0 := hc 0 (by decide) 0 _ rfl
      simp only [Nat.zero_mul, add_zero'] at l0
      have k542 := h1.tasks
      dsimp only at k542
      rw [e1] at k542
      have t1 := cell_block e2 1
      simp at t1
      rw [hA]
      clear h1 h2 h3 e1 e2 hc hA
      go_wp2_with fail
      go_round
      case rel => exact ⟨1, by omega, by go_num⟩
      case measure => simp [RowKit.intOf]
    · obtain rfl : k = 1 := by omega
      go_wp2
      go_end0
      exact ⟨rfl, H2.out⟩
theorem K1.task {w' : World} {T T' : List Value} {rest : List Value} {cap : Nat} (h : K1 B w0 w b tb nb kb cb xb s Lq T L) (e1 : s.tasks = .slice (some ⟨tb, 0, none⟩) 1 cap) (e0 : w.heap[tb]? = some (.cells (T ++ rest).toArray 189 (0, 0))) (e2 : w'.heap[tb]? = some (.cells (T' ++ rest).toArray 189 (0, 0))) (ho : Only tb w w') : K1 B w0 w' b tb nb kb cb xb s Lq T' L := by
  obtain ⟨tv, q, h1, h2, h3⟩ := h.k
  have hp : Kp (· ≠ tb) w w' := Kp.of_only ho (fun h => h rfl)
  exact ⟨⟨tv, q, ho.at (ty_ne2 h1 e0 (by decide)) h1, h2, own_only h3 ho e0 (by decide)⟩, h.y.kp hp (fun k cs t fr hk ht => ty_ne2 hk e0 (by rcases ht with rfl | rfl | rfl | rfl <;> decide)) rfl rfl rfl rfl, ho.at (ty_ne2 h.n e0 (by decide)) h.n, ⟨cap, rest, e1, e2⟩,
    h.g.step h.b0 hp (fun k hk => by have := h.bt; omega) (fun k cs t fr _ _ h189 _ _ hk => ty_ne2 hk e0 h189), h.bb, h.bt, h.bn, h.b0⟩
theorem K1.queue {w' : World} {T : List Value} {tv : Value} {Lq' : Qu.Rows} (h : K1 B w0 w b tb nb kb cb xb s Lq T L) (ho : w.ownsRow w0.heap.size 98 6 tv L.length (evsC L)) (hq : RQ { s with told := tv } w' b Lq') (hon : Only b w w') : K1 B w0 w' b tb nb kb cb xb s Lq' T L := by
  obtain ⟨q, h1, h2⟩ := hq
  obtain ⟨tv0, q0, hk0, _, _⟩ := h.k
  exact h.only (tv := tv) (q := q) h1 h2 (own_only ho hon hk0 (by decide)) (Kp.of_only hon (fun h => h rfl)) rfl rfl rfl rfl rfl
set_option maxHeartbeats 4000000 in
theorem gone1 (h : K1 B w0 w b tb nb kb cb xb s Lq (tkC st job at_ mv) L) (hin : inR Lq 0) (hrun : s.runs 0 = false) : Calls Tryz.prog 155 #[.pointer (some ⟨b, 0, none⟩), .int .i64 0, .int .i64 7] w fun r w' => r = .returned (.tuple #[]) ∧ K1 B w0 w' b tb nb kb cb xb s (removeR Lq 0) (tkC 7 job at_ mv) L := by
  have H := Lib.hid h
  have HIN := Lib.hid hin
  have HRUN := Lib.hid hrun
  obtain ⟨tv, q, h1, h2, h3⟩ := h.k
  obtain ⟨cap, rest, e1, e2⟩ := h.t
  have k542 := h1.tasks
  dsimp only at k542
  rw [e1] at k542
  have HE1 := Lib.hid e1
  have HT := Lib.hid e2
  clear h hin hrun h1 h2 h3 e1 e2
  go_enter Tryz.func155, Tryz.ntmps155
  go_upto_region 1 with (first
    | ((with_reducible refine store_in rfl 3 _ _ rfl tb 0 189 _ (tkC 7 job at_ mv ++ rest).toArray (.int .i64 7) info3 HT.out rfl ?_ ?_ ?_ ?_ ?_); (· rfl); (· rfl); (· simp); (· simp); intro w1 hw1 hb1 ho1; clear hw1))
  have H1 := Lib.hid (H.out.task HE1.out HT.out hb1 ho1)
  clear hb1 ho1 k542 HT H
  obtain ⟨tv, q, h1, h2, h3⟩ := H1.out.k
  have HQ := Lib.hid (show RQ { s with told := tv } w1 b Lq from ⟨q, h1, h2⟩)
  have HO := Lib.hid h3
  clear h1 h2 h3
  go_wp2_with fail
  refine (remove_ok w1 b 0 Lq HIN.out HQ.out).mono ?_
  rintro _ w2 ⟨rfl, hq, ho⟩
  have H2 := Lib.hid (H1.out.queue HO.out hq ho)
  clear hq ho HQ HO H1
  obtain ⟨tv, q, h1, h2, h3⟩ := H2.out.k
  have HC := Lib.hid (dcancel_no w2 b 0 _ h1 (by decide) (show s.runs 0 = false from HRUN.out))
  clear h1 h2 h3
  go_wp2_with fail
  refine HC.out.mono ?_
  rintro _ w3 ⟨rfl, hg⟩
  have H3 := Lib.hid (H2.out.grow hg)
  clear hg HC H2
  obtain ⟨tv, q, h1, h2, h3⟩ := H3.out.k
  obtain ⟨ov, nv, mv2, xv, hla⟩ := H3.out.y.la
  have HLA := Lib.hid (held_w w3 kb ov nv mv2 xv hla)
  have k543 := h1.locks
  dsimp only at k543
  rw [H3.out.y.lk] at k543
  clear h1 h2 h3 hla
  go_wp2_with fail
  refine HLA.out.mono ?_
  rintro _ w4 ⟨rfl, hw⟩
  have hw := hw.symm
  subst hw
  clear k543
  go_wp2_with fail
  go_loop [36] (fun i => i = .int .i64 0) (fun _ => 0)
  case atStart => rfl
  case round =>
    obtain rfl := hrel
    go_wp2_with fail
    refine (relevel1 H3.out).mono ?_
    rintro _ w5 ⟨rfl, h5⟩
    have H5 := Lib.hid h5
    clear h5
    go_wp2
    go_end0
    exact ⟨rfl, H5.out⟩
end
end Go.Proofs.YtnhmdinpfcoebaaGreatDoor
end
