/- The walk of Merge. -/
import Derived.Test.YtpemmjaengbogaaM
namespace Go.Proofs.Ytpemmjaengbogaa
open Go.RowKit
set_option linter.unusedVariables false
attribute [local irreducible] whereP sumP satP cntArr leastN topN cntP leastP topP cumP cntLe
attribute [local simp] RelKnown Is
theorem HSt.congrK {w : World} {B h : Nat} {A : Option Addr} {nb bcap : Nat} {Bd : Nat → Nat} {c : Nat} {K K' : Nat → Nat} {al sm lt tp : Nat} (H : HSt w B h A nb bcap Bd c K al sm lt tp) (e : ∀ j, j < nb + 1 → K' j = K j) : HSt w B h A nb bcap Bd c K' al sm lt tp := by
  have : cntArr K (nb + 1) = cntArr K' (nb + 1) := by
    apply Array.ext_getElem?
    intro i
    by_cases hi : i < nb + 1
    · rw [cntArr_at _ _ _ hi, cntArr_at _ _ _ hi, e i hi]
    · rw [Array.getElem?_eq_none (by rw [cntArr_size]; omega), Array.getElem?_eq_none (by rw [cntArr_size]; omega)]
  exact ⟨H.blk, H.bnd, H.hcap, by rw [← this]; exact H.cnt, H.hB, H.cB, H.ch, H.ab, H.nil⟩
theorem HSt.keep {w w' : World} {B h : Nat} {A : Option Addr} {nb bcap : Nat} {Bd : Nat → Nat} {c : Nat} {K : Nat → Nat} {al sm lt tp a b : Nat} (H : HSt w B h A nb bcap Bd c K al sm lt tp) (hk : Keep a b w w') (ha : a < B) (hb : b < B) : HSt w' B h A nb bcap Bd c K al sm lt tp := by
  have hB := H.hB
  have cB := H.cB
  refine ⟨hk.at (by omega) (by omega) H.blk, fun hn => ?_, H.hcap, hk.at (by omega) (by omega) H.cnt, H.hB, H.cB, H.ch, H.ab, H.nil⟩
  obtain ⟨g, e1, e2, e3, e4⟩ := H.bnd hn
  have hlt := cell_lt (e3 0 hn)
  have hbk := hk.2.2.2.2 g hlt (by omega) (by omega)
  exact ⟨g, e1, e2, fun j hj => (World.cell?_of_block (a := ⟨g, j, none⟩) hbk).trans (e3 j hj), fun j => by
    have := e4 j
    unfold World.frozen? at this ⊢
    rw [hbk]; exact this⟩
def mixK (K Ko : Nat → Nat) (k : Nat) : Nat → Nat := fun j => if j < k then K j + Ko j else K j
theorem mixK_step (K Ko : Nat → Nat) (k : Nat) : upd (mixK K Ko k) k (K k + Ko k) = mixK K Ko (k + 1) := by
  funext j
  unfold upd mixK
  by_cases e : j = k
  · subst e; simp
  · rw [if_neg e]
    by_cases h : j < k
    · rw [if_pos h, if_pos (by omega)]
    · rw [if_neg h, if_neg (by omega)]
theorem mixK_at (K Ko : Nat → Nat) (k : Nat) : mixK K Ko k k = K k := by unfold mixK; simp
theorem mixK_zero (K Ko : Nat → Nat) : mixK K Ko 0 = K := by funext j; unfold mixK; simp
attribute [local irreducible] mixK
theorem merge_none (w : World) (h : Nat) : Calls Try.prog 24 #[.pointer (some ⟨h, 0, none⟩), .pointer none] w fun e w' => e = .returned (.int .i64 16) ∧ w' = w := by
  go_enter Try.func24, Try.ntmps24
  go_wp2
  go_ret
  exact ⟨rfl, rfl⟩
def minN (al lt lto : Nat) : Nat := if al = 0 then lto else min lt lto
def maxN (al tp tpo : Nat) : Nat := if al = 0 then tpo else max tp tpo
attribute [local irreducible] minN maxN
def Merged (w : World) (nb : Nat) (Bd : Nat → Nat) (B1 h1 : Nat) (A1 : Option Addr) (bc1 : Nat) (c1 : Nat) (K1 : Nat → Nat) (al1 sm1 lt1 tp1 : Nat) (K2 : Nat → Nat) (al2 sm2 lt2 tp2 : Nat) (e : Ending) (w' : World) : Prop := e = .returned (.int .i64 0) ∧ HSt w' B1 h1 A1 nb bc1 Bd c1 (fun j => K1 j + K2 j) (al1 + al2) (satP sm1 sm2) (minN al1 lt1 lt2) (maxN al1 tp1 tp2) ∧ Keep h1 c1 w w'
set_option maxHeartbeats 2000000 in
set_option maxRecDepth 100000 in
theorem merge_empty (w : World) (nb : Nat) (Bd : Nat → Nat) (B1 h1 : Nat) (A1 : Option Addr) (bc1 : Nat) (c1 : Nat) (K1 : Nat → Nat) (al1 sm1 lt1 tp1 : Nat) (B2 h2 : Nat) (A2 : Option Addr) (bc2 : Nat) (c2 : Nat) (K2 : Nat → Nat) (al2 sm2 lt2 tp2 : Nat) (hal2 : al2 = 0) (hnb : (nb : Int) ≤ 100) (G1 : HSt w B1 h1 A1 nb bc1 Bd c1 K1 al1 sm1 lt1 tp1) (G2 : HSt w B2 h2 A2 nb bc2 Bd c2 K2 al2 sm2 lt2 tp2) :
    Calls Try.prog 24 #[.pointer (some ⟨h1, 0, none⟩), .pointer (some ⟨h2, 0, none⟩)] w fun e w' => e = .returned (.int .i64 0) ∧ Grow w w' := by
  have HQ1 := Lib.hid G1; clear G1
  have HQ2 := Lib.hid G2; clear G2
  have hb2 : ((al2 : Int) == 0) = true := by simp [hal2]
  clear hal2
  go_enter Try.func24, Try.ntmps24
  go_wp2_with fail
  refine wp_region_rel _ Grow (fun wQ => HSt wQ B1 h1 A1 nb bc1 Bd c1 K1 al1 sm1 lt1 tp1 ∧ HSt wQ B2 h2 A2 nb bc2 Bd c2 K2 al2 sm2 lt2 tp2 ∧ Grow w wQ) [([(0, none)], none), ([(15, some 0)], none), ([(16, some 0)], none), ([(17, some 0)], none), ([(1, none)], none), ([(19, some 0)], none), ([(20, some 0)], none), ([(21, some 0)], none), ([(18, some 4), (22, some 0)], none), ([(23, some 0)], none), ([(24, some 0)], none)] (by kernel_rfl) (by kernel_rfl) ⟨HQ1.out.drew, HQ2.out.drew, Grow.drewN w 1⟩ ?_
  refine rel_pure ⟨.pointer (some ⟨h1, 0, none⟩), fun a wQ hF hk => ?_, ?_⟩
  · refine rel_none fun K hK => ?_
    (try simp at hk)
    go_simp
    exact hK _ _ (Grow.refl _) hF rfl
  refine rel_pure ⟨.pointer (some ⟨h1, 0, none⟩), fun a wQ hF hk => ?_, ?_⟩
  · refine rel_none fun K hK => ?_
    (try simp at hk)
    go_simp
    exact hK _ _ (Grow.refl _) hF rfl
  refine rel_pure ⟨.pointer (some ⟨h1, 0, none⟩), fun a wQ hF hk => ?_, ?_⟩
  · refine rel_none fun K hK => ?_
    (try simp at hk)
    go_simp
    exact hK _ _ (Grow.refl _) hF rfl
  refine rel_pure ⟨.slice A1 nb bc1, fun a wQ hF hk => ?_, ?_⟩
  · refine rel_none fun K hK => ?_
    (try simp at hk)
    have c0Q := hF.1.c0
    go_simp
    exact hK _ _ (Grow.refl _) hF rfl
  refine rel_pure ⟨.pointer (some ⟨h2, 0, none⟩), fun a wQ hF hk => ?_, ?_⟩
  · refine rel_none fun K hK => ?_
    (try simp at hk)
    go_simp
    exact hK _ _ (Grow.refl _) hF rfl
  refine rel_pure ⟨.pointer (some ⟨h2, 0, none⟩), fun a wQ hF hk => ?_, ?_⟩
  · refine rel_none fun K hK => ?_
    (try simp at hk)
    go_simp
    exact hK _ _ (Grow.refl _) hF rfl
  refine rel_pure ⟨.pointer (some ⟨h2, 0, none⟩), fun a wQ hF hk => ?_, ?_⟩
  · refine rel_none fun K hK => ?_
    (try simp at hk)
    go_simp
    exact hK _ _ (Grow.refl _) hF rfl
  refine rel_pure ⟨.slice A2 nb bc2, fun a wQ hF hk => ?_, ?_⟩
  · refine rel_none fun K hK => ?_
    (try simp at hk)
    have c0Q := hF.2.1.c0
    go_simp
    exact hK _ _ (Grow.refl _) hF rfl
  refine rel_pure ⟨.bool true, fun a wQ hF hk => ?_, ?_⟩
  · refine rel_none fun K hK => ?_
    (try simp at hk)
    go_simp
    refine (equal_same wQ A1 A2 nb bc1 bc2 Bd (by omega) hF.1.hcap hF.2.1.hcap hF.1.bnd.at hF.2.1.bnd.at).mono ?_
    rintro e w' ⟨rfl, hg⟩
    exact hK _ _ hg ⟨hF.1.grow hg, hF.2.1.grow hg, hF.2.2.trans hg⟩ rfl
  refine rel_pure ⟨.bool false, fun a wQ hF hk => ?_, ?_⟩
  · refine rel_none fun K hK => ?_
    (try simp at hk)
    go_simp
    exact hK _ _ (Grow.refl _) hF rfl
  refine rel_pure ⟨.bool false, fun a wQ hF hk => ?_, ?_⟩
  · refine rel_none fun K hK => ?_
    (try simp at hk)
    go_simp
    exact hK _ _ (Grow.refl _) hF rfl
  refine rel_done fun wR hF => ?_
  repeat (refine fun v hv => ?_; obtain rfl : v = _ := hv)
  simp only [Act.put, List.setIfInBounds_toArray, List.set_cons_zero, List.set_cons_succ]
  refine rel_nil ?_
  have x2 := hF.2.1.c2
  have HF := Lib.hid hF; clear hF
  go_wp2
  go_ret
  exact ⟨rfl, HF.out.2.2⟩
set_option maxHeartbeats 2000000 in
set_option maxRecDepth 100000 in
theorem merge_any (w : World) (nb : Nat) (Bd : Nat → Nat) (B1 h1 : Nat) (A1 : Option Addr) (bc1 : Nat) (c1 : Nat) (K1 : Nat → Nat) (al1 sm1 lt1 tp1 : Nat) (B2 h2 : Nat) (A2 : Option Addr) (bc2 : Nat) (c2 : Nat) (K2 : Nat → Nat) (al2 sm2 lt2 tp2 : Nat) (hal2 : al2 ≠ 0) (hnb : (nb : Int) ≤ 100) (G1 : HSt w B1 h1 A1 nb bc1 Bd c1 K1 al1 sm1 lt1 tp1) (G2 : HSt w B2 h2 A2 nb bc2 Bd c2 K2 al2 sm2 lt2 tp2) (hlt1 : h1 < B2) (hlc1 : c1 < B2)
    (hK1 : ∀ i, K1 i < 1000000) (hK2 : ∀ i, K2 i < 1000000) (ha1 : (al1 : Int) < 1000000) (ha2 : (al2 : Int) < 1000000) (hs1 : sm1 < 18446744073709551616) (hs2 : sm2 < 18446744073709551616) :
    Calls Try.prog 24 #[.pointer (some ⟨h1, 0, none⟩), .pointer (some ⟨h2, 0, none⟩)] w (Merged w nb Bd B1 h1 A1 bc1 c1 K1 al1 sm1 lt1 tp1 K2 al2 sm2 lt2 tp2) := by
  have HLT := Lib.hid (And.intro hlt1 hlc1); clear hlt1 hlc1
  have HQ1 := Lib.hid G1; clear G1
  have HQ2 := Lib.hid G2; clear G2
  have hb2 : ((al2 : Int) == 0) = false := by simp; omega
  have HA2 := Lib.hid hal2; clear hal2
  go_enter Try.func24, Try.ntmps24
  go_wp2_with fail
  refine wp_region_rel _ Grow (fun wQ => HSt wQ B1 h1 A1 nb bc1 Bd c1 K1 al1 sm1 lt1 tp1 ∧ HSt wQ B2 h2 A2 nb bc2 Bd c2 K2 al2 sm2 lt2 tp2 ∧ Grow w wQ) [([(0, none)], none), ([(15, some 0)], none), ([(16, some 0)], none), ([(17, some 0)], none), ([(1, none)], none), ([(19, some 0)], none), ([(20, some 0)], none), ([(21, some 0)], none), ([(18, some 4), (22, some 0)], none), ([(23, some 0)], none), ([(24, some 0)], none)] (by kernel_rfl) (by kernel_rfl) ⟨HQ1.out.drew, HQ2.out.drew, Grow.drewN w 1⟩ ?_
  refine rel_pure ⟨.pointer (some ⟨h1, 0, none⟩), fun a wQ hF hk => ?_, ?_⟩
  · refine rel_none fun K hK => ?_
    (try simp at hk)
    go_simp
    exact hK _ _ (Grow.refl _) hF rfl
  refine rel_pure ⟨.pointer (some ⟨h1, 0, none⟩), fun a wQ hF hk => ?_, ?_⟩
  · refine rel_none fun K hK => ?_
    (try simp at hk)
    go_simp
    exact hK _ _ (Grow.refl _) hF rfl
  refine rel_pure ⟨.pointer (some ⟨h1, 0, none⟩), fun a wQ hF hk => ?_, ?_⟩
  · refine rel_none fun K hK => ?_
    (try simp at hk)
    go_simp
    exact hK _ _ (Grow.refl _) hF rfl
  refine rel_pure ⟨.slice A1 nb bc1, fun a wQ hF hk => ?_, ?_⟩
  · refine rel_none fun K hK => ?_
    (try simp at hk)
    have c0Q := hF.1.c0
    go_simp
    exact hK _ _ (Grow.refl _) hF rfl
  refine rel_pure ⟨.pointer (some ⟨h2, 0, none⟩), fun a wQ hF hk => ?_, ?_⟩
  · refine rel_none fun K hK => ?_
    (try simp at hk)
    go_simp
    exact hK _ _ (Grow.refl _) hF rfl
  refine rel_pure ⟨.pointer (some ⟨h2, 0, none⟩), fun a wQ hF hk => ?_, ?_⟩
  · refine rel_none fun K hK => ?_
    (try simp at hk)
    go_simp
    exact hK _ _ (Grow.refl _) hF rfl
  refine rel_pure ⟨.pointer (some ⟨h2, 0, none⟩), fun a wQ hF hk => ?_, ?_⟩
  · refine rel_none fun K hK => ?_
    (try simp at hk)
    go_simp
    exact hK _ _ (Grow.refl _) hF rfl
  refine rel_pure ⟨.slice A2 nb bc2, fun a wQ hF hk => ?_, ?_⟩
  · refine rel_none fun K hK => ?_
    (try simp at hk)
    have c0Q := hF.2.1.c0
    go_simp
    exact hK _ _ (Grow.refl _) hF rfl
  refine rel_pure ⟨.bool true, fun a wQ hF hk => ?_, ?_⟩
  · refine rel_none fun K hK => ?_
    (try simp at hk)
    go_simp
    refine (equal_same wQ A1 A2 nb bc1 bc2 Bd (by omega) hF.1.hcap hF.2.1.hcap hF.1.bnd.at hF.2.1.bnd.at).mono ?_
    rintro e w' ⟨rfl, hg⟩
    exact hK _ _ hg ⟨hF.1.grow hg, hF.2.1.grow hg, hF.2.2.trans hg⟩ rfl
  refine rel_pure ⟨.bool false, fun a wQ hF hk => ?_, ?_⟩
  · refine rel_none fun K hK => ?_
    (try simp at hk)
    go_simp
    exact hK _ _ (Grow.refl _) hF rfl
  refine rel_pure ⟨.bool false, fun a wQ hF hk => ?_, ?_⟩
  · refine rel_none fun K hK => ?_
    (try simp at hk)
    go_simp
    exact hK _ _ (Grow.refl _) hF rfl
  refine rel_done fun wR hF => ?_
  repeat (refine fun v hv => ?_; obtain rfl : v = _ := hv)
  simp only [Act.put, List.setIfInBounds_toArray, List.set_cons_zero, List.set_cons_succ]
  refine rel_nil ?_
  obtain ⟨hf1, hf2, hf3⟩ := hF
  have x2 := hf2.c2
  have y2 := hf1.c2
  have z1 := hf2.c1
  have HW := Lib.hid hf3
  have HS1 := Lib.hid hf1
  replace HQ2 := Lib.hid hf2
  have HKP := Lib.hid (Keep.refl h1 c1 wR)
  clear hf1 hf2 hf3 HQ1
  by_cases h0 : al1 = 0
  · have hb1 : ((al1 : Int) == 0) = true := by simp [h0]
    have H0 := Lib.hid h0; clear h0
    have c4 := HS1.out.c4
    have c5 := HS1.out.c5
    have f4 := HS1.out.free 4
    have f5 := HS1.out.free 5
    have d4 := HQ2.out.c4
    have d5 := HQ2.out.c5
    have hne : h1 ≠ h2 := by have := HLT.out.1; have := HQ2.out.hB; omega
    go_wp2_with fail
    go_region
    have hA0 := ((HS1.out.set4 lt2).set5 tp2).drew
    have kA0 := ((HKP.out.setA 4 (.int .u64 (lt2 : Int))).setA 5 (.int .u64 (tp2 : Int))).drew
    generalize ((wR.setCell ⟨h1, 4, none⟩ (.int .u64 (lt2 : Int))).setCell ⟨h1, 5, none⟩ (.int .u64 (tp2 : Int))).drew = wS at hA0 kA0 ⊢
    replace HS1 := Lib.hid hA0
    replace HKP := Lib.hid kA0
    clear hA0 kA0 c4 c5 f4 f5 d4 d5 x2 y2 z1 hne
    have z1 := (HQ2.out.keep HKP.out HLT.out.1 HLT.out.2).c1
    go_wp2_with fail
    go_loopw [56] (fun i wr => ∃ k : Nat, k ≤ nb + 1 ∧ i = .int .i64 k ∧ HSt wr B1 h1 A1 nb bc1 Bd c1 (mixK K1 K2 k) al1 sm1 lt2 tp2 ∧ Keep h1 c1 wR wr) (fun i _ => nb + 1 - (intOf i).toNat)
    case atStart => exact ⟨0, by omega, rfl, by rw [mixK_zero]; exact HS1.out, HKP.out⟩
    case round =>
      obtain ⟨k, hk, rfl, hst, hkp⟩ := hrel
      have HS := Lib.hid hst; clear hst
      have HK := Lib.hid hkp; clear hkp
      have HS2 := Lib.hid (HQ2.out.keep HK.out HLT.out.1 HLT.out.2)
      by_cases hlt : k < nb + 1
      · have x1 := HS.out.c1
        have k1 := HS.out.k k hlt
        have f1 := HS.out.kfree k
        have k2 := HS2.out.k k hlt
        rw [mixK_at] at k1
        have b1 := hK1 k
        have b2 := hK2 k
        have k0 : (0 : Int) ≤ (k : Int) := by omega
        have kn : (k : Int) < (nb : Int) + 1 := by omega
        have y1 : (K1 k : Int) < 1000000 := by omega
        have y2 : (K2 k : Int) < 1000000 := by omega
        have y3 : (0 : Int) ≤ (K1 k : Int) := by omega
        have y4 : (0 : Int) ≤ (K2 k : Int) := by omega
        have hset := HS.out.setK k (K1 k + K2 k) hlt
        rw [mixK_step] at hset
        have e1 : ((K1 k + K2 k : Nat) : Int) = (K1 k : Int) + (K2 k : Int) := by omega
        rw [e1] at hset
        have HSET := Lib.hid hset
        have HKS := Lib.hid (HK.out.setB k (.int .u64 ((K1 k : Int) + (K2 k : Int))))
        clear hset e1 b1 b2
        go_wp2_with fail
        go_roundw
        case rel => exact ⟨k + 1, by omega, by go_num, HSET.out, HKS.out⟩
        case measure => simp [intOf]; omega
      · have kn : ¬ (k : Int) < (nb : Int) + 1 := by omega
        have hkn : k = nb + 1 := by omega
        subst hkn
        obtain ⟨W0, rfl⟩ : ∃ W0, W0 = wr := ⟨wr, rfl⟩
        go_wp2_with fail
        have c4 := HS.out.c4
        have c5 := HS.out.c5
        have f4 := HS.out.free 4
        have f5 := HS.out.free 5
        have d4 := HS2.out.c4
        have d5 := HS2.out.c5
        have hne : h1 ≠ h2 := by have := HLT.out.1; have := HS2.out.hB; omega
        go_region
        have hA := ((HS.out.set4 lt2).set5 tp2).drew
        have kA := ((HK.out.setA 4 (.int .u64 (lt2 : Int))).setA 5 (.int .u64 (tp2 : Int))).drew
        generalize ((W0.setCell ⟨h1, 4, none⟩ (.int .u64 (lt2 : Int))).setCell ⟨h1, 5, none⟩ (.int .u64 (tp2 : Int))).drew = W1 at hA kA ⊢
        have HA := Lib.hid hA; clear hA
        have KA := Lib.hid kA; clear kA
        have HO := Lib.hid (HQ2.out.keep KA.out HLT.out.1 HLT.out.2)
        clear c4 c5 f4 f5 d4 d5 HS HK HS2 z1 
        go_wp2_with fail
        have c2' := HA.out.c2
        have f2' := HA.out.free 2
        have d2' := HO.out.c2
        have a0 : (0 : Int) ≤ (al1 : Int) := by omega
        have a1 : (0 : Int) ≤ (al2 : Int) := by omega
        go_region
        have e1 : (al1 : Int) + (al2 : Int) = ((al1 + al2 : Nat) : Int) := by omega
        rw [e1]
        have hB := (HA.out.set2 (al1 + al2)).drew
        have kB := (KA.out.setA 2 (.int .u64 ((al1 + al2 : Nat) : Int))).drew
        generalize (W1.setCell ⟨h1, 2, none⟩ (.int .u64 ((al1 + al2 : Nat) : Int))).drew = W2 at hB kB ⊢
        have HB := Lib.hid hB; clear hB
        have KB := Lib.hid kB; clear kB
        have HO2 := Lib.hid (HQ2.out.keep KB.out HLT.out.1 HLT.out.2)
        clear c2' f2' d2' HA KA HO e1
        go_wp2_with fail
        have c3 := HB.out.c3
        have d3 := HO2.out.c3
        have f3 := HB.out.free 3
        go_still_tail 10, (by kernel_rfl)
        still_call (more_any sm1 sm2 hs1 hs2 _)
        repeat still_step
        refine wpStill_nil ?_
        change wpList _ _ _ _ _ W2.drew
        clear c3 d3 f3
        have HC := Lib.hid HB.out.drew
        have KC := Lib.hid KB.out.drew
        generalize W2.drew = W3 at HC KC ⊢
        have c3 := HC.out.c3
        have f3 := HC.out.free 3
        have HD := Lib.hid (HC.out.set3 (satP sm1 sm2))
        have KD := Lib.hid (KC.out.setA 3 (.int .u64 ((satP sm1 sm2 : Nat) : Int)))
        have HKW := Lib.hid ((Keep.refl h1 c1 w).grow HW.out)
        go_wp2
        go_ret
        refine ⟨rfl, HSt.congrK (K := mixK K1 K2 (nb + 1)) ?_ (fun j hj => ?_), HKW.out.trans KD.out⟩
        · have h := HD.out; unfold minN maxN; rw [if_pos H0.out, if_pos H0.out]; exact h
        · unfold mixK; rw [if_pos hj]
  · have hb1 : ((al1 : Int) == 0) = false := by simp; omega
    have H0 := Lib.hid h0; clear h0
    go_wp2_with fail
    go_loopw [56] (fun i wr => ∃ k : Nat, k ≤ nb + 1 ∧ i = .int .i64 k ∧ HSt wr B1 h1 A1 nb bc1 Bd c1 (mixK K1 K2 k) al1 sm1 lt1 tp1 ∧ Keep h1 c1 wR wr) (fun i _ => nb + 1 - (intOf i).toNat)
    case atStart => exact ⟨0, by omega, rfl, by rw [mixK_zero]; exact HS1.out, HKP.out⟩
    case round =>
      obtain ⟨k, hk, rfl, hst, hkp⟩ := hrel
      have HS := Lib.hid hst; clear hst
      have HK := Lib.hid hkp; clear hkp
      have HS2 := Lib.hid (HQ2.out.keep HK.out HLT.out.1 HLT.out.2)
      by_cases hlt : k < nb + 1
      · have x1 := HS.out.c1
        have k1 := HS.out.k k hlt
        have f1 := HS.out.kfree k
        have k2 := HS2.out.k k hlt
        rw [mixK_at] at k1
        have b1 := hK1 k
        have b2 := hK2 k
        have k0 : (0 : Int) ≤ (k : Int) := by omega
        have kn : (k : Int) < (nb : Int) + 1 := by omega
        have y1 : (K1 k : Int) < 1000000 := by omega
        have y2 : (K2 k : Int) < 1000000 := by omega
        have y3 : (0 : Int) ≤ (K1 k : Int) := by omega
        have y4 : (0 : Int) ≤ (K2 k : Int) := by omega
        have hset := HS.out.setK k (K1 k + K2 k) hlt
        rw [mixK_step] at hset
        have e1 : ((K1 k + K2 k : Nat) : Int) = (K1 k : Int) + (K2 k : Int) := by omega
        rw [e1] at hset
        have HSET := Lib.hid hset
        have HKS := Lib.hid (HK.out.setB k (.int .u64 ((K1 k : Int) + (K2 k : Int))))
        clear hset e1 b1 b2
        go_wp2_with fail
        go_roundw
        case rel => exact ⟨k + 1, by omega, by go_num, HSET.out, HKS.out⟩
        case measure => simp [intOf]; omega
      · have kn : ¬ (k : Int) < (nb : Int) + 1 := by omega
        have hkn : k = nb + 1 := by omega
        subst hkn
        obtain ⟨W0, rfl⟩ : ∃ W0, W0 = wr := ⟨wr, rfl⟩
        go_wp2_with fail
        have c4 := HS.out.c4
        have c5 := HS.out.c5
        have f4 := HS.out.free 4
        have f5 := HS.out.free 5
        have d4 := HS2.out.c4
        have d5 := HS2.out.c5
        have hne : h1 ≠ h2 := by have := HLT.out.1; have := HS2.out.hB; omega
        obtain ⟨mn, hmE⟩ : ∃ mn, mn = min lt1 lt2 := ⟨_, rfl⟩
        obtain ⟨mx, hxE⟩ : ∃ mx, mx = max tp1 tp2 := ⟨_, rfl⟩
        have hmn : (if lt2 < lt1 then (lt2 : Int) else (lt1 : Int)) = (mn : Int) := by split <;> omega
        have hmx : (if tp1 < tp2 then (tp2 : Int) else (tp1 : Int)) = (mx : Int) := by split <;> omega
        have HME := Lib.hid hmE; clear hmE
        have HXE := Lib.hid hxE; clear hxE
        go_region
        have hA := ((HS.out.set4 mn).set5 mx).drew
        have kA := ((HK.out.setA 4 (.int .u64 (mn : Int))).setA 5 (.int .u64 (mx : Int))).drew
        generalize ((W0.setCell ⟨h1, 4, none⟩ (.int .u64 (mn : Int))).setCell ⟨h1, 5, none⟩ (.int .u64 (mx : Int))).drew = W1 at hA kA ⊢
        have HA := Lib.hid hA; clear hA
        have KA := Lib.hid kA; clear kA
        have HO := Lib.hid (HQ2.out.keep KA.out HLT.out.1 HLT.out.2)
        clear c4 c5 f4 f5 d4 d5 HS HK HS2 x2 y2 z1 hmn hmx
        go_wp2_with fail
        have c2' := HA.out.c2
        have f2' := HA.out.free 2
        have d2' := HO.out.c2
        have a0 : (0 : Int) ≤ (al1 : Int) := by omega
        have a1 : (0 : Int) ≤ (al2 : Int) := by omega
        go_region
        have e1 : (al1 : Int) + (al2 : Int) = ((al1 + al2 : Nat) : Int) := by omega
        rw [e1]
        have hB := (HA.out.set2 (al1 + al2)).drew
        have kB := (KA.out.setA 2 (.int .u64 ((al1 + al2 : Nat) : Int))).drew
        generalize (W1.setCell ⟨h1, 2, none⟩ (.int .u64 ((al1 + al2 : Nat) : Int))).drew = W2 at hB kB ⊢
        have HB := Lib.hid hB; clear hB
        have KB := Lib.hid kB; clear kB
        have HO2 := Lib.hid (HQ2.out.keep KB.out HLT.out.1 HLT.out.2)
        clear c2' f2' d2' HA KA HO e1
        go_wp2_with fail
        have c3 := HB.out.c3
        have d3 := HO2.out.c3
        have f3 := HB.out.free 3
        go_still_tail 10, (by kernel_rfl)
        still_call (more_any sm1 sm2 hs1 hs2 _)
        repeat still_step
        refine wpStill_nil ?_
        change wpList _ _ _ _ _ W2.drew
        clear c3 d3 f3
        have HC := Lib.hid HB.out.drew
        have KC := Lib.hid KB.out.drew
        generalize W2.drew = W3 at HC KC ⊢
        have c3 := HC.out.c3
        have f3 := HC.out.free 3
        have HD := Lib.hid (HC.out.set3 (satP sm1 sm2))
        have KD := Lib.hid (KC.out.setA 3 (.int .u64 ((satP sm1 sm2 : Nat) : Int)))
        have HKW := Lib.hid ((Keep.refl h1 c1 w).grow HW.out)
        go_wp2
        go_ret
        refine ⟨rfl, HSt.congrK (K := mixK K1 K2 (nb + 1)) ?_ (fun j hj => ?_), HKW.out.trans KD.out⟩
        · have h := HD.out; unfold minN maxN; rw [if_neg H0.out, if_neg H0.out, ← HME.out, ← HXE.out]; exact h
        · unfold mixK; rw [if_pos hj]
end Go.Proofs.Ytpemmjaengbogaa
