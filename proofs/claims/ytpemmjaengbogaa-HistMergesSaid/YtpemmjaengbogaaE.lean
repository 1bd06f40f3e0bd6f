/- Numbers counted by bounds: of, and the reference's Counts. -/
import Derived.Test.YtpemmjaengbogaaD
namespace Go.Proofs.Ytpemmjaengbogaa
open Go.RowKit
set_option linter.unusedVariables false
attribute [local irreducible] whereP sumP satP cntArr leastN topN
theorem HSt.mono {w : World} {B B' h : Nat} {A : Option Addr} {nb bcap : Nat} {Bd : Nat → Nat} {c : Nat} {K : Nat → Nat} {al sm lt tp : Nat} (H : HSt w B h A nb bcap Bd c K al sm lt tp) (hB : B' ≤ B) : HSt w B' h A nb bcap Bd c K al sm lt tp :=
  ⟨H.blk, H.bnd.mono hB, H.hcap, H.cnt, Nat.le_trans hB H.hB, Nat.le_trans hB H.cB, H.ch, fun m hm => ⟨(H.ab m hm).1, (H.ab m hm).2.1, Nat.le_trans hB (H.ab m hm).2.2⟩, H.nil⟩
def cntP (Bd : Nat → Nat) (nb : Nat) (V : Nat → Nat) : Nat → Nat → Nat
  | 0 => fun _ => 0
  | k + 1 => upd (cntP Bd nb V k) (whereP Bd (V k) nb) (cntP Bd nb V k (whereP Bd (V k) nb) + 1)
theorem cntP_step (Bd : Nat → Nat) (nb : Nat) (V : Nat → Nat) (k : Nat) : cntP Bd nb V (k + 1) = upd (cntP Bd nb V k) (whereP Bd (V k) nb) (cntP Bd nb V k (whereP Bd (V k) nb) + 1) := rfl
theorem cntP_le (Bd : Nat → Nat) (nb : Nat) (V : Nat → Nat) : ∀ k j, cntP Bd nb V k j ≤ k
  | 0, _ => Nat.le_refl _
  | k + 1, j => by
    rw [cntP_step]
    by_cases e : j = whereP Bd (V k) nb
    · subst e; rw [upd_same]; have := cntP_le Bd nb V k (whereP Bd (V k) nb); omega
    · rw [upd_other _ _ _ _ e]; have := cntP_le Bd nb V k j; omega
def leastP (V : Nat → Nat) : Nat → Nat
  | 0 => 0
  | k + 1 => leastN k (leastP V k) (V k)
def topP (V : Nat → Nat) : Nat → Nat
  | 0 => 0
  | k + 1 => topN k (topP V k) (V k)
theorem leastP_step (V : Nat → Nat) (k : Nat) : leastP V (k + 1) = leastN k (leastP V k) (V k) := rfl
theorem topP_step (V : Nat → Nat) (k : Nat) : topP V (k + 1) = topN k (topP V k) (V k) := rfl
theorem leastP_lt (V : Nat → Nat) (hV : ∀ i, V i < 18446744073709551616) : ∀ k, leastP V k < 18446744073709551616
  | 0 => by simp [leastP]
  | k + 1 => by rw [leastP_step]; unfold leastN; have := leastP_lt V hV k; have := hV k; split <;> omega
theorem topP_lt (V : Nat → Nat) (hV : ∀ i, V i < 18446744073709551616) : ∀ k, topP V k < 18446744073709551616
  | 0 => by simp [topP]
  | k + 1 => by rw [topP_step]; unfold topN; have := topP_lt V hV k; have := hV k; split <;> omega
theorem sumP_zero (V : Nat → Nat) : sumP V 0 = 0 := by unfold sumP; rfl
attribute [local irreducible] cntP leastP topP
/-- It holds what k numbers make. -/
def Hs (w : World) (B h : Nat) (A : Option Addr) (nb bcap : Nat) (Bd : Nat → Nat) (c : Nat) (V : Nat → Nat) (k : Nat) : Prop := HSt w B h A nb bcap Bd c (cntP Bd nb V k) k (sumP V k) (leastP V k) (topP V k)
theorem add_hs (w : World) (B h : Nat) (A : Option Addr) (nb bcap : Nat) (Bd : Nat → Nat) (c : Nat) (V : Nat → Nat) (k : Nat) (H : Hs w B h A nb bcap Bd c V k) (hnb : (nb : Int) ≤ 1000) (hs : Sorted Bd nb) (hk : k < 10000) (hV : ∀ i, V i < 18446744073709551616) :
    Calls Try.prog 26 #[.pointer (some ⟨h, 0, none⟩), .int .u64 (V k : Nat)] w fun e w' => e = .returned (.bool true) ∧ Hs w' B h A nb bcap Bd c V (k + 1) ∧ Keep h c w w' := by
  refine (add_any w B h A nb bcap Bd c _ _ _ _ _ (V k) H hnb hs (fun i => by have := cntP_le Bd nb V k i; omega) (by omega) (sumP_lt V k) (hV k) (leastP_lt V hV k) (topP_lt V hV k)).mono ?_
  rintro e w' ⟨he, h1, h2⟩
  refine ⟨he, ?_, h2⟩
  unfold Hs
  rw [cntP_step, sumP_step, leastP_step, topP_step]
  exact h1
/-- What 'of' leaves. -/
def OfP (w : World) (n : Nat) (Bd : Nat → Nat) (ln : Nat) (V : Nat → Nat) (e : Ending) (w' : World) : Prop :=
  Grow w w' ∧ ((¬ (Asc Bd n ∧ n ≤ 32) ∧ e = .returned (.pointer none)) ∨ ((Asc Bd n ∧ n ≤ 32) ∧ ∃ h A' cap' c, e = .returned (.pointer (some ⟨h, 0, none⟩)) ∧ Hs w' w.heap.size h A' n cap' Bd c V ln))
set_option maxHeartbeats 1000000 in
theorem of_any (w : World) (A LA : Option Addr) (n cap ln lcap : Nat) (Bd V : Nat → Nat) (hn : (n : Int) ≤ 1000) (hcap : (n : Int) ≤ cap) (hln : (ln : Int) ≤ 1000) (hlc : (ln : Int) ≤ lcap) (hM : MemAt w A n Bd) (hL : MemAt w LA ln V) (hV : ∀ i, V i < 18446744073709551616) :
    Calls Try.prog 10 #[.slice A n cap, .slice LA ln lcap] w (OfP w n Bd ln V) := by
  have HM := Lib.hid hM; clear hM
  have HL := Lib.hid hL; clear hL
  have HV := Lib.hid hV; clear hV
  obtain ⟨i0, hi, hz0, hz1, hz2⟩ := info_parts info28
  go_enter Try.func10, Try.ntmps10
  go_wp2_with (at_builtin; refine wpList_append_any _ rfl (.tmp 10) (.tmp 11) 22 rfl w.heap.size 28 i0 (.int .u64 0) 1 8 Try.underlying22 hi hz0 hz1 hz2 rfl (by decide) _ 0 [] (by rfl) ?c1 w.heap.size A n cap (nums n Bd) (by rfl) ?c2 ?c3 ?c4 ?c5 ?c6 ?c7)
  case c1 => exact World.ownsRow_made (base := w.heap.size) (e := 28) (size := 1) w #[] 0 (Nat.le_refl _) (by unfold maxLen; omega) rfl
  case c2 => exact HM.out.reads.alloc (Nat.le_refl _) _
  case c3 => intro u hu; obtain ⟨j, hj⟩ := List.mem_iff_getElem?.1 hu; rw [(nums_at n Bd j u hj).2]; rfl
  case c4 => unfold maxLen; omega
  case c5 => omega
  case c6 => simp
  case c7 =>
  intro v' w1 hown hgrow hblk
  have hG : Grow w w1 := Below.trans (Grow.alloc w (.cells #[] 28)) (below_grown hgrow (by simp) (fun k hk => by simp [Value.ownBlock] at hk; omega))
  obtain ⟨A1, cap1, rfl, hcap1, hmem⟩ := own_mem hown
  have hnn : A1 ≠ none := by
    rintro rfl
    rcases hblk with h | h <;> simp [Value.ownBlock] at h
  have HG := Lib.hid hG
  have HH := Lib.hid hmem
  clear hown hgrow hblk hG hmem HM hi hz0 hz1 hz2
  go_wp2_with fail
  refine (new_any w1 A1 n cap1 Bd hn (by omega) (fun h => absurd h hnn) HH.out.at).mono ?_
  rintro e w2 ⟨hg, ⟨hno, rfl⟩ | ⟨hyes, h, A2, cap2, c, rfl, hst⟩⟩
  · have HG2 := Lib.hid (HG.out.trans hg)
    have HNO := Lib.hid hno
    clear hg hno hnn hcap1 HH
    go_wp2
    go_ret
    exact ⟨HG2.out, .inl ⟨HNO.out, rfl⟩⟩
  · have HG2 := Lib.hid (HG.out.trans hg)
    have HST := Lib.hid (show Hs w2 w1.heap.size h A2 n cap2 Bd c V 0 from by
      unfold Hs
      have e1 : cntP Bd n V 0 = fun _ => 0 := by unfold cntP; rfl
      have e2 : leastP V 0 = 0 := by unfold leastP; rfl
      have e3 : topP V 0 = 0 := by unfold topP; rfl
      rw [e1, e2, e3, sumP_zero]; exact hst)
    have HYES := Lib.hid hyes
    have HB := Lib.hid (show w.heap.size ≤ w1.heap.size from HG.out.size)
    have HHB := Lib.hid (show w1.heap.size ≤ h ∧ w1.heap.size ≤ c from ⟨hst.hB, hst.cB⟩)
    clear hg hyes hst hnn hcap1 HH
    go_wp2_with fail
    go_loopw [20] (fun i wr => ∃ k : Nat, k ≤ ln ∧ i = .int .i64 k ∧ Hs wr w1.heap.size h A2 n cap2 Bd c V k ∧ Keep h c w2 wr) (fun i _ => ln - (intOf i).toNat)
    case atStart => exact ⟨0, by omega, rfl, HST.out, Keep.refl _ _ _⟩
    case round =>
      obtain ⟨k, hk, rfl, hst, hkp⟩ := hrel
      have HSTk := Lib.hid hst; clear hst
      have HKP := Lib.hid hkp; clear hkp
      have HGr := Lib.hid (HKP.out.made HG2.out (by have := HB.out; have := HHB.out; omega) (by have := HB.out; have := HHB.out; omega))
      by_cases hlt : k < ln
      · obtain ⟨a, hA, hc⟩ := (HL.out.grow HGr.out) (by omega)
        have m := hc k hlt
        rw [hA]
        clear hc hA
        have k0 : (0 : Int) ≤ (k : Int) := by omega
        have kn : (k : Int) < (ln : Int) := by omega
        go_wp2_with fail
        refine (add_hs wr w1.heap.size h A2 n cap2 Bd c V k HSTk.out hn HYES.out.1.sorted (by omega) HV.out).mono ?_
        rintro e w3 ⟨rfl, hst, hkp⟩
        have HSTk2 := Lib.hid hst
        have HKP2 := Lib.hid (HKP.out.trans hkp)
        clear hst hkp HSTk HKP HGr
        go_wp2_with fail
        go_roundw
        case rel => exact ⟨k + 1, by omega, by go_num, HSTk2.out, HKP2.out⟩
        case measure => simp [intOf]; omega
      · have kn : ¬ (k : Int) < (ln : Int) := by omega
        have hkn : k = ln := by omega
        subst hkn
        go_wp2
        go_ret
        exact ⟨HGr.out, .inr ⟨HYES.out, h, A2, cap2, c, rfl, HSt.mono HSTk.out HB.out⟩⟩
end Go.Proofs.Ytpemmjaengbogaa
