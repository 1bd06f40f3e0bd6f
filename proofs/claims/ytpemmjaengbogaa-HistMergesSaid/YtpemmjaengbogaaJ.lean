/- The walks of HistCounts and HistParts. -/
import Derived.Test.YtpemmjaengbogaaI
namespace Go.Proofs.Ytpemmjaengbogaa
open Go.RowKit
set_option linter.unusedVariables false
attribute [local irreducible] whereP sumP satP cntArr leastN topN cntP leastP topP cumP cntLe
theorem ends_hs (w : World) (B h : Nat) (A : Option Addr) (nb bcap : Nat) (Bd : Nat → Nat) (c : Nat) (V : Nat → Nat) (k : Nat) (H : Hs w B h A nb bcap Bd c V k) :
    Calls Try.prog 14 #[.pointer (some ⟨h, 0, none⟩)] w fun e w' => e = .returned (.tuple #[.int .u64 (leastP V k : Nat), .int .u64 (topP V k : Nat), .bool (decide (0 < k))]) ∧ Grow w w' := by
  have h1 := ends_any w B h A nb bcap Bd c _ _ _ _ _ H
  refine h1.mono ?_
  rintro e w' ⟨rfl, hg⟩
  refine ⟨?_, hg⟩
  by_cases hk : k = 0
  · subst hk
    have e1 : leastP V 0 = 0 := by unfold leastP; rfl
    have e2 : topP V 0 = 0 := by unfold topP; rfl
    rw [e1, e2]; rfl
  · rw [if_neg hk, if_neg hk]
    have : decide (k ≠ 0) = decide (0 < k) := by
      rw [decide_eq_decide]; omega
    rw [this]
theorem tells_yes {P : Prop} {w : World} {e : Ending} {w' : World} (h : Tells P w e w') (hp : P) : e = .returned (.bool true) ∧ Grow w w' := by
  obtain ⟨b, he, hb, hg⟩ := h
  have := hb.2 hp
  subst this
  exact ⟨he, hg⟩
theorem tells_no {P : Prop} {w : World} {e : Ending} {w' : World} (h : Tells P w e w') (hp : ¬ P) : e = .returned (.bool false) ∧ Grow w w' := by
  obtain ⟨b, he, hb, hg⟩ := h
  have : b = false := by
    cases b
    · rfl
    · exact absurd (hb.1 rfl) hp
  subst this
  exact ⟨he, hg⟩
set_option maxRecDepth 100000 in
theorem histCounts_far (A LA : Option Addr) (n cap ln lcap : Nat) (Bd V : Nat → Nat) (v : Nat) (w : World) (h : 100 < (n : Int) ∨ 500 < (ln : Int)) :
    Calls Try.prog 4 #[.slice A n cap, .slice LA ln lcap, .int .u64 v] w fun e w' => e = .returned (.bool true) ∧ Below w.heap.size w w' := by
  have HH := Lib.hid h; clear h
  go_enter Try.func4, Try.ntmps4
  go_wp2_with fail
  refine (awake_any _).mono ?_
  rintro e w1 ⟨rfl, hg⟩
  have HG := Lib.hid hg; clear hg
  by_cases h1 : 100 < (n : Int)
  · go_wp2_with fail
    refine (awake_any _).mono ?_
    rintro e w2 ⟨rfl, hg⟩
    have HG2 := Lib.hid (HG.out.trans hg); clear hg
    go_wp2
    go_ret
    exact ⟨rfl, HG2.out⟩
  · have h2 : 500 < (ln : Int) := by
      rcases HH.out with h | h
      · exact absurd h h1
      · exact h
    go_wp2_with fail
    refine (awake_any _).mono ?_
    rintro e w2 ⟨rfl, hg⟩
    have HG2 := Lib.hid (HG.out.trans hg); clear hg
    go_wp2
    go_ret
    exact ⟨rfl, HG2.out⟩
set_option maxHeartbeats 1000000 in
set_option maxRecDepth 100000 in
theorem histCounts_walk (A LA : Option Addr) (n cap ln lcap : Nat) (Bd V : Nat → Nat) (v : Nat) (w : World) (hn : (n : Int) ≤ 100) (hln : (ln : Int) ≤ 500) (hv : v < 18446744073709551616) (hcap : (n : Int) ≤ cap) (hlc : (ln : Int) ≤ lcap) (hV : ∀ i, V i < 18446744073709551616) (hM : MemAt w A n Bd) (hL : MemAt w LA ln V) :
    Calls Try.prog 4 #[.slice A n cap, .slice LA ln lcap, .int .u64 v] w fun e w' => e = .returned (.bool true) ∧ Below w.heap.size w w' := by
  have HM := Lib.hid hM; clear hM
  have HL := Lib.hid hL; clear hL
  have HV := Lib.hid hV; clear hV
  have hn' : (n : Int) ≤ 1000 := by omega
  have hln' : (ln : Int) ≤ 1000 := by omega
  go_enter Try.func4, Try.ntmps4
  go_wp2_with fail
  refine (awake_any _).mono ?_
  rintro e w1 ⟨rfl, hg⟩
  have HG := Lib.hid hg; clear hg
  go_wp2_with fail
  refine (of_any w1 A LA n cap ln lcap Bd V hn' hcap hln' hlc (HM.out.grow HG.out) (HL.out.grow HG.out) HV.out).mono ?_
  rintro e w2 ⟨hg, ⟨hno, rfl⟩ | ⟨hyes, h, A2, cap2, c, rfl, hst⟩⟩
  · replace HG := Lib.hid (HG.out.trans hg); clear hg
    have HNO := Lib.hid hno; clear hno
    go_wp2_with fail
    refine (right_any w2 A n cap Bd hn' hcap (HM.out.grow HG.out)).mono ?_
    intro e w3 ht
    obtain ⟨rfl, hg⟩ := tells_no ht HNO.out
    clear ht
    replace HG := Lib.hid (HG.out.trans hg); clear hg
    go_wp2
    go_ret
    exact ⟨rfl, HG.out⟩
  replace HG := Lib.hid (HG.out.trans hg); clear hg
  have HYES := Lib.hid hyes; clear hyes
  have HH := Lib.hid hst; clear hst
  go_wp2_with fail
  refine (right_any w2 A n cap Bd hn' hcap (HM.out.grow HG.out)).mono ?_
  intro e w3 ht
  obtain ⟨rfl, hg⟩ := tells_yes ht HYES.out
  clear ht
  replace HG := Lib.hid (HG.out.trans hg)
  replace HH := Lib.hid (HSt.grow HH.out hg); clear hg
  go_wp2_with fail
  refine (ends_hs w3 _ h A2 n cap2 Bd c V ln HH.out).mono ?_
  rintro e w4 ⟨rfl, hg⟩
  replace HG := Lib.hid (HG.out.trans hg)
  replace HH := Lib.hid (HSt.grow HH.out hg); clear hg
  have hok : (decide (0 < ln) != decide ((0 : Int) < (ln : Int))) = false := by simp
  go_wp2_with fail
  clear hok
  go_loopw [11, 12, 51] (fun lo hi i wr => ∃ k : Nat, k ≤ ln ∧ lo = .int .u64 (leastP V k : Nat) ∧ hi = .int .u64 (topP V k : Nat) ∧ i = .int .i64 k ∧ wr = w4) (fun _ _ i _ => ln - (intOf i).toNat)
  case atStart => exact ⟨0, by omega, by unfold leastP; rfl, by unfold topP; rfl, rfl, rfl⟩
  case round =>
    obtain ⟨k, hk, rfl, rfl, rfl, rfl⟩ := hrel
    by_cases hlt : k < ln
    · obtain ⟨a, hA, hc⟩ := (HL.out.grow HG.out) (by omega)
      have m := hc k hlt
      rw [hA]
      clear hc hA
      have hst := topP_max V k
      have hls := leastP_step V k
      unfold leastN at hls
      obtain ⟨s, hs⟩ : ∃ s, s = topP V k := ⟨_, rfl⟩
      obtain ⟨l, hl⟩ : ∃ l, l = leastP V k := ⟨_, rfl⟩
      rw [← hs] at hst ⊢
      rw [← hl] at hls ⊢
      clear hs hl
      obtain ⟨t, ht⟩ : ∃ t, t = topP V (k + 1) := ⟨_, rfl⟩
      obtain ⟨u, hu⟩ : ∃ u, u = leastP V (k + 1) := ⟨_, rfl⟩
      rw [← ht] at hst
      rw [← hu] at hls
      have HT := Lib.hid ht; clear ht
      have HU := Lib.hid hu; clear hu
      have hmx : (if s < V k then (V k : Int) else (s : Int)) = (t : Int) := by rw [hst]; split <;> omega
      clear hst
      have k0 : (0 : Int) ≤ (k : Int) := by omega
      have kn : (k : Int) < (ln : Int) := by omega
      by_cases hk0 : k = 0
      · rw [if_pos hk0] at hls
        rw [hls] at HU
        have hkb : ((k : Int) == 0) = true := by simp [hk0]
        clear hls hk0
        go_wp2_with fail
        go_roundw
        case rel => exact ⟨k + 1, by omega, by rw [← HU.out], by rw [← HT.out], by go_num, trivial⟩
        case measure => simp [intOf]; omega
      · rw [if_neg hk0] at hls
        have hmn : (if V k < l then (V k : Int) else (l : Int)) = (u : Int) := by rw [hls]; split <;> omega
        have hkb : ((k : Int) == 0) = false := by simp; omega
        clear hls hk0
        go_wp2_with fail
        go_roundw
        case rel => exact ⟨k + 1, by omega, by rw [← HU.out], by rw [← HT.out], by go_num, trivial⟩
        case measure => simp [intOf]; omega
    · have kn : ¬ (k : Int) < (ln : Int) := by omega
      have hkl : k = ln := by omega
      subst hkl
      have hll := leastP_lt V HV.out k
      have htl := topP_lt V HV.out k
      obtain ⟨l, hl⟩ : ∃ l, l = leastP V k := ⟨_, rfl⟩
      obtain ⟨t, ht⟩ : ∃ t, t = topP V k := ⟨_, rfl⟩
      rw [← hl, ← ht]
      have HX := Lib.hid (And.intro hl ht)
      clear hl ht hll htl
      go_wp2_with fail
      refine (counts_any _ _ h A2 n cap2 Bd c _ _ _ _ _ HH.out hn).mono ?_
      rintro e w5 ⟨A5, c5, rfl, hm5, hc5, hg⟩
      replace HG := Lib.hid (HG.out.trans hg)
      replace HH := Lib.hid (HSt.grow HH.out hg); clear hg
      have M5 := Lib.hid hm5; clear hm5
      go_wp2_with fail
      refine (countsRef_any w5 A LA n cap k lcap Bd V hn hcap hln' hlc (HM.out.grow HG.out) (HL.out.grow HG.out)).mono ?_
      rintro e w6 ⟨A6, c6, rfl, hm6, hc6, hg⟩
      replace HG := Lib.hid (HG.out.trans hg)
      replace HH := Lib.hid (HSt.grow HH.out hg)
      replace M5 := Lib.hid (M5.out.grow hg); clear hg
      have M6 := Lib.hid hm6; clear hm6
      go_wp2_with fail
      refine (same_any w6 A5 A6 (n + 1) c5 c6 _ (by omega) hc5 hc6 M5.out.at M6.out.at).mono ?_
      rintro e w7 ⟨rfl, hg⟩
      replace HG := Lib.hid (HG.out.trans hg)
      replace HH := Lib.hid (HSt.grow HH.out hg)
      clear hg M5 M6 hc5 hc6
      have kb : (k : Int) < 18446744073709551616 := by omega
      have kb0 : (0 : Int) ≤ (k : Int) := by omega
      go_wp2_with fail
      refine (all_any w7 _ h A2 n cap2 Bd c _ _ _ _ _ HH.out).mono ?_
      rintro e w8 ⟨rfl, rfl⟩
      go_wp2_with fail
      refine (sum_any w8 _ h A2 n cap2 Bd c _ _ _ _ _ HH.out).mono ?_
      rintro e w9 ⟨rfl, rfl⟩
      go_wp2_with fail
      refine (sumRef_any w9 LA k lcap V hln' hlc HV.out (HL.out.grow HG.out)).mono ?_
      rintro e w10 ⟨rfl, rfl⟩
      generalize sumP V k = sm
      go_wp2_with fail
      refine (where_any w10 _ h A2 n cap2 Bd c _ _ _ _ _ v HH.out hn' HYES.out.1.sorted).mono ?_
      rintro e w11 ⟨rfl, rfl⟩
      go_wp2_with fail
      refine (whereRef_any w11 A n cap v Bd hn' hcap (HM.out.grow HG.out)).mono ?_
      rintro e w12 ⟨rfl, rfl⟩
      generalize whereP Bd v n = wp
      go_wp2
      go_ret
      exact ⟨ret_bool (by simp), HG.out⟩
end Go.Proofs.Ytpemmjaengbogaa
