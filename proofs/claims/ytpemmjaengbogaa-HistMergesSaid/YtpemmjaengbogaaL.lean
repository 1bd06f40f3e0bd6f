/- The walk of HistWide. -/
import Derived.Test.YtpemmjaengbogaaK
namespace Go.Proofs.Ytpemmjaengbogaa
open Go.RowKit
set_option linter.unusedVariables false
attribute [local irreducible] whereP sumP satP cntArr leastN topN cntP leastP topP cumP cntLe
theorem cntLe_zero (V : Nat → Nat) (b : Nat) : cntLe V b 0 = 0 := by unfold cntLe; rfl
theorem cntLe_all (V : Nat → Nat) (b : Nat) : ∀ k, k ≤ cntLe V b k ↔ topP V k ≤ b
  | 0 => by
    have e : topP V 0 = 0 := by unfold topP; rfl
    rw [e, cntLe_zero]; omega
  | k + 1 => by
    have ih := cntLe_all V b k
    have hle := cntLe_le V b k
    rw [cntLe_step, topP_max]
    split
    · omega
    · omega
theorem leastP_min (V : Nat → Nat) (k : Nat) (hk : k ≠ 0) : leastP V (k + 1) = min (leastP V k) (V k) := by
  rw [leastP_step]; unfold leastN; rw [if_neg hk]
theorem cntLe_some (V : Nat → Nat) (b : Nat) : ∀ k, k ≠ 0 → (1 ≤ cntLe V b k ↔ leastP V k ≤ b)
  | 0, h => absurd rfl h
  | k + 1, _ => by
    by_cases hk : k = 0
    · subst hk
      rw [cntLe_step, cntLe_zero, leastP_step]
      unfold leastN
      rw [if_pos rfl]
      split <;> omega
    · have ih := cntLe_some V b k hk
      rw [cntLe_step, leastP_min V k hk]
      split <;> omega
/-- The part that is told, of the bounds from j on. -/
def PartF (ok : Nat → Prop) (Bd : Nat → Nat) (n tp j r : Nat) : Prop := (∃ t, j ≤ t ∧ t < n ∧ ok t ∧ (∀ s, j ≤ s → s < t → ¬ ok s) ∧ r = Bd t) ∨ ((∀ s, j ≤ s → s < n → ¬ ok s) ∧ r = tp)
theorem PartF.done {ok : Nat → Prop} {Bd : Nat → Nat} {n tp r : Nat} (h : PartF ok Bd n tp 0 r) : PartR ok Bd n tp r := by
  rcases h with ⟨t, _, h1, h2, h3, h4⟩ | ⟨h1, h2⟩
  · exact .inl ⟨t, h1, h2, fun j hj => h3 j (by omega) hj, h4⟩
  · exact .inr ⟨fun j hj => h1 j (by omega) hj, h2⟩
theorem PartF.yes {ok : Nat → Prop} {Bd : Nat → Nat} {n tp t : Nat} (hn : t < n) (h : ok t) : PartF ok Bd n tp t (Bd t) := .inl ⟨t, Nat.le_refl _, hn, h, fun s h1 h2 => by omega, rfl⟩
theorem PartF.no {ok : Nat → Prop} {Bd : Nat → Nat} {n tp t r : Nat} (h : PartF ok Bd n tp (t + 1) r) (hno : ¬ ok t) : PartF ok Bd n tp t r := by
  rcases h with ⟨u, h0, h1, h2, h3, h4⟩ | ⟨h1, h2⟩
  · exact .inl ⟨u, by omega, h1, h2, fun s hs hu => by
      by_cases e : s = t
      · rw [e]; exact hno
      · exact h3 s (by omega) hu, h4⟩
  · exact .inr ⟨fun s hs hu => by
      by_cases e : s = t
      · rw [e]; exact hno
      · exact h1 s (by omega) hu, h2⟩
theorem PartF.start {ok : Nat → Prop} {Bd : Nat → Nat} {n tp : Nat} : PartF ok Bd n tp n tp := .inr ⟨fun s h1 h2 => by omega, rfl⟩
set_option maxRecDepth 100000 in
theorem histWide_far (A LA : Option Addr) (n cap ln lcap : Nat) (Bd V : Nat → Nat) (all : Nat) (w : World) (h : 32 < (n : Int) ∨ 500 < (ln : Int) ∨ ln = 0 ∨ all = 0) :
    Calls Try.prog 5 #[.slice A n cap, .slice LA ln lcap, .int .u64 all] w fun e w' => e = .returned (.bool true) ∧ Below w.heap.size w w' := by
  have HH := Lib.hid h; clear h
  go_enter Try.func5, Try.ntmps5
  go_wp2_with fail
  refine (awake_any _).mono ?_
  rintro e w1 ⟨rfl, hg⟩
  have HG := Lib.hid hg; clear hg
  by_cases h1 : 32 < (n : Int)
  · go_wp2_with fail
    refine (awake_any _).mono ?_
    rintro e w2 ⟨rfl, hg⟩
    have HG2 := Lib.hid (HG.out.trans hg); clear hg
    go_wp2
    go_ret
    exact ⟨rfl, HG2.out⟩
  by_cases h2 : 500 < (ln : Int)
  · go_wp2_with fail
    refine (awake_any _).mono ?_
    rintro e w2 ⟨rfl, hg⟩
    have HG2 := Lib.hid (HG.out.trans hg); clear hg
    go_wp2
    go_ret
    exact ⟨rfl, HG2.out⟩
  by_cases h3 : ln = 0
  · subst h3
    go_wp2_with fail
    refine (awake_any _).mono ?_
    rintro e w2 ⟨rfl, hg⟩
    have HG2 := Lib.hid (HG.out.trans hg); clear hg
    go_wp2
    go_ret
    exact ⟨rfl, HG2.out⟩
  · have h4 : all = 0 := by
      rcases HH.out with h | h | h | h
      · exact absurd h h1
      · exact absurd h h2
      · exact absurd h h3
      · exact h
    subst h4
    have hb : ((ln : Int) == 0) = false := by simp; omega
    clear h3
    go_wp2_with fail
    refine (awake_any _).mono ?_
    rintro e w2 ⟨rfl, hg⟩
    have HG2 := Lib.hid (HG.out.trans hg); clear hg
    go_wp2
    go_ret
    exact ⟨rfl, HG2.out⟩
set_option maxHeartbeats 1000000 in
set_option maxRecDepth 100000 in
theorem histWide_walk (A LA : Option Addr) (n cap ln lcap : Nat) (Bd V : Nat → Nat) (all : Nat) (w : World) (hn : (n : Int) ≤ 32) (hln : (ln : Int) ≤ 500) (hl0 : ln ≠ 0) (ha0 : all ≠ 0) (hall : all < 18446744073709551616) (hcap : (n : Int) ≤ cap) (hlc : (ln : Int) ≤ lcap) (hV : ∀ i, V i < 18446744073709551616) (hM : MemAt w A n Bd) (hL : MemAt w LA ln V) :
    Calls Try.prog 5 #[.slice A n cap, .slice LA ln lcap, .int .u64 all] w fun e w' => e = .returned (.bool true) ∧ Below w.heap.size w w' := by
  have HM := Lib.hid hM; clear hM
  have HL := Lib.hid hL; clear hL
  have HV := Lib.hid hV; clear hV
  have hn' : (n : Int) ≤ 1000 := by omega
  have hln' : (ln : Int) ≤ 1000 := by omega
  have hb1 : ((ln : Int) == 0) = false := by simp; omega
  have hb2 : ((all : Int) == 0) = false := by simp; omega
  have HL0 := Lib.hid hl0; clear hl0
  have HA0 := Lib.hid ha0; clear ha0
  go_enter Try.func5, Try.ntmps5
  go_wp2_with fail
  refine (awake_any _).mono ?_
  rintro e w1 ⟨rfl, hg⟩
  have HG := Lib.hid hg; clear hg
  go_wp2_with fail
  refine (of_any w1 A LA n cap ln lcap Bd V hn' hcap hln' hlc (HM.out.grow HG.out) (HL.out.grow HG.out) HV.out).mono ?_
  rintro e w2 ⟨hg, ⟨hno, rfl⟩ | ⟨hyes, h, A2, cap2, c, rfl, hst⟩⟩
  · replace HG := Lib.hid (HG.out.trans hg); clear hg hno
    go_wp2
    go_ret
    exact ⟨rfl, HG.out⟩
  replace HG := Lib.hid (HG.out.trans hg); clear hg
  have HYES := Lib.hid hyes; clear hyes
  have HH := Lib.hid hst; clear hst
  go_wp2_with fail
  refine (ends_hs w2 _ h A2 n cap2 Bd c V ln HH.out).mono ?_
  rintro e w3 ⟨rfl, hg⟩
  replace HG := Lib.hid (HG.out.trans hg)
  replace HH := Lib.hid (HSt.grow HH.out hg); clear hg
  obtain ⟨lo, hlo⟩ : ∃ lo, lo = leastP V ln := ⟨_, rfl⟩
  obtain ⟨hi, hhi⟩ : ∃ hi, hi = topP V ln := ⟨_, rfl⟩
  rw [← hlo, ← hhi]
  have HLO := Lib.hid hlo; clear hlo
  have HHI := Lib.hid hhi; clear hhi
  go_wp2_with fail
  refine (part_any w3 _ h A2 n cap2 Bd c _ _ _ _ _ all all HH.out HL0.out HA0.out (Nat.le_refl _) hall (by omega) hn' (fun k _ => cnt_lt Bd n V ln (by omega) k)).mono ?_
  rintro e w4 ⟨r1, rfl, hr1, rfl⟩
  have HR1 := Lib.hid hr1; clear hr1
  go_wp2_with fail
  refine (part_any w4 _ h A2 n cap2 Bd c _ _ _ _ _ 1 18446744073709551615 HH.out HL0.out (by omega) (by omega) (by omega) (by omega) hn' (fun k _ => cnt_lt Bd n V ln (by omega) k)).mono ?_
  rintro e w5 ⟨r2, rfl, hr2, rfl⟩
  have HR2 := Lib.hid hr2; clear hr2
  go_wp2_with fail
  go_loopw [15, 16, 17] (fun a b i wr => ∃ (j x y : Nat), j ≤ n ∧ a = .int .u64 (x : Int) ∧ b = .int .u64 (y : Int) ∧ i = .int .i64 ((j : Int) - 1) ∧ wr = w5 ∧ PartF (fun t => hi ≤ Bd t) Bd n hi j x ∧ PartF (fun t => lo ≤ Bd t) Bd n hi j y) (fun _ _ i _ => (intOf i + 1).toNat)
  case atStart => exact ⟨n, hi, hi, Nat.le_refl _, rfl, rfl, by go_num, rfl, PartF.start, PartF.start⟩
  case round =>
    obtain ⟨j, x, y, hj, rfl, rfl, rfl, rfl, hx, hy⟩ := hrel
    have HXF := Lib.hid hx; clear hx
    have HYF := Lib.hid hy; clear hy
    by_cases hj0 : 0 < j
    · obtain ⟨t, ht⟩ : ∃ t, j = t + 1 := ⟨j - 1, by omega⟩
      subst ht
      have e1 : ((t + 1 : Nat) : Int) - 1 = (t : Int) := by omega
      rw [e1]
      clear e1 hj0
      obtain ⟨a, hA, hc⟩ := (HM.out.grow HG.out) (by omega)
      have m := hc t (by omega)
      rw [hA]
      clear hc hA
      have t0 : (0 : Int) ≤ (t : Int) := by omega
      have tn : (t : Int) < (n : Int) := by omega
      by_cases h1 : hi ≤ Bd t
      · have HX2 := Lib.hid (PartF.yes (ok := fun t => hi ≤ Bd t) (Bd := Bd) (tp := hi) (n := n) (t := t) (by omega) h1)
        by_cases h2 : lo ≤ Bd t
        · have HY2 := Lib.hid (PartF.yes (ok := fun t => lo ≤ Bd t) (Bd := Bd) (tp := hi) (n := n) (t := t) (by omega) h2)
          go_wp2_with fail
          go_roundw
          case rel => exact ⟨t, Bd t, Bd t, by omega, rfl, rfl, by go_num, trivial, HX2.out, HY2.out⟩
          case measure => simp [intOf]
        · have HY2 := Lib.hid (PartF.no HYF.out h2)
          have h3 : Bd t < lo := by omega
          go_wp2_with fail
          go_roundw
          case rel => exact ⟨t, Bd t, y, by omega, rfl, rfl, by go_num, trivial, HX2.out, HY2.out⟩
          case measure => simp [intOf]
      · have HX2 := Lib.hid (PartF.no HXF.out h1)
        have h4 : Bd t < hi := by omega
        by_cases h2 : lo ≤ Bd t
        · have HY2 := Lib.hid (PartF.yes (ok := fun t => lo ≤ Bd t) (Bd := Bd) (tp := hi) (n := n) (t := t) (by omega) h2)
          go_wp2_with fail
          go_roundw
          case rel => exact ⟨t, x, Bd t, by omega, rfl, rfl, by go_num, trivial, HX2.out, HY2.out⟩
          case measure => simp [intOf]
        · have HY2 := Lib.hid (PartF.no HYF.out h2)
          have h3 : Bd t < lo := by omega
          go_wp2_with fail
          go_roundw
          case rel => exact ⟨t, x, y, by omega, rfl, rfl, by go_num, trivial, HX2.out, HY2.out⟩
          case measure => simp [intOf]
    · have hj1 : j = 0 := by omega
      subst hj1
      have hxr := HXF.out.done
      have hyr := HYF.out.done
      rw [HHI.out] at hxr hyr
      rw [HLO.out] at hyr
      obtain rfl := HR1.out.unique hxr (fun i hi => by
        rw [cum_cnt HYES.out.1.sorted V i hi ln, ← cntLe_all V (Bd i) ln]
        have ha := HA0.out
        constructor
        · intro h; exact Nat.le_of_mul_le_mul_right h (by omega)
        · intro h; exact Nat.mul_le_mul_right _ h)
      obtain rfl := HR2.out.unique hyr (fun i hi => by
        rw [cum_cnt HYES.out.1.sorted V i hi ln, ← cntLe_some V (Bd i) ln HL0.out]
        have ha := HL0.out
        omega)
      clear hxr hyr HR1 HR2 HXF HYF HLO HHI hj hj0
      go_wp2
      go_ret
      exact ⟨ret_bool (by simp), HG.out⟩
end Go.Proofs.Ytpemmjaengbogaa
