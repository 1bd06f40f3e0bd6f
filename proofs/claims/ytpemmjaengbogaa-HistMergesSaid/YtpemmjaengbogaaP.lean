/- Counted by parts; the walk of HistMerges. -/
import Derived.Test.YtpemmjaengbogaaO
import Derived.Test.YtpemmjaengbogaaN
namespace Go.Proofs.Ytpemmjaengbogaa
open Go.RowKit
set_option linter.unusedVariables false
attribute [local irreducible] whereP sumP satP cntArr leastN topN cntP leastP topP cumP cntLe mixK minN maxN
attribute [local simp] RelKnown Is
set_option maxHeartbeats 2000000 in
set_option maxRecDepth 100000 in
theorem merge_other (w : World) (nb nb2 : Nat) (Bd Bd2 : Nat → Nat) (B1 h1 : Nat) (A1 : Option Addr) (bc1 : Nat) (c1 : Nat) (K1 : Nat → Nat) (al1 sm1 lt1 tp1 : Nat) (B2 h2 : Nat) (A2 : Option Addr) (bc2 : Nat) (c2 : Nat) (K2 : Nat → Nat) (al2 sm2 lt2 tp2 : Nat) (hne : (nb : Int) ≠ nb2) (G1 : HSt w B1 h1 A1 nb bc1 Bd c1 K1 al1 sm1 lt1 tp1) (G2 : HSt w B2 h2 A2 nb2 bc2 Bd2 c2 K2 al2 sm2 lt2 tp2) :
    Calls Try.prog 24 #[.pointer (some ⟨h1, 0, none⟩), .pointer (some ⟨h2, 0, none⟩)] w fun e w' => e = .returned (.int .i64 1) ∧ Grow w w' := by
  have HQ1 := Lib.hid G1; clear G1
  have HQ2 := Lib.hid G2; clear G2
  go_enter Try.func24, Try.ntmps24
  go_wp2_with fail
  refine wp_region_rel _ Grow (fun wQ => HSt wQ B1 h1 A1 nb bc1 Bd c1 K1 al1 sm1 lt1 tp1 ∧ HSt wQ B2 h2 A2 nb2 bc2 Bd2 c2 K2 al2 sm2 lt2 tp2 ∧ Grow w wQ) [([(0, none)], none), ([(15, some 0)], none), ([(16, some 0)], none), ([(17, some 0)], none), ([(1, none)], none), ([(19, some 0)], none), ([(20, some 0)], none), ([(21, some 0)], none), ([(18, some 4), (22, some 0)], none), ([(23, some 0)], none), ([(24, some 0)], none)] (by kernel_rfl) (by kernel_rfl) ⟨HQ1.out.drew, HQ2.out.drew, Grow.drewN w 1⟩ ?_
  refine rel_pure ⟨.pointer (some ⟨h1, 0, none⟩), fun a wQ hF hk => ?_, ?_⟩
  · refine rel_none fun K hK => ?_
    (try simp at hk)
    go_simp
    exact hK _ _ (Grow.refl _) hF rfl
  refine rel_pure ⟨.pointer (some ⟨h1, 0, none⟩), fun a wQ hF hk => ?_, ?_⟩
  · refine rel_none fun K hK => ?_
    (try simp at hk)
    go_simp
    exact hK _ _ (Grow.refl _) hF rfl
  refine rel_pure ⟨.pointer (some ⟨h1, 0, none⟩), fun a wQ hF hk => ?_, ?_⟩
  · refine rel_none fun K hK => ?_
    (try simp at hk)
    go_simp
    exact hK _ _ (Grow.refl _) hF rfl
  refine rel_pure ⟨.slice A1 nb bc1, fun a wQ hF hk => ?_, ?_⟩
  · refine rel_none fun K hK => ?_
    (try simp at hk)
    have c0Q := hF.1.c0
    go_simp
    exact hK _ _ (Grow.refl _) hF rfl
  refine rel_pure ⟨.pointer (some ⟨h2, 0, none⟩), fun a wQ hF hk => ?_, ?_⟩
  · refine rel_none fun K hK => ?_
    (try simp at hk)
    go_simp
    exact hK _ _ (Grow.refl _) hF rfl
  refine rel_pure ⟨.pointer (some ⟨h2, 0, none⟩), fun a wQ hF hk => ?_, ?_⟩
  · refine rel_none fun K hK => ?_
    (try simp at hk)
    go_simp
    exact hK _ _ (Grow.refl _) hF rfl
  refine rel_pure ⟨.pointer (some ⟨h2, 0, none⟩), fun a wQ hF hk => ?_, ?_⟩
  · refine rel_none fun K hK => ?_
    (try simp at hk)
    go_simp
    exact hK _ _ (Grow.refl _) hF rfl
  refine rel_pure ⟨.slice A2 nb2 bc2, fun a wQ hF hk => ?_, ?_⟩
  · refine rel_none fun K hK => ?_
    (try simp at hk)
    have c0Q := hF.2.1.c0
    go_simp
    exact hK _ _ (Grow.refl _) hF rfl
  refine rel_pure ⟨.bool false, fun a wQ hF hk => ?_, ?_⟩
  · refine rel_none fun K hK => ?_
    (try simp at hk)
    go_simp
    refine (equal_len wQ A1 A2 nb nb2 bc1 bc2 hne).mono ?_
    rintro e w' ⟨rfl, rfl⟩
    exact hK _ _ (Grow.refl _) hF rfl
  refine rel_pure ⟨.bool true, fun a wQ hF hk => ?_, ?_⟩
  · refine rel_none fun K hK => ?_
    (try simp at hk)
    go_simp
    exact hK _ _ (Grow.refl _) hF rfl
  refine rel_pure ⟨.bool true, fun a wQ hF hk => ?_, ?_⟩
  · refine rel_none fun K hK => ?_
    (try simp at hk)
    go_simp
    exact hK _ _ (Grow.refl _) hF rfl
  refine rel_done fun wR hF => ?_
  repeat (refine fun v hv => ?_; obtain rfl : v = _ := hv)
  simp only [Act.put, List.setIfInBounds_toArray, List.set_cons_zero, List.set_cons_succ]
  refine rel_nil ?_
  have HF := Lib.hid hF; clear hF
  go_wp2
  go_ret
  exact ⟨rfl, HF.out.2.2⟩
/-! ### Counted by parts -/
def catV (V W : Nat → Nat) (k : Nat) : Nat → Nat := fun i => if i < k then V i else W (i - k)
theorem toL_cat (V W : Nat → Nat) (k m : Nat) : toL (catV V W k) (k + m) = toL V k ++ toL W m := by
  apply List.ext_getElem?
  intro i
  by_cases hi : i < k + m
  · rw [toL_get _ _ _ hi]
    unfold catV
    by_cases h : i < k
    · rw [if_pos h, List.getElem?_append_left (by rw [toL_len]; exact h), toL_get _ _ _ h]
    · rw [if_neg h, List.getElem?_append_right (by rw [toL_len]; omega), toL_len, toL_get _ _ _ (by omega)]
  · rw [List.getElem?_eq_none (by rw [toL_len]; omega), List.getElem?_eq_none (by rw [List.length_append, toL_len, toL_len]; omega)]
theorem catV_lt {V W : Nat → Nat} (h : ∀ i, V i < 18446744073709551616) (g : ∀ i, W i < 18446744073709551616) (k i : Nat) : catV V W k i < 18446744073709551616 := by unfold catV; split; exact h _; exact g _
theorem nums_cat (V W : Nat → Nat) (k m : Nat) : nums k V ++ nums m W = nums (k + m) (catV V W k) := by
  rw [nums_list, nums_list, nums_list, toL_cat, List.map_append]
theorem cnt_cat (Bd : Nat → Nat) (nb : Nat) (V W : Nat → Nat) (k m j : Nat) : cntP Bd nb (catV V W k) (k + m) j = cntP Bd nb V k j + cntP Bd nb W m j := by
  rw [cntP_count, cntP_count, cntP_count, toL_cat, List.map_append, List.count_append]
theorem sum_cat (V W : Nat → Nat) (k m : Nat) : sumP (catV V W k) (k + m) = satP (sumP V k) (sumP W m) := by
  rw [sumP_list, sumP_list, sumP_list, toL_cat, List.sum_append]
  unfold satP
  split <;> omega
theorem top_cat (V W : Nat → Nat) (k m : Nat) : topP (catV V W k) (k + m) = maxN k (topP V k) (topP W m) := by
  have key : topP (catV V W k) (k + m) = max (topP V k) (topP W m) := by
    refine Nat.le_antisymm ?_ ?_
    · rw [topP_le, toL_cat]
      intro x hx
      rcases List.mem_append.1 hx with h | h
      · have := (topP_le V _ k).1 (Nat.le_refl _) x h; omega
      · have := (topP_le W _ m).1 (Nat.le_refl _) x h; omega
    · refine Nat.max_le.2 ⟨?_, ?_⟩
      · rw [topP_le]; intro x hx
        exact (topP_le (catV V W k) _ (k + m)).1 (Nat.le_refl _) x (by rw [toL_cat]; exact List.mem_append_left _ hx)
      · rw [topP_le]; intro x hx
        exact (topP_le (catV V W k) _ (k + m)).1 (Nat.le_refl _) x (by rw [toL_cat]; exact List.mem_append_right _ hx)
  rw [key]
  unfold maxN
  split
  · rename_i h; subst h
    have : topP V 0 = 0 := by unfold topP; rfl
    rw [this]; omega
  · rfl
theorem least_cat (V W : Nat → Nat) (k m : Nat) (hm : m ≠ 0) : leastP (catV V W k) (k + m) = minN k (leastP V k) (leastP W m) := by
  unfold minN
  by_cases hk : k = 0
  · rw [if_pos hk]
    subst hk
    refine Nat.le_antisymm ?_ ?_
    · rw [le_leastP W _ m hm]; intro x hx
      exact (le_leastP (catV V W 0) _ (0 + m) (by omega)).1 (Nat.le_refl _) x (by rw [toL_cat]; exact List.mem_append_right _ hx)
    · rw [le_leastP _ _ (0 + m) (by omega), toL_cat]; intro x hx
      rcases List.mem_append.1 hx with h | h
      · simp [toL_zero] at h
      · exact (le_leastP W _ m hm).1 (Nat.le_refl _) x h
  · rw [if_neg hk]
    refine Nat.le_antisymm ?_ ?_
    · refine Nat.le_min.2 ⟨?_, ?_⟩
      · rw [le_leastP V _ k hk]; intro x hx
        exact (le_leastP (catV V W k) _ (k + m) (by omega)).1 (Nat.le_refl _) x (by rw [toL_cat]; exact List.mem_append_left _ hx)
      · rw [le_leastP W _ m hm]; intro x hx
        exact (le_leastP (catV V W k) _ (k + m) (by omega)).1 (Nat.le_refl _) x (by rw [toL_cat]; exact List.mem_append_right _ hx)
    · rw [le_leastP _ _ (k + m) (by omega), toL_cat]; intro x hx
      rcases List.mem_append.1 hx with h | h
      · have := (le_leastP V _ k hk).1 (Nat.le_refl _) x h; omega
      · have := (le_leastP W _ m hm).1 (Nat.le_refl _) x h; omega
attribute [local irreducible] catV
/-- Merged, as counted at once. -/
theorem merge_hs (w : World) (nb : Nat) (Bd : Nat → Nat) (B1 h1 : Nat) (A1 : Option Addr) (bc1 c1 : Nat) (V1 : Nat → Nat) (k1 : Nat) (B2 h2 : Nat) (A2 : Option Addr) (bc2 c2 : Nat) (V2 : Nat → Nat) (k2 : Nat) (hnb : (nb : Int) ≤ 100) (G1 : Hs w B1 h1 A1 nb bc1 Bd c1 V1 k1) (G2 : Hs w B2 h2 A2 nb bc2 Bd c2 V2 k2) (hlt1 : h1 < B2) (hlc1 : c1 < B2) (hk1 : k1 < 1000) (hk2 : k2 < 1000) :
    Calls Try.prog 24 #[.pointer (some ⟨h1, 0, none⟩), .pointer (some ⟨h2, 0, none⟩)] w fun e w' => e = .returned (.int .i64 0) ∧ Hs w' B1 h1 A1 nb bc1 Bd c1 (catV V1 V2 k1) (k1 + k2) ∧ Keep h1 c1 w w' := by
  by_cases h0 : k2 = 0
  · subst h0
    refine (merge_empty w nb Bd _ _ _ _ _ _ _ _ _ _ _ _ _ _ _ _ _ _ _ _ rfl hnb G1 G2).mono ?_
    rintro e w' ⟨he, hg⟩
    refine ⟨he, ?_, (Keep.refl _ _ _).grow hg⟩
    have e0 : toL (catV V1 V2 k1) (k1 + 0) = toL V1 k1 := by rw [toL_cat, toL_zero, List.append_nil]
    obtain ⟨p1, p2, p3, p4⟩ := perm_same Bd nb V1 (catV V1 V2 k1) k1 (by rw [Nat.add_zero] at e0; rw [e0])
    unfold Hs
    rw [Nat.add_zero, p2, p3, p4]
    exact (HSt.grow G1 hg).congrK (fun j _ => p1 j)
  · refine (merge_any w nb Bd _ _ _ _ _ _ _ _ _ _ _ _ _ _ _ _ _ _ _ _ h0 hnb G1 G2 hlt1 hlc1 (fun i => by have := cntP_le Bd nb V1 k1 i; omega) (fun i => by have := cntP_le Bd nb V2 k2 i; omega) (by omega) (by omega) (sumP_lt V1 k1) (sumP_lt V2 k2)).mono ?_
    rintro e w' ⟨he, h1', h2'⟩
    refine ⟨he, ?_, h2'⟩
    unfold Hs
    rw [sum_cat, top_cat, least_cat V1 V2 k1 k2 h0]
    exact h1'.congrK (fun j _ => cnt_cat Bd nb V1 V2 k1 k2 j)
set_option maxRecDepth 100000 in
theorem histMerges_far (A LA LB : Option Addr) (n cap k1 lc1 k2 lc2 : Nat) (Bd V1 V2 : Nat → Nat) (w : World) (h : 31 < (n : Int) ∨ 300 < (k1 : Int) ∨ 300 < (k2 : Int)) :
    Calls Try.prog 7 #[.slice A n cap, .slice LA k1 lc1, .slice LB k2 lc2] w fun e w' => e = .returned (.bool true) ∧ Below w.heap.size w w' := by
  have HH := Lib.hid h; clear h
  go_enter Try.func7, Try.ntmps7
  go_wp2_with fail
  refine (awake_any _).mono ?_
  rintro e w1 ⟨rfl, hg⟩
  have HG := Lib.hid hg; clear hg
  by_cases h1 : 31 < (n : Int)
  · go_wp2_with fail
    refine (awake_any _).mono ?_
    rintro e w2 ⟨rfl, hg⟩
    have HG2 := Lib.hid (HG.out.trans hg); clear hg
    go_wp2
    go_ret
    exact ⟨rfl, HG2.out⟩
  by_cases h2 : 300 < (k1 : Int)
  · go_wp2_with fail
    refine (awake_any _).mono ?_
    rintro e w2 ⟨rfl, hg⟩
    have HG2 := Lib.hid (HG.out.trans hg); clear hg
    go_wp2
    go_ret
    exact ⟨rfl, HG2.out⟩
  · have h3 : 300 < (k2 : Int) := by
      rcases HH.out with h | h | h
      · exact absurd h h1
      · exact absurd h h2
      · exact h
    go_wp2_with fail
    refine (awake_any _).mono ?_
    rintro e w2 ⟨rfl, hg⟩
    have HG2 := Lib.hid (HG.out.trans hg); clear hg
    go_wp2
    go_ret
    exact ⟨rfl, HG2.out⟩
set_option maxHeartbeats 2000000 in
set_option maxRecDepth 100000 in
theorem histMerges_walk (A LA LB : Option Addr) (n cap k1 lc1 k2 lc2 : Nat) (Bd V1 V2 : Nat → Nat) (w : World) (hn : (n : Int) ≤ 31) (hk1 : (k1 : Int) ≤ 300) (hk2 : (k2 : Int) ≤ 300) (hcap : (n : Int) ≤ cap) (hl1 : (k1 : Int) ≤ lc1) (hl2 : (k2 : Int) ≤ lc2) (hV1 : ∀ i, V1 i < 18446744073709551616) (hV2 : ∀ i, V2 i < 18446744073709551616) (hM : MemAt w A n Bd) (hL1 : MemAt w LA k1 V1) (hL2 : MemAt w LB k2 V2) :
    Calls Try.prog 7 #[.slice A n cap, .slice LA k1 lc1, .slice LB k2 lc2] w fun e w' => e = .returned (.bool true) ∧ Below w.heap.size w w' := by
  have HM := Lib.hid hM; clear hM
  have HL1 := Lib.hid hL1; clear hL1
  have HL2 := Lib.hid hL2; clear hL2
  have HV1 := Lib.hid hV1; clear hV1
  have HV2 := Lib.hid hV2; clear hV2
  have hn' : (n : Int) ≤ 1000 := by omega
  obtain ⟨i0, hi, hz0, hz1, hz2⟩ := info_parts info28
  have HI := Lib.hid hi; clear hi
  have HZ0 := Lib.hid hz0; clear hz0
  have HZ1 := Lib.hid hz1; clear hz1
  have HZ2 := Lib.hid hz2; clear hz2
  go_enter Try.func7, Try.ntmps7
  go_wp2_with fail
  refine (awake_any _).mono ?_
  rintro e w1 ⟨rfl, hg⟩
  have HG := Lib.hid hg; clear hg
  go_wp2_with fail
  refine (of_any w1 A LA n cap k1 lc1 Bd V1 hn' hcap (by omega) hl1 (HM.out.grow HG.out) (HL1.out.grow HG.out) HV1.out).mono ?_
  rintro e w2 ⟨hg, ⟨hno, rfl⟩ | ⟨hyes, ha, Aa, ca, cca, rfl, hsta⟩⟩
  · replace HG := Lib.hid (HG.out.trans hg); clear hg
    have HNO := Lib.hid hno; clear hno
    go_wp2_with fail
    refine (of_any w2 A LB n cap k2 lc2 Bd V2 hn' hcap (by omega) hl2 (HM.out.grow HG.out) (HL2.out.grow HG.out) HV2.out).mono ?_
    rintro e w3 ⟨hg, ⟨_, rfl⟩ | ⟨hyes, _⟩⟩
    case inr => exact absurd hyes HNO.out
    replace HG := Lib.hid (HG.out.trans hg); clear hg
    go_wp2_with (at_builtin; refine wpList_append_any _ rfl (.tmp 38) (.tmp 39) 22 rfl w3.heap.size 28 i0 (.int .u64 0) 1 8 Try.underlying22 HI.out HZ0.out HZ1.out HZ2.out rfl (by decide) _ 0 [] (by rfl) ?c1 (w3.alloc (.cells #[] 28)).heap.size LA k1 lc1 (nums k1 V1) (by rfl) ?c2 ?c3 ?c4 ?c5 ?c6 ?c7)
    case c1 => exact World.ownsRow_made (base := w3.heap.size) (e := 28) (size := 1) w3 #[] 0 (Nat.le_refl _) (by unfold maxLen; omega) rfl
    case c2 => exact ((HL1.out.grow HG.out).grow (Grow.alloc w3 _)).reads
    case c3 => intro u hu; obtain ⟨j, hj⟩ := List.mem_iff_getElem?.1 hu; rw [(nums_at k1 V1 j u hj).2]; rfl
    case c4 => unfold maxLen; omega
    case c5 => omega
    case c6 => simp
    case c7 =>
    intro v4 w4 hown hgrow hblk
    have hG4 : Grow w3 w4 := Below.trans (Grow.alloc w3 (.cells #[] 28)) (below_grown hgrow (by simp) (fun k hk => by simp [Value.ownBlock] at hk; omega))
    have HO4 := Lib.hid hown
    have HB4 := Lib.hid (show ∀ k, v4.ownBlock = some k → w3.heap.size ≤ k from fun k hk => by
      rcases hblk with h | h <;> rw [hk] at h <;> simp [Value.ownBlock] at h <;> omega)
    have HG4 := Lib.hid hG4
    clear hown hgrow hblk hG4
    go_wp2_with (at_builtin; refine wpList_append_any _ rfl (.tmp 40) (.tmp 41) 22 rfl w3.heap.size 28 i0 (.int .u64 0) 1 8 Try.underlying22 HI.out HZ0.out HZ1.out HZ2.out rfl (by decide) _ _ _ (by rfl) HO4.out w4.heap.size LB k2 lc2 (nums k2 V2) (by rfl) ?c2 ?c3 ?c4 ?c5 ?c6 ?c7)
    case c2 => exact (HL2.out.grow (HG.out.trans HG4.out)).reads
    case c3 => intro u hu; obtain ⟨j, hj⟩ := List.mem_iff_getElem?.1 hu; rw [(nums_at k2 V2 j u hj).2]; rfl
    case c4 => unfold maxLen; omega
    case c5 => omega
    case c6 => exact HG4.out.size
    case c7 =>
    intro v5 w5 hown hgrow hblk
    have hG5 : Grow w3 w5 := Below.trans HG4.out (below_grown hgrow HG4.out.size (fun k hk => HB4.out k hk))
    rw [nums_cat] at hown
    obtain ⟨A5, cap5, rfl, hcap5, hmem5⟩ := own_mem hown
    replace HG := Lib.hid (HG.out.trans hG5)
    have HM5 := Lib.hid hmem5
    have hcap5i : ((k1 + k2 : Nat) : Int) ≤ cap5 := by omega
    have HC5 := Lib.hid hcap5i
    clear hown hgrow hblk hG5 hmem5 hcap5
    go_wp2_with fail
    refine (of_any w5 A A5 n cap (k1 + k2) cap5 Bd (catV V1 V2 k1) hn' hcap (by omega) HC5.out (HM.out.grow HG.out) HM5.out.at (catV_lt HV1.out HV2.out k1)).mono ?_
    rintro e w6 ⟨hg, ⟨_, rfl⟩ | ⟨hyes, _⟩⟩
    case inr => exact absurd hyes HNO.out
    replace HG := Lib.hid (HG.out.trans hg); clear hg
    go_wp2
    go_ret
    exact ⟨rfl, HG.out⟩
  have HW1 := HG.out.size
  replace HG := Lib.hid (HG.out.trans hg); clear hg
  have HYES := Lib.hid hyes; clear hyes
  have HAA := Lib.hid hsta
  have HBA := Lib.hid (show w.heap.size ≤ ha ∧ w.heap.size ≤ cca from ⟨Nat.le_trans HW1 hsta.hB, Nat.le_trans HW1 hsta.cB⟩)
  have HLA := Lib.hid (show ha < w2.heap.size ∧ cca < w2.heap.size from ⟨heapAt_lt hsta.blk, heapAt_lt hsta.cnt⟩)
  clear hsta
  go_wp2_with fail
  refine (of_any w2 A LB n cap k2 lc2 Bd V2 hn' hcap (by omega) hl2 (HM.out.grow HG.out) (HL2.out.grow HG.out) HV2.out).mono ?_
  rintro e w3 ⟨hg, ⟨hno, _⟩ | ⟨_, hb, Ab, cb, ccb, rfl, hstb⟩⟩
  case inl => exact absurd HYES.out hno
  replace HG := Lib.hid (HG.out.trans hg)
  replace HAA := Lib.hid (HSt.grow HAA.out hg)
  have HS23 := Lib.hid hg.size
  have HBB := Lib.hid hstb; clear hg hstb
  go_wp2_with (at_builtin; refine wpList_append_any _ rfl (.tmp 38) (.tmp 39) 22 rfl w3.heap.size 28 i0 (.int .u64 0) 1 8 Try.underlying22 HI.out HZ0.out HZ1.out HZ2.out rfl (by decide) _ 0 [] (by rfl) ?c1 (w3.alloc (.cells #[] 28)).heap.size LA k1 lc1 (nums k1 V1) (by rfl) ?c2 ?c3 ?c4 ?c5 ?c6 ?c7)
  case c1 => exact World.ownsRow_made (base := w3.heap.size) (e := 28) (size := 1) w3 #[] 0 (Nat.le_refl _) (by unfold maxLen; omega) rfl
  case c2 => exact ((HL1.out.grow HG.out).grow (Grow.alloc w3 _)).reads
  case c3 => intro u hu; obtain ⟨j, hj⟩ := List.mem_iff_getElem?.1 hu; rw [(nums_at k1 V1 j u hj).2]; rfl
  case c4 => unfold maxLen; omega
  case c5 => omega
  case c6 => simp
  case c7 =>
  intro v4 w4 hown hgrow hblk
  have hG4 : Grow w3 w4 := Below.trans (Grow.alloc w3 (.cells #[] 28)) (below_grown hgrow (by simp) (fun k hk => by simp [Value.ownBlock] at hk; omega))
  have HO4 := Lib.hid hown
  have HB4 := Lib.hid (show ∀ k, v4.ownBlock = some k → w3.heap.size ≤ k from fun k hk => by
    rcases hblk with h | h <;> rw [hk] at h <;> simp [Value.ownBlock] at h <;> omega)
  have HG4 := Lib.hid hG4
  clear hown hgrow hblk hG4
  go_wp2_with (at_builtin; refine wpList_append_any _ rfl (.tmp 40) (.tmp 41) 22 rfl w3.heap.size 28 i0 (.int .u64 0) 1 8 Try.underlying22 HI.out HZ0.out HZ1.out HZ2.out rfl (by decide) _ _ _ (by rfl) HO4.out w4.heap.size LB k2 lc2 (nums k2 V2) (by rfl) ?c2 ?c3 ?c4 ?c5 ?c6 ?c7)
  case c2 => exact (HL2.out.grow (HG.out.trans HG4.out)).reads
  case c3 => intro u hu; obtain ⟨j, hj⟩ := List.mem_iff_getElem?.1 hu; rw [(nums_at k2 V2 j u hj).2]; rfl
  case c4 => unfold maxLen; omega
  case c5 => omega
  case c6 => exact HG4.out.size
  case c7 =>
  intro v5 w5 hown hgrow hblk
  have hG5 : Grow w3 w5 := Below.trans HG4.out (below_grown hgrow HG4.out.size (fun k hk => HB4.out k hk))
  rw [nums_cat] at hown
  obtain ⟨A5, cap5, rfl, hcap5, hmem5⟩ := own_mem hown
  replace HG := Lib.hid (HG.out.trans hG5)
  have HM5 := Lib.hid hmem5
  have hcap5i : ((k1 + k2 : Nat) : Int) ≤ cap5 := by omega
  have HC5 := Lib.hid hcap5i
  replace HAA := Lib.hid (HSt.grow HAA.out hG5)
  replace HBB := Lib.hid (HSt.grow HBB.out hG5)
  have HS35 := Lib.hid hG5.size
  clear hown hgrow hblk hG5 hmem5 hcap5 HO4 HB4 HG4
  go_wp2_with fail
  refine (of_any w5 A A5 n cap (k1 + k2) cap5 Bd (catV V1 V2 k1) hn' hcap (by omega) HC5.out (HM.out.grow HG.out) HM5.out.at (catV_lt HV1.out HV2.out k1)).mono ?_
  rintro e w6 ⟨hg, ⟨hno, _⟩ | ⟨_, hc, Ac, cc, ccc, rfl, hstc⟩⟩
  case inl => exact absurd HYES.out hno
  replace HG := Lib.hid (HG.out.trans hg)
  replace HAA := Lib.hid (HSt.grow HAA.out hg)
  replace HBB := Lib.hid (HSt.grow HBB.out hg)
  have HS56 := Lib.hid hg.size
  have HCC := Lib.hid hstc; clear hg hstc HM5 HC5
  go_wp2_with fail
  refine (of_any w6 A LB n cap k2 lc2 Bd V2 hn' hcap (by omega) hl2 (HM.out.grow HG.out) (HL2.out.grow HG.out) HV2.out).mono ?_
  rintro e w7 ⟨hg, ⟨hno, _⟩ | ⟨_, hd, Ad, cd, ccd, rfl, hstd⟩⟩
  case inl => exact absurd HYES.out hno
  replace HG := Lib.hid (HG.out.trans hg)
  replace HAA := Lib.hid (HSt.grow HAA.out hg)
  replace HBB := Lib.hid (HSt.grow HBB.out hg)
  replace HCC := Lib.hid (HSt.grow HCC.out hg)
  have HDD := Lib.hid hstd; clear hg hstd
  have hn1 : (n : Int) ≤ 100 := by omega
  go_wp2_with fail
  refine (merge_hs w7 n Bd _ ha Aa ca cca V1 k1 _ hb Ab cb ccb V2 k2 hn1 HAA.out HBB.out HLA.out.1 HLA.out.2 (by omega) (by omega)).mono ?_
  rintro e w8 ⟨rfl, hst8, hk8⟩
  replace HBB := Lib.hid (HSt.keep HBB.out hk8 HLA.out.1 HLA.out.2)
  replace HCC := Lib.hid (HSt.keep HCC.out hk8 (by have := HLA.out.1; have := HS23.out; have := HS35.out; omega) (by have := HLA.out.2; have := HS23.out; have := HS35.out; omega))
  replace HDD := Lib.hid (HSt.keep HDD.out hk8 (by have := HLA.out.1; have := HS23.out; have := HS35.out; have := HS56.out; omega) (by have := HLA.out.2; have := HS23.out; have := HS35.out; have := HS56.out; omega))
  replace HAA := Lib.hid hst8
  replace HG := Lib.hid (hk8.made HG.out HBA.out.1 HBA.out.2)
  clear hst8 hk8
  go_wp2_with fail
  refine (alike_any w8 _ ha Aa n ca Bd cca _ _ hc Ac cc Bd ccc _ _ _ _ _ hn1 HAA.out HCC.out (fun _ => rfl)).mono ?_
  rintro e w9 ⟨rfl, hg⟩
  replace HG := Lib.hid (HG.out.trans hg)
  replace HAA := Lib.hid (HSt.grow HAA.out hg)
  replace HBB := Lib.hid (HSt.grow HBB.out hg)
  replace HCC := Lib.hid (HSt.grow HCC.out hg)
  replace HDD := Lib.hid (HSt.grow HDD.out hg)
  clear hg
  go_wp2_with fail
  refine (alike_any w9 _ hb Ab n cb Bd ccb _ _ hd Ad cd Bd ccd _ _ _ _ _ hn1 HBB.out HDD.out (fun _ => rfl)).mono ?_
  rintro e w10 ⟨rfl, hg⟩
  replace HG := Lib.hid (HG.out.trans hg)
  replace HAA := Lib.hid (HSt.grow HAA.out hg)
  replace HCC := Lib.hid (HSt.grow HCC.out hg)
  clear hg HBB HDD
  go_wp2_with fail
  refine (new_any w10 none 0 0 Bd (by omega) (by omega) (fun _ => ⟨rfl, rfl⟩) MemAt.none_).mono ?_
  rintro e w11 ⟨hg, ⟨hno, _⟩ | ⟨_, ho, Ao, co, cco, rfl, hsto⟩⟩
  case inl => exact absurd ⟨fun i hi => by omega, by omega⟩ hno
  replace HG := Lib.hid (HG.out.trans hg)
  replace HAA := Lib.hid (HSt.grow HAA.out hg)
  replace HCC := Lib.hid (HSt.grow HCC.out hg)
  have HOO := Lib.hid hsto; clear hg hsto
  by_cases hn0 : n = 0
  · have hb0 : ((n : Int) == 0) = true := by simp [hn0]
    have HN0 := Lib.hid hn0; clear hn0
    go_wp2_with fail
    have hga := Grow.alloc w11 (.cells #[.int .u64 3] 28)
    have hm3 : MemAt (w11.alloc (.cells #[.int .u64 3] 28)) (some ⟨w11.heap.size, 0, none⟩) 1 (fun _ => 3) := fun _ => ⟨_, rfl, fun j hj => by
      have : j = 0 := by omega
      subst this
      rw [add_zero_block, cell_block (heapAt_alloc_new _ _)]; rfl⟩
    have HM3 := Lib.hid hm3; clear hm3
    have HGA := Lib.hid hga; clear hga
    generalize w11.alloc (.cells #[.int .u64 3] 28) = w12 at HM3 HGA ⊢
    refine (new_any w12 _ 1 1 (fun _ => 3) (by omega) (by omega) (fun h => by cases h) HM3.out).mono ?_
    rintro e w13 ⟨hg, ⟨hno, _⟩ | ⟨_, hp, Ap, cp, ccp, rfl, hstp⟩⟩
    case inl => exact absurd ⟨fun i hi => by omega, by omega⟩ hno
    replace HG := Lib.hid (HG.out.trans (HGA.out.trans hg))
    replace HAA := Lib.hid (HSt.grow HAA.out (HGA.out.trans hg))
    replace HCC := Lib.hid (HSt.grow HCC.out (HGA.out.trans hg))
    have HPP := Lib.hid hstp; clear hg hstp HM3
    go_wp2_with fail
    refine (merge_other w13 n 1 Bd (fun _ => 3) _ ha Aa ca cca _ _ _ _ _ _ hp Ap cp ccp _ _ _ _ _ (by have := HN0.out; omega) HAA.out HPP.out).mono ?_
    rintro e w14 ⟨rfl, hg⟩
    replace HG := Lib.hid (HG.out.trans hg)
    replace HAA := Lib.hid (HSt.grow HAA.out hg)
    replace HCC := Lib.hid (HSt.grow HCC.out hg)
    clear hg
    go_wp2_with fail
    refine (alike_any w14 _ ha Aa n ca Bd cca _ _ hc Ac cc Bd ccc _ _ _ _ _ hn1 HAA.out HCC.out (fun _ => rfl)).mono ?_
    rintro e w15 ⟨rfl, hg⟩
    replace HG := Lib.hid (HG.out.trans hg)
    clear hg
    go_wp2_with fail
    refine (merge_none w15 ha).mono ?_
    rintro e w16 ⟨rfl, rfl⟩
    go_wp2
    go_ret
    exact ⟨rfl, HG.out⟩
  · have hb0 : ((n : Int) == 0) = false := by simp; omega
    have HN0 := Lib.hid hn0; clear hn0
    go_wp2_with fail
    refine (merge_other w11 n 0 Bd Bd _ ha Aa ca cca _ _ _ _ _ _ ho Ao co cco _ _ _ _ _ (by have := HN0.out; omega) HAA.out HOO.out).mono ?_
    rintro e w14 ⟨rfl, hg⟩
    replace HG := Lib.hid (HG.out.trans hg)
    replace HAA := Lib.hid (HSt.grow HAA.out hg)
    replace HCC := Lib.hid (HSt.grow HCC.out hg)
    clear hg
    go_wp2_with fail
    refine (alike_any w14 _ ha Aa n ca Bd cca _ _ hc Ac cc Bd ccc _ _ _ _ _ hn1 HAA.out HCC.out (fun _ => rfl)).mono ?_
    rintro e w15 ⟨rfl, hg⟩
    replace HG := Lib.hid (HG.out.trans hg)
    clear hg
    go_wp2_with fail
    refine (merge_none w15 ha).mono ?_
    rintro e w16 ⟨rfl, rfl⟩
    go_wp2
    go_ret
    exact ⟨rfl, HG.out⟩
end Go.Proofs.Ytpemmjaengbogaa
