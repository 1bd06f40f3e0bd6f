/- The walk of HistOrder. -/
import Derived.Test.YtpemmjaengbogaaM
namespace Go.Proofs.Ytpemmjaengbogaa
open Go.RowKit
set_option linter.unusedVariables false
attribute [local irreducible] whereP sumP satP cntArr leastN topN cntP leastP topP cumP cntLe
set_option maxRecDepth 100000 in
theorem histOrder_far (A LA : Option Addr) (n cap ln lcap : Nat) (Bd V : Nat → Nat) (by_ : Int) (w : World) (h : 32 < (n : Int) ∨ 500 < (ln : Int)) :
    Calls Try.prog 6 #[.slice A n cap, .slice LA ln lcap, .int .i64 by_] w fun e w' => e = .returned (.bool true) ∧ Below w.heap.size w w' := by
  have HH := Lib.hid h; clear h
  go_enter Try.func6, Try.ntmps6
  go_wp2_with fail
  refine (awake_any _).mono ?_
  rintro e w1 ⟨rfl, hg⟩
  have HG := Lib.hid hg; clear hg
  by_cases h1 : 32 < (n : Int)
  · go_wp2_with fail
    refine (awake_any _).mono ?_
    rintro e w2 ⟨rfl, hg⟩
    have HG2 := Lib.hid (HG.out.trans hg); clear hg
    go_wp2
    go_ret
    exact ⟨rfl, HG2.out⟩
  · have h2 : 500 < (ln : Int) := by
      rcases HH.out with h | h
      · exact absurd h h1
      · exact h
    go_wp2_with fail
    refine (awake_any _).mono ?_
    rintro e w2 ⟨rfl, hg⟩
    have HG2 := Lib.hid (HG.out.trans hg); clear hg
    go_wp2
    go_ret
    exact ⟨rfl, HG2.out⟩
def turnV (V : Nat → Nat) (ln k : Nat) : Nat → Nat := fun i => if i < ln - k then V (k + i) else V (i - (ln - k))
def backV (V : Nat → Nat) (ln : Nat) : Nat → Nat := fun i => V (ln - 1 - i)
theorem nums_list (V : Nat → Nat) (n : Nat) : nums n V = (toL V n).map fun x : Nat => Value.int .u64 (x : Int) := by unfold nums toL; rw [List.map_map]; rfl
theorem toL_turn (V : Nat → Nat) (ln k : Nat) (hk : k ≤ ln) : toL (turnV V ln k) ln = (toL V ln).drop k ++ (toL V ln).take k := by
  apply List.ext_getElem?
  intro i
  by_cases hi : i < ln
  · rw [toL_get _ _ _ hi]
    unfold turnV
    by_cases h : i < ln - k
    · rw [if_pos h, List.getElem?_append_left (by rw [List.length_drop, toL_len]; exact h), List.getElem?_drop, toL_get _ _ _ (by omega)]
    · rw [if_neg h, List.getElem?_append_right (by rw [List.length_drop, toL_len]; omega), List.length_drop, toL_len, List.getElem?_take_of_lt (by omega), toL_get _ _ _ (by omega)]
  · rw [List.getElem?_eq_none (by rw [toL_len]; omega), List.getElem?_eq_none (by rw [List.length_append, List.length_drop, List.length_take, toL_len]; omega)]
theorem toL_back (V : Nat → Nat) (ln : Nat) : toL (backV V ln) ln = (toL V ln).reverse := by
  apply List.ext_getElem?
  intro i
  by_cases hi : i < ln
  · rw [toL_get _ _ _ hi, List.getElem?_reverse (by rw [toL_len]; exact hi), toL_len, toL_get _ _ _ (by omega)]; rfl
  · rw [List.getElem?_eq_none (by rw [toL_len]; omega), List.getElem?_eq_none (by rw [List.length_reverse, toL_len]; omega)]
theorem turn_perm (V : Nat → Nat) (ln k : Nat) (hk : k ≤ ln) : (toL V ln).Perm (toL (turnV V ln k) ln) := by
  rw [toL_turn V ln k hk]
  have h := List.perm_append_comm (l₁ := (toL V ln).take k) (l₂ := (toL V ln).drop k)
  rwa [List.take_append_drop] at h
theorem back_perm (V : Nat → Nat) (ln : Nat) : (toL V ln).Perm (toL (backV V ln) ln) := by
  rw [toL_back]; exact (List.reverse_perm _).symm
theorem toL_take (V : Nat → Nat) (ln k : Nat) (hk : k ≤ ln) : (toL V ln).take k = toL V k := by
  apply List.ext_getElem?
  intro i
  by_cases hi : i < k
  · rw [List.getElem?_take_of_lt hi, toL_get _ _ _ (by omega), toL_get _ _ _ hi]
  · rw [List.getElem?_eq_none (by rw [List.length_take, toL_len]; omega), List.getElem?_eq_none (by rw [toL_len]; omega)]
theorem nums_turn (V : Nat → Nat) (ln k : Nat) (hk : k ≤ ln) : (nums ln V).drop k ++ nums k V = nums ln (turnV V ln k) := by
  rw [nums_list, nums_list, nums_list, toL_turn V ln k hk, List.map_append, toL_take V ln k hk, List.map_drop]
theorem nums_back (V : Nat → Nat) (ln m : Nat) : nums m (backV V ln) ++ [Value.int .u64 (V (ln - 1 - m) : Int)] = nums (m + 1) (backV V ln) := by
  rw [nums_list, nums_list, toL_succ, List.map_append]; rfl
theorem turnV_lt {V : Nat → Nat} (h : ∀ i, V i < 18446744073709551616) (ln k i : Nat) : turnV V ln k i < 18446744073709551616 := by unfold turnV; split <;> exact h _
attribute [local irreducible] turnV backV
set_option maxHeartbeats 1000000 in
set_option maxRecDepth 100000 in
theorem histOrder_walk (A LA : Option Addr) (n cap ln lcap : Nat) (Bd V : Nat → Nat) (by_ : Int) (w : World) (hn : (n : Int) ≤ 32) (hln : (ln : Int) ≤ 500) (hcap : (n : Int) ≤ cap) (hlc : (ln : Int) ≤ lcap) (hV : ∀ i, V i < 18446744073709551616) (hM : MemAt w A n Bd) (hL : MemAt w LA ln V) :
    Calls Try.prog 6 #[.slice A n cap, .slice LA ln lcap, .int .i64 by_] w fun e w' => e = .returned (.bool true) ∧ Below w.heap.size w w' := by
  have HM := Lib.hid hM; clear hM
  have HL := Lib.hid hL; clear hL
  have HV := Lib.hid hV; clear hV
  have hn' : (n : Int) ≤ 1000 := by omega
  have hln' : (ln : Int) ≤ 1000 := by omega
  obtain ⟨i0, hi, hz0, hz1, hz2⟩ := info_parts info28
  have HI := Lib.hid hi; clear hi
  have HZ0 := Lib.hid hz0; clear hz0
  have HZ1 := Lib.hid hz1; clear hz1
  have HZ2 := Lib.hid hz2; clear hz2
  go_enter Try.func6, Try.ntmps6
  go_wp2_with fail
  refine (awake_any _).mono ?_
  rintro e w1 ⟨rfl, hg⟩
  have HG := Lib.hid hg; clear hg
  go_wp2_with fail
  refine (of_any w1 A LA n cap ln lcap Bd V hn' hcap hln' hlc (HM.out.grow HG.out) (HL.out.grow HG.out) HV.out).mono ?_
  rintro e w3 ⟨hg, ⟨hno, rfl⟩ | ⟨hyes, h, A2, cap2, c, rfl, hst⟩⟩
  · replace HG := Lib.hid (HG.out.trans hg); clear hg hno
    go_wp2
    go_ret
    exact ⟨rfl, HG.out⟩
  replace HG := Lib.hid (HG.out.trans hg); clear hg
  have HYES := Lib.hid hyes; clear hyes
  have HHB := Lib.hid (show h < w3.heap.size ∧ c < w3.heap.size ∧ ∀ g, A2 = some ⟨g, 0, none⟩ → 0 < n → g < w3.heap.size from ⟨heapAt_lt hst.blk, heapAt_lt hst.cnt, fun g hg hn0 => by obtain ⟨g', e1, _, e3⟩ := hst.bnd.lt hn0; rw [hg] at e1; injection e1 with e1; injection e1 with e1; omega⟩)
  have HBW := Lib.hid (show w.heap.size ≤ w3.heap.size from HG.out.size)
  have HH := Lib.hid hst; clear hst
  by_cases hl0 : 0 < ln
  · have l0 : (0 : Int) < (ln : Int) := by omega
    obtain ⟨a, hA, _⟩ := HL.out hl0
    subst hA
    obtain ⟨k, hk, hkl⟩ : ∃ k : Nat, wrap64 ((IntKind.u64.wrap by_).tmod ↑ln) = (k : Int) ∧ k < ln := by
      have h0 : 0 ≤ IntKind.u64.wrap by_ := by rw [IntKind.wrap_u64]; omega
      have h1 := Int.tmod_nonneg (ln : Int) h0
      have h2 := Int.tmod_lt_of_pos (IntKind.u64.wrap by_) l0
      refine ⟨((IntKind.u64.wrap by_).tmod ↑ln).toNat, ?_, by omega⟩
      unfold wrap64
      omega
    have hki : (k : Int) ≤ (ln : Int) := by omega
    have hk0 : (0 : Int) ≤ (k : Int) := by omega
    have hne : ¬ lcap = k := by omega
    have hC2 := Lib.hid (((HL.out.grow HG.out).grow (Grow.alloc w3 (.cells #[] 28))).reads.cut (k := k) (cap := lcap) (by omega) (by omega))
    rw [if_neg hne] at hC2
    go_wp2_with (at_builtin; refine wpList_append_any _ rfl (.tmp 40) (.tmp 43) 22 rfl w3.heap.size 28 i0 (.int .u64 0) 1 8 Try.underlying22 HI.out HZ0.out HZ1.out HZ2.out rfl (by decide) _ 0 [] (by rfl) ?c1 (w3.alloc (.cells #[] 28)).heap.size _ (ln - k) _ ((nums ln V).drop (k * 1)) (by rfl) ?c2 ?c3 ?c4 ?c5 ?c6 ?c7)
    case c1 => exact World.ownsRow_made (base := w3.heap.size) (e := 28) (size := 1) w3 #[] 0 (Nat.le_refl _) (by unfold maxLen; omega) rfl
    case c2 => have := hC2.out; simpa using this
    case c3 => intro u hu; obtain ⟨j, hj⟩ := List.mem_iff_getElem?.1 (List.mem_of_mem_drop hu); rw [(nums_at ln V j u hj).2]; rfl
    case c4 => unfold maxLen; omega
    case c5 => omega
    case c6 => simp
    case c7 =>
    intro v4 w4 hown hgrow hblk
    have hG4 : Grow w3 w4 := Below.trans (Grow.alloc w3 (.cells #[] 28)) (below_grown hgrow (by simp) (fun k hk => by simp [Value.ownBlock] at hk; omega))
    have HO4 := Lib.hid hown; clear hown
    replace HH := Lib.hid (HSt.grow HH.out hG4)
    replace HG := Lib.hid (HG.out.trans hG4)
    have HB4 := Lib.hid (show ∀ k, v4.ownBlock = some k → w3.heap.size ≤ k from fun k hk => by
      rcases hblk with h | h <;> rw [hk] at h <;> simp [Value.ownBlock] at h <;> omega)
    have HS4 := Lib.hid hG4.size
    clear hG4 hgrow hblk
    go_wp2_with (at_builtin; refine wpList_append_any _ rfl (.tmp 45) (.tmp 48) 22 rfl w3.heap.size 28 i0 (.int .u64 0) 1 8 Try.underlying22 HI.out HZ0.out HZ1.out HZ2.out rfl (by decide) _ _ _ (by rfl) HO4.out w4.heap.size _ k _ (nums k V) (by rfl) ?c2 ?c3 ?c4 ?c5 ?c6 ?c7)
    case c2 => exact MemAt.reads (fun _ => ⟨a, rfl, fun j hj => ((HL.out.grow HG.out) hl0).elim fun a2 h2 => by obtain ⟨e, hc⟩ := h2; injection e with e; subst e; exact hc j (by omega)⟩)
    case c3 => intro u hu; obtain ⟨j, hj⟩ := List.mem_iff_getElem?.1 hu; rw [(nums_at k V j u hj).2]; rfl
    case c4 => unfold maxLen; omega
    case c5 => omega
    case c6 => exact HS4.out
    case c7 =>
    intro v5 w5 hown hgrow hblk
    have hG5 : Grow w4 w5 ∨ True := .inr trivial
    have hGw : Grow w w5 := Below.trans HG.out (below_grown hgrow (by have := HG.out.size; exact this) (fun k hk => by have := HB4.out k hk; have := HBW.out; omega))
    have hX : HSt w5 w1.heap.size h A2 n cap2 Bd c (cntP Bd n V ln) ln (sumP V ln) (leastP V ln) (topP V ln) := by
      have hb : Below w3.heap.size w4 w5 := below_grown hgrow HS4.out (fun k hk => HB4.out k hk)
      have H := HH.out
      refine ⟨heapAt_below hb HHB.out.1 H.blk, fun hn0 => ?_, H.hcap, heapAt_below hb HHB.out.2.1 H.cnt, H.hB, H.cB, H.ch, H.ab, H.nil⟩
      obtain ⟨g, e1, e2, e3, e4⟩ := H.bnd hn0
      have hg3 := HHB.out.2.2 g e1 hn0
      exact ⟨g, e1, e2, fun j hj => (Below.cell hb (p := ⟨g, j, none⟩) hg3).trans (e3 j hj), fun j => (Below.frozen (p := ⟨g, j, none⟩) hb hg3).trans (e4 j)⟩
    have e0 : ln - k + k = ln := by omega
    rw [e0, nums_turn V ln k (by omega)] at hown
    obtain ⟨A5, cap5, rfl, hcap5, hmem5⟩ := own_mem hown
    replace HH := Lib.hid hX
    replace HG := Lib.hid hGw
    have HGB := HG
    have HH5 := HH
    have HM5 := Lib.hid hmem5
    have HC5 := Lib.hid hcap5
    have HM55 := HM5
    clear hown hgrow hblk hG5 hGw hX hmem5 hcap5 HO4 HB4 HS4 e0
    go_wp2_with fail
    have hO6 := World.ownsRow_made (base := w5.heap.size) (e := 28) (size := 1) w5 #[] 0 (Nat.le_refl _) (by unfold maxLen; omega) rfl
    have hga := Grow.alloc w5 (.cells #[] 28)
    replace HH := Lib.hid (HSt.grow HH.out hga)
    replace HG := Lib.hid (HG.out.trans hga)
    replace HM5 := Lib.hid (HM5.out.grow hga)
    have HO6 := Lib.hid hO6
    have HGA := Lib.hid hga
    clear hga hO6
    generalize w5.alloc (.cells #[] 28) = w6 at HH HG HM5 HO6 HGA ⊢
    go_loopw [10, 11] (fun o i wr => ∃ j : Nat, j ≤ ln ∧ i = .int .i64 ((j : Int) - 1) ∧ wr.ownsRow w5.heap.size 28 1 o (ln - j) (nums (ln - j) (backV V ln)) ∧ Grow w5 wr) (fun _ i _ => (intOf i + 1).toNat)
    case atStart => exact ⟨ln, Nat.le_refl _, by go_num, by rw [Nat.sub_self]; exact HO6.out, HGA.out⟩
    case round =>
      obtain ⟨j, hj, rfl, hown, hgr⟩ := hrel
      have HOW := Lib.hid hown; clear hown
      have HGR := Lib.hid hgr; clear hgr
      have HGT := Lib.hid (HGB.out.trans HGR.out)
      by_cases hj0 : 0 < j
      · obtain ⟨t, ht⟩ : ∃ t, j = t + 1 := ⟨j - 1, by omega⟩
        subst ht
        have e1 : ((t + 1 : Nat) : Int) - 1 = (t : Int) := by omega
        rw [e1]
        clear e1 hj0
        obtain ⟨a2, hA2, hc2⟩ := (HL.out.grow HGT.out) (by omega)
        have m := hc2 t (by omega)
        rw [hA2]
        clear hc2 hA2
        have t0 : (0 : Int) ≤ (t : Int) := by omega
        have tn : (t : Int) < (ln : Int) := by omega
        have HVT := Lib.hid (show ln - 1 - (ln - (t + 1)) = t ∧ ln - (t + 1) + 1 = ln - t by omega)
        go_wp2_with (at_builtin; refine wpList_append_any _ rfl (.tmp 58) (.tmp 63) 22 rfl w5.heap.size 28 i0 (.int .u64 0) 1 8 Try.underlying22 HI.out HZ0.out HZ1.out HZ2.out rfl (by decide) _ (ln - (t + 1)) _ (by rfl) (own_alloc HOW.out _) (wr.alloc (.cells #[.int .u64 (V t : Int)] 28)).heap.size (some ⟨wr.heap.size, 0, none⟩) 1 1 [.int .u64 (V t : Int)] (by rfl) ?c2 ?c3 ?c4 ?c5 ?c6 ?c7)
        case c2 =>
          have := Reads.of_own (World.ownsRow_lit (base := wr.heap.size) (e := 28) (size := 1) wr #[.int .u64 (V t : Int)] 1 (Nat.le_refl _) (by unfold maxLen; omega) rfl)
          simpa using this
        case c3 => simp [Value.oneCell']
        case c4 => unfold maxLen; omega
        case c5 => omega
        case c6 => have := HGR.out.size; simp; omega
        case c7 =>
        intro v7 w7 hown1 hgrow hblk
        have hG1 : Grow w5 w7 := Below.trans (HGR.out.trans (Grow.alloc wr (.cells #[.int .u64 (V t : Int)] 28))) (below_grown hgrow (by have := HGR.out.size; simp; omega) (fun k hk => by
          rcases HOW.out.2 with ⟨h1, _⟩ | ⟨g, cp, cur, h1, hB, _⟩
          · rw [h1] at hk; simp [Value.ownBlock] at hk
          · rw [h1] at hk; simp [Value.ownBlock] at hk; omega))
        have hb := nums_back V ln (ln - (t + 1))
        rw [HVT.out.1, HVT.out.2] at hb
        rw [hb, HVT.out.2] at hown1
        have HO1 := Lib.hid hown1
        have HG1 := Lib.hid hG1
        clear hown1 hgrow hblk hG1 hb
        go_wp2_with fail
        go_roundw
        case rel => exact ⟨t, by omega, by go_num, HO1.out, HG1.out⟩
        case measure => simp [intOf]
      · have hj1 : j = 0 := by omega
        subst hj1
        rw [Nat.sub_zero] at HOW
        obtain ⟨A8, cap8, rfl, hcap8, hmem8⟩ := own_mem HOW.out
        have HM8 := Lib.hid hmem8
        have HC8 := Lib.hid hcap8
        have hgs := HGR.out
        have HH8 := Lib.hid (show HSt wr w1.heap.size h A2 n cap2 Bd c (cntP Bd n V ln) ln (sumP V ln) (leastP V ln) (topP V ln) from HH5.out.grow hgs)
        have HM58 := Lib.hid (HM55.out.grow hgs)
        replace HG := HGT
        clear HOW hmem8 hcap8 hgs HGR HGT hj hj0
        go_wp2_with fail
        obtain ⟨p1, p2, p3, p4⟩ := perm_same Bd n V (turnV V ln k) ln (turn_perm V ln k (by omega))
        obtain ⟨q1, q2, q3, q4⟩ := perm_same Bd n V (backV V ln) ln (back_perm V ln)
        refine (of_any _ A A5 n cap ln cap5 Bd (turnV V ln k) hn' hcap hln' (by have := HC5.out; omega) (HM.out.grow HG.out) HM58.out.at (turnV_lt HV.out ln k)).mono ?_
        rintro e w9 ⟨hg, ⟨hno, _⟩ | ⟨_, h9, A9, cap9, c9, rfl, hst⟩⟩
        · exact absurd HYES.out hno
        replace HG := Lib.hid (HG.out.trans hg)
        replace HH8 := Lib.hid (HSt.grow HH8.out hg)
        replace HM8 := Lib.hid (HM8.out.grow hg)
        unfold Hs at hst
        rw [p2, p3, p4] at hst
        have HS9 := Lib.hid hst
        clear hg hst p2 p3 p4
        go_wp2_with fail
        refine (alike_any w9 _ h A2 n cap2 Bd c _ _ h9 A9 cap9 Bd c9 _ ln _ _ _ (by omega) HH8.out HS9.out p1).mono ?_
        rintro e w10 ⟨rfl, hg⟩
        replace HG := Lib.hid (HG.out.trans hg)
        replace HH8 := Lib.hid (HSt.grow HH8.out hg)
        replace HM8 := Lib.hid (HM8.out.grow hg)
        clear hg HS9
        go_wp2_with fail
        refine (of_any _ A A8 n cap ln cap8 Bd (backV V ln) hn' hcap hln' (by have := HC8.out; omega) (HM.out.grow HG.out) HM8.out.at (fun i => by unfold backV; exact HV.out _)).mono ?_
        rintro e w11 ⟨hg, ⟨hno, _⟩ | ⟨_, h11, A11, cap11, c11, rfl, hst⟩⟩
        · exact absurd HYES.out hno
        replace HG := Lib.hid (HG.out.trans hg)
        replace HH8 := Lib.hid (HSt.grow HH8.out hg)
        unfold Hs at hst
        rw [q2, q3, q4] at hst
        have HS11 := Lib.hid hst
        clear hg hst q2 q3 q4
        go_wp2_with fail
        refine (alike_any w11 _ h A2 n cap2 Bd c _ _ h11 A11 cap11 Bd c11 _ ln _ _ _ (by omega) HH8.out HS11.out q1).mono ?_
        rintro e w12 ⟨rfl, hg⟩
        replace HG := Lib.hid (HG.out.trans hg)
        clear hg
        go_wp2
        go_ret
        exact ⟨rfl, HG.out⟩
  · have l0 : ¬ (0 : Int) < (ln : Int) := by omega
    have hlz : ln = 0 := by omega
    clear hl0 l0
    subst hlz
    cases LA with
    | none =>
      by_cases hc0 : lcap = 0
      · go_wp2_with fail
        have hga : Grow w3 ((w3.alloc (.cells #[] 28)).alloc (.cells #[] 28)) := (Grow.alloc _ _).trans (Grow.alloc _ _)
        replace HH := Lib.hid (HSt.grow HH.out hga)
        replace HG := Lib.hid (HG.out.trans hga)
        generalize (w3.alloc (.cells #[] 28)).alloc (.cells #[] 28) = w6 at HH HG ⊢
        clear hga
        go_loopw [10, 11] (fun o i wr => o = .slice (some ⟨w3.heap.size + 1, 0, none⟩) 0 0 ∧ i = .int .i64 (-1) ∧ wr = w6) (fun _ _ _ => 0)
        case atStart => exact ⟨rfl, rfl, rfl⟩
        case round =>
          obtain ⟨rfl, rfl, rfl⟩ := hrel
          go_wp2_with fail
          refine (of_any _ A _ n cap 0 0 Bd V hn' hcap (by omega) (by omega) (HM.out.grow HG.out) MemAt.none_ HV.out).mono ?_
          rintro e w9 ⟨hg, ⟨hno, _⟩ | ⟨_, h9, A9, cap9, c9, rfl, hst⟩⟩
          · exact absurd HYES.out hno
          replace HG := Lib.hid (HG.out.trans hg)
          replace HH := Lib.hid (HSt.grow HH.out hg)
          have HS9 := Lib.hid hst
          clear hg hst
          go_wp2_with fail
          refine (alike_any w9 _ h A2 n cap2 Bd c _ _ h9 A9 cap9 Bd c9 _ 0 _ _ _ (by omega) HH.out HS9.out (fun _ => rfl)).mono ?_
          rintro e w10 ⟨rfl, hg⟩
          replace HG := Lib.hid (HG.out.trans hg)
          replace HH := Lib.hid (HSt.grow HH.out hg)
          clear hg HS9
          go_wp2_with fail
          refine (of_any _ A _ n cap 0 0 Bd V hn' hcap (by omega) (by omega) (HM.out.grow HG.out) MemAt.none_ HV.out).mono ?_
          rintro e w11 ⟨hg, ⟨hno, _⟩ | ⟨_, h11, A11, cap11, c11, rfl, hst⟩⟩
          · exact absurd HYES.out hno
          replace HG := Lib.hid (HG.out.trans hg)
          replace HH := Lib.hid (HSt.grow HH.out hg)
          have HS11 := Lib.hid hst
          clear hg hst
          go_wp2_with fail
          refine (alike_any w11 _ h A2 n cap2 Bd c _ _ h11 A11 cap11 Bd c11 _ 0 _ _ _ (by omega) HH.out HS11.out (fun _ => rfl)).mono ?_
          rintro e w12 ⟨rfl, hg⟩
          replace HG := Lib.hid (HG.out.trans hg)
          clear hg
          go_wp2
          go_ret
          exact ⟨rfl, HG.out⟩
      · go_wp2_with fail
        have hga : Grow w3 ((w3.alloc (.cells #[] 28)).alloc (.cells #[] 28)) := (Grow.alloc _ _).trans (Grow.alloc _ _)
        replace HH := Lib.hid (HSt.grow HH.out hga)
        replace HG := Lib.hid (HG.out.trans hga)
        generalize (w3.alloc (.cells #[] 28)).alloc (.cells #[] 28) = w6 at HH HG ⊢
        clear hga
        go_loopw [10, 11] (fun o i wr => o = .slice (some ⟨w3.heap.size + 1, 0, none⟩) 0 0 ∧ i = .int .i64 (-1) ∧ wr = w6) (fun _ _ _ => 0)
        case atStart => exact ⟨rfl, rfl, rfl⟩
        case round =>
          obtain ⟨rfl, rfl, rfl⟩ := hrel
          go_wp2_with fail
          refine (of_any _ A _ n cap 0 0 Bd V hn' hcap (by omega) (by omega) (HM.out.grow HG.out) MemAt.none_ HV.out).mono ?_
          rintro e w9 ⟨hg, ⟨hno, _⟩ | ⟨_, h9, A9, cap9, c9, rfl, hst⟩⟩
          · exact absurd HYES.out hno
          replace HG := Lib.hid (HG.out.trans hg)
          replace HH := Lib.hid (HSt.grow HH.out hg)
          have HS9 := Lib.hid hst
          clear hg hst
          go_wp2_with fail
          refine (alike_any w9 _ h A2 n cap2 Bd c _ _ h9 A9 cap9 Bd c9 _ 0 _ _ _ (by omega) HH.out HS9.out (fun _ => rfl)).mono ?_
          rintro e w10 ⟨rfl, hg⟩
          replace HG := Lib.hid (HG.out.trans hg)
          replace HH := Lib.hid (HSt.grow HH.out hg)
          clear hg HS9
          go_wp2_with fail
          refine (of_any _ A _ n cap 0 0 Bd V hn' hcap (by omega) (by omega) (HM.out.grow HG.out) MemAt.none_ HV.out).mono ?_
          rintro e w11 ⟨hg, ⟨hno, _⟩ | ⟨_, h11, A11, cap11, c11, rfl, hst⟩⟩
          · exact absurd HYES.out hno
          replace HG := Lib.hid (HG.out.trans hg)
          replace HH := Lib.hid (HSt.grow HH.out hg)
          have HS11 := Lib.hid hst
          clear hg hst
          go_wp2_with fail
          refine (alike_any w11 _ h A2 n cap2 Bd c _ _ h11 A11 cap11 Bd c11 _ 0 _ _ _ (by omega) HH.out HS11.out (fun _ => rfl)).mono ?_
          rintro e w12 ⟨rfl, hg⟩
          replace HG := Lib.hid (HG.out.trans hg)
          clear hg
          go_wp2
          go_ret
          exact ⟨rfl, HG.out⟩
    | some a =>
      by_cases hc0 : lcap = 0
      · go_wp2_with fail
        have hga : Grow w3 ((w3.alloc (.cells #[] 28)).alloc (.cells #[] 28)) := (Grow.alloc _ _).trans (Grow.alloc _ _)
        replace HH := Lib.hid (HSt.grow HH.out hga)
        replace HG := Lib.hid (HG.out.trans hga)
        generalize (w3.alloc (.cells #[] 28)).alloc (.cells #[] 28) = w6 at HH HG ⊢
        clear hga
        go_loopw [10, 11] (fun o i wr => o = .slice (some ⟨w3.heap.size + 1, 0, none⟩) 0 0 ∧ i = .int .i64 (-1) ∧ wr = w6) (fun _ _ _ => 0)
        case atStart => exact ⟨rfl, rfl, rfl⟩
        case round =>
          obtain ⟨rfl, rfl, rfl⟩ := hrel
          go_wp2_with fail
          refine (of_any _ A _ n cap 0 0 Bd V hn' hcap (by omega) (by omega) (HM.out.grow HG.out) MemAt.none_ HV.out).mono ?_
          rintro e w9 ⟨hg, ⟨hno, _⟩ | ⟨_, h9, A9, cap9, c9, rfl, hst⟩⟩
          · exact absurd HYES.out hno
          replace HG := Lib.hid (HG.out.trans hg)
          replace HH := Lib.hid (HSt.grow HH.out hg)
          have HS9 := Lib.hid hst
          clear hg hst
          go_wp2_with fail
          refine (alike_any w9 _ h A2 n cap2 Bd c _ _ h9 A9 cap9 Bd c9 _ 0 _ _ _ (by omega) HH.out HS9.out (fun _ => rfl)).mono ?_
          rintro e w10 ⟨rfl, hg⟩
          replace HG := Lib.hid (HG.out.trans hg)
          replace HH := Lib.hid (HSt.grow HH.out hg)
          clear hg HS9
          go_wp2_with fail
          refine (of_any _ A _ n cap 0 0 Bd V hn' hcap (by omega) (by omega) (HM.out.grow HG.out) MemAt.none_ HV.out).mono ?_
          rintro e w11 ⟨hg, ⟨hno, _⟩ | ⟨_, h11, A11, cap11, c11, rfl, hst⟩⟩
          · exact absurd HYES.out hno
          replace HG := Lib.hid (HG.out.trans hg)
          replace HH := Lib.hid (HSt.grow HH.out hg)
          have HS11 := Lib.hid hst
          clear hg hst
          go_wp2_with fail
          refine (alike_any w11 _ h A2 n cap2 Bd c _ _ h11 A11 cap11 Bd c11 _ 0 _ _ _ (by omega) HH.out HS11.out (fun _ => rfl)).mono ?_
          rintro e w12 ⟨rfl, hg⟩
          replace HG := Lib.hid (HG.out.trans hg)
          clear hg
          go_wp2
          go_ret
          exact ⟨rfl, HG.out⟩
      · go_wp2_with fail
        have hga : Grow w3 ((w3.alloc (.cells #[] 28)).alloc (.cells #[] 28)) := (Grow.alloc _ _).trans (Grow.alloc _ _)
        replace HH := Lib.hid (HSt.grow HH.out hga)
        replace HG := Lib.hid (HG.out.trans hga)
        generalize (w3.alloc (.cells #[] 28)).alloc (.cells #[] 28) = w6 at HH HG ⊢
        clear hga
        go_loopw [10, 11] (fun o i wr => o = .slice (some ⟨w3.heap.size + 1, 0, none⟩) 0 0 ∧ i = .int .i64 (-1) ∧ wr = w6) (fun _ _ _ => 0)
        case atStart => exact ⟨rfl, rfl, rfl⟩
        case round =>
          obtain ⟨rfl, rfl, rfl⟩ := hrel
          go_wp2_with fail
          refine (of_any _ A _ n cap 0 0 Bd V hn' hcap (by omega) (by omega) (HM.out.grow HG.out) MemAt.none_ HV.out).mono ?_
          rintro e w9 ⟨hg, ⟨hno, _⟩ | ⟨_, h9, A9, cap9, c9, rfl, hst⟩⟩
          · exact absurd HYES.out hno
          replace HG := Lib.hid (HG.out.trans hg)
          replace HH := Lib.hid (HSt.grow HH.out hg)
          have HS9 := Lib.hid hst
          clear hg hst
          go_wp2_with fail
          refine (alike_any w9 _ h A2 n cap2 Bd c _ _ h9 A9 cap9 Bd c9 _ 0 _ _ _ (by omega) HH.out HS9.out (fun _ => rfl)).mono ?_
          rintro e w10 ⟨rfl, hg⟩
          replace HG := Lib.hid (HG.out.trans hg)
          replace HH := Lib.hid (HSt.grow HH.out hg)
          clear hg HS9
          go_wp2_with fail
          refine (of_any _ A _ n cap 0 0 Bd V hn' hcap (by omega) (by omega) (HM.out.grow HG.out) MemAt.none_ HV.out).mono ?_
          rintro e w11 ⟨hg, ⟨hno, _⟩ | ⟨_, h11, A11, cap11, c11, rfl, hst⟩⟩
          · exact absurd HYES.out hno
          replace HG := Lib.hid (HG.out.trans hg)
          replace HH := Lib.hid (HSt.grow HH.out hg)
          have HS11 := Lib.hid hst
          clear hg hst
          go_wp2_with fail
          refine (alike_any w11 _ h A2 n cap2 Bd c _ _ h11 A11 cap11 Bd c11 _ 0 _ _ _ (by omega) HH.out HS11.out (fun _ => rfl)).mono ?_
          rintro e w12 ⟨rfl, hg⟩
          replace HG := Lib.hid (HG.out.trans hg)
          clear hg
          go_wp2
          go_ret
          exact ⟨rfl, HG.out⟩
end Go.Proofs.Ytpemmjaengbogaa
