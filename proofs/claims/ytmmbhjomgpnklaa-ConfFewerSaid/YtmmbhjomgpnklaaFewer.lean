/- ConfFewer: the walk. -/
import Derived.Test.YtmmbhjomgpnklaaAwake
import Derived.Test.YtmmbhjomgpnklaaGreatB
import Derived.Test.YtmmbhjomgpnklaaPlain
namespace Go.Proofs.Ytmmbhjomgpnklaa
open Go.RowKit
set_option linter.unusedVariables false
set_option linter.unusedSimpArgs false
set_option maxRecDepth 100000
attribute [local simp] RelKnown Is
attribute [local irreducible] sysP
theorem ConfV.less {w : World} {tv lv sv qv mv : Value} {X : Cf} (h : ConfV w tv lv sv qv mv X) (TA : Option Addr) (tc : Nat) (LA : Option Addr) (lc n l : Nat) (hn : n ≤ X.tn) (hl : l ≤ X.ln) (e1 : tv = .slice TA X.tn tc := by rfl) (e2 : lv = .slice LA X.ln lc := by rfl) : ConfV w (.slice TA n tc) (.slice LA l lc) sv qv mv { X with tn := n, ln := l } := by
  obtain ⟨⟨A1, p1, c1, h1, hp1, t1, t2⟩, ⟨A2, p2, c2, h2, hp2, l1, l2⟩, hs, hq, hm⟩ := h
  subst e1 e2
  injection h1 with h1 _ h3
  injection h2 with h2 _ h4
  subst h1 h2 h3 h4
  exact ⟨⟨_, _, c1, rfl, Nat.le_trans hn hp1, t1.less hn, fun j hj => t2 j (Nat.lt_of_lt_of_le hj hn)⟩, ⟨_, _, c2, rfl, Nat.le_trans hl hp2, l1.less hl, fun j hj => l2 j (Nat.lt_of_lt_of_le hj hl)⟩, hs, hq, hm⟩
theorem map_add0 : ∀ A : Option Addr, Option.map (fun x => x.add 0) A = A := fun A => by
  cases A <;> rfl
theorem wrap_pred {n : Nat} (h : 0 < n) (h2 : n ≤ 70) : wrap64 ((n : Int) - 1) = ((n - 1 : Nat) : Int) := by
  unfold wrap64; omega
theorem field33 (e p i a : Int) (w : World) : Sem.run Try.prog (Instr.field 33 (.agg #[.int .i64 e, .int .i64 p, .int .i64 i, .int .i64 a]) 0) w = .ok (.int .i64 e) w := by kernel_rfl
set_option maxHeartbeats 8000000 in
theorem confFewer_walk (w : World) {tv lv sv qv mv : Value} {X : Cf} (hV : ConfV w tv lv sv qv mv X) : Calls Try.prog 6 #[.agg (cfC tv lv sv qv mv X)] w fun e w' => e = .returned (.bool true) ∧ Grow w w' := by
  go_enter Try.func6, Try.ntmps6
  go_wp2_with fail
  have hX : (w.alloc (.cells (cfC tv lv sv qv mv X) 28)).heap[w.heap.size]? = some (.cells (cfC tv lv sv qv mv X) 28 (0, 0)) := heapAt_alloc_new w _
  have hG : Grow w (w.alloc (.cells (cfC tv lv sv qv mv X) 28)) := Grow.alloc _ _
  generalize w.alloc (.cells (cfC tv lv sv qv mv X) 28) = w1 at hX hG ⊢
  have HV := Lib.hid (hV.grow hG); clear hV
  have HX := Lib.hid hX; clear hX
  have HG := Lib.hid hG; clear hG
  refine (awake_any _).mono ?_
  rintro _ w2 ⟨rfl, hg⟩
  have G1 := Lib.hid hg; clear hg
  go_wp2_with (first | ((with_reducible refine wpList_load_blk_g 28 _ rfl w.heap.size 28 (cfC tv lv sv qv mv X) _ ?_ ?_ (G1.out.at HX.out) Try.underlying28 rfl (info28s _ _ _ _ _ X) ?_); (· rfl); (· rfl)))
  by_cases hm : Mid X
  · refine (greatX_any (X := X) _ (HV.out.grow G1.out) false ⟨fun _ => hm, fun _ => rfl⟩).mono ?_
    rintro _ w3 ⟨rfl, hg⟩
    have HSX := Lib.hid hm.small; clear hm
    have HSN := Lib.hid (show (X.sn : Int) ≤ 1000000 by have := HSX.out.s; omega)
    have G2 := Lib.hid (G1.out.trans hg); clear hg
    go_wp2_with (first | ((with_reducible refine wpList_load_blk_g 28 _ rfl w.heap.size 28 (cfC tv lv sv qv mv X) _ ?_ ?_ (G2.out.at HX.out) Try.underlying28 rfl (info28s _ _ _ _ _ X) ?_); (· rfl); (· rfl)))
    refine (checkV_any (X := X) _ (HV.out.grow G2.out) HSN.out).mono ?_
    rintro _ w4 ⟨rfl, hg⟩
    have G3 := Lib.hid (G2.out.trans hg); clear hg
    obtain ⟨fe, fp, fi, fa, hs⟩ : ∃ e p i a, sysP X = ⟨e, p, i, a⟩ := ⟨_, _, _, _, rfl⟩
    rw [hs]
    dsimp only [faultC]
    have hfd := field33 fe fp fi fa w4
    by_cases hz : fe = 0
    · have HE := Lib.hid (show (sysP X).e = 0 by rw [hs]; exact hz)
      clear hs
      subst hz
      go_wp2_with (first | ((with_reducible refine wpList_load_blk_g 28 _ rfl w.heap.size 28 (cfC tv lv sv qv mv X) _ ?_ ?_ (G3.out.at HX.out) Try.underlying28 rfl (info28s _ _ _ _ _ X) ?_); (· rfl); (· rfl)))
      refine (copyV_any (X := X) _ (HV.out.grow G3.out) HSX.out).mono ?_
      rintro _ w5 ⟨tv1, lv1, sv1, qv1, mv1, rfl, hown, hg⟩
      have HO := Lib.hid hown; clear hown
      have G4 := Lib.hid (G3.out.trans hg); clear hg
      have HON := Lib.hid (HO.out.parts.ones28)
      have HFE := Lib.hid (Grow.alloc w5 (.cells #[.slice none 0 0, .slice none 0 0, .int .i64 0, .slice none 0 0, .slice none 0 0, .slice none 0 0, .int .i64 0, .int .u32 0, .int .u32 0, .int .i64 0, .int .u64 0, .int .u64 0] 28))
      by_cases ht : 0 < X.tn
      · have ht2 : (0 : Int) < X.tn := by omega
        by_cases hl : 0 < X.ln
        · have hl2 : (0 : Int) < X.ln := by omega
          by_cases hm0 : X.mask = 0
          · have hm1 : (X.mask.toNat : Int) = 0 := by rw [hm0]; rfl
            have hadd := @map_add0
            go_wp2_with (first
              | ((with_reducible refine wpList_store_blk rfl 28 _ _ rfl w5.heap.size 28 _ (cfC tv1 lv1 sv1 qv1 mv1 X) ?_ ?_ (heapAt_alloc_new w5 _) ?_ (info28s _ _ _ _ _ X) HON.out ?_); (· rfl); (· rfl); (· rfl); intro wb hb0 ho0; have HFB := Lib.hid (HFE.out.only ho0 (Nat.le_refl _)); have HVb := HO.out.parts.reads.grow HFB.out; obtain ⟨⟨TA, tc, tcv, rfl, htc, hT, hTC⟩, ⟨LA, lc, lcv, rfl, hlc, hL, hLC⟩, hSS, hQQ, hMM⟩ := HVb; have HT := Lib.hid hT; have HTC := Lib.hid hTC; have HL := Lib.hid hL; have HLC := Lib.hid hLC; have HSS := Lib.hid hSS; have HQQ := Lib.hid hQQ; have HMM := Lib.hid hMM; clear hT hTC hL hLC hSS hQQ hMM; have b0 := cell_block hb0 0; have b1 := cell_block hb0 1; have b7 := cell_block hb0 7; simp at b0 b1 b7; have HB0 := Lib.hid hb0; clear hb0 ho0; have htc2 : (X.tn : Int) ≤ tc := (by omega); have hlc2 : (X.ln : Int) ≤ lc := (by omega); have htc0 : ¬ tc = 0 := (by omega); have htc3 : ((X.tn - 1 : Nat) : Int) ≤ tc := (by omega); have hwt : wrap64 ((X.tn : Int) - 1) = ((X.tn - 1 : Nat) : Int) := wrap_pred ht HSX.out.t; have hlc0 : ¬ lc = 0 := (by omega); have hlc3 : ((X.ln - 1 : Nat) : Int) ≤ lc := (by omega); have hwl : wrap64 ((X.ln : Int) - 1) = ((X.ln - 1 : Nat) : Int) := wrap_pred hl (Nat.le_trans HSX.out.l (by decide)))
              | ((with_reducible refine store_in rfl 22 _ _ rfl w5.heap.size 0 28 _ (cfC (.slice TA (X.tn - 1) tc) (.slice LA X.ln lc) sv1 qv1 mv1 X) (.slice TA (X.tn - 1) tc) info22s HB0.out rfl ?_ ?_ ?_ ?_ ?_); (· rfl); (· rfl); (· simp); (· rfl); intro wc hwc hbc hoc; have b1 := cell_block hbc 1; have b7 := cell_block hbc 7; simp at b1 b7; have HBC := Lib.hid hbc; have HOC := Lib.hid hoc; clear hwc hbc hoc)
              | ((with_reducible refine store_in rfl 23 _ _ rfl w5.heap.size 1 28 _ (cfC (.slice TA (X.tn - 1) tc) (.slice LA (X.ln - 1) lc) sv1 qv1 mv1 X) (.slice LA (X.ln - 1) lc) info23s HBC.out rfl ?_ ?_ ?_ ?_ ?_); (· rfl); (· rfl); (· simp); (· rfl); intro wd hwd hbd hod; have HBD := Lib.hid hbd; have HOD := Lib.hid hod; clear hwd hbd hod)
              | ((with_reducible refine wpList_load_blk_g 28 _ rfl w5.heap.size 28 (cfC (.slice TA (X.tn - 1) tc) (.slice LA (X.ln - 1) lc) sv1 qv1 mv1 X) _ ?_ ?_ (HBD.out) Try.underlying28 rfl (info28s _ _ _ _ _ X) ?_); (· rfl); (· rfl)))
            have HGF := Lib.hid ((HFB.out.only HOC.out (Nat.le_refl _)).only HOD.out (Nat.le_refl _))
            have HVF := Lib.hid (show ConfV wd (.slice TA (X.tn - 1) tc) (.slice LA (X.ln - 1) lc) sv1 qv1 mv1 { X with tn := (X.tn - 1), ln := (X.ln - 1) } from (HO.out.parts.reads.grow HGF.out).less TA tc LA lc _ _ (by omega) (by omega))
            refine (checkV_any (X := { X with tn := (X.tn - 1), ln := (X.ln - 1) }) _ HVF.out HSN.out).mono ?_
            rintro _ w7 ⟨rfl, hg⟩
            rw [fewer_ok HE.out (n := (X.tn - 1)) (l := (X.ln - 1)) (by omega) (by omega) (.inr hm0)]
            dsimp only [faultC, okF]
            have G9 := Lib.hid ((G4.out.trans HGF.out).trans hg); clear hg
            go_wp2
            go_ret
            exact ⟨rfl, HG.out.trans G9.out⟩
          · have hm1 : ¬ (X.mask.toNat : Int) = 0 := fun h => hm0 (BitVec.eq_of_toNat_eq (by simpa using (by omega : X.mask.toNat = 0)))
            have hadd := @map_add0
            go_wp2_with (first
              | ((with_reducible refine wpList_store_blk rfl 28 _ _ rfl w5.heap.size 28 _ (cfC tv1 lv1 sv1 qv1 mv1 X) ?_ ?_ (heapAt_alloc_new w5 _) ?_ (info28s _ _ _ _ _ X) HON.out ?_); (· rfl); (· rfl); (· rfl); intro wb hb0 ho0; have HFB := Lib.hid (HFE.out.only ho0 (Nat.le_refl _)); have HVb := HO.out.parts.reads.grow HFB.out; obtain ⟨⟨TA, tc, tcv, rfl, htc, hT, hTC⟩, ⟨LA, lc, lcv, rfl, hlc, hL, hLC⟩, hSS, hQQ, hMM⟩ := HVb; have HT := Lib.hid hT; have HTC := Lib.hid hTC; have HL := Lib.hid hL; have HLC := Lib.hid hLC; have HSS := Lib.hid hSS; have HQQ := Lib.hid hQQ; have HMM := Lib.hid hMM; clear hT hTC hL hLC hSS hQQ hMM; have b0 := cell_block hb0 0; have b1 := cell_block hb0 1; have b7 := cell_block hb0 7; simp at b0 b1 b7; have HB0 := Lib.hid hb0; clear hb0 ho0; have htc2 : (X.tn : Int) ≤ tc := (by omega); have hlc2 : (X.ln : Int) ≤ lc := (by omega); have htc0 : ¬ tc = 0 := (by omega); have htc3 : ((X.tn - 1 : Nat) : Int) ≤ tc := (by omega); have hwt : wrap64 ((X.tn : Int) - 1) = ((X.tn - 1 : Nat) : Int) := wrap_pred ht HSX.out.t)
              | ((with_reducible refine store_in rfl 22 _ _ rfl w5.heap.size 0 28 _ (cfC (.slice TA (X.tn - 1) tc) (.slice LA X.ln lc) sv1 qv1 mv1 X) (.slice TA (X.tn - 1) tc) info22s HB0.out rfl ?_ ?_ ?_ ?_ ?_); (· rfl); (· rfl); (· simp); (· rfl); intro wc hwc hbc hoc; have b1 := cell_block hbc 1; have b7 := cell_block hbc 7; simp at b1 b7; have HBC := Lib.hid hbc; have HOC := Lib.hid hoc; clear hwc hbc hoc)
              | ((with_reducible refine wpList_load_blk_g 28 _ rfl w5.heap.size 28 (cfC (.slice TA (X.tn - 1) tc) (.slice LA X.ln lc) sv1 qv1 mv1 X) _ ?_ ?_ (HBC.out) Try.underlying28 rfl (info28s _ _ _ _ _ X) ?_); (· rfl); (· rfl)))
            have HGF := Lib.hid (HFB.out.only HOC.out (Nat.le_refl _))
            have HVF := Lib.hid (show ConfV wc (.slice TA (X.tn - 1) tc) (.slice LA X.ln lc) sv1 qv1 mv1 { X with tn := (X.tn - 1), ln := X.ln } from (HO.out.parts.reads.grow HGF.out).less TA tc LA lc _ _ (by omega) (by omega))
            refine (checkV_any (X := { X with tn := (X.tn - 1), ln := X.ln }) _ HVF.out HSN.out).mono ?_
            rintro _ w7 ⟨rfl, hg⟩
            rw [fewer_ok HE.out (n := (X.tn - 1)) (l := X.ln) (by omega) (by omega) (.inl rfl)]
            dsimp only [faultC, okF]
            have G9 := Lib.hid ((G4.out.trans HGF.out).trans hg); clear hg
            go_wp2
            go_ret
            exact ⟨rfl, HG.out.trans G9.out⟩
        · have hl2 : ¬ (0 : Int) < X.ln := by omega
          have hadd := @map_add0
          go_wp2_with (first
            | ((with_reducible refine wpList_store_blk rfl 28 _ _ rfl w5.heap.size 28 _ (cfC tv1 lv1 sv1 qv1 mv1 X) ?_ ?_ (heapAt_alloc_new w5 _) ?_ (info28s _ _ _ _ _ X) HON.out ?_); (· rfl); (· rfl); (· rfl); intro wb hb0 ho0; have HFB := Lib.hid (HFE.out.only ho0 (Nat.le_refl _)); have HVb := HO.out.parts.reads.grow HFB.out; obtain ⟨⟨TA, tc, tcv, rfl, htc, hT, hTC⟩, ⟨LA, lc, lcv, rfl, hlc, hL, hLC⟩, hSS, hQQ, hMM⟩ := HVb; have HT := Lib.hid hT; have HTC := Lib.hid hTC; have HL := Lib.hid hL; have HLC := Lib.hid hLC; have HSS := Lib.hid hSS; have HQQ := Lib.hid hQQ; have HMM := Lib.hid hMM; clear hT hTC hL hLC hSS hQQ hMM; have b0 := cell_block hb0 0; have b1 := cell_block hb0 1; have b7 := cell_block hb0 7; simp at b0 b1 b7; have HB0 := Lib.hid hb0; clear hb0 ho0; have htc2 : (X.tn : Int) ≤ tc := (by omega); have hlc2 : (X.ln : Int) ≤ lc := (by omega); have htc0 : ¬ tc = 0 := (by omega); have htc3 : ((X.tn - 1 : Nat) : Int) ≤ tc := (by omega); have hwt : wrap64 ((X.tn : Int) - 1) = ((X.tn - 1 : Nat) : Int) := wrap_pred ht HSX.out.t)
            | ((with_reducible refine store_in rfl 22 _ _ rfl w5.heap.size 0 28 _ (cfC (.slice TA (X.tn - 1) tc) (.slice LA X.ln lc) sv1 qv1 mv1 X) (.slice TA (X.tn - 1) tc) info22s HB0.out rfl ?_ ?_ ?_ ?_ ?_); (· rfl); (· rfl); (· simp); (· rfl); intro wc hwc hbc hoc; have b1 := cell_block hbc 1; have b7 := cell_block hbc 7; simp at b1 b7; have HBC := Lib.hid hbc; have HOC := Lib.hid hoc; clear hwc hbc hoc)
            | ((with_reducible refine wpList_load_blk_g 28 _ rfl w5.heap.size 28 (cfC (.slice TA (X.tn - 1) tc) (.slice LA X.ln lc) sv1 qv1 mv1 X) _ ?_ ?_ (HBC.out) Try.underlying28 rfl (info28s _ _ _ _ _ X) ?_); (· rfl); (· rfl)))
          have HGF := Lib.hid (HFB.out.only HOC.out (Nat.le_refl _))
          have HVF := Lib.hid (show ConfV wc (.slice TA (X.tn - 1) tc) (.slice LA X.ln lc) sv1 qv1 mv1 { X with tn := (X.tn - 1), ln := X.ln } from (HO.out.parts.reads.grow HGF.out).less TA tc LA lc _ _ (by omega) (by omega))
          refine (checkV_any (X := { X with tn := (X.tn - 1), ln := X.ln }) _ HVF.out HSN.out).mono ?_
          rintro _ w7 ⟨rfl, hg⟩
          rw [fewer_ok HE.out (n := (X.tn - 1)) (l := X.ln) (by omega) (by omega) (.inl rfl)]
          dsimp only [faultC, okF]
          have G9 := Lib.hid ((G4.out.trans HGF.out).trans hg); clear hg
          go_wp2
          go_ret
          exact ⟨rfl, HG.out.trans G9.out⟩
      · have ht2 : ¬ (0 : Int) < X.tn := by omega
        by_cases hl : 0 < X.ln
        · have hl2 : (0 : Int) < X.ln := by omega
          by_cases hm0 : X.mask = 0
          · have hm1 : (X.mask.toNat : Int) = 0 := by rw [hm0]; rfl
            have hadd := @map_add0
            go_wp2_with (first
              | ((with_reducible refine wpList_store_blk rfl 28 _ _ rfl w5.heap.size 28 _ (cfC tv1 lv1 sv1 qv1 mv1 X) ?_ ?_ (heapAt_alloc_new w5 _) ?_ (info28s _ _ _ _ _ X) HON.out ?_); (· rfl); (· rfl); (· rfl); intro wb hb0 ho0; have HFB := Lib.hid (HFE.out.only ho0 (Nat.le_refl _)); have HVb := HO.out.parts.reads.grow HFB.out; obtain ⟨⟨TA, tc, tcv, rfl, htc, hT, hTC⟩, ⟨LA, lc, lcv, rfl, hlc, hL, hLC⟩, hSS, hQQ, hMM⟩ := HVb; have HT := Lib.hid hT; have HTC := Lib.hid hTC; have HL := Lib.hid hL; have HLC := Lib.hid hLC; have HSS := Lib.hid hSS; have HQQ := Lib.hid hQQ; have HMM := Lib.hid hMM; clear hT hTC hL hLC hSS hQQ hMM; have b0 := cell_block hb0 0; have b1 := cell_block hb0 1; have b7 := cell_block hb0 7; simp at b0 b1 b7; have HB0 := Lib.hid hb0; clear hb0 ho0; have htc2 : (X.tn : Int) ≤ tc := (by omega); have hlc2 : (X.ln : Int) ≤ lc := (by omega); have hlc0 : ¬ lc = 0 := (by omega); have hlc3 : ((X.ln - 1 : Nat) : Int) ≤ lc := (by omega); have hwl : wrap64 ((X.ln : Int) - 1) = ((X.ln - 1 : Nat) : Int) := wrap_pred hl (Nat.le_trans HSX.out.l (by decide)))
              | ((with_reducible refine store_in rfl 23 _ _ rfl w5.heap.size 1 28 _ (cfC (.slice TA X.tn tc) (.slice LA (X.ln - 1) lc) sv1 qv1 mv1 X) (.slice LA (X.ln - 1) lc) info23s HB0.out rfl ?_ ?_ ?_ ?_ ?_); (· rfl); (· rfl); (· simp); (· rfl); intro wd hwd hbd hod; have HBD := Lib.hid hbd; have HOD := Lib.hid hod; clear hwd hbd hod)
              | ((with_reducible refine wpList_load_blk_g 28 _ rfl w5.heap.size 28 (cfC (.slice TA X.tn tc) (.slice LA (X.ln - 1) lc) sv1 qv1 mv1 X) _ ?_ ?_ (HBD.out) Try.underlying28 rfl (info28s _ _ _ _ _ X) ?_); (· rfl); (· rfl)))
            have HGF := Lib.hid (HFB.out.only HOD.out (Nat.le_refl _))
            have HVF := Lib.hid (show ConfV wd (.slice TA X.tn tc) (.slice LA (X.ln - 1) lc) sv1 qv1 mv1 { X with tn := X.tn, ln := (X.ln - 1) } from (HO.out.parts.reads.grow HGF.out).less TA tc LA lc _ _ (by omega) (by omega))
            refine (checkV_any (X := { X with tn := X.tn, ln := (X.ln - 1) }) _ HVF.out HSN.out).mono ?_
            rintro _ w7 ⟨rfl, hg⟩
            rw [fewer_ok HE.out (n := X.tn) (l := (X.ln - 1)) (by omega) (by omega) (.inr hm0)]
            dsimp only [faultC, okF]
            have G9 := Lib.hid ((G4.out.trans HGF.out).trans hg); clear hg
            go_wp2
            go_ret
            exact ⟨rfl, HG.out.trans G9.out⟩
          · have hm1 : ¬ (X.mask.toNat : Int) = 0 := fun h => hm0 (BitVec.eq_of_toNat_eq (by simpa using (by omega : X.mask.toNat = 0)))
            have hadd := @map_add0
            go_wp2_with (first
              | ((with_reducible refine wpList_store_blk rfl 28 _ _ rfl w5.heap.size 28 _ (cfC tv1 lv1 sv1 qv1 mv1 X) ?_ ?_ (heapAt_alloc_new w5 _) ?_ (info28s _ _ _ _ _ X) HON.out ?_); (· rfl); (· rfl); (· rfl); intro wb hb0 ho0; have HFB := Lib.hid (HFE.out.only ho0 (Nat.le_refl _)); have HVb := HO.out.parts.reads.grow HFB.out; obtain ⟨⟨TA, tc, tcv, rfl, htc, hT, hTC⟩, ⟨LA, lc, lcv, rfl, hlc, hL, hLC⟩, hSS, hQQ, hMM⟩ := HVb; have HT := Lib.hid hT; have HTC := Lib.hid hTC; have HL := Lib.hid hL; have HLC := Lib.hid hLC; have HSS := Lib.hid hSS; have HQQ := Lib.hid hQQ; have HMM := Lib.hid hMM; clear hT hTC hL hLC hSS hQQ hMM; have b0 := cell_block hb0 0; have b1 := cell_block hb0 1; have b7 := cell_block hb0 7; simp at b0 b1 b7; have HB0 := Lib.hid hb0; clear hb0 ho0; have htc2 : (X.tn : Int) ≤ tc := (by omega); have hlc2 : (X.ln : Int) ≤ lc := (by omega))
              | ((with_reducible refine wpList_load_blk_g 28 _ rfl w5.heap.size 28 (cfC (.slice TA X.tn tc) (.slice LA X.ln lc) sv1 qv1 mv1 X) _ ?_ ?_ (HB0.out) Try.underlying28 rfl (info28s _ _ _ _ _ X) ?_); (· rfl); (· rfl)))
            have HGF := Lib.hid HFB.out
            have HVF := Lib.hid (show ConfV wb (.slice TA X.tn tc) (.slice LA X.ln lc) sv1 qv1 mv1 { X with tn := X.tn, ln := X.ln } from (HO.out.parts.reads.grow HGF.out).less TA tc LA lc _ _ (by omega) (by omega))
            refine (checkV_any (X := { X with tn := X.tn, ln := X.ln }) _ HVF.out HSN.out).mono ?_
            rintro _ w7 ⟨rfl, hg⟩
            rw [fewer_ok HE.out (n := X.tn) (l := X.ln) (by omega) (by omega) (.inl rfl)]
            dsimp only [faultC, okF]
            have G9 := Lib.hid ((G4.out.trans HGF.out).trans hg); clear hg
            go_wp2
            go_ret
            exact ⟨rfl, HG.out.trans G9.out⟩
        · have hl2 : ¬ (0 : Int) < X.ln := by omega
          have hadd := @map_add0
          go_wp2_with (first
            | ((with_reducible refine wpList_store_blk rfl 28 _ _ rfl w5.heap.size 28 _ (cfC tv1 lv1 sv1 qv1 mv1 X) ?_ ?_ (heapAt_alloc_new w5 _) ?_ (info28s _ _ _ _ _ X) HON.out ?_); (· rfl); (· rfl); (· rfl); intro wb hb0 ho0; have HFB := Lib.hid (HFE.out.only ho0 (Nat.le_refl _)); have HVb := HO.out.parts.reads.grow HFB.out; obtain ⟨⟨TA, tc, tcv, rfl, htc, hT, hTC⟩, ⟨LA, lc, lcv, rfl, hlc, hL, hLC⟩, hSS, hQQ, hMM⟩ := HVb; have HT := Lib.hid hT; have HTC := Lib.hid hTC; have HL := Lib.hid hL; have HLC := Lib.hid hLC; have HSS := Lib.hid hSS; have HQQ := Lib.hid hQQ; have HMM := Lib.hid hMM; clear hT hTC hL hLC hSS hQQ hMM; have b0 := cell_block hb0 0; have b1 := cell_block hb0 1; have b7 := cell_block hb0 7; simp at b0 b1 b7; have HB0 := Lib.hid hb0; clear hb0 ho0; have htc2 : (X.tn : Int) ≤ tc := (by omega); have hlc2 : (X.ln : Int) ≤ lc := (by omega))
            | ((with_reducible refine wpList_load_blk_g 28 _ rfl w5.heap.size 28 (cfC (.slice TA X.tn tc) (.slice LA X.ln lc) sv1 qv1 mv1 X) _ ?_ ?_ (HB0.out) Try.underlying28 rfl (info28s _ _ _ _ _ X) ?_); (· rfl); (· rfl)))
          have HGF := Lib.hid HFB.out
          have HVF := Lib.hid (show ConfV wb (.slice TA X.tn tc) (.slice LA X.ln lc) sv1 qv1 mv1 { X with tn := X.tn, ln := X.ln } from (HO.out.parts.reads.grow HGF.out).less TA tc LA lc _ _ (by omega) (by omega))
          refine (checkV_any (X := { X with tn := X.tn, ln := X.ln }) _ HVF.out HSN.out).mono ?_
          rintro _ w7 ⟨rfl, hg⟩
          rw [fewer_ok HE.out (n := X.tn) (l := X.ln) (by omega) (by omega) (.inl rfl)]
          dsimp only [faultC, okF]
          have G9 := Lib.hid ((G4.out.trans HGF.out).trans hg); clear hg
          go_wp2
          go_ret
          exact ⟨rfl, HG.out.trans G9.out⟩
    · go_wp2_with fail
      go_wp2_with fail
      refine (awake_any _).mono ?_
      rintro _ w9 ⟨rfl, hg⟩
      have G9 := Lib.hid (G3.out.trans hg); clear hg
      go_wp2
      go_ret
      exact ⟨rfl, HG.out.trans G9.out⟩
  · refine (greatX_any (X := X) _ (HV.out.grow G1.out) true ⟨nofun, fun h => absurd h hm⟩).mono ?_
    rintro _ w3 ⟨rfl, hg⟩
    have G2 := Lib.hid (G1.out.trans hg); clear hg
    go_wp2_with fail
    refine (awake_any _).mono ?_
    rintro _ w9 ⟨rfl, hg⟩
    have G9 := Lib.hid (G2.out.trans hg); clear hg
    go_wp2
    go_ret
    exact ⟨rfl, HG.out.trans G9.out⟩
end Go.Proofs.Ytmmbhjomgpnklaa
