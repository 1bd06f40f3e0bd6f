/- ConfCopies: the walk. -/
import Derived.Test.YtmmbhjomgpnklaaAwake
import Derived.Test.YtmmbhjomgpnklaaGreatB
import Derived.Test.YtmmbhjomgpnklaaCs
import Derived.Deep.CutRange
namespace Go.Proofs.Ytmmbhjomgpnklaa
open Go.RowKit
set_option linter.unusedVariables false
set_option linter.unusedSimpArgs false
set_option maxRecDepth 100000
attribute [local simp] RelKnown Is
attribute [local irreducible] sysP
theorem copy_set {t t2 : Value} : t = t2 → t2 = t := Eq.symm
set_option maxHeartbeats 16000000 in
theorem confCopies_walk (w : World) {tv0 lv0 sv0 qv0 mv0 : Value} {X : Cf} (i k : Int) (hV : ConfV w tv0 lv0 sv0 qv0 mv0 X) : Calls Try.prog 4 #[.agg (cfC tv0 lv0 sv0 qv0 mv0 X), .int .i64 i, .int .i64 k] w fun e w' => e = .returned (.bool true) ∧ Grow w w' := by
  go_enter Try.func4, Try.ntmps4
  go_wp2_with fail
  have hX : (w.alloc (.cells (cfC tv0 lv0 sv0 qv0 mv0 X) 28)).heap[w.heap.size]? = some (.cells (cfC tv0 lv0 sv0 qv0 mv0 X) 28 (0, 0)) := heapAt_alloc_new w _
  have hG : Grow w (w.alloc (.cells (cfC tv0 lv0 sv0 qv0 mv0 X) 28)) := Grow.alloc _ _
  generalize w.alloc (.cells (cfC tv0 lv0 sv0 qv0 mv0 X) 28) = w1 at hX hG ⊢
  have HV := Lib.hid (hV.grow hG); clear hV
  have HX := Lib.hid hX; clear hX
  have HG := Lib.hid hG; clear hG
  refine (awake_any _).mono ?_
  rintro _ w2 ⟨rfl, hg⟩
  have G1 := Lib.hid hg; clear hg
  go_wp2_with (first | ((with_reducible refine wpList_load_blk_g 28 _ rfl w.heap.size 28 (cfC tv0 lv0 sv0 qv0 mv0 X) _ ?_ ?_ (G1.out.at HX.out) Try.underlying28 rfl (info28s _ _ _ _ _ X) ?_); (· rfl); (· rfl)))
  by_cases hm : Mid X
  · refine (greatX_any (X := X) _ (HV.out.grow G1.out) false ⟨fun _ => hm, fun _ => rfl⟩).mono ?_
    rintro _ w3 ⟨rfl, hg⟩
    have HSM := Lib.hid hm.small; clear hm
    have G2 := Lib.hid (G1.out.trans hg); clear hg
    have HX3 := Lib.hid (G2.out.at HX.out)
    have HV3 := Lib.hid (HV.out.grow G2.out)
    go_wp2_with fail
    refine wp_region_rel_tail 6 _ Grow (fun a wQ => Grow w3 wQ ∧ Sets (OkS X [7, 8]) w3.heap.size [18, 20, 7, 8] a wQ) [([(3, none)], none), ([(17, some 0)], none), ([(3, none)], none), ([(19, some 0)], none), ([], none), ([], none)] (by kernel_rfl) (by kernel_rfl) (by kernel_rfl) ⟨Grow.drewN w3 1, (show Sets (OkS X [7, 8]) ({ w3 with drawn := w3.drawn + 1 } : World).heap.size [18, 20, 7, 8] _ _ from Sets.first _ _ _ ?sz ?init)⟩ ?_
    case sz =>
      intro i hi
      simp at hi
      rcases hi with rfl | rfl | rfl | rfl
      · exact (by decide : (18 : Nat) < 143)
      · exact (by decide : (20 : Nat) < 143)
      · exact (by decide : (7 : Nat) < 143)
      · exact (by decide : (8 : Nat) < 143)
    case init =>
      intro i hi
      simp at hi
      rcases hi with rfl | rfl | rfl | rfl <;> exact .inl rfl
    refine relT_pure ⟨.agg (cfC tv0 lv0 sv0 qv0 mv0 X), fun a wQ hF hk => relT_none fun K hK => wp_load_row 28 (.tmp 3) (by rfl) w.heap.size (by exact hk.1) 28 _ (0, 0) _ (hF.1.at HX3.out) Try.underlying28 rfl (info28s _ _ _ _ _ X) (hK _ _ (Grow.refl _) ⟨hF.1, hF.2.skip (Nat.le_refl _) 17 (by decide) _ (OkS.grow (Grow.refl _))⟩ rfl), ?_⟩
    refine relT_some (fun v wv => ∃ tv lv sv qv mv, v = .agg (cfC tv lv sv qv mv X)) (fun _ _ _ _ h => h) (fun a wQ hF hk => relT_none fun K hK => ?_) ?_
    · (try simp at hk)
      go_simp
      refine (copyV_any wQ (HV3.out.grow hF.1) HSM.out).mono ?_
      rintro e w' ⟨tv1, lv1, sv1, qv1, mv1, rfl, hown, hg⟩
      exact hK _ _ hg ⟨hF.1.trans hg, hF.2.put hg.size 18 _ (OkS.grow hg) (.inr (by rw [if_neg (by decide)]; exact ⟨_, _, _, _, _, rfl, hown.parts⟩))⟩ ⟨_, _, _, _, _, rfl⟩
    refine relT_pure ⟨.agg (cfC tv0 lv0 sv0 qv0 mv0 X), fun a wQ hF hk => relT_none fun K hK => wp_load_row 28 (.tmp 3) (by rfl) w.heap.size (by exact hk.1) 28 _ (0, 0) _ (hF.1.at HX3.out) Try.underlying28 rfl (info28s _ _ _ _ _ X) (hK _ _ (Grow.refl _) ⟨hF.1, hF.2.skip (Nat.le_refl _) 19 (by decide) _ (OkS.grow (Grow.refl _))⟩ rfl), ?_⟩
    refine relT_some (fun v wv => ∃ tv lv sv qv mv, v = .agg (cfC tv lv sv qv mv X)) (fun _ _ _ _ h => h) (fun a wQ hF hk => relT_none fun K hK => ?_) ?_
    · (try simp at hk)
      go_simp
      refine (copyV_any wQ (HV3.out.grow hF.1) HSM.out).mono ?_
      rintro e w' ⟨tv1, lv1, sv1, qv1, mv1, rfl, hown, hg⟩
      exact hK _ _ hg ⟨hF.1.trans hg, hF.2.put hg.size 20 _ (OkS.grow hg) (.inr (by rw [if_neg (by decide)]; exact ⟨_, _, _, _, _, rfl, hown.parts⟩))⟩ ⟨_, _, _, _, _, rfl⟩
    refine relT_some (fun v wv => ∃ g, v = .pointer (some ⟨g, 0, none⟩) ∧ wv.heap[g]? = some (.cells #[.slice none 0 0, .slice none 0 0, .int .i64 0, .slice none 0 0, .slice none 0 0, .slice none 0 0, .int .i64 0, .int .u32 0, .int .u32 0, .int .i64 0, .int .u64 0, .int .u64 0] 28 (0, 0))) (fun v w1 w2 hg ⟨g, h1, h2⟩ => ⟨g, h1, hg.at h2⟩) (fun a wQ hF hk => relT_none fun K hK => ?_) ?_
    · go_simp
      exact hK _ _ (Grow.alloc _ _) ⟨hF.1.trans (Grow.alloc _ _), hF.2.put (Grow.alloc _ _).size 7 _ (OkS.grow (Grow.alloc _ _)) (.inr (by rw [if_pos (by decide)]; exact ⟨_, rfl, by simp⟩))⟩ ⟨_, rfl, heapAt_alloc_new _ _⟩
    refine relT_some (fun v wv => ∃ g, v = .pointer (some ⟨g, 0, none⟩) ∧ wv.heap[g]? = some (.cells #[.slice none 0 0, .slice none 0 0, .int .i64 0, .slice none 0 0, .slice none 0 0, .slice none 0 0, .int .i64 0, .int .u32 0, .int .u32 0, .int .i64 0, .int .u64 0, .int .u64 0] 28 (0, 0))) (fun v w1 w2 hg ⟨g, h1, h2⟩ => ⟨g, h1, hg.at h2⟩) (fun a wQ hF hk => relT_none fun K hK => ?_) ?_
    · go_simp
      exact hK _ _ (Grow.alloc _ _) ⟨hF.1.trans (Grow.alloc _ _), hF.2.put (Grow.alloc _ _).size 8 _ (OkS.grow (Grow.alloc _ _)) (.inr (by rw [if_pos (by decide)]; exact ⟨_, rfl, by simp⟩))⟩ ⟨_, rfl, heapAt_alloc_new _ _⟩
    refine relT_done fun wR => ?_
    refine fun v hv => ?_; obtain rfl : v = _ := hv
    refine fun vd hvd => ?_
    refine fun v hv => ?_; obtain rfl : v = _ := hv
    refine fun ve hve => ?_
    refine fun bd hbd => ?_
    refine fun be hbe => ?_
    obtain ⟨tv, lv, sv, qv, mv, rfl⟩ := hvd
    obtain ⟨tv2, lv2, sv2, qv2, mv2, rfl⟩ := hve
    obtain ⟨gd, rfl, hgd⟩ := hbd
    obtain ⟨ge, rfl, hge⟩ := hbe
    simp only [Act.put, List.setIfInBounds_toArray, List.set_cons_zero, List.set_cons_succ]
    refine relT_nil fun hF => ?_
    simp only [List.drop_succ_cons, List.drop_zero]
    obtain ⟨P, Q, hP, hQ, hPl, hQl, hPQ, hPd, hPe, hQd, hQe, hde, hdl, hel⟩ := Sets.two hF.2 (by decide) (by decide) (by decide) (by decide) (by decide) (by decide) (by decide) (by decide) (tv := tv) (lv := lv) (sv := sv) (qv := qv) (mv := mv) (tv2 := tv2) (lv2 := lv2) (sv2 := sv2) (qv2 := qv2) (mv2 := mv2) (g1 := gd) (g2 := ge) rfl rfl rfl rfl
    have HP := Lib.hid hP; clear hP
    have HQ := Lib.hid hQ; clear hQ
    have HPl := Lib.hid hPl; clear hPl
    have HQl := Lib.hid hQl; clear hQl
    have HPQ := Lib.hid hPQ; clear hPQ
    have HPd := Lib.hid hPd; clear hPd
    have HPe := Lib.hid hPe; clear hPe
    have HQd := Lib.hid hQd; clear hQd
    have HQe := Lib.hid hQe; clear hQe
    have HDE := Lib.hid hde; clear hde
    have HDL := Lib.hid hdl; clear hdl
    have HEL := Lib.hid hel; clear hel
    have HGR := Lib.hid hF.1; clear hF
    have HGD := Lib.hid hgd; clear hgd
    have HGE := Lib.hid hge; clear hge
    refine wpList_store_blk rfl 28 (.tmp 7) (.tmp 18) rfl gd 28 _ (cfC tv lv sv qv mv X) rfl rfl HGD.out rfl (info28s _ _ _ _ _ X) (HP.out.ones28) ?_
    intro wS hb1 ho1
    refine wpList_store_blk rfl 28 (.tmp 8) (.tmp 20) rfl ge 28 _ (cfC tv2 lv2 sv2 qv2 mv2 X) rfl rfl (ho1.at (Ne.symm HDE.out) HGE.out) rfl (info28s _ _ _ _ _ X) (HQ.out.ones28) ?_
    intro wT hb2 ho2
    have HBd := Lib.hid (ho2.at HDE.out hb1)
    have HBe := Lib.hid hb2
    have HPT := Lib.hid ((HP.out.only ho1 HPd.out (fun g hg => (HPl.out g hg).2)).only ho2 HPe.out (fun g hg => Nat.lt_of_lt_of_le (HPl.out g hg).2 ho1.2.2.2.1))
    have HQT := Lib.hid ((HQ.out.only ho1 HQd.out (fun g hg => (HQl.out g hg).2)).only ho2 HQe.out (fun g hg => Nat.lt_of_lt_of_le (HQl.out g hg).2 ho1.2.2.2.1))
    have HPL := Lib.hid (show ∀ g, P g → w3.heap.size ≤ g ∧ g < wT.heap.size from fun g hg => ⟨(HPl.out g hg).1, Nat.lt_of_lt_of_le (HPl.out g hg).2 (Nat.le_trans ho1.2.2.2.1 ho2.2.2.2.1)⟩)
    have HQL := Lib.hid (show ∀ g, Q g → w3.heap.size ≤ g ∧ g < wT.heap.size from fun g hg => ⟨(HQl.out g hg).1, Nat.lt_of_lt_of_le (HQl.out g hg).2 (Nat.le_trans ho1.2.2.2.1 ho2.2.2.2.1)⟩)
    have HGT := Lib.hid ((HGR.out.only ho1 HDL.out).only ho2 HEL.out)
    clear HP HQ HPl HQl HGD HGE HGR hb1 hb2 ho1 ho2
    have HC := Lib.hid (show Cs P Q w1 wT w.heap.size gd ge (cfC tv0 lv0 sv0 qv0 mv0 X) tv lv sv qv mv tv2 lv2 sv2 qv2 mv2 X from
      ⟨G2.out.trans HGT.out, HGT.out.at HX3.out, HBd.out, HBe.out, HPT.out.any, HQT.out, fun g hg => ⟨Nat.le_trans G2.out.size (HPL.out g hg).1, (HPL.out g hg).2⟩, fun g hg => (HQL.out g hg).2⟩)
    have HVd := Lib.hid HPT.out.reads
    obtain ⟨⟨TA, tc, e1, htc, hta⟩, ⟨LA, lc, e2, hlc, hla⟩, ⟨SA, sc, e3, hsc, hsa⟩⟩ := HPT.out.any.forms
    subst e1 e2 e3
    have HTF := Lib.hid hta; clear hta
    have HLF := Lib.hid hla; clear hla
    have HSF := Lib.hid hsa; clear hsa
    have htc2 : (X.tn : Int) ≤ tc := by omega
    have hlc2 : (X.ln : Int) ≤ lc := by omega
    have hsc2 : (X.sn : Int) ≤ sc := by omega
    clear HPT HQT HBd HBe HPL HQL HGT HDE HDL HEL HPd HPe HQd HQe
    go_wp2_with (first | ((with_reducible refine wpList_load_blk_g 28 _ rfl w.heap.size 28 (cfC tv0 lv0 sv0 qv0 mv0 X) _ ?_ ?_ (HC.out.x) Try.underlying28 rfl (info28s _ _ _ _ _ X) ?_); (· rfl); (· rfl)) | ((with_reducible refine wpList_load_blk_g 28 _ rfl gd 28 (cfC (.slice TA X.tn tc) (.slice LA X.ln lc) (.slice SA X.sn sc) qv mv X) _ ?_ ?_ (HC.out.d) Try.underlying28 rfl (info28s _ _ _ _ _ X) ?_); (· rfl); (· rfl)))
    refine (refSameV_any (X := X) (Y := X) _ (HV.out.grow HC.out.grow) HVd.out HSM.out true ⟨fun _ => SameX.refl X, fun _ => rfl⟩).mono ?_
    rintro _ w5 ⟨rfl, hg⟩
    replace HVd := Lib.hid (HVd.out.grow hg)
    replace HC := Lib.hid (HC.out.call hg); clear hg
    go_wp2_with (first | ((with_reducible refine wpList_load_blk_g 28 _ rfl w.heap.size 28 (cfC tv0 lv0 sv0 qv0 mv0 X) _ ?_ ?_ (HC.out.x) Try.underlying28 rfl (info28s _ _ _ _ _ X) ?_); (· rfl); (· rfl)) | ((with_reducible refine wpList_load_blk_g 28 _ rfl gd 28 (cfC (.slice TA X.tn tc) (.slice LA X.ln lc) (.slice SA X.sn sc) qv mv X) _ ?_ ?_ (HC.out.d) Try.underlying28 rfl (info28s _ _ _ _ _ X) ?_); (· rfl); (· rfl)))
    refine (sameV_any (X := X) (Y := X) _ (HV.out.grow HC.out.grow) HVd.out HSM.out true ⟨fun _ => SameX.refl X, fun _ => rfl⟩).mono ?_
    rintro _ w6 ⟨rfl, hg⟩
    replace HC := Lib.hid (HC.out.call hg); clear hg HVd
    go_upto_region 6 with fail
    go_cut [39] from 31 to 39 (fun v wx => v = .bool (decide (0 ≤ i ∧ i < X.tn)) ∧ wx = w6)
    case first =>
      have d0 := cell_block HC.out.d 0; simp at d0
      by_cases h0 : i ≥ 0
      · by_cases h1 : i < (X.tn : Int)
        · go_wp2_with fail
          go_meet
          exact ⟨by rw [decide_eq_true (show 0 ≤ i ∧ i < (X.tn : Int) from ⟨by omega, by omega⟩)], rfl⟩
        · go_wp2_with fail
          go_meet
          exact ⟨by rw [decide_eq_false (show ¬ (0 ≤ i ∧ i < (X.tn : Int)) by omega)], rfl⟩
      · go_wp2_with fail
        go_meet
        exact ⟨by rw [decide_eq_false (show ¬ (0 ≤ i ∧ i < (X.tn : Int)) by omega)], rfl⟩
    case rest =>
      obtain ⟨rfl, rfl⟩ := hcut
      go_upto_if 39 with fail
      go_cut [] from 39 to 74 (fun wx => Cs P Q w1 wx w.heap.size gd ge (cfC tv0 lv0 sv0 qv0 mv0 X) (.slice TA X.tn tc) (.slice LA X.ln lc) (.slice SA X.sn sc) qv mv tv2 lv2 sv2 qv2 mv2 X)
      case first =>
        by_cases hin : 0 ≤ i ∧ i < (X.tn : Int)
        · rw [decide_eq_true hin]
          obtain ⟨ni, rfl⟩ := Int.eq_ofNat_of_zero_le hin.1
          have h1 : ni < X.tn := by omega
          clear hin
          have h0i : (0 : Int) ≤ ni := by omega
          have h1i : (ni : Int) < X.tn := by omega
          have h1t : (ni : Int) ≤ tc := by omega
          obtain ⟨b, rfl, hPb⟩ := HTF.out (by omega)
          obtain ⟨cur, lvl, CA, ca, hb, hsz, c0, c5, hca, hcode⟩ := HC.out.p.task_cells h1
          have HB := Lib.hid hb; clear hb
          have HCO := Lib.hid hcode; clear hcode
          have d0 := cell_block HC.out.d 0; simp at d0
          have hsz0 : ni * 6 < cur.size := by omega
          by_cases g0 : k ≥ 0
          · obtain ⟨nk, rfl⟩ := Int.eq_ofNat_of_zero_le g0
            by_cases g1 : nk < (X.T ni).cn
            · have g1i : (nk : Int) < (X.T ni).cn := by omega
              have g0i : (0 : Int) ≤ nk := by omega
              go_wp2_with (first
                | ((with_reducible refine store_in rfl 3 _ _ rfl b (ni * 6) 39 cur _ (.int .i64 (wrap64 (lvl + 1))) info3s HB.out rfl ?_ ?_ hsz0 rfl ?_); (· rfl); (· rfl); intro wa hwa hbwa howa; have HC1 := Lib.hid (HC.out.step HPQ.out hPb HB.out (by decide) howa (HC.out.p.level h1 rfl HB.out hbwa howa)); clear hwa hbwa howa; have d0 := cell_block HC1.out.d 0; simp at d0; obtain ⟨cur1, lvl1, CA1, ca1, hb1, hsz1, c01, c51, hca1, hcode1⟩ := HC1.out.p.task_cells h1; have HCO1 := Lib.hid hcode1; clear hb1 hcode1; obtain ⟨g, cur2, op, rfl, hPg, hb2, hsz2, e0⟩ := HCO1.out nk g1; have HB2 := Lib.hid hb2; clear hb2; have hsz3 : nk * 6 < cur2.size := (by omega); have hca2 : (nk : Int) ≤ ca1 := (by omega))
                | ((with_reducible refine store_in rfl 3 _ _ rfl g (nk * 6) 41 cur2 _ (.int .i64 (wrap64 (op + 1))) info3s HB2.out rfl ?_ ?_ hsz3 rfl ?_); (· rfl); (· rfl); intro wb hwb hbwb howb; have HC2 := Lib.hid (HC1.out.step HPQ.out hPg HB2.out (by decide) howb (HC1.out.p.code (r := 0) (by decide) (ins_set0 _) HB2.out hbwb howb)); clear hwb hbwb howb))
              go_meet
              exact HC2.out
            · have g1i : ¬ (nk : Int) < (X.T ni).cn := by omega
              go_wp2_with (first
                | ((with_reducible refine store_in rfl 3 _ _ rfl b (ni * 6) 39 cur _ (.int .i64 (wrap64 (lvl + 1))) info3s HB.out rfl ?_ ?_ hsz0 rfl ?_); (· rfl); (· rfl); intro wa hwa hbwa howa; have HC1 := Lib.hid (HC.out.step HPQ.out hPb HB.out (by decide) howa (HC.out.p.level h1 rfl HB.out hbwa howa)); clear hwa hbwa howa; have d0 := cell_block HC1.out.d 0; simp at d0; obtain ⟨cur1, lvl1, CA1, ca1, hb1, hsz1, c01, c51, hca1, hcode1⟩ := HC1.out.p.task_cells h1; have HCO1 := Lib.hid hcode1; clear hb1 hcode1))
              go_meet
              exact HC1.out
          · go_wp2_with (first
              | ((with_reducible refine store_in rfl 3 _ _ rfl b (ni * 6) 39 cur _ (.int .i64 (wrap64 (lvl + 1))) info3s HB.out rfl ?_ ?_ hsz0 rfl ?_); (· rfl); (· rfl); intro wa hwa hbwa howa; have HC1 := Lib.hid (HC.out.step HPQ.out hPb HB.out (by decide) howa (HC.out.p.level h1 rfl HB.out hbwa howa)); clear hwa hbwa howa; have d0 := cell_block HC1.out.d 0; simp at d0; obtain ⟨cur1, lvl1, CA1, ca1, hb1, hsz1, c01, c51, hca1, hcode1⟩ := HC1.out.p.task_cells h1; have HCO1 := Lib.hid hcode1; clear hb1 hcode1))
            go_meet
            exact HC1.out
        · rw [decide_eq_false hin]
          go_wp2_with fail
          go_meet
          exact HC.out
      case rest =>
        replace HC := Lib.hid hcut; clear hcut
        go_upto_region 10 with fail
        go_cut [98] from 75 to 98 (fun v wx => v = .bool (decide (0 ≤ i ∧ i < (X.ln : Int) ∧ 0 ≤ k ∧ k < ((X.L i.toNat).cn : Int))) ∧ wx = wc)
        case first =>
          have d1 := cell_block HC.out.d 1; simp at d1
          by_cases h0 : i ≥ 0
          · by_cases h1 : i < (X.ln : Int)
            · by_cases g0 : k ≥ 0
              · obtain ⟨ni, rfl⟩ := Int.eq_ofNat_of_zero_le h0
                have h1n : ni < X.ln := by omega
                have h0i : (0 : Int) ≤ ni := by omega
                have h1t : (ni : Int) ≤ lc := by omega
                obtain ⟨b, rfl, hPb⟩ := HLF.out (by omega)
                obtain ⟨CA, ca, c5, hca, hcode⟩ := HC.out.p.line_cells h1n
                clear hcode
                by_cases g1 : k < ((X.L ni).cn : Int)
                · go_wp2_with fail
                  go_meet
                  exact ⟨by rw [decide_eq_true (show 0 ≤ (ni : Int) ∧ (ni : Int) < (X.ln : Int) ∧ 0 ≤ k ∧ k < ((X.L (ni : Int).toNat).cn : Int) from ⟨by omega, by omega, by omega, g1⟩)], rfl⟩
                · go_wp2_with fail
                  go_meet
                  exact ⟨by rw [decide_eq_false (show ¬ (0 ≤ (ni : Int) ∧ (ni : Int) < (X.ln : Int) ∧ 0 ≤ k ∧ k < ((X.L (ni : Int).toNat).cn : Int)) from fun h => by have h2 : k < ((X.L ni).cn : Int) := h.2.2.2; omega)], rfl⟩
              · go_wp2_with fail
                go_meet
                exact ⟨by rw [decide_eq_false (show ¬ (0 ≤ i ∧ i < (X.ln : Int) ∧ 0 ≤ k ∧ k < ((X.L i.toNat).cn : Int)) by omega)], rfl⟩
            · go_wp2_with fail
              go_meet
              exact ⟨by rw [decide_eq_false (show ¬ (0 ≤ i ∧ i < (X.ln : Int) ∧ 0 ≤ k ∧ k < ((X.L i.toNat).cn : Int)) by omega)], rfl⟩
          · go_wp2_with fail
            go_meet
            exact ⟨by rw [decide_eq_false (show ¬ (0 ≤ i ∧ i < (X.ln : Int) ∧ 0 ≤ k ∧ k < ((X.L i.toNat).cn : Int)) by omega)], rfl⟩
        case rest =>
          obtain ⟨rfl, rfl⟩ := hcut
          go_upto_if 98 with fail
          go_cut [] from 98 to 111 (fun wx => Cs P Q w1 wx w.heap.size gd ge (cfC tv0 lv0 sv0 qv0 mv0 X) (.slice TA X.tn tc) (.slice LA X.ln lc) (.slice SA X.sn sc) qv mv tv2 lv2 sv2 qv2 mv2 X)
          case first =>
            by_cases hin : 0 ≤ i ∧ i < (X.ln : Int) ∧ 0 ≤ k ∧ k < ((X.L i.toNat).cn : Int)
            · rw [decide_eq_true hin]
              obtain ⟨ni, rfl⟩ := Int.eq_ofNat_of_zero_le hin.1
              obtain ⟨nk, rfl⟩ := Int.eq_ofNat_of_zero_le hin.2.2.1
              have h1 : ni < X.ln := by omega
              have g1 : nk < (X.L ni).cn := by have h2 : (nk : Int) < ((X.L ni).cn : Int) := hin.2.2.2; omega
              clear hin
              have h0i : (0 : Int) ≤ ni := by omega
              have h1i : (ni : Int) < X.ln := by omega
              have h1t : (ni : Int) ≤ lc := by omega
              have g0i : (0 : Int) ≤ nk := by omega
              have g1i : (nk : Int) < (X.L ni).cn := by omega
              obtain ⟨b, rfl, hPb⟩ := HLF.out (by omega)
              obtain ⟨CA, ca, c5, hca, hcode⟩ := HC.out.p.line_cells h1
              obtain ⟨g, cur2, op, rfl, hPg, hb2, hsz2, e0⟩ := hcode nk g1
              clear hcode
              have HB2 := Lib.hid hb2; clear hb2
              have hsz3 : nk * 6 + 1 < cur2.size := by omega
              have hca2 : (nk : Int) ≤ ca := by omega
              have d1 := cell_block HC.out.d 1; simp at d1
              go_wp2_with (first
                | ((with_reducible refine store_in rfl 3 _ _ rfl g (nk * 6 + 1) 41 cur2 _ (.int .i64 (wrap64 (op + 1))) info3s HB2.out rfl ?_ ?_ hsz3 rfl ?_); (· rfl); (· rfl); intro wb hwb hbwb howb; have HC2 := Lib.hid (HC.out.step HPQ.out hPg HB2.out (by decide) howb (HC.out.p.code (r := 1) (by decide) (ins_set1 _) HB2.out hbwb howb)); clear hwb hbwb howb))
              go_meet
              exact HC2.out
            · rw [decide_eq_false hin]
              go_wp2_with fail
              go_meet
              exact HC.out
          case rest =>
            replace HC := Lib.hid hcut; clear hcut
            have d3 := cell_block HC.out.d 3; simp at d3
            go_wp2_with fail
            go_loopw [115] (fun x wr => ∃ n : Nat, n ≤ X.sn ∧ x = .int .i64 n ∧ Cs P Q w1 wr w.heap.size gd ge (cfC tv0 lv0 sv0 qv0 mv0 X) (.slice TA X.tn tc) (.slice LA X.ln lc) (.slice SA X.sn sc) qv mv tv2 lv2 sv2 qv2 mv2 X) (fun x _ => X.sn - (intOf x).toNat)
            case atStart => exact ⟨0, by omega, rfl, HC.out⟩
            case round =>
              obtain ⟨n, hn, rfl, hcr⟩ := hrel
              have HCr := Lib.hid hcr; clear hcr d3
              by_cases hlt : n < X.sn
              · have k40 : (X.sn : Int) ≤ 40 := by have := HSM.out.s; omega
                have k0 : (0 : Int) ≤ (n : Int) := by omega
                have kn : (n : Int) < (X.sn : Int) := by omega
                have kc : (n : Int) ≤ sc := by omega
                obtain ⟨b, rfl, hPb⟩ := HSF.out (by omega)
                obtain ⟨cur, z, hb, hsz, c0⟩ := HCr.out.p.sem_cells hlt
                have HB := Lib.hid hb; clear hb
                have d3 := cell_block HCr.out.d 3; simp at d3
                go_wp2_with (first
                  | ((with_reducible refine store_in rfl 3 _ _ rfl b (n) 3 cur _ (.int .i64 (wrap64 (z + 1))) info3s HB.out rfl ?_ ?_ hsz rfl ?_); (· rfl); (· rfl); intro wa hwa hbwa howa; have HC1 := Lib.hid (HCr.out.step HPQ.out hPb HB.out (by decide) howa (HCr.out.p.nums HB.out hbwa howa))))
                go_roundw
                case rel => exact ⟨n + 1, by omega, by go_num, HC1.out⟩
                case measure => simp [intOf]; omega
              · have kn : ¬ (n : Int) < (X.sn : Int) := by omega
                go_wp2_with fail
                obtain ⟨T', L', S', Q', M', hT', hL', hp'⟩ := HCr.out.p
                have HVd := Lib.hid hp'.reads
                obtain ⟨r, hr⟩ := same_dec X { X with T := T', L := L', S := S', Q := Q', M := M' }
                have HR := Lib.hid hr; clear hr
                have HVe := Lib.hid HCr.out.q.reads
                have HVc := Lib.hid (HV.out.grow HCr.out.grow)
                refine wp_region_rel _ Grow (fun w' => Grow wr w') [([(3, none)], none), ([(8, none)], none), ([(126, some 1), (127, some 0)], none), ([(128, some 0)], none), ([(129, some 0), (3, none)], some (129, true)), ([(129, some 1), (8, none)], some (129, true)), ([(129, some 2), (130, some 1), (131, some 0)], some (129, true)), ([(129, some 3), (132, some 0)], none), ([(133, some 0)], none), ([(134, some 0), (3, none)], some (134, true)), ([(134, some 1), (7, none)], some (134, true)), ([(134, some 2), (135, some 1), (136, some 0)], some (134, true)), ([(134, some 3), (3, none)], some (134, true)), ([(134, some 4), (7, none)], some (134, true)), ([(134, some 5), (138, some 1), (139, some 0)], some (134, true)), ([(134, some 6), (137, some 3), (140, some 0)], some (134, true)), ([(134, some 7), (141, some 0)], none), ([(142, some 0)], none)] (by kernel_rfl) (by kernel_rfl) (Grow.drewN wr 1) ?_
                (refine rel_pure ?_; apply Exists.intro; refine ⟨fun aR wQ hF hk => ?_, ?_⟩; focus (refine rel_none fun K hK => ?_; refine wp_load_row 28 (.tmp 3) (by rfl) w.heap.size (by exact hk.1) 28 _ (0, 0) _ (hF.at HCr.out.x) Try.underlying28 rfl (info28s _ _ _ _ _ X) (hK _ _ (Grow.refl _) hF rfl)))
                (refine rel_pure ?_; apply Exists.intro; refine ⟨fun aR wQ hF hk => ?_, ?_⟩; focus (refine rel_none fun K hK => ?_; refine wp_load_row 28 (.tmp 8) (by rfl) ge (by exact hk.1) 28 _ (0, 0) _ (hF.at HCr.out.e) Try.underlying28 rfl (info28s _ _ _ _ _ X) (hK _ _ (Grow.refl _) hF rfl)))
                (refine rel_pure ?_; apply Exists.intro; refine ⟨fun aR wQ hF hk => ?_, ?_⟩; focus (refine rel_none fun K hK => ?_; (try simp at hk); go_simp; refine (refSameV_any (X := X) (Y := X) wQ (HVc.out.grow hF) (HVe.out.grow hF) HSM.out true ⟨fun _ => SameX.refl X, fun _ => rfl⟩).mono ?_; rintro e w' ⟨rfl, hg⟩; exact hK _ _ hg (hF.trans hg) rfl))
                (refine rel_pure ?_; apply Exists.intro; refine ⟨fun aR wQ hF hk => ?_, ?_⟩; focus (first | exact rel_no hk.1 rfl rfl | ((first | (refine rel_none fun K hK => ?_) | (refine rel_yes hk.1 fun K hK => ?_)); (try simp at hk); go_simp; exact hK _ _ (Grow.refl _) hF rfl)))
                (refine rel_pure ?_; apply Exists.intro; refine ⟨fun aR wQ hF hk => ?_, ?_⟩; focus (refine rel_yes hk.1 fun K hK => ?_; refine wp_load_row 28 (.tmp 3) (by rfl) w.heap.size (by exact hk.2.1) 28 _ (0, 0) _ (hF.at HCr.out.x) Try.underlying28 rfl (info28s _ _ _ _ _ X) (hK _ _ (Grow.refl _) hF rfl)))
                (refine rel_pure ?_; apply Exists.intro; refine ⟨fun aR wQ hF hk => ?_, ?_⟩; focus (refine rel_yes hk.1 fun K hK => ?_; refine wp_load_row 28 (.tmp 8) (by rfl) ge (by exact hk.2.1) 28 _ (0, 0) _ (hF.at HCr.out.e) Try.underlying28 rfl (info28s _ _ _ _ _ X) (hK _ _ (Grow.refl _) hF rfl)))
                (refine rel_pure ?_; apply Exists.intro; refine ⟨fun aR wQ hF hk => ?_, ?_⟩; focus (refine rel_yes hk.1 fun K hK => ?_; (try simp at hk); go_simp; refine (sameV_any (X := X) (Y := X) wQ (HVc.out.grow hF) (HVe.out.grow hF) HSM.out true ⟨fun _ => SameX.refl X, fun _ => rfl⟩).mono ?_; rintro e w' ⟨rfl, hg⟩; exact hK _ _ hg (hF.trans hg) rfl))
                (refine rel_pure ?_; apply Exists.intro; refine ⟨fun aR wQ hF hk => ?_, ?_⟩; focus (first | exact rel_no hk.1 rfl rfl | ((first | (refine rel_none fun K hK => ?_) | (refine rel_yes hk.1 fun K hK => ?_)); (try simp at hk); go_simp; exact hK _ _ (Grow.refl _) hF rfl)))
                (refine rel_pure ?_; apply Exists.intro; refine ⟨fun aR wQ hF hk => ?_, ?_⟩; focus (first | exact rel_no hk.1 rfl rfl | ((first | (refine rel_none fun K hK => ?_) | (refine rel_yes hk.1 fun K hK => ?_)); (try simp at hk); go_simp; exact hK _ _ (Grow.refl _) hF rfl)))
                (refine rel_pure ?_; apply Exists.intro; refine ⟨fun aR wQ hF hk => ?_, ?_⟩; focus (refine rel_yes hk.1 fun K hK => ?_; refine wp_load_row 28 (.tmp 3) (by rfl) w.heap.size (by exact hk.2.1) 28 _ (0, 0) _ (hF.at HCr.out.x) Try.underlying28 rfl (info28s _ _ _ _ _ X) (hK _ _ (Grow.refl _) hF rfl)))
                (refine rel_pure ?_; apply Exists.intro; refine ⟨fun aR wQ hF hk => ?_, ?_⟩; focus (refine rel_yes hk.1 fun K hK => ?_; refine wp_load_row 28 (.tmp 7) (by rfl) gd (by exact hk.2.1) 28 _ (0, 0) _ (hF.at HCr.out.d) Try.underlying28 rfl (info28s _ _ _ _ _ X) (hK _ _ (Grow.refl _) hF rfl)))
                (refine rel_pure ?_; apply Exists.intro; refine ⟨fun aR wQ hF hk => ?_, ?_⟩; focus (refine rel_yes hk.1 fun K hK => ?_; (try simp at hk); go_simp; refine (sameV_any (X := X) (Y := { X with T := T', L := L', S := S', Q := Q', M := M' }) wQ (HVc.out.grow hF) (HVd.out.grow hF) HSM.out r HR.out).mono ?_; rintro e w' ⟨rfl, hg⟩; exact hK _ _ hg (hF.trans hg) rfl))
                (refine rel_pure ?_; apply Exists.intro; refine ⟨fun aR wQ hF hk => ?_, ?_⟩; focus (refine rel_yes hk.1 fun K hK => ?_; refine wp_load_row 28 (.tmp 3) (by rfl) w.heap.size (by exact hk.2.1) 28 _ (0, 0) _ (hF.at HCr.out.x) Try.underlying28 rfl (info28s _ _ _ _ _ X) (hK _ _ (Grow.refl _) hF rfl)))
                (refine rel_pure ?_; apply Exists.intro; refine ⟨fun aR wQ hF hk => ?_, ?_⟩; focus (refine rel_yes hk.1 fun K hK => ?_; refine wp_load_row 28 (.tmp 7) (by rfl) gd (by exact hk.2.1) 28 _ (0, 0) _ (hF.at HCr.out.d) Try.underlying28 rfl (info28s _ _ _ _ _ X) (hK _ _ (Grow.refl _) hF rfl)))
                (refine rel_pure ?_; apply Exists.intro; refine ⟨fun aR wQ hF hk => ?_, ?_⟩; focus (refine rel_yes hk.1 fun K hK => ?_; (try simp at hk); go_simp; refine (refSameV_any (X := X) (Y := { X with T := T', L := L', S := S', Q := Q', M := M' }) wQ (HVc.out.grow hF) (HVd.out.grow hF) HSM.out r HR.out).mono ?_; rintro e w' ⟨rfl, hg⟩; exact hK _ _ hg (hF.trans hg) rfl))
                (refine rel_pure ?_; apply Exists.intro; refine ⟨fun aR wQ hF hk => ?_, ?_⟩; focus (first | exact rel_no hk.1 rfl rfl | ((first | (refine rel_none fun K hK => ?_) | (refine rel_yes hk.1 fun K hK => ?_)); (try simp at hk); go_simp; exact hK _ _ (Grow.refl _) hF rfl)))
                (refine rel_pure ?_; apply Exists.intro; refine ⟨fun aR wQ hF hk => ?_, ?_⟩; focus (first | exact rel_no hk.1 rfl rfl | ((first | (refine rel_none fun K hK => ?_) | (refine rel_yes hk.1 fun K hK => ?_)); (try simp at hk); go_simp; exact hK _ _ (Grow.refl _) hF rfl)))
                (refine rel_pure ?_; apply Exists.intro; refine ⟨fun aR wQ hF hk => ?_, ?_⟩; focus (first | exact rel_no hk.1 rfl rfl | ((first | (refine rel_none fun K hK => ?_) | (refine rel_yes hk.1 fun K hK => ?_)); (try simp at hk); go_simp; exact hK _ _ (Grow.refl _) hF rfl)))
                refine rel_done fun wR hF => ?_
                repeat (first | (refine fun v hv => ?_; obtain rfl : v = _ := hv) | (refine fun v hv => ?_))
                simp only [Act.put, List.setIfInBounds_toArray, List.set_cons_zero, List.set_cons_succ]
                refine rel_nil ?_
                go_wp2
                go_ret
                exact ⟨rfl, (HG.out.trans HCr.out.grow).trans hF⟩
  · refine (greatX_any (X := X) _ (HV.out.grow G1.out) true ⟨nofun, fun h => absurd h hm⟩).mono ?_
    rintro _ w3 ⟨rfl, hg⟩
    have G2 := Lib.hid (G1.out.trans hg); clear hg
    go_wp2_with fail
    refine (awake_any _).mono ?_
    rintro _ w9 ⟨rfl, hg⟩
    have G9 := Lib.hid (G2.out.trans hg); clear hg
    go_wp2
    go_ret
    exact ⟨rfl, HG.out.trans G9.out⟩
end Go.Proofs.Ytmmbhjomgpnklaa
