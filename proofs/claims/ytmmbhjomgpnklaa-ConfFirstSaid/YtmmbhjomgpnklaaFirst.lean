/- ConfFirst: the walk. -/
import Derived.Test.YtmmbhjomgpnklaaAwake
import Derived.Test.YtmmbhjomgpnklaaGreatB
import Derived.Test.YtmmbhjomgpnklaaPlain
namespace Go.Proofs.Ytmmbhjomgpnklaa
open Go.RowKit
set_option linter.unusedVariables false
set_option linter.unusedSimpArgs false
set_option maxRecDepth 100000
attribute [local simp] RelKnown Is
attribute [local irreducible] sysP
theorem nums_none (w : World) (M : Nat → Int) : NumsV w (.slice none 0 0) 0 M := ⟨none, 0, rfl, Nat.le_refl _, fun h => absurd h (Nat.lt_irrefl _)⟩
theorem lines_none (w : World) (L : Nat → Ln) : LinesV w (.slice none 0 0) 0 L := ⟨none, 0, fun _ => undef, rfl, Nat.le_refl _, RowAt.zero, fun j hj => absurd hj (Nat.not_lt_zero _)⟩
set_option maxHeartbeats 16000000 in
theorem confFirst_walk (w : World) {tv lv sv qv mv : Value} {X : Cf} (hV : ConfV w tv lv sv qv mv X) : Calls Try.prog 7 #[.agg (cfC tv lv sv qv mv X)] w fun e w' => e = .returned (.bool true) ∧ Grow w w' := by
  go_enter Try.func7, Try.ntmps7
  go_wp2_with fail
  have hX : (w.alloc (.cells (cfC tv lv sv qv mv X) 28)).heap[w.heap.size]? = some (.cells (cfC tv lv sv qv mv X) 28 (0, 0)) := heapAt_alloc_new w _
  have hG : Grow w (w.alloc (.cells (cfC tv lv sv qv mv X) 28)) := Grow.alloc _ _
  generalize w.alloc (.cells (cfC tv lv sv qv mv X) 28) = w1 at hX hG ⊢
  have HV := Lib.hid (hV.grow hG); clear hV
  have HX := Lib.hid hX; clear hX
  have HG := Lib.hid hG; clear hG
  refine (awake_any _).mono ?_
  rintro _ w2 ⟨rfl, hg⟩
  have G1 := Lib.hid hg; clear hg
  go_wp2_with (first | ((with_reducible refine wpList_load_blk_g 28 _ rfl w.heap.size 28 (cfC tv lv sv qv mv X) _ ?_ ?_ (G1.out.at HX.out) Try.underlying28 rfl (info28s _ _ _ _ _ X) ?_); (· rfl); (· rfl)))
  by_cases hm : Mid X
  · refine (greatX_any (X := X) _ (HV.out.grow G1.out) false ⟨fun _ => hm, fun _ => rfl⟩).mono ?_
    rintro _ w3 ⟨rfl, hg⟩
    have HSX := Lib.hid hm.small; clear hm
    have HSN := Lib.hid (show (X.sn : Int) ≤ 1000000 by have := HSX.out.s; omega)
    have G2 := Lib.hid (G1.out.trans hg); clear hg
    go_wp2_with (first | ((with_reducible refine wpList_load_blk_g 28 _ rfl w.heap.size 28 (cfC tv lv sv qv mv X) _ ?_ ?_ (G2.out.at HX.out) Try.underlying28 rfl (info28s _ _ _ _ _ X) ?_); (· rfl); (· rfl)))
    refine (checkV_any (X := X) _ (HV.out.grow G2.out) HSN.out).mono ?_
    rintro _ w4 ⟨rfl, hg⟩
    have G3 := Lib.hid (G2.out.trans hg); clear hg
    obtain ⟨fe, fp, fi, fa, hs⟩ : ∃ e p i a, sysP X = ⟨e, p, i, a⟩ := ⟨_, _, _, _, rfl⟩
    rw [hs]
    have HS := Lib.hid hs; clear hs
    dsimp only [faultC]
    obtain ⟨gf, hgf⟩ : ∃ gf, gf = w4.heap.size := ⟨_, rfl⟩
    have HGF0 := Lib.hid hgf; clear hgf
    go_wp2_with (first
      | ((with_reducible refine store33 rfl _ _ rfl w4.heap.size fe fp fi fa ?_ ?_ (heapAt_alloc_new w4 _) ?_); (· rfl); (· rfl); intro wa ha0 hoa; have HFX0 := Lib.hid ha0; have HGA := Lib.hid ((G3.out.trans (Grow.alloc w4 (.cells zeroF 33))).only hoa (by have := G3.out.size; omega)); clear ha0 hoa)
      | ((with_reducible refine wpList_load_blk_g 28 _ rfl w.heap.size 28 (cfC tv lv sv qv mv X) _ ?_ ?_ (HGA.out.at HX.out) Try.underlying28 rfl (info28s _ _ _ _ _ X) ?_); (· rfl); (· rfl)))
    have HFX1 := Lib.hid (show wa.heap[gf]? = some (.cells #[.int .i64 fe, .int .i64 fp, .int .i64 fi, .int .i64 fa] 33 (0, 0)) by rw [HGF0.out]; exact HFX0.out)
    rw [← HGF0.out]
    clear HFX0
    refine (copyV_any (X := X) _ (HV.out.grow HGA.out) HSX.out).mono ?_
    rintro _ w5 ⟨tv1, lv1, sv1, qv1, mv1, rfl, hown, hg⟩
    have HO := Lib.hid hown; clear hown
    have G4 := Lib.hid (HGA.out.trans hg)
    have HON := Lib.hid (HO.out.parts.ones28)
    have HFX := Lib.hid (hg.at HFX1.out); clear hg
    have HNE := Lib.hid (show gf ≠ w5.heap.size from fun e => by have := heapAt_lt HFX.out; omega)
    have HFE := Lib.hid (Grow.alloc w5 (.cells #[.slice none 0 0, .slice none 0 0, .int .i64 0, .slice none 0 0, .slice none 0 0, .slice none 0 0, .int .i64 0, .int .u32 0, .int .u32 0, .int .i64 0, .int .u64 0, .int .u64 0] 28))
    by_cases h2 : fp < 2
    · have hp2 : (fp < 2) := by omega
      have hp3 : (fp < 3) := by omega
      have hp4 : (fp < 4) := by omega
      have hp5 : (fp < 5) := by omega
      have hp6 : (fp < 6) := by omega
      have hp7 : (fp < 7) := by omega
      have hp8 : (fp < 8) := by omega
      have hp9 : (fp < 9) := by omega
      go_wp2_with (first
        | ((with_reducible refine wpList_store_blk rfl 28 _ _ rfl w5.heap.size 28 _ (cfC tv1 lv1 sv1 qv1 mv1 X) ?_ ?_ (heapAt_alloc_new w5 _) ?_ (info28s _ _ _ _ _ X) HON.out ?_); (· rfl); (· rfl); (· rfl); intro wb hb0 ho0; have HFB := Lib.hid (HFE.out.only ho0 (Nat.le_refl _)); have HB0 := Lib.hid hb0; have HF0 := Lib.hid (HFB.out.at HFX.out); have f1 := cell_block HF0.out 1; simp at f1; clear hb0 ho0)
        | ((with_reducible refine store_in rfl 3 _ _ rfl w5.heap.size 9 28 _ (cfC tv1 lv1 sv1 qv1 mv1 { X with charge := 0 }) (.int .i64 0) info3s HB0.out rfl ?_ ?_ ?_ ?_ ?_); (· rfl); (· rfl); (· simp); (· rfl); intro wc1 hwc hbc hoc; have HB1 := Lib.hid hbc; have HO1 := Lib.hid hoc; have HF1 := Lib.hid (hoc.at HNE.out HF0.out); have f1 := cell_block HF1.out 1; simp at f1; clear hwc hbc hoc)
        | ((with_reducible refine store_in rfl 25 _ _ rfl w5.heap.size 7 28 _ (cfC tv1 lv1 sv1 qv1 mv1 { X with charge := 0, mask := 0 }) (.int .u32 0) info25s HB1.out rfl ?_ ?_ ?_ ?_ ?_); (· rfl); (· rfl); (· simp); (· rfl); intro wc2 hwc hbc hoc; have HB2 := Lib.hid hbc; have HO2 := Lib.hid hoc; have HF2 := Lib.hid (hoc.at HNE.out HF1.out); have f1 := cell_block HF2.out 1; simp at f1; clear hwc hbc hoc)
        | ((with_reducible refine store_in rfl 3 _ _ rfl w5.heap.size 6 28 _ (cfC tv1 lv1 sv1 qv1 mv1 { X with charge := 0, mask := 0, table := 0 }) (.int .i64 0) info3s HB2.out rfl ?_ ?_ ?_ ?_ ?_); (· rfl); (· rfl); (· simp); (· rfl); intro wc3 hwc hbc hoc; have HB3 := Lib.hid hbc; have HO3 := Lib.hid hoc; have HF3 := Lib.hid (hoc.at HNE.out HF2.out); have f1 := cell_block HF3.out 1; simp at f1; clear hwc hbc hoc)
        | ((with_reducible refine store_in rfl 24 _ _ rfl w5.heap.size 5 28 _ (cfC tv1 lv1 sv1 qv1 (.slice none 0 0) { X with charge := 0, mask := 0, table := 0, mn := 0 }) (.slice none 0 0) info24s HB3.out rfl ?_ ?_ ?_ ?_ ?_); (· rfl); (· rfl); (· simp); (· rfl); intro wc4 hwc hbc hoc; have HB4 := Lib.hid hbc; have HO4 := Lib.hid hoc; have HF4 := Lib.hid (hoc.at HNE.out HF3.out); have f1 := cell_block HF4.out 1; simp at f1; clear hwc hbc hoc)
        | ((with_reducible refine store_in rfl 24 _ _ rfl w5.heap.size 4 28 _ (cfC tv1 lv1 sv1 (.slice none 0 0) (.slice none 0 0) { X with charge := 0, mask := 0, table := 0, mn := 0, qn := 0 }) (.slice none 0 0) info24s HB4.out rfl ?_ ?_ ?_ ?_ ?_); (· rfl); (· rfl); (· simp); (· rfl); intro wc5 hwc hbc hoc; have HB5 := Lib.hid hbc; have HO5 := Lib.hid hoc; have HF5 := Lib.hid (hoc.at HNE.out HF4.out); have f1 := cell_block HF5.out 1; simp at f1; clear hwc hbc hoc)
        | ((with_reducible refine store_in rfl 24 _ _ rfl w5.heap.size 3 28 _ (cfC tv1 lv1 (.slice none 0 0) (.slice none 0 0) (.slice none 0 0) { X with charge := 0, mask := 0, table := 0, mn := 0, qn := 0, sn := 0 }) (.slice none 0 0) info24s HB5.out rfl ?_ ?_ ?_ ?_ ?_); (· rfl); (· rfl); (· simp); (· rfl); intro wc6 hwc hbc hoc; have HB6 := Lib.hid hbc; have HO6 := Lib.hid hoc; have HF6 := Lib.hid (hoc.at HNE.out HF5.out); have f1 := cell_block HF6.out 1; simp at f1; clear hwc hbc hoc)
        | ((with_reducible refine store_in rfl 3 _ _ rfl w5.heap.size 2 28 _ (cfC tv1 lv1 (.slice none 0 0) (.slice none 0 0) (.slice none 0 0) { X with charge := 0, mask := 0, table := 0, mn := 0, qn := 0, sn := 0, mx := 0 }) (.int .i64 0) info3s HB6.out rfl ?_ ?_ ?_ ?_ ?_); (· rfl); (· rfl); (· simp); (· rfl); intro wc7 hwc hbc hoc; have HB7 := Lib.hid hbc; have HO7 := Lib.hid hoc; have HF7 := Lib.hid (hoc.at HNE.out HF6.out); have f1 := cell_block HF7.out 1; simp at f1; clear hwc hbc hoc)
        | ((with_reducible refine store_in rfl 23 _ _ rfl w5.heap.size 1 28 _ (cfC tv1 (.slice none 0 0) (.slice none 0 0) (.slice none 0 0) (.slice none 0 0) { X with charge := 0, mask := 0, table := 0, mn := 0, qn := 0, sn := 0, mx := 0, ln := 0 }) (.slice none 0 0) info23s HB7.out rfl ?_ ?_ ?_ ?_ ?_); (· rfl); (· rfl); (· simp); (· rfl); intro wc8 hwc hbc hoc; have HB8 := Lib.hid hbc; have HO8 := Lib.hid hoc; have HF8 := Lib.hid (hoc.at HNE.out HF7.out); have f1 := cell_block HF8.out 1; simp at f1; clear hwc hbc hoc)
        | fail)
      have HGF := Lib.hid ((((((((HFB.out.only HO1.out (Nat.le_refl _)).only HO2.out (Nat.le_refl _)).only HO3.out (Nat.le_refl _)).only HO4.out (Nat.le_refl _)).only HO5.out (Nat.le_refl _)).only HO6.out (Nat.le_refl _)).only HO7.out (Nat.le_refl _)).only HO8.out (Nat.le_refl _))
      have HBF := Lib.hid HB8.out
      have HFF := Lib.hid HF8.out
      have HVW := Lib.hid (HO.out.parts.reads.grow HGF.out)
      have HVF := Lib.hid (show ConfV wc8 tv1 (.slice none 0 0) (.slice none 0 0) (.slice none 0 0) (.slice none 0 0) ({ X with charge := 0, mask := 0, table := 0, mn := 0, qn := 0, sn := 0, mx := 0, ln := 0 } : Cf) from ⟨HVW.out.t, lines_none _ _, nums_none _ _, nums_none _ _, nums_none _ _⟩)
      have HFS := Lib.hid (show faultC (sysP ({ X with charge := 0, mask := 0, table := 0, mn := 0, qn := 0, sn := 0, mx := 0, ln := 0 } : Cf)) = #[.int .i64 fe, .int .i64 fp, .int .i64 fi, .int .i64 fa] by
        rw [first_same (X := X) (Y := { X with charge := 0, mask := 0, table := 0, mn := 0, qn := 0, sn := 0, mx := 0, ln := 0 }) (p := fp) (by rw [HS.out]) ⟨rfl, rfl⟩ (by rw [if_pos (show fp < 2 by omega)]) (by rw [if_pos (show fp < 3 by omega)]) (by rw [if_pos (show fp < 4 by omega)]) (by rw [if_pos (show fp < 5 by omega)]) (by rw [if_pos (show fp < 6 by omega)]) (by rw [if_pos (show fp < 7 by omega)]) (by rw [if_pos (show fp < 8 by omega)]) (by rw [if_pos (show fp < 9 by omega)]), HS.out])
      clear hp2 hp3 hp4 hp5 hp6 hp7 hp8 hp9
      clear f1
      clear HF8 HB8 HO8 HF7 HB7 HO7 HF6 HB6 HO6 HF5 HB5 HO5 HF4 HB4 HO4 HF3 HB3 HO3 HF2 HB2 HO2 HF1 HB1 HO1
      clear HB0 HF0
      generalize wc8 = wz at HGF HBF HFF HVF HVW ⊢
      refine wp_region_rel _ Grow (fun w' => Grow wz w') [([(4, none)], none), ([(48, some 0)], none), ([(3, none)], none), ([(49, some 1), (50, some 0)], none), ([(51, some 0)], none)] (by kernel_rfl) (by kernel_rfl) (Grow.drewN wz 1) ?_
      (refine rel_pure ?_; apply Exists.intro; refine ⟨fun aR wQ hF hk => ?_, ?_⟩; focus (refine rel_none fun K hK => ?_; refine wp_load_row 28 (.tmp 4) (by rfl) w5.heap.size (by exact hk.1) 28 _ (0, 0) _ (hF.at HBF.out) Try.underlying28 rfl (info28s _ _ _ _ _ ({ X with charge := 0, mask := 0, table := 0, mn := 0, qn := 0, sn := 0, mx := 0, ln := 0 } : Cf)) (hK _ _ (Grow.refl _) hF rfl)))
      (refine rel_pure ?_; apply Exists.intro; refine ⟨fun aR wQ hF hk => ?_, ?_⟩; focus (refine rel_none fun K hK => ?_; (try simp at hk); go_simp; refine (aw_chk (X := ({ X with charge := 0, mask := 0, table := 0, mn := 0, qn := 0, sn := 0, mx := 0, ln := 0 } : Cf)) wQ (HVF.out.grow hF) (by show ((0 : Nat) : Int) ≤ 1000000; decide) HFS.out rfl).mono ?_; rintro e w' ⟨rfl, hg⟩; exact hK _ _ hg (hF.trans hg) rfl))
      (refine rel_pure ?_; apply Exists.intro; refine ⟨fun aR wQ hF hk => ?_, ?_⟩; focus (refine rel_none fun K hK => ?_; refine wp_load_row 33 (.tmp 3) (by rfl) gf (by exact hk.1) 33 _ (0, 0) _ (hF.at HFF.out) Try.underlying33 rfl (info33) (hK _ _ (Grow.refl _) hF rfl)))
      (refine rel_pure ?_; apply Exists.intro; refine ⟨fun aR wQ hF hk => ?_, ?_⟩; focus (first | exact rel_no hk.1 rfl rfl | ((first | (refine rel_none fun K hK => ?_) | (refine rel_yes hk.1 fun K hK => ?_)); (try simp at hk); go_simp; exact hK _ _ (Grow.refl _) hF rfl)))
      (refine rel_pure ?_; apply Exists.intro; refine ⟨fun aR wQ hF hk => ?_, ?_⟩; focus (first | exact rel_no hk.1 rfl rfl | ((first | (refine rel_none fun K hK => ?_) | (refine rel_yes hk.1 fun K hK => ?_)); (try simp at hk); go_simp; exact hK _ _ (Grow.refl _) hF rfl)))
      refine rel_done fun wR hF => ?_
      repeat (first | (refine fun v hv => ?_; obtain rfl : v = _ := hv) | (refine fun v hv => ?_))
      simp only [Act.put, List.setIfInBounds_toArray, List.set_cons_zero, List.set_cons_succ]
      refine rel_nil ?_
      go_wp2
      go_ret
      exact ⟨rfl, ((HG.out.trans G4.out).trans HGF.out).trans hF⟩
    by_cases h3 : fp < 3
    · have hp2 : ¬ (fp < 2) := by omega
      have hp3 : (fp < 3) := by omega
      have hp4 : (fp < 4) := by omega
      have hp5 : (fp < 5) := by omega
      have hp6 : (fp < 6) := by omega
      have hp7 : (fp < 7) := by omega
      have hp8 : (fp < 8) := by omega
      have hp9 : (fp < 9) := by omega
      go_wp2_with (first
        | ((with_reducible refine wpList_store_blk rfl 28 _ _ rfl w5.heap.size 28 _ (cfC tv1 lv1 sv1 qv1 mv1 X) ?_ ?_ (heapAt_alloc_new w5 _) ?_ (info28s _ _ _ _ _ X) HON.out ?_); (· rfl); (· rfl); (· rfl); intro wb hb0 ho0; have HFB := Lib.hid (HFE.out.only ho0 (Nat.le_refl _)); have HB0 := Lib.hid hb0; have HF0 := Lib.hid (HFB.out.at HFX.out); have f1 := cell_block HF0.out 1; simp at f1; clear hb0 ho0)
        | ((with_reducible refine store_in rfl 3 _ _ rfl w5.heap.size 9 28 _ (cfC tv1 lv1 sv1 qv1 mv1 { X with charge := 0 }) (.int .i64 0) info3s HB0.out rfl ?_ ?_ ?_ ?_ ?_); (· rfl); (· rfl); (· simp); (· rfl); intro wc1 hwc hbc hoc; have HB1 := Lib.hid hbc; have HO1 := Lib.hid hoc; have HF1 := Lib.hid (hoc.at HNE.out HF0.out); have f1 := cell_block HF1.out 1; simp at f1; clear hwc hbc hoc)
        | ((with_reducible refine store_in rfl 25 _ _ rfl w5.heap.size 7 28 _ (cfC tv1 lv1 sv1 qv1 mv1 { X with charge := 0, mask := 0 }) (.int .u32 0) info25s HB1.out rfl ?_ ?_ ?_ ?_ ?_); (· rfl); (· rfl); (· simp); (· rfl); intro wc2 hwc hbc hoc; have HB2 := Lib.hid hbc; have HO2 := Lib.hid hoc; have HF2 := Lib.hid (hoc.at HNE.out HF1.out); have f1 := cell_block HF2.out 1; simp at f1; clear hwc hbc hoc)
        | ((with_reducible refine store_in rfl 3 _ _ rfl w5.heap.size 6 28 _ (cfC tv1 lv1 sv1 qv1 mv1 { X with charge := 0, mask := 0, table := 0 }) (.int .i64 0) info3s HB2.out rfl ?_ ?_ ?_ ?_ ?_); (· rfl); (· rfl); (· simp); (· rfl); intro wc3 hwc hbc hoc; have HB3 := Lib.hid hbc; have HO3 := Lib.hid hoc; have HF3 := Lib.hid (hoc.at HNE.out HF2.out); have f1 := cell_block HF3.out 1; simp at f1; clear hwc hbc hoc)
        | ((with_reducible refine store_in rfl 24 _ _ rfl w5.heap.size 5 28 _ (cfC tv1 lv1 sv1 qv1 (.slice none 0 0) { X with charge := 0, mask := 0, table := 0, mn := 0 }) (.slice none 0 0) info24s HB3.out rfl ?_ ?_ ?_ ?_ ?_); (· rfl); (· rfl); (· simp); (· rfl); intro wc4 hwc hbc hoc; have HB4 := Lib.hid hbc; have HO4 := Lib.hid hoc; have HF4 := Lib.hid (hoc.at HNE.out HF3.out); have f1 := cell_block HF4.out 1; simp at f1; clear hwc hbc hoc)
        | ((with_reducible refine store_in rfl 24 _ _ rfl w5.heap.size 4 28 _ (cfC tv1 lv1 sv1 (.slice none 0 0) (.slice none 0 0) { X with charge := 0, mask := 0, table := 0, mn := 0, qn := 0 }) (.slice none 0 0) info24s HB4.out rfl ?_ ?_ ?_ ?_ ?_); (· rfl); (· rfl); (· simp); (· rfl); intro wc5 hwc hbc hoc; have HB5 := Lib.hid hbc; have HO5 := Lib.hid hoc; have HF5 := Lib.hid (hoc.at HNE.out HF4.out); have f1 := cell_block HF5.out 1; simp at f1; clear hwc hbc hoc)
        | ((with_reducible refine store_in rfl 24 _ _ rfl w5.heap.size 3 28 _ (cfC tv1 lv1 (.slice none 0 0) (.slice none 0 0) (.slice none 0 0) { X with charge := 0, mask := 0, table := 0, mn := 0, qn := 0, sn := 0 }) (.slice none 0 0) info24s HB5.out rfl ?_ ?_ ?_ ?_ ?_); (· rfl); (· rfl); (· simp); (· rfl); intro wc6 hwc hbc hoc; have HB6 := Lib.hid hbc; have HO6 := Lib.hid hoc; have HF6 := Lib.hid (hoc.at HNE.out HF5.out); have f1 := cell_block HF6.out 1; simp at f1; clear hwc hbc hoc)
        | ((with_reducible refine store_in rfl 3 _ _ rfl w5.heap.size 2 28 _ (cfC tv1 lv1 (.slice none 0 0) (.slice none 0 0) (.slice none 0 0) { X with charge := 0, mask := 0, table := 0, mn := 0, qn := 0, sn := 0, mx := 0 }) (.int .i64 0) info3s HB6.out rfl ?_ ?_ ?_ ?_ ?_); (· rfl); (· rfl); (· simp); (· rfl); intro wc7 hwc hbc hoc; have HB7 := Lib.hid hbc; have HO7 := Lib.hid hoc; have HF7 := Lib.hid (hoc.at HNE.out HF6.out); have f1 := cell_block HF7.out 1; simp at f1; clear hwc hbc hoc)
        | fail)
      have HGF := Lib.hid (((((((HFB.out.only HO1.out (Nat.le_refl _)).only HO2.out (Nat.le_refl _)).only HO3.out (Nat.le_refl _)).only HO4.out (Nat.le_refl _)).only HO5.out (Nat.le_refl _)).only HO6.out (Nat.le_refl _)).only HO7.out (Nat.le_refl _))
      have HBF := Lib.hid HB7.out
      have HFF := Lib.hid HF7.out
      have HVW := Lib.hid (HO.out.parts.reads.grow HGF.out)
      have HVF := Lib.hid (show ConfV wc7 tv1 lv1 (.slice none 0 0) (.slice none 0 0) (.slice none 0 0) ({ X with charge := 0, mask := 0, table := 0, mn := 0, qn := 0, sn := 0, mx := 0 } : Cf) from ⟨HVW.out.t, HVW.out.l, nums_none _ _, nums_none _ _, nums_none _ _⟩)
      have HFS := Lib.hid (show faultC (sysP ({ X with charge := 0, mask := 0, table := 0, mn := 0, qn := 0, sn := 0, mx := 0 } : Cf)) = #[.int .i64 fe, .int .i64 fp, .int .i64 fi, .int .i64 fa] by
        rw [first_same (X := X) (Y := { X with charge := 0, mask := 0, table := 0, mn := 0, qn := 0, sn := 0, mx := 0 }) (p := fp) (by rw [HS.out]) ⟨rfl, rfl⟩ (by rw [if_neg (show ¬ fp < 2 by omega)]; exact ⟨rfl, rfl⟩) (by rw [if_pos (show fp < 3 by omega)]) (by rw [if_pos (show fp < 4 by omega)]) (by rw [if_pos (show fp < 5 by omega)]) (by rw [if_pos (show fp < 6 by omega)]) (by rw [if_pos (show fp < 7 by omega)]) (by rw [if_pos (show fp < 8 by omega)]) (by rw [if_pos (show fp < 9 by omega)]), HS.out])
      clear hp2 hp3 hp4 hp5 hp6 hp7 hp8 hp9
      clear f1
      clear HF7 HB7 HO7 HF6 HB6 HO6 HF5 HB5 HO5 HF4 HB4 HO4 HF3 HB3 HO3 HF2 HB2 HO2 HF1 HB1 HO1
      clear HB0 HF0
      generalize wc7 = wz at HGF HBF HFF HVF HVW ⊢
      refine wp_region_rel _ Grow (fun w' => Grow wz w') [([(4, none)], none), ([(48, some 0)], none), ([(3, none)], none), ([(49, some 1), (50, some 0)], none), ([(51, some 0)], none)] (by kernel_rfl) (by kernel_rfl) (Grow.drewN wz 1) ?_
      (refine rel_pure ?_; apply Exists.intro; refine ⟨fun aR wQ hF hk => ?_, ?_⟩; focus (refine rel_none fun K hK => ?_; refine wp_load_row 28 (.tmp 4) (by rfl) w5.heap.size (by exact hk.1) 28 _ (0, 0) _ (hF.at HBF.out) Try.underlying28 rfl (info28s _ _ _ _ _ ({ X with charge := 0, mask := 0, table := 0, mn := 0, qn := 0, sn := 0, mx := 0 } : Cf)) (hK _ _ (Grow.refl _) hF rfl)))
      (refine rel_pure ?_; apply Exists.intro; refine ⟨fun aR wQ hF hk => ?_, ?_⟩; focus (refine rel_none fun K hK => ?_; (try simp at hk); go_simp; refine (aw_chk (X := ({ X with charge := 0, mask := 0, table := 0, mn := 0, qn := 0, sn := 0, mx := 0 } : Cf)) wQ (HVF.out.grow hF) (by show ((0 : Nat) : Int) ≤ 1000000; decide) HFS.out rfl).mono ?_; rintro e w' ⟨rfl, hg⟩; exact hK _ _ hg (hF.trans hg) rfl))
      (refine rel_pure ?_; apply Exists.intro; refine ⟨fun aR wQ hF hk => ?_, ?_⟩; focus (refine rel_none fun K hK => ?_; refine wp_load_row 33 (.tmp 3) (by rfl) gf (by exact hk.1) 33 _ (0, 0) _ (hF.at HFF.out) Try.underlying33 rfl (info33) (hK _ _ (Grow.refl _) hF rfl)))
      (refine rel_pure ?_; apply Exists.intro; refine ⟨fun aR wQ hF hk => ?_, ?_⟩; focus (first | exact rel_no hk.1 rfl rfl | ((first | (refine rel_none fun K hK => ?_) | (refine rel_yes hk.1 fun K hK => ?_)); (try simp at hk); go_simp; exact hK _ _ (Grow.refl _) hF rfl)))
      (refine rel_pure ?_; apply Exists.intro; refine ⟨fun aR wQ hF hk => ?_, ?_⟩; focus (first | exact rel_no hk.1 rfl rfl | ((first | (refine rel_none fun K hK => ?_) | (refine rel_yes hk.1 fun K hK => ?_)); (try simp at hk); go_simp; exact hK _ _ (Grow.refl _) hF rfl)))
      refine rel_done fun wR hF => ?_
      repeat (first | (refine fun v hv => ?_; obtain rfl : v = _ := hv) | (refine fun v hv => ?_))
      simp only [Act.put, List.setIfInBounds_toArray, List.set_cons_zero, List.set_cons_succ]
      refine rel_nil ?_
      go_wp2
      go_ret
      exact ⟨rfl, ((HG.out.trans G4.out).trans HGF.out).trans hF⟩
    by_cases h4 : fp < 4
    · have hp2 : ¬ (fp < 2) := by omega
      have hp3 : ¬ (fp < 3) := by omega
      have hp4 : (fp < 4) := by omega
      have hp5 : (fp < 5) := by omega
      have hp6 : (fp < 6) := by omega
      have hp7 : (fp < 7) := by omega
      have hp8 : (fp < 8) := by omega
      have hp9 : (fp < 9) := by omega
      go_wp2_with (first
        | ((with_reducible refine wpList_store_blk rfl 28 _ _ rfl w5.heap.size 28 _ (cfC tv1 lv1 sv1 qv1 mv1 X) ?_ ?_ (heapAt_alloc_new w5 _) ?_ (info28s _ _ _ _ _ X) HON.out ?_); (· rfl); (· rfl); (· rfl); intro wb hb0 ho0; have HFB := Lib.hid (HFE.out.only ho0 (Nat.le_refl _)); have HB0 := Lib.hid hb0; have HF0 := Lib.hid (HFB.out.at HFX.out); have f1 := cell_block HF0.out 1; simp at f1; clear hb0 ho0)
        | ((with_reducible refine store_in rfl 3 _ _ rfl w5.heap.size 9 28 _ (cfC tv1 lv1 sv1 qv1 mv1 { X with charge := 0 }) (.int .i64 0) info3s HB0.out rfl ?_ ?_ ?_ ?_ ?_); (· rfl); (· rfl); (· simp); (· rfl); intro wc1 hwc hbc hoc; have HB1 := Lib.hid hbc; have HO1 := Lib.hid hoc; have HF1 := Lib.hid (hoc.at HNE.out HF0.out); have f1 := cell_block HF1.out 1; simp at f1; clear hwc hbc hoc)
        | ((with_reducible refine store_in rfl 25 _ _ rfl w5.heap.size 7 28 _ (cfC tv1 lv1 sv1 qv1 mv1 { X with charge := 0, mask := 0 }) (.int .u32 0) info25s HB1.out rfl ?_ ?_ ?_ ?_ ?_); (· rfl); (· rfl); (· simp); (· rfl); intro wc2 hwc hbc hoc; have HB2 := Lib.hid hbc; have HO2 := Lib.hid hoc; have HF2 := Lib.hid (hoc.at HNE.out HF1.out); have f1 := cell_block HF2.out 1; simp at f1; clear hwc hbc hoc)
        | ((with_reducible refine store_in rfl 3 _ _ rfl w5.heap.size 6 28 _ (cfC tv1 lv1 sv1 qv1 mv1 { X with charge := 0, mask := 0, table := 0 }) (.int .i64 0) info3s HB2.out rfl ?_ ?_ ?_ ?_ ?_); (· rfl); (· rfl); (· simp); (· rfl); intro wc3 hwc hbc hoc; have HB3 := Lib.hid hbc; have HO3 := Lib.hid hoc; have HF3 := Lib.hid (hoc.at HNE.out HF2.out); have f1 := cell_block HF3.out 1; simp at f1; clear hwc hbc hoc)
        | ((with_reducible refine store_in rfl 24 _ _ rfl w5.heap.size 5 28 _ (cfC tv1 lv1 sv1 qv1 (.slice none 0 0) { X with charge := 0, mask := 0, table := 0, mn := 0 }) (.slice none 0 0) info24s HB3.out rfl ?_ ?_ ?_ ?_ ?_); (· rfl); (· rfl); (· simp); (· rfl); intro wc4 hwc hbc hoc; have HB4 := Lib.hid hbc; have HO4 := Lib.hid hoc; have HF4 := Lib.hid (hoc.at HNE.out HF3.out); have f1 := cell_block HF4.out 1; simp at f1; clear hwc hbc hoc)
        | ((with_reducible refine store_in rfl 24 _ _ rfl w5.heap.size 4 28 _ (cfC tv1 lv1 sv1 (.slice none 0 0) (.slice none 0 0) { X with charge := 0, mask := 0, table := 0, mn := 0, qn := 0 }) (.slice none 0 0) info24s HB4.out rfl ?_ ?_ ?_ ?_ ?_); (· rfl); (· rfl); (· simp); (· rfl); intro wc5 hwc hbc hoc; have HB5 := Lib.hid hbc; have HO5 := Lib.hid hoc; have HF5 := Lib.hid (hoc.at HNE.out HF4.out); have f1 := cell_block HF5.out 1; simp at f1; clear hwc hbc hoc)
        | ((with_reducible refine store_in rfl 24 _ _ rfl w5.heap.size 3 28 _ (cfC tv1 lv1 (.slice none 0 0) (.slice none 0 0) (.slice none 0 0) { X with charge := 0, mask := 0, table := 0, mn := 0, qn := 0, sn := 0 }) (.slice none 0 0) info24s HB5.out rfl ?_ ?_ ?_ ?_ ?_); (· rfl); (· rfl); (· simp); (· rfl); intro wc6 hwc hbc hoc; have HB6 := Lib.hid hbc; have HO6 := Lib.hid hoc; have HF6 := Lib.hid (hoc.at HNE.out HF5.out); have f1 := cell_block HF6.out 1; simp at f1; clear hwc hbc hoc)
        | fail)
      have HGF := Lib.hid ((((((HFB.out.only HO1.out (Nat.le_refl _)).only HO2.out (Nat.le_refl _)).only HO3.out (Nat.le_refl _)).only HO4.out (Nat.le_refl _)).only HO5.out (Nat.le_refl _)).only HO6.out (Nat.le_refl _))
      have HBF := Lib.hid HB6.out
      have HFF := Lib.hid HF6.out
      have HVW := Lib.hid (HO.out.parts.reads.grow HGF.out)
      have HVF := Lib.hid (show ConfV wc6 tv1 lv1 (.slice none 0 0) (.slice none 0 0) (.slice none 0 0) ({ X with charge := 0, mask := 0, table := 0, mn := 0, qn := 0, sn := 0 } : Cf) from ⟨HVW.out.t, HVW.out.l, nums_none _ _, nums_none _ _, nums_none _ _⟩)
      have HFS := Lib.hid (show faultC (sysP ({ X with charge := 0, mask := 0, table := 0, mn := 0, qn := 0, sn := 0 } : Cf)) = #[.int .i64 fe, .int .i64 fp, .int .i64 fi, .int .i64 fa] by
        rw [first_same (X := X) (Y := { X with charge := 0, mask := 0, table := 0, mn := 0, qn := 0, sn := 0 }) (p := fp) (by rw [HS.out]) ⟨rfl, rfl⟩ (by rw [if_neg (show ¬ fp < 2 by omega)]; exact ⟨rfl, rfl⟩) (by rw [if_neg (show ¬ fp < 3 by omega)]) (by rw [if_pos (show fp < 4 by omega)]) (by rw [if_pos (show fp < 5 by omega)]) (by rw [if_pos (show fp < 6 by omega)]) (by rw [if_pos (show fp < 7 by omega)]) (by rw [if_pos (show fp < 8 by omega)]) (by rw [if_pos (show fp < 9 by omega)]), HS.out])
      clear hp2 hp3 hp4 hp5 hp6 hp7 hp8 hp9
      clear f1
      clear HF6 HB6 HO6 HF5 HB5 HO5 HF4 HB4 HO4 HF3 HB3 HO3 HF2 HB2 HO2 HF1 HB1 HO1
      clear HB0 HF0
      generalize wc6 = wz at HGF HBF HFF HVF HVW ⊢
      refine wp_region_rel _ Grow (fun w' => Grow wz w') [([(4, none)], none), ([(48, some 0)], none), ([(3, none)], none), ([(49, some 1), (50, some 0)], none), ([(51, some 0)], none)] (by kernel_rfl) (by kernel_rfl) (Grow.drewN wz 1) ?_
      (refine rel_pure ?_; apply Exists.intro; refine ⟨fun aR wQ hF hk => ?_, ?_⟩; focus (refine rel_none fun K hK => ?_; refine wp_load_row 28 (.tmp 4) (by rfl) w5.heap.size (by exact hk.1) 28 _ (0, 0) _ (hF.at HBF.out) Try.underlying28 rfl (info28s _ _ _ _ _ ({ X with charge := 0, mask := 0, table := 0, mn := 0, qn := 0, sn := 0 } : Cf)) (hK _ _ (Grow.refl _) hF rfl)))
      (refine rel_pure ?_; apply Exists.intro; refine ⟨fun aR wQ hF hk => ?_, ?_⟩; focus (refine rel_none fun K hK => ?_; (try simp at hk); go_simp; refine (aw_chk (X := ({ X with charge := 0, mask := 0, table := 0, mn := 0, qn := 0, sn := 0 } : Cf)) wQ (HVF.out.grow hF) (by show ((0 : Nat) : Int) ≤ 1000000; decide) HFS.out rfl).mono ?_; rintro e w' ⟨rfl, hg⟩; exact hK _ _ hg (hF.trans hg) rfl))
      (refine rel_pure ?_; apply Exists.intro; refine ⟨fun aR wQ hF hk => ?_, ?_⟩; focus (refine rel_none fun K hK => ?_; refine wp_load_row 33 (.tmp 3) (by rfl) gf (by exact hk.1) 33 _ (0, 0) _ (hF.at HFF.out) Try.underlying33 rfl (info33) (hK _ _ (Grow.refl _) hF rfl)))
      (refine rel_pure ?_; apply Exists.intro; refine ⟨fun aR wQ hF hk => ?_, ?_⟩; focus (first | exact rel_no hk.1 rfl rfl | ((first | (refine rel_none fun K hK => ?_) | (refine rel_yes hk.1 fun K hK => ?_)); (try simp at hk); go_simp; exact hK _ _ (Grow.refl _) hF rfl)))
      (refine rel_pure ?_; apply Exists.intro; refine ⟨fun aR wQ hF hk => ?_, ?_⟩; focus (first | exact rel_no hk.1 rfl rfl | ((first | (refine rel_none fun K hK => ?_) | (refine rel_yes hk.1 fun K hK => ?_)); (try simp at hk); go_simp; exact hK _ _ (Grow.refl _) hF rfl)))
      refine rel_done fun wR hF => ?_
      repeat (first | (refine fun v hv => ?_; obtain rfl : v = _ := hv) | (refine fun v hv => ?_))
      simp only [Act.put, List.setIfInBounds_toArray, List.set_cons_zero, List.set_cons_succ]
      refine rel_nil ?_
      go_wp2
      go_ret
      exact ⟨rfl, ((HG.out.trans G4.out).trans HGF.out).trans hF⟩
    by_cases h5 : fp < 5
    · have hp2 : ¬ (fp < 2) := by omega
      have hp3 : ¬ (fp < 3) := by omega
      have hp4 : ¬ (fp < 4) := by omega
      have hp5 : (fp < 5) := by omega
      have hp6 : (fp < 6) := by omega
      have hp7 : (fp < 7) := by omega
      have hp8 : (fp < 8) := by omega
      have hp9 : (fp < 9) := by omega
      go_wp2_with (first
        | ((with_reducible refine wpList_store_blk rfl 28 _ _ rfl w5.heap.size 28 _ (cfC tv1 lv1 sv1 qv1 mv1 X) ?_ ?_ (heapAt_alloc_new w5 _) ?_ (info28s _ _ _ _ _ X) HON.out ?_); (· rfl); (· rfl); (· rfl); intro wb hb0 ho0; have HFB := Lib.hid (HFE.out.only ho0 (Nat.le_refl _)); have HB0 := Lib.hid hb0; have HF0 := Lib.hid (HFB.out.at HFX.out); have f1 := cell_block HF0.out 1; simp at f1; clear hb0 ho0)
        | ((with_reducible refine store_in rfl 3 _ _ rfl w5.heap.size 9 28 _ (cfC tv1 lv1 sv1 qv1 mv1 { X with charge := 0 }) (.int .i64 0) info3s HB0.out rfl ?_ ?_ ?_ ?_ ?_); (· rfl); (· rfl); (· simp); (· rfl); intro wc1 hwc hbc hoc; have HB1 := Lib.hid hbc; have HO1 := Lib.hid hoc; have HF1 := Lib.hid (hoc.at HNE.out HF0.out); have f1 := cell_block HF1.out 1; simp at f1; clear hwc hbc hoc)
        | ((with_reducible refine store_in rfl 25 _ _ rfl w5.heap.size 7 28 _ (cfC tv1 lv1 sv1 qv1 mv1 { X with charge := 0, mask := 0 }) (.int .u32 0) info25s HB1.out rfl ?_ ?_ ?_ ?_ ?_); (· rfl); (· rfl); (· simp); (· rfl); intro wc2 hwc hbc hoc; have HB2 := Lib.hid hbc; have HO2 := Lib.hid hoc; have HF2 := Lib.hid (hoc.at HNE.out HF1.out); have f1 := cell_block HF2.out 1; simp at f1; clear hwc hbc hoc)
        | ((with_reducible refine store_in rfl 3 _ _ rfl w5.heap.size 6 28 _ (cfC tv1 lv1 sv1 qv1 mv1 { X with charge := 0, mask := 0, table := 0 }) (.int .i64 0) info3s HB2.out rfl ?_ ?_ ?_ ?_ ?_); (· rfl); (· rfl); (· simp); (· rfl); intro wc3 hwc hbc hoc; have HB3 := Lib.hid hbc; have HO3 := Lib.hid hoc; have HF3 := Lib.hid (hoc.at HNE.out HF2.out); have f1 := cell_block HF3.out 1; simp at f1; clear hwc hbc hoc)
        | ((with_reducible refine store_in rfl 24 _ _ rfl w5.heap.size 5 28 _ (cfC tv1 lv1 sv1 qv1 (.slice none 0 0) { X with charge := 0, mask := 0, table := 0, mn := 0 }) (.slice none 0 0) info24s HB3.out rfl ?_ ?_ ?_ ?_ ?_); (· rfl); (· rfl); (· simp); (· rfl); intro wc4 hwc hbc hoc; have HB4 := Lib.hid hbc; have HO4 := Lib.hid hoc; have HF4 := Lib.hid (hoc.at HNE.out HF3.out); have f1 := cell_block HF4.out 1; simp at f1; clear hwc hbc hoc)
        | ((with_reducible refine store_in rfl 24 _ _ rfl w5.heap.size 4 28 _ (cfC tv1 lv1 sv1 (.slice none 0 0) (.slice none 0 0) { X with charge := 0, mask := 0, table := 0, mn := 0, qn := 0 }) (.slice none 0 0) info24s HB4.out rfl ?_ ?_ ?_ ?_ ?_); (· rfl); (· rfl); (· simp); (· rfl); intro wc5 hwc hbc hoc; have HB5 := Lib.hid hbc; have HO5 := Lib.hid hoc; have HF5 := Lib.hid (hoc.at HNE.out HF4.out); have f1 := cell_block HF5.out 1; simp at f1; clear hwc hbc hoc)
        | fail)
      have HGF := Lib.hid (((((HFB.out.only HO1.out (Nat.le_refl _)).only HO2.out (Nat.le_refl _)).only HO3.out (Nat.le_refl _)).only HO4.out (Nat.le_refl _)).only HO5.out (Nat.le_refl _))
      have HBF := Lib.hid HB5.out
      have HFF := Lib.hid HF5.out
      have HVW := Lib.hid (HO.out.parts.reads.grow HGF.out)
      have HVF := Lib.hid (show ConfV wc5 tv1 lv1 sv1 (.slice none 0 0) (.slice none 0 0) ({ X with charge := 0, mask := 0, table := 0, mn := 0, qn := 0 } : Cf) from ⟨HVW.out.t, HVW.out.l, HVW.out.s, nums_none _ _, nums_none _ _⟩)
      have HFS := Lib.hid (show faultC (sysP ({ X with charge := 0, mask := 0, table := 0, mn := 0, qn := 0 } : Cf)) = #[.int .i64 fe, .int .i64 fp, .int .i64 fi, .int .i64 fa] by
        rw [first_same (X := X) (Y := { X with charge := 0, mask := 0, table := 0, mn := 0, qn := 0 }) (p := fp) (by rw [HS.out]) ⟨rfl, rfl⟩ (by rw [if_neg (show ¬ fp < 2 by omega)]; exact ⟨rfl, rfl⟩) (by rw [if_neg (show ¬ fp < 3 by omega)]) (by rw [if_neg (show ¬ fp < 4 by omega)]; exact ⟨rfl, rfl⟩) (by rw [if_pos (show fp < 5 by omega)]) (by rw [if_pos (show fp < 6 by omega)]) (by rw [if_pos (show fp < 7 by omega)]) (by rw [if_pos (show fp < 8 by omega)]) (by rw [if_pos (show fp < 9 by omega)]), HS.out])
      clear hp2 hp3 hp4 hp5 hp6 hp7 hp8 hp9
      clear f1
      clear HF5 HB5 HO5 HF4 HB4 HO4 HF3 HB3 HO3 HF2 HB2 HO2 HF1 HB1 HO1
      clear HB0 HF0
      generalize wc5 = wz at HGF HBF HFF HVF HVW ⊢
      refine wp_region_rel _ Grow (fun w' => Grow wz w') [([(4, none)], none), ([(48, some 0)], none), ([(3, none)], none), ([(49, some 1), (50, some 0)], none), ([(51, some 0)], none)] (by kernel_rfl) (by kernel_rfl) (Grow.drewN wz 1) ?_
      (refine rel_pure ?_; apply Exists.intro; refine ⟨fun aR wQ hF hk => ?_, ?_⟩; focus (refine rel_none fun K hK => ?_; refine wp_load_row 28 (.tmp 4) (by rfl) w5.heap.size (by exact hk.1) 28 _ (0, 0) _ (hF.at HBF.out) Try.underlying28 rfl (info28s _ _ _ _ _ ({ X with charge := 0, mask := 0, table := 0, mn := 0, qn := 0 } : Cf)) (hK _ _ (Grow.refl _) hF rfl)))
      (refine rel_pure ?_; apply Exists.intro; refine ⟨fun aR wQ hF hk => ?_, ?_⟩; focus (refine rel_none fun K hK => ?_; (try simp at hk); go_simp; refine (aw_chk (X := ({ X with charge := 0, mask := 0, table := 0, mn := 0, qn := 0 } : Cf)) wQ (HVF.out.grow hF) (HSN.out) HFS.out rfl).mono ?_; rintro e w' ⟨rfl, hg⟩; exact hK _ _ hg (hF.trans hg) rfl))
      (refine rel_pure ?_; apply Exists.intro; refine ⟨fun aR wQ hF hk => ?_, ?_⟩; focus (refine rel_none fun K hK => ?_; refine wp_load_row 33 (.tmp 3) (by rfl) gf (by exact hk.1) 33 _ (0, 0) _ (hF.at HFF.out) Try.underlying33 rfl (info33) (hK _ _ (Grow.refl _) hF rfl)))
      (refine rel_pure ?_; apply Exists.intro; refine ⟨fun aR wQ hF hk => ?_, ?_⟩; focus (first | exact rel_no hk.1 rfl rfl | ((first | (refine rel_none fun K hK => ?_) | (refine rel_yes hk.1 fun K hK => ?_)); (try simp at hk); go_simp; exact hK _ _ (Grow.refl _) hF rfl)))
      (refine rel_pure ?_; apply Exists.intro; refine ⟨fun aR wQ hF hk => ?_, ?_⟩; focus (first | exact rel_no hk.1 rfl rfl | ((first | (refine rel_none fun K hK => ?_) | (refine rel_yes hk.1 fun K hK => ?_)); (try simp at hk); go_simp; exact hK _ _ (Grow.refl _) hF rfl)))
      refine rel_done fun wR hF => ?_
      repeat (first | (refine fun v hv => ?_; obtain rfl : v = _ := hv) | (refine fun v hv => ?_))
      simp only [Act.put, List.setIfInBounds_toArray, List.set_cons_zero, List.set_cons_succ]
      refine rel_nil ?_
      go_wp2
      go_ret
      exact ⟨rfl, ((HG.out.trans G4.out).trans HGF.out).trans hF⟩
    by_cases h6 : fp < 6
    · have hp2 : ¬ (fp < 2) := by omega
      have hp3 : ¬ (fp < 3) := by omega
      have hp4 : ¬ (fp < 4) := by omega
      have hp5 : ¬ (fp < 5) := by omega
      have hp6 : (fp < 6) := by omega
      have hp7 : (fp < 7) := by omega
      have hp8 : (fp < 8) := by omega
      have hp9 : (fp < 9) := by omega
      go_wp2_with (first
        | ((with_reducible refine wpList_store_blk rfl 28 _ _ rfl w5.heap.size 28 _ (cfC tv1 lv1 sv1 qv1 mv1 X) ?_ ?_ (heapAt_alloc_new w5 _) ?_ (info28s _ _ _ _ _ X) HON.out ?_); (· rfl); (· rfl); (· rfl); intro wb hb0 ho0; have HFB := Lib.hid (HFE.out.only ho0 (Nat.le_refl _)); have HB0 := Lib.hid hb0; have HF0 := Lib.hid (HFB.out.at HFX.out); have f1 := cell_block HF0.out 1; simp at f1; clear hb0 ho0)
        | ((with_reducible refine store_in rfl 3 _ _ rfl w5.heap.size 9 28 _ (cfC tv1 lv1 sv1 qv1 mv1 { X with charge := 0 }) (.int .i64 0) info3s HB0.out rfl ?_ ?_ ?_ ?_ ?_); (· rfl); (· rfl); (· simp); (· rfl); intro wc1 hwc hbc hoc; have HB1 := Lib.hid hbc; have HO1 := Lib.hid hoc; have HF1 := Lib.hid (hoc.at HNE.out HF0.out); have f1 := cell_block HF1.out 1; simp at f1; clear hwc hbc hoc)
        | ((with_reducible refine store_in rfl 25 _ _ rfl w5.heap.size 7 28 _ (cfC tv1 lv1 sv1 qv1 mv1 { X with charge := 0, mask := 0 }) (.int .u32 0) info25s HB1.out rfl ?_ ?_ ?_ ?_ ?_); (· rfl); (· rfl); (· simp); (· rfl); intro wc2 hwc hbc hoc; have HB2 := Lib.hid hbc; have HO2 := Lib.hid hoc; have HF2 := Lib.hid (hoc.at HNE.out HF1.out); have f1 := cell_block HF2.out 1; simp at f1; clear hwc hbc hoc)
        | ((with_reducible refine store_in rfl 3 _ _ rfl w5.heap.size 6 28 _ (cfC tv1 lv1 sv1 qv1 mv1 { X with charge := 0, mask := 0, table := 0 }) (.int .i64 0) info3s HB2.out rfl ?_ ?_ ?_ ?_ ?_); (· rfl); (· rfl); (· simp); (· rfl); intro wc3 hwc hbc hoc; have HB3 := Lib.hid hbc; have HO3 := Lib.hid hoc; have HF3 := Lib.hid (hoc.at HNE.out HF2.out); have f1 := cell_block HF3.out 1; simp at f1; clear hwc hbc hoc)
        | ((with_reducible refine store_in rfl 24 _ _ rfl w5.heap.size 5 28 _ (cfC tv1 lv1 sv1 qv1 (.slice none 0 0) { X with charge := 0, mask := 0, table := 0, mn := 0 }) (.slice none 0 0) info24s HB3.out rfl ?_ ?_ ?_ ?_ ?_); (· rfl); (· rfl); (· simp); (· rfl); intro wc4 hwc hbc hoc; have HB4 := Lib.hid hbc; have HO4 := Lib.hid hoc; have HF4 := Lib.hid (hoc.at HNE.out HF3.out); have f1 := cell_block HF4.out 1; simp at f1; clear hwc hbc hoc)
        | fail)
      have HGF := Lib.hid ((((HFB.out.only HO1.out (Nat.le_refl _)).only HO2.out (Nat.le_refl _)).only HO3.out (Nat.le_refl _)).only HO4.out (Nat.le_refl _))
      have HBF := Lib.hid HB4.out
      have HFF := Lib.hid HF4.out
      have HVW := Lib.hid (HO.out.parts.reads.grow HGF.out)
      have HVF := Lib.hid (show ConfV wc4 tv1 lv1 sv1 qv1 (.slice none 0 0) ({ X with charge := 0, mask := 0, table := 0, mn := 0 } : Cf) from ⟨HVW.out.t, HVW.out.l, HVW.out.s, HVW.out.q, nums_none _ _⟩)
      have HFS := Lib.hid (show faultC (sysP ({ X with charge := 0, mask := 0, table := 0, mn := 0 } : Cf)) = #[.int .i64 fe, .int .i64 fp, .int .i64 fi, .int .i64 fa] by
        rw [first_same (X := X) (Y := { X with charge := 0, mask := 0, table := 0, mn := 0 }) (p := fp) (by rw [HS.out]) ⟨rfl, rfl⟩ (by rw [if_neg (show ¬ fp < 2 by omega)]; exact ⟨rfl, rfl⟩) (by rw [if_neg (show ¬ fp < 3 by omega)]) (by rw [if_neg (show ¬ fp < 4 by omega)]; exact ⟨rfl, rfl⟩) (by rw [if_neg (show ¬ fp < 5 by omega)]; exact ⟨rfl, rfl⟩) (by rw [if_pos (show fp < 6 by omega)]) (by rw [if_pos (show fp < 7 by omega)]) (by rw [if_pos (show fp < 8 by omega)]) (by rw [if_pos (show fp < 9 by omega)]), HS.out])
      clear hp2 hp3 hp4 hp5 hp6 hp7 hp8 hp9
      clear f1
      clear HF4 HB4 HO4 HF3 HB3 HO3 HF2 HB2 HO2 HF1 HB1 HO1
      clear HB0 HF0
      generalize wc4 = wz at HGF HBF HFF HVF HVW ⊢
      refine wp_region_rel _ Grow (fun w' => Grow wz w') [([(4, none)], none), ([(48, some 0)], none), ([(3, none)], none), ([(49, some 1), (50, some 0)], none), ([(51, some 0)], none)] (by kernel_rfl) (by kernel_rfl) (Grow.drewN wz 1) ?_
      (refine rel_pure ?_; apply Exists.intro; refine ⟨fun aR wQ hF hk => ?_, ?_⟩; focus (refine rel_none fun K hK => ?_; refine wp_load_row 28 (.tmp 4) (by rfl) w5.heap.size (by exact hk.1) 28 _ (0, 0) _ (hF.at HBF.out) Try.underlying28 rfl (info28s _ _ _ _ _ ({ X with charge := 0, mask := 0, table := 0, mn := 0 } : Cf)) (hK _ _ (Grow.refl _) hF rfl)))
      (refine rel_pure ?_; apply Exists.intro; refine ⟨fun aR wQ hF hk => ?_, ?_⟩; focus (refine rel_none fun K hK => ?_; (try simp at hk); go_simp; refine (aw_chk (X := ({ X with charge := 0, mask := 0, table := 0, mn := 0 } : Cf)) wQ (HVF.out.grow hF) (HSN.out) HFS.out rfl).mono ?_; rintro e w' ⟨rfl, hg⟩; exact hK _ _ hg (hF.trans hg) rfl))
      (refine rel_pure ?_; apply Exists.intro; refine ⟨fun aR wQ hF hk => ?_, ?_⟩; focus (refine rel_none fun K hK => ?_; refine wp_load_row 33 (.tmp 3) (by rfl) gf (by exact hk.1) 33 _ (0, 0) _ (hF.at HFF.out) Try.underlying33 rfl (info33) (hK _ _ (Grow.refl _) hF rfl)))
      (refine rel_pure ?_; apply Exists.intro; refine ⟨fun aR wQ hF hk => ?_, ?_⟩; focus (first | exact rel_no hk.1 rfl rfl | ((first | (refine rel_none fun K hK => ?_) | (refine rel_yes hk.1 fun K hK => ?_)); (try simp at hk); go_simp; exact hK _ _ (Grow.refl _) hF rfl)))
      (refine rel_pure ?_; apply Exists.intro; refine ⟨fun aR wQ hF hk => ?_, ?_⟩; focus (first | exact rel_no hk.1 rfl rfl | ((first | (refine rel_none fun K hK => ?_) | (refine rel_yes hk.1 fun K hK => ?_)); (try simp at hk); go_simp; exact hK _ _ (Grow.refl _) hF rfl)))
      refine rel_done fun wR hF => ?_
      repeat (first | (refine fun v hv => ?_; obtain rfl : v = _ := hv) | (refine fun v hv => ?_))
      simp only [Act.put, List.setIfInBounds_toArray, List.set_cons_zero, List.set_cons_succ]
      refine rel_nil ?_
      go_wp2
      go_ret
      exact ⟨rfl, ((HG.out.trans G4.out).trans HGF.out).trans hF⟩
    by_cases h7 : fp < 7
    · have hp2 : ¬ (fp < 2) := by omega
      have hp3 : ¬ (fp < 3) := by omega
      have hp4 : ¬ (fp < 4) := by omega
      have hp5 : ¬ (fp < 5) := by omega
      have hp6 : ¬ (fp < 6) := by omega
      have hp7 : (fp < 7) := by omega
      have hp8 : (fp < 8) := by omega
      have hp9 : (fp < 9) := by omega
      go_wp2_with (first
        | ((with_reducible refine wpList_store_blk rfl 28 _ _ rfl w5.heap.size 28 _ (cfC tv1 lv1 sv1 qv1 mv1 X) ?_ ?_ (heapAt_alloc_new w5 _) ?_ (info28s _ _ _ _ _ X) HON.out ?_); (· rfl); (· rfl); (· rfl); intro wb hb0 ho0; have HFB := Lib.hid (HFE.out.only ho0 (Nat.le_refl _)); have HB0 := Lib.hid hb0; have HF0 := Lib.hid (HFB.out.at HFX.out); have f1 := cell_block HF0.out 1; simp at f1; clear hb0 ho0)
        | ((with_reducible refine store_in rfl 3 _ _ rfl w5.heap.size 9 28 _ (cfC tv1 lv1 sv1 qv1 mv1 { X with charge := 0 }) (.int .i64 0) info3s HB0.out rfl ?_ ?_ ?_ ?_ ?_); (· rfl); (· rfl); (· simp); (· rfl); intro wc1 hwc hbc hoc; have HB1 := Lib.hid hbc; have HO1 := Lib.hid hoc; have HF1 := Lib.hid (hoc.at HNE.out HF0.out); have f1 := cell_block HF1.out 1; simp at f1; clear hwc hbc hoc)
        | ((with_reducible refine store_in rfl 25 _ _ rfl w5.heap.size 7 28 _ (cfC tv1 lv1 sv1 qv1 mv1 { X with charge := 0, mask := 0 }) (.int .u32 0) info25s HB1.out rfl ?_ ?_ ?_ ?_ ?_); (· rfl); (· rfl); (· simp); (· rfl); intro wc2 hwc hbc hoc; have HB2 := Lib.hid hbc; have HO2 := Lib.hid hoc; have HF2 := Lib.hid (hoc.at HNE.out HF1.out); have f1 := cell_block HF2.out 1; simp at f1; clear hwc hbc hoc)
        | ((with_reducible refine store_in rfl 3 _ _ rfl w5.heap.size 6 28 _ (cfC tv1 lv1 sv1 qv1 mv1 { X with charge := 0, mask := 0, table := 0 }) (.int .i64 0) info3s HB2.out rfl ?_ ?_ ?_ ?_ ?_); (· rfl); (· rfl); (· simp); (· rfl); intro wc3 hwc hbc hoc; have HB3 := Lib.hid hbc; have HO3 := Lib.hid hoc; have HF3 := Lib.hid (hoc.at HNE.out HF2.out); have f1 := cell_block HF3.out 1; simp at f1; clear hwc hbc hoc)
        | fail)
      have HGF := Lib.hid (((HFB.out.only HO1.out (Nat.le_refl _)).only HO2.out (Nat.le_refl _)).only HO3.out (Nat.le_refl _))
      have HBF := Lib.hid HB3.out
      have HFF := Lib.hid HF3.out
      have HVW := Lib.hid (HO.out.parts.reads.grow HGF.out)
      have HVF := Lib.hid (show ConfV wc3 tv1 lv1 sv1 qv1 mv1 ({ X with charge := 0, mask := 0, table := 0 } : Cf) from ⟨HVW.out.t, HVW.out.l, HVW.out.s, HVW.out.q, HVW.out.m⟩)
      have HFS := Lib.hid (show faultC (sysP ({ X with charge := 0, mask := 0, table := 0 } : Cf)) = #[.int .i64 fe, .int .i64 fp, .int .i64 fi, .int .i64 fa] by
        rw [first_same (X := X) (Y := { X with charge := 0, mask := 0, table := 0 }) (p := fp) (by rw [HS.out]) ⟨rfl, rfl⟩ (by rw [if_neg (show ¬ fp < 2 by omega)]; exact ⟨rfl, rfl⟩) (by rw [if_neg (show ¬ fp < 3 by omega)]) (by rw [if_neg (show ¬ fp < 4 by omega)]; exact ⟨rfl, rfl⟩) (by rw [if_neg (show ¬ fp < 5 by omega)]; exact ⟨rfl, rfl⟩) (by rw [if_neg (show ¬ fp < 6 by omega)]; exact ⟨rfl, rfl⟩) (by rw [if_pos (show fp < 7 by omega)]) (by rw [if_pos (show fp < 8 by omega)]) (by rw [if_pos (show fp < 9 by omega)]), HS.out])
      clear hp2 hp3 hp4 hp5 hp6 hp7 hp8 hp9
      clear f1
      clear HF3 HB3 HO3 HF2 HB2 HO2 HF1 HB1 HO1
      clear HB0 HF0
      generalize wc3 = wz at HGF HBF HFF HVF HVW ⊢
      refine wp_region_rel _ Grow (fun w' => Grow wz w') [([(4, none)], none), ([(48, some 0)], none), ([(3, none)], none), ([(49, some 1), (50, some 0)], none), ([(51, some 0)], none)] (by kernel_rfl) (by kernel_rfl) (Grow.drewN wz 1) ?_
      (refine rel_pure ?_; apply Exists.intro; refine ⟨fun aR wQ hF hk => ?_, ?_⟩; focus (refine rel_none fun K hK => ?_; refine wp_load_row 28 (.tmp 4) (by rfl) w5.heap.size (by exact hk.1) 28 _ (0, 0) _ (hF.at HBF.out) Try.underlying28 rfl (info28s _ _ _ _ _ ({ X with charge := 0, mask := 0, table := 0 } : Cf)) (hK _ _ (Grow.refl _) hF rfl)))
      (refine rel_pure ?_; apply Exists.intro; refine ⟨fun aR wQ hF hk => ?_, ?_⟩; focus (refine rel_none fun K hK => ?_; (try simp at hk); go_simp; refine (aw_chk (X := ({ X with charge := 0, mask := 0, table := 0 } : Cf)) wQ (HVF.out.grow hF) (HSN.out) HFS.out rfl).mono ?_; rintro e w' ⟨rfl, hg⟩; exact hK _ _ hg (hF.trans hg) rfl))
      (refine rel_pure ?_; apply Exists.intro; refine ⟨fun aR wQ hF hk => ?_, ?_⟩; focus (refine rel_none fun K hK => ?_; refine wp_load_row 33 (.tmp 3) (by rfl) gf (by exact hk.1) 33 _ (0, 0) _ (hF.at HFF.out) Try.underlying33 rfl (info33) (hK _ _ (Grow.refl _) hF rfl)))
      (refine rel_pure ?_; apply Exists.intro; refine ⟨fun aR wQ hF hk => ?_, ?_⟩; focus (first | exact rel_no hk.1 rfl rfl | ((first | (refine rel_none fun K hK => ?_) | (refine rel_yes hk.1 fun K hK => ?_)); (try simp at hk); go_simp; exact hK _ _ (Grow.refl _) hF rfl)))
      (refine rel_pure ?_; apply Exists.intro; refine ⟨fun aR wQ hF hk => ?_, ?_⟩; focus (first | exact rel_no hk.1 rfl rfl | ((first | (refine rel_none fun K hK => ?_) | (refine rel_yes hk.1 fun K hK => ?_)); (try simp at hk); go_simp; exact hK _ _ (Grow.refl _) hF rfl)))
      refine rel_done fun wR hF => ?_
      repeat (first | (refine fun v hv => ?_; obtain rfl : v = _ := hv) | (refine fun v hv => ?_))
      simp only [Act.put, List.setIfInBounds_toArray, List.set_cons_zero, List.set_cons_succ]
      refine rel_nil ?_
      go_wp2
      go_ret
      exact ⟨rfl, ((HG.out.trans G4.out).trans HGF.out).trans hF⟩
    by_cases h8 : fp < 8
    · have hp2 : ¬ (fp < 2) := by omega
      have hp3 : ¬ (fp < 3) := by omega
      have hp4 : ¬ (fp < 4) := by omega
      have hp5 : ¬ (fp < 5) := by omega
      have hp6 : ¬ (fp < 6) := by omega
      have hp7 : ¬ (fp < 7) := by omega
      have hp8 : (fp < 8) := by omega
      have hp9 : (fp < 9) := by omega
      go_wp2_with (first
        | ((with_reducible refine wpList_store_blk rfl 28 _ _ rfl w5.heap.size 28 _ (cfC tv1 lv1 sv1 qv1 mv1 X) ?_ ?_ (heapAt_alloc_new w5 _) ?_ (info28s _ _ _ _ _ X) HON.out ?_); (· rfl); (· rfl); (· rfl); intro wb hb0 ho0; have HFB := Lib.hid (HFE.out.only ho0 (Nat.le_refl _)); have HB0 := Lib.hid hb0; have HF0 := Lib.hid (HFB.out.at HFX.out); have f1 := cell_block HF0.out 1; simp at f1; clear hb0 ho0)
        | ((with_reducible refine store_in rfl 3 _ _ rfl w5.heap.size 9 28 _ (cfC tv1 lv1 sv1 qv1 mv1 { X with charge := 0 }) (.int .i64 0) info3s HB0.out rfl ?_ ?_ ?_ ?_ ?_); (· rfl); (· rfl); (· simp); (· rfl); intro wc1 hwc hbc hoc; have HB1 := Lib.hid hbc; have HO1 := Lib.hid hoc; have HF1 := Lib.hid (hoc.at HNE.out HF0.out); have f1 := cell_block HF1.out 1; simp at f1; clear hwc hbc hoc)
        | ((with_reducible refine store_in rfl 25 _ _ rfl w5.heap.size 7 28 _ (cfC tv1 lv1 sv1 qv1 mv1 { X with charge := 0, mask := 0 }) (.int .u32 0) info25s HB1.out rfl ?_ ?_ ?_ ?_ ?_); (· rfl); (· rfl); (· simp); (· rfl); intro wc2 hwc hbc hoc; have HB2 := Lib.hid hbc; have HO2 := Lib.hid hoc; have HF2 := Lib.hid (hoc.at HNE.out HF1.out); have f1 := cell_block HF2.out 1; simp at f1; clear hwc hbc hoc)
        | fail)
      have HGF := Lib.hid ((HFB.out.only HO1.out (Nat.le_refl _)).only HO2.out (Nat.le_refl _))
      have HBF := Lib.hid HB2.out
      have HFF := Lib.hid HF2.out
      have HVW := Lib.hid (HO.out.parts.reads.grow HGF.out)
      have HVF := Lib.hid (show ConfV wc2 tv1 lv1 sv1 qv1 mv1 ({ X with charge := 0, mask := 0 } : Cf) from ⟨HVW.out.t, HVW.out.l, HVW.out.s, HVW.out.q, HVW.out.m⟩)
      have HFS := Lib.hid (show faultC (sysP ({ X with charge := 0, mask := 0 } : Cf)) = #[.int .i64 fe, .int .i64 fp, .int .i64 fi, .int .i64 fa] by
        rw [first_same (X := X) (Y := { X with charge := 0, mask := 0 }) (p := fp) (by rw [HS.out]) ⟨rfl, rfl⟩ (by rw [if_neg (show ¬ fp < 2 by omega)]; exact ⟨rfl, rfl⟩) (by rw [if_neg (show ¬ fp < 3 by omega)]) (by rw [if_neg (show ¬ fp < 4 by omega)]; exact ⟨rfl, rfl⟩) (by rw [if_neg (show ¬ fp < 5 by omega)]; exact ⟨rfl, rfl⟩) (by rw [if_neg (show ¬ fp < 6 by omega)]; exact ⟨rfl, rfl⟩) (by rw [if_neg (show ¬ fp < 7 by omega)]) (by rw [if_pos (show fp < 8 by omega)]) (by rw [if_pos (show fp < 9 by omega)]), HS.out])
      clear hp2 hp3 hp4 hp5 hp6 hp7 hp8 hp9
      clear f1
      clear HF2 HB2 HO2 HF1 HB1 HO1
      clear HB0 HF0
      generalize wc2 = wz at HGF HBF HFF HVF HVW ⊢
      refine wp_region_rel _ Grow (fun w' => Grow wz w') [([(4, none)], none), ([(48, some 0)], none), ([(3, none)], none), ([(49, some 1), (50, some 0)], none), ([(51, some 0)], none)] (by kernel_rfl) (by kernel_rfl) (Grow.drewN wz 1) ?_
      (refine rel_pure ?_; apply Exists.intro; refine ⟨fun aR wQ hF hk => ?_, ?_⟩; focus (refine rel_none fun K hK => ?_; refine wp_load_row 28 (.tmp 4) (by rfl) w5.heap.size (by exact hk.1) 28 _ (0, 0) _ (hF.at HBF.out) Try.underlying28 rfl (info28s _ _ _ _ _ ({ X with charge := 0, mask := 0 } : Cf)) (hK _ _ (Grow.refl _) hF rfl)))
      (refine rel_pure ?_; apply Exists.intro; refine ⟨fun aR wQ hF hk => ?_, ?_⟩; focus (refine rel_none fun K hK => ?_; (try simp at hk); go_simp; refine (aw_chk (X := ({ X with charge := 0, mask := 0 } : Cf)) wQ (HVF.out.grow hF) (HSN.out) HFS.out rfl).mono ?_; rintro e w' ⟨rfl, hg⟩; exact hK _ _ hg (hF.trans hg) rfl))
      (refine rel_pure ?_; apply Exists.intro; refine ⟨fun aR wQ hF hk => ?_, ?_⟩; focus (refine rel_none fun K hK => ?_; refine wp_load_row 33 (.tmp 3) (by rfl) gf (by exact hk.1) 33 _ (0, 0) _ (hF.at HFF.out) Try.underlying33 rfl (info33) (hK _ _ (Grow.refl _) hF rfl)))
      (refine rel_pure ?_; apply Exists.intro; refine ⟨fun aR wQ hF hk => ?_, ?_⟩; focus (first | exact rel_no hk.1 rfl rfl | ((first | (refine rel_none fun K hK => ?_) | (refine rel_yes hk.1 fun K hK => ?_)); (try simp at hk); go_simp; exact hK _ _ (Grow.refl _) hF rfl)))
      (refine rel_pure ?_; apply Exists.intro; refine ⟨fun aR wQ hF hk => ?_, ?_⟩; focus (first | exact rel_no hk.1 rfl rfl | ((first | (refine rel_none fun K hK => ?_) | (refine rel_yes hk.1 fun K hK => ?_)); (try simp at hk); go_simp; exact hK _ _ (Grow.refl _) hF rfl)))
      refine rel_done fun wR hF => ?_
      repeat (first | (refine fun v hv => ?_; obtain rfl : v = _ := hv) | (refine fun v hv => ?_))
      simp only [Act.put, List.setIfInBounds_toArray, List.set_cons_zero, List.set_cons_succ]
      refine rel_nil ?_
      go_wp2
      go_ret
      exact ⟨rfl, ((HG.out.trans G4.out).trans HGF.out).trans hF⟩
    by_cases h9 : fp < 9
    · have hp2 : ¬ (fp < 2) := by omega
      have hp3 : ¬ (fp < 3) := by omega
      have hp4 : ¬ (fp < 4) := by omega
      have hp5 : ¬ (fp < 5) := by omega
      have hp6 : ¬ (fp < 6) := by omega
      have hp7 : ¬ (fp < 7) := by omega
      have hp8 : ¬ (fp < 8) := by omega
      have hp9 : (fp < 9) := by omega
      go_wp2_with (first
        | ((with_reducible refine wpList_store_blk rfl 28 _ _ rfl w5.heap.size 28 _ (cfC tv1 lv1 sv1 qv1 mv1 X) ?_ ?_ (heapAt_alloc_new w5 _) ?_ (info28s _ _ _ _ _ X) HON.out ?_); (· rfl); (· rfl); (· rfl); intro wb hb0 ho0; have HFB := Lib.hid (HFE.out.only ho0 (Nat.le_refl _)); have HB0 := Lib.hid hb0; have HF0 := Lib.hid (HFB.out.at HFX.out); have f1 := cell_block HF0.out 1; simp at f1; clear hb0 ho0)
        | ((with_reducible refine store_in rfl 3 _ _ rfl w5.heap.size 9 28 _ (cfC tv1 lv1 sv1 qv1 mv1 { X with charge := 0 }) (.int .i64 0) info3s HB0.out rfl ?_ ?_ ?_ ?_ ?_); (· rfl); (· rfl); (· simp); (· rfl); intro wc1 hwc hbc hoc; have HB1 := Lib.hid hbc; have HO1 := Lib.hid hoc; have HF1 := Lib.hid (hoc.at HNE.out HF0.out); have f1 := cell_block HF1.out 1; simp at f1; clear hwc hbc hoc)
        | fail)
      have HGF := Lib.hid (HFB.out.only HO1.out (Nat.le_refl _))
      have HBF := Lib.hid HB1.out
      have HFF := Lib.hid HF1.out
      have HVW := Lib.hid (HO.out.parts.reads.grow HGF.out)
      have HVF := Lib.hid (show ConfV wc1 tv1 lv1 sv1 qv1 mv1 ({ X with charge := 0 } : Cf) from ⟨HVW.out.t, HVW.out.l, HVW.out.s, HVW.out.q, HVW.out.m⟩)
      have HFS := Lib.hid (show faultC (sysP ({ X with charge := 0 } : Cf)) = #[.int .i64 fe, .int .i64 fp, .int .i64 fi, .int .i64 fa] by
        rw [first_same (X := X) (Y := { X with charge := 0 }) (p := fp) (by rw [HS.out]) ⟨rfl, rfl⟩ (by rw [if_neg (show ¬ fp < 2 by omega)]; exact ⟨rfl, rfl⟩) (by rw [if_neg (show ¬ fp < 3 by omega)]) (by rw [if_neg (show ¬ fp < 4 by omega)]; exact ⟨rfl, rfl⟩) (by rw [if_neg (show ¬ fp < 5 by omega)]; exact ⟨rfl, rfl⟩) (by rw [if_neg (show ¬ fp < 6 by omega)]; exact ⟨rfl, rfl⟩) (by rw [if_neg (show ¬ fp < 7 by omega)]) (by rw [if_neg (show ¬ fp < 8 by omega)]) (by rw [if_pos (show fp < 9 by omega)]), HS.out])
      clear hp2 hp3 hp4 hp5 hp6 hp7 hp8 hp9
      clear f1
      clear HF1 HB1 HO1
      clear HB0 HF0
      generalize wc1 = wz at HGF HBF HFF HVF HVW ⊢
      refine wp_region_rel _ Grow (fun w' => Grow wz w') [([(4, none)], none), ([(48, some 0)], none), ([(3, none)], none), ([(49, some 1), (50, some 0)], none), ([(51, some 0)], none)] (by kernel_rfl) (by kernel_rfl) (Grow.drewN wz 1) ?_
      (refine rel_pure ?_; apply Exists.intro; refine ⟨fun aR wQ hF hk => ?_, ?_⟩; focus (refine rel_none fun K hK => ?_; refine wp_load_row 28 (.tmp 4) (by rfl) w5.heap.size (by exact hk.1) 28 _ (0, 0) _ (hF.at HBF.out) Try.underlying28 rfl (info28s _ _ _ _ _ ({ X with charge := 0 } : Cf)) (hK _ _ (Grow.refl _) hF rfl)))
      (refine rel_pure ?_; apply Exists.intro; refine ⟨fun aR wQ hF hk => ?_, ?_⟩; focus (refine rel_none fun K hK => ?_; (try simp at hk); go_simp; refine (aw_chk (X := ({ X with charge := 0 } : Cf)) wQ (HVF.out.grow hF) (HSN.out) HFS.out rfl).mono ?_; rintro e w' ⟨rfl, hg⟩; exact hK _ _ hg (hF.trans hg) rfl))
      (refine rel_pure ?_; apply Exists.intro; refine ⟨fun aR wQ hF hk => ?_, ?_⟩; focus (refine rel_none fun K hK => ?_; refine wp_load_row 33 (.tmp 3) (by rfl) gf (by exact hk.1) 33 _ (0, 0) _ (hF.at HFF.out) Try.underlying33 rfl (info33) (hK _ _ (Grow.refl _) hF rfl)))
      (refine rel_pure ?_; apply Exists.intro; refine ⟨fun aR wQ hF hk => ?_, ?_⟩; focus (first | exact rel_no hk.1 rfl rfl | ((first | (refine rel_none fun K hK => ?_) | (refine rel_yes hk.1 fun K hK => ?_)); (try simp at hk); go_simp; exact hK _ _ (Grow.refl _) hF rfl)))
      (refine rel_pure ?_; apply Exists.intro; refine ⟨fun aR wQ hF hk => ?_, ?_⟩; focus (first | exact rel_no hk.1 rfl rfl | ((first | (refine rel_none fun K hK => ?_) | (refine rel_yes hk.1 fun K hK => ?_)); (try simp at hk); go_simp; exact hK _ _ (Grow.refl _) hF rfl)))
      refine rel_done fun wR hF => ?_
      repeat (first | (refine fun v hv => ?_; obtain rfl : v = _ := hv) | (refine fun v hv => ?_))
      simp only [Act.put, List.setIfInBounds_toArray, List.set_cons_zero, List.set_cons_succ]
      refine rel_nil ?_
      go_wp2
      go_ret
      exact ⟨rfl, ((HG.out.trans G4.out).trans HGF.out).trans hF⟩
    have hp2 : ¬ (fp < 2) := by omega
    have hp3 : ¬ (fp < 3) := by omega
    have hp4 : ¬ (fp < 4) := by omega
    have hp5 : ¬ (fp < 5) := by omega
    have hp6 : ¬ (fp < 6) := by omega
    have hp7 : ¬ (fp < 7) := by omega
    have hp8 : ¬ (fp < 8) := by omega
    have hp9 : ¬ (fp < 9) := by omega
    go_wp2_with (first
      | ((with_reducible refine wpList_store_blk rfl 28 _ _ rfl w5.heap.size 28 _ (cfC tv1 lv1 sv1 qv1 mv1 X) ?_ ?_ (heapAt_alloc_new w5 _) ?_ (info28s _ _ _ _ _ X) HON.out ?_); (· rfl); (· rfl); (· rfl); intro wb hb0 ho0; have HFB := Lib.hid (HFE.out.only ho0 (Nat.le_refl _)); have HB0 := Lib.hid hb0; have HF0 := Lib.hid (HFB.out.at HFX.out); have f1 := cell_block HF0.out 1; simp at f1; clear hb0 ho0)
      | fail)
    have HGF := Lib.hid HFB.out
    have HBF := Lib.hid HB0.out
    have HFF := Lib.hid HF0.out
    have HVW := Lib.hid (HO.out.parts.reads.grow HGF.out)
    have HVF := Lib.hid (show ConfV wb tv1 lv1 sv1 qv1 mv1 (X : Cf) from ⟨HVW.out.t, HVW.out.l, HVW.out.s, HVW.out.q, HVW.out.m⟩)
    have HFS := Lib.hid (show faultC (sysP (X : Cf)) = #[.int .i64 fe, .int .i64 fp, .int .i64 fi, .int .i64 fa] by
      rw [first_same (X := X) (Y := X) (p := fp) (by rw [HS.out]) ⟨rfl, rfl⟩ (by rw [if_neg (show ¬ fp < 2 by omega)]; exact ⟨rfl, rfl⟩) (by rw [if_neg (show ¬ fp < 3 by omega)]) (by rw [if_neg (show ¬ fp < 4 by omega)]; exact ⟨rfl, rfl⟩) (by rw [if_neg (show ¬ fp < 5 by omega)]; exact ⟨rfl, rfl⟩) (by rw [if_neg (show ¬ fp < 6 by omega)]; exact ⟨rfl, rfl⟩) (by rw [if_neg (show ¬ fp < 7 by omega)]) (by rw [if_neg (show ¬ fp < 8 by omega)]) (by rw [if_neg (show ¬ fp < 9 by omega)]), HS.out])
    clear hp2 hp3 hp4 hp5 hp6 hp7 hp8 hp9
    clear f1
    clear HB0 HF0
    generalize wb = wz at HGF HBF HFF HVF HVW ⊢
    refine wp_region_rel _ Grow (fun w' => Grow wz w') [([(4, none)], none), ([(48, some 0)], none), ([(3, none)], none), ([(49, some 1), (50, some 0)], none), ([(51, some 0)], none)] (by kernel_rfl) (by kernel_rfl) (Grow.drewN wz 1) ?_
    (refine rel_pure ?_; apply Exists.intro; refine ⟨fun aR wQ hF hk => ?_, ?_⟩; focus (refine rel_none fun K hK => ?_; refine wp_load_row 28 (.tmp 4) (by rfl) w5.heap.size (by exact hk.1) 28 _ (0, 0) _ (hF.at HBF.out) Try.underlying28 rfl (info28s _ _ _ _ _ (X : Cf)) (hK _ _ (Grow.refl _) hF rfl)))
    (refine rel_pure ?_; apply Exists.intro; refine ⟨fun aR wQ hF hk => ?_, ?_⟩; focus (refine rel_none fun K hK => ?_; (try simp at hk); go_simp; refine (aw_chk (X := (X : Cf)) wQ (HVF.out.grow hF) (HSN.out) HFS.out rfl).mono ?_; rintro e w' ⟨rfl, hg⟩; exact hK _ _ hg (hF.trans hg) rfl))
    (refine rel_pure ?_; apply Exists.intro; refine ⟨fun aR wQ hF hk => ?_, ?_⟩; focus (refine rel_none fun K hK => ?_; refine wp_load_row 33 (.tmp 3) (by rfl) gf (by exact hk.1) 33 _ (0, 0) _ (hF.at HFF.out) Try.underlying33 rfl (info33) (hK _ _ (Grow.refl _) hF rfl)))
    (refine rel_pure ?_; apply Exists.intro; refine ⟨fun aR wQ hF hk => ?_, ?_⟩; focus (first | exact rel_no hk.1 rfl rfl | ((first | (refine rel_none fun K hK => ?_) | (refine rel_yes hk.1 fun K hK => ?_)); (try simp at hk); go_simp; exact hK _ _ (Grow.refl _) hF rfl)))
    (refine rel_pure ?_; apply Exists.intro; refine ⟨fun aR wQ hF hk => ?_, ?_⟩; focus (first | exact rel_no hk.1 rfl rfl | ((first | (refine rel_none fun K hK => ?_) | (refine rel_yes hk.1 fun K hK => ?_)); (try simp at hk); go_simp; exact hK _ _ (Grow.refl _) hF rfl)))
    refine rel_done fun wR hF => ?_
    repeat (first | (refine fun v hv => ?_; obtain rfl : v = _ := hv) | (refine fun v hv => ?_))
    simp only [Act.put, List.setIfInBounds_toArray, List.set_cons_zero, List.set_cons_succ]
    refine rel_nil ?_
    go_wp2
    go_ret
    exact ⟨rfl, ((HG.out.trans G4.out).trans HGF.out).trans hF⟩
  · refine (greatX_any (X := X) _ (HV.out.grow G1.out) true ⟨nofun, fun h => absurd h hm⟩).mono ?_
    rintro _ w3 ⟨rfl, hg⟩
    have G2 := Lib.hid (G1.out.trans hg); clear hg
    go_wp2_with fail
    refine (awake_any _).mono ?_
    rintro _ w9 ⟨rfl, hg⟩
    have G9 := Lib.hid (G2.out.trans hg); clear hg
    go_wp2
    go_ret
    exact ⟨rfl, HG.out.trans G9.out⟩
end Go.Proofs.Ytmmbhjomgpnklaa
