/- The walk of the reference's Put. -/
import Derived.Test.YtdicgpbdfnlniaaRefPutH
namespace Go.Proofs.Ytdicgpbdfnlniaa
open Go.RowKit
set_option linter.unusedVariables false
set_option linter.unusedSimpArgs false
set_option maxRecDepth 100000
attribute [local irreducible] refC texts sumF putG RG.used RG.rest RG.lose RG.sizes RG.bytes MAt
section
variable {w : World} {base m cap : Nat} {pol : Int} {s : RG}
set_option maxHeartbeats 8000000 in
theorem refPut_plain (h : MAt w base m cap pol s) (hbg : s.begun = false) (t : List UInt8) (x : Int) (s2 : RG) (hp : putG cap pol t s.L.length s = (x, s2)) (ht1 : 1 ≤ t.length) (ht2 : t.length ≤ 179) (hl : s.gone.length + s.L.length < 1000000) :
    Calls Try.prog 12 #[.pointer (some ⟨m, 0, none⟩), .string ⟨t.toArray⟩] w fun e w' => e = .returned (.int .i64 x) ∧ MAt w' base m cap pol s2 ∧ FarM base m w w' := by
  obtain ⟨v, v2, hmw⟩ : ∃ v v2, MW w base m cap pol v v2 s.L s.gone s.begun s.gone.length := by unfold MAt at h; exact h.2.2.2
  have hcap : 179 ≤ cap := by unfold MAt at h; exact h.1
  have hcap2 : cap ≤ 1048576 := by unfold MAt at h; exact h.2.1
  have hwf0 : WF cap s := by unfold MAt at h; exact h.2.2.1
  obtain ⟨i0, hi, hz0, hz1, hz2⟩ := info_parts info9
  have HI := Lib.hid hi
  have HZ0 := Lib.hid hz0
  have HZ1 := Lib.hid hz1
  have HZ2 := Lib.hid hz2
  have HH := Lib.hid h
  have HP := Lib.hid hp
  have HL := Lib.hid hl
  have hrestle := rest_le hwf0
  obtain ⟨A, c, hv, hc, hT⟩ := own_texts hmw.row
  have c2 := hmw.c2
  rw [hv] at c2
  have c3 := hmw.c3
  have t1 : (1 : Int) ≤ (t.length : Int) := by omega
  have t2 : (t.length : Int) ≤ 179 := by omega
  have hb : s.begun = false := hbg
  have hrest : s.rest = 0 := by unfold RG.rest; rw [hb]; rfl
  rw [hb] at c3
  have HREST := Lib.hid hrest
  have hrsle : 0 ≤ 1048576 := by omega
  clear hmw hT hv hp hl h hi hz0 hz1 hz2 hrest hwf0 hrestle
  go_enter Try.func12, Try.ntmps12
  go_wp2_with fail
  go_loopw [7] (fun _ wr => ∃ s', MAt wr base m cap pol s' ∧ FarM base m w wr ∧ s'.gone.length + s'.L.length ≤ s.gone.length + s.L.length ∧ s'.rest = s.rest ∧ s'.begun = s.begun ∧ putG cap pol t s.L.length s = putG cap pol t s'.L.length s') (fun _ wq => lenAtM m wq)
  case atStart => exact ⟨s, HH.out, Far.refl _ _ _ _, Nat.le_refl _, rfl, rfl, rfl⟩
  case round =>
    obtain ⟨s', h', hf, hl, hrs', hbs', hp⟩ := hrel
    have hwf : WF cap s' := by unfold MAt at h'; exact h'.2.2.1
    have hroom := hwf.room
    have hlenL := hwf.len
    have hst := putG_step (t := t) (pol := pol) hwf (by omega)
    rw [← hp, HP.out] at hst
    have hl2 := HL.out
    have hpbound : s'.gone.length + s'.L.length < 1000000 := by omega
    have HM' := Lib.hid h'
    have HF := Lib.hid hf
    obtain ⟨v, v2, hw⟩ : ∃ v v2, MW wr base m cap pol v v2 s'.L s'.gone s'.begun s'.gone.length := by unfold MAt at h'; exact h'.2.2.2
    have HW := Lib.hid hw
    have c0 := hw.c0
    have c1 := hw.c1
    have c4 := hw.c4
    obtain ⟨us, hus⟩ : ∃ q, q = s'.used := ⟨_, rfl⟩
    obtain ⟨fr, hfr⟩ : ∃ q, q = cap - us := ⟨_, rfl⟩
    rw [← hus] at hst hroom
    rw [← hfr] at hst
    have HU := Lib.hid fun (n : Nat) => refUsed_any (hw.grow (Grow.drewN wr n)) us (by rw [hus]; unfold RG.used RG.bytes; rfl) (by omega) (by omega)
    have e1 : IntKind.i64.wrap ((cap : Int) - (us : Int)) = (fr : Int) := by rw [IntKind.wrap_i64]; omega
    have HUS := Lib.hid hus
    have HFR := Lib.hid hfr
    have HWF := Lib.hid hwf
    have HRR := Lib.hid hrs'
    have HBB := Lib.hid hbs'
    clear hw h' hf hp hus hfr hwf hrs' hbs'
    by_cases ha : t.length ≤ fr
    · rw [if_pos ha] at hst
      obtain ⟨rfl, rfl⟩ := Prod.mk.inj hst
      clear hst
      have ha' : ¬ (fr : Int) < (t.length : Int) := by omega
      go_wp2_with fail
      go_quiet ((go_at_call 24; exact Calls.quiet_of_same (HU.out _)))
      have hw1 := HW.out.grow (Grow.drewN wr nq)
      have hm1 := HM'.out.grow (Grow.drewN wr nq)
      have hf1 : FarM base m w (wr.drewN nq) := Far.trans HF.out (Far.grow (Grow.drewN wr nq) HW.out.base_le)
      clear c0 c1 c4 HU
      generalize wr.drewN nq = w1 at hw1 hm1 hf1 ⊢
      have HW1 := Lib.hid hw1
      have HM1 := Lib.hid hm1
      have HF1 := Lib.hid hf1
      clear hw1 hm1 hf1
      have cc2 := HW1.out.c2
      obtain ⟨A5, c5', hv5⟩ := own_form HW1.out.row
      rw [hv5] at cc2
      have HV5 := Lib.hid hv5; clear hv5
      have hpp := hpbound
      go_wp2_with (at_builtin; refine wpList_append_any _ rfl (.tmp 117) (.tmp 119) 30 rfl base 9 i0 (.string ⟨#[]⟩) 1 16 Try.underlying30 HI.out HZ0.out HZ1.out HZ2.out rfl (by decide) _ s'.L.length (texts s'.L) (by rfl) (by have := own_grow HW1.out.row (Grow.alloc w1 (.cells #[.string ⟨t.toArray⟩] 9)); rw [HV5.out] at this; exact this) (w1.alloc (.cells #[.string ⟨t.toArray⟩] 9)).heap.size (some ⟨w1.heap.size, 0, none⟩) 1 1 ([.string ⟨t.toArray⟩]) (by rfl) (reads_one _ _) (by simp [Value.oneCell']) (by unfold maxLen; omega) (by omega) (by have := HW1.out.base_le; simp; omega) ?k1)
      case k1 =>
      intro v' w5 hown hgrow hblk
      rw [← HV5.out] at hgrow hblk
      have hpu := MW.push2 (HW1.out.grow (Grow.alloc w1 (.cells #[.string ⟨t.toArray⟩] 9))) t hown hgrow (by simpa using hblk)
      have hne5 := (own_ne ((Grow.alloc w1 (.cells #[.string ⟨t.toArray⟩] 9)).at HW1.out.blk) (own_grow HW1.out.row (Grow.alloc w1 (.cells #[.string ⟨t.toArray⟩] 9))))
      have s5 := grown_cell hgrow hne5 (HW1.out.grow (Grow.alloc w1 (.cells #[.string ⟨t.toArray⟩] 9))).c2
      have f5 := grown_free hgrow hne5 (HW1.out.grow (Grow.alloc w1 (.cells #[.string ⟨t.toArray⟩] 9))).c2 ((HW1.out.grow (Grow.alloc w1 (.cells #[.string ⟨t.toArray⟩] 9))).fr 2)
      rw [HV5.out] at s5
      obtain ⟨A6, c6, rfl⟩ := own_form hown
      have HWN := Lib.hid hpu.1
      have HFN := Lib.hid (show FarM base m w _ from Far.trans HF1.out (Far.trans (Far.grow (Grow.alloc w1 (.cells #[.string ⟨t.toArray⟩] 9)) HW1.out.base_le) hpu.2))
      clear hpu hne5 hown hgrow hblk cc2
      go_wp2
      go_ret
      refine ⟨rfl, ?_, HFN.out⟩
      unfold MAt
      exact ⟨hcap, hcap2, HWF.out.push (by rw [← HUS.out, ← HFR.out]; exact ha) ht1, _, _, HWN.out⟩
    · rw [if_neg ha] at hst
      have ha' : (fr : Int) < (t.length : Int) := by omega
      go_wp2_with fail
      go_quiet ((go_at_call 24; exact Calls.quiet_of_same (HU.out _)))
      have hw1 := HW.out.grow (Grow.drewN wr nq)
      have hm1 := HM'.out.grow (Grow.drewN wr nq)
      have hf1 : FarM base m w (wr.drewN nq) := Far.trans HF.out (Far.grow (Grow.drewN wr nq) HW.out.base_le)
      clear c0 c1 c4 HU
      generalize wr.drewN nq = w1 at hw1 hm1 hf1 ⊢
      have HW1 := Lib.hid hw1
      have HM1 := Lib.hid hm1
      have HF1 := Lib.hid hf1
      clear hw1 hm1 hf1
      have c0 := HW1.out.c0
      have c1 := HW1.out.c1
      have c4 := HW1.out.c4
      have f4 := HW1.out.fr 4
      obtain ⟨gl, hgl⟩ : ∃ q, q = s'.gone.length := ⟨_, rfl⟩
      rw [← hgl] at c4
      obtain ⟨g2, hg2⟩ : ∃ q, q = gl + 1 := ⟨_, rfl⟩
      have e6 : IntKind.u64.wrap ((gl : Int) + 1) = (g2 : Int) := by rw [IntKind.wrap_u64]; omega
      have HGL := Lib.hid hgl
      have HG2 := Lib.hid hg2
      clear hg2 hgl
      obtain ⟨sm, hsm⟩ : ∃ q, q = t.length + 0 := ⟨_, rfl⟩
      have e2 : IntKind.i64.wrap ((t.length : Int) + (0 : Int)) = (sm : Int) := by rw [IntKind.wrap_i64]; omega
      have e2' : IntKind.i64.wrap (t.length : Int) = (t.length : Int) := by rw [IntKind.wrap_i64]; omega
      have hrest' : s'.rest = 0 := by rw [HRR.out, HREST.out]
      by_cases hpol : pol = 0
      · rw [if_pos (Or.inl hpol)] at hst
        obtain ⟨rfl, rfl⟩ := Prod.mk.inj hst
        have hpb : (pol == 0) = true := by simp [hpol]
        clear hst hrest' hsm
        have hs4 := HW1.out.set4 g2
        have hf4 : FarM base m w (w1.setCell ⟨m, 4, none⟩ (.int .u64 (g2 : Nat))) := Far.set (Pb := fun k => k = m) HF1.out rfl HW1.out.hm 4 _
        obtain ⟨w4, hw4⟩ : ∃ w4, w4 = w1.setCell ⟨m, 4, none⟩ (.int .u64 (g2 : Nat)) := ⟨_, rfl⟩
        rw [← hw4] at hs4 hf4
        have HW4 := Lib.hid hs4
        have HF4 := Lib.hid hf4
        have HQ4 := Lib.hid hw4
        clear hs4 hf4 hw4
        go_upto_region 11 with fail
        rw [← HQ4.out]
        clear c0 c1 c4 f4 e6 HQ4
        have cc5 := HW4.out.c5
        obtain ⟨A5, c5', hv5⟩ := own_form HW4.out.gon
        rw [hv5] at cc5
        have HV5 := Lib.hid hv5; clear hv5
        have hpp := hpbound
        go_wp2_with (at_builtin; refine wpList_append_any _ rfl (.tmp 64) (.tmp 66) 30 rfl base 9 i0 (.string ⟨#[]⟩) 1 16 Try.underlying30 HI.out HZ0.out HZ1.out HZ2.out rfl (by decide) _ s'.gone.length (texts s'.gone) (by rfl) (by have := own_grow HW4.out.gon (Grow.alloc w4 (.cells #[.string ⟨t.toArray⟩] 9)); rw [HV5.out] at this; exact this) (w4.alloc (.cells #[.string ⟨t.toArray⟩] 9)).heap.size (some ⟨w4.heap.size, 0, none⟩) 1 1 ([.string ⟨t.toArray⟩]) (by rfl) (reads_one _ _) (by simp [Value.oneCell']) (by unfold maxLen; omega) (by omega) (by have := HW4.out.base_le; simp; omega) ?k2)
        case k2 =>
        intro v' w5 hown hgrow hblk
        rw [← HV5.out] at hgrow hblk
        have hpu := MW.push5 (HW4.out.grow (Grow.alloc w4 (.cells #[.string ⟨t.toArray⟩] 9))) t hown hgrow (by simpa using hblk)
        have hne5 := (own_ne ((Grow.alloc w4 (.cells #[.string ⟨t.toArray⟩] 9)).at HW4.out.blk) (own_grow HW4.out.gon (Grow.alloc w4 (.cells #[.string ⟨t.toArray⟩] 9))))
        have s5 := grown_cell hgrow hne5 (HW4.out.grow (Grow.alloc w4 (.cells #[.string ⟨t.toArray⟩] 9))).c5
        have f5 := grown_free hgrow hne5 (HW4.out.grow (Grow.alloc w4 (.cells #[.string ⟨t.toArray⟩] 9))).c5 ((HW4.out.grow (Grow.alloc w4 (.cells #[.string ⟨t.toArray⟩] 9))).fr 5)
        rw [HV5.out] at s5
        obtain ⟨A6, c6, rfl⟩ := own_form hown
        have HWN := Lib.hid hpu.1
        have HFN := Lib.hid (show FarM base m w _ from Far.trans HF4.out (Far.trans (Far.grow (Grow.alloc w4 (.cells #[.string ⟨t.toArray⟩] 9)) HW4.out.base_le) hpu.2))
        clear hpu hne5 hown hgrow hblk cc5
        go_wp2
        go_ret
        refine ⟨rfl, ?_, HFN.out⟩
        unfold MAt
        have hfin := HWN.out
        have e : g2 = (s'.gone ++ [t]).length := by have := HGL.out; have := HG2.out; simp; omega
        rw [e] at hfin
        exact ⟨hcap, hcap2, wf_gone HWF.out, _, _, hfin⟩
      · have hpb : (pol == 0) = false := by simp [hpol]
        by_cases hbig : cap < t.length + 0
        · rw [if_pos (Or.inr (by rw [hrest']; exact hbig))] at hst
          obtain ⟨rfl, rfl⟩ := Prod.mk.inj hst
          have hbi : (cap : Int) < (sm : Int) := by omega
          have hbi2 : cap < sm := by omega
          exact absurd hbig (by omega)
        · have hbi : ¬ (cap : Int) < (sm : Int) := by omega
          have hbi2 : ¬ cap < sm := by omega
          have hbi3 : ¬ (cap : Int) < (t.length : Int) := by omega
          have hcan := HWF.out.can (t := t) (by rw [← HUS.out, ← HFR.out]; exact ha) (by rw [hrest']; exact hbig)
          rw [if_neg (by rw [hrest']; intro h; rcases h with h | h; exact hpol h; exact hbig h)] at hst
          have HST := Lib.hid hst
          have hlens := lose_len hcan
          have hlr := lose_rest hcan
          have HLENS := Lib.hid hlens
          have HLR := Lib.hid hlr
          clear hst hlens hlr hrest' hsm hbig
          rcases hcan with ⟨hbT, _⟩ | ⟨hbF, f, l, hL⟩
          · rw [HBB.out, hb] at hbT; cases hbT
          have hLO := lose_plain_eq hbF hL
          have HLO := Lib.hid hLO; clear hLO
          obtain ⟨A3, c3', hv3, hc3, hT3⟩ := own_texts HW1.out.row
          rw [hL] at hv3 hc3 hT3
          obtain ⟨g3, rfl, hcc3, _⟩ := hT3 (by simp)
          have zz := hcc3 0 (by simp)
          simp only [List.getD_cons_zero, List.getD_cons_succ] at zz
          have c2 := HW1.out.c2
          rw [hv3] at c2
          have c5 := HW1.out.c5
          obtain ⟨A5, c5', hv5⟩ := own_form HW1.out.gon
          rw [hv5] at c5
          have c5a := (HW1.out.grow (Grow.alloc w1 (.cells #[.string ⟨f.toArray⟩] 9))).c5
          rw [hv5] at c5a
          have HV5 := Lib.hid hv5
          have HV3 := Lib.hid hv3
          have hgone : s'.gone.length < 1000000 := by omega
          have HOG := Lib.hid (by have := own_grow HW1.out.gon (Grow.alloc w1 (.cells #[.string ⟨f.toArray⟩] 9)); rw [hv5] at this; exact this)
          have HNE := Lib.hid (own_ne ((Grow.alloc w1 (.cells #[.string ⟨f.toArray⟩] 9)).at HW1.out.blk) (own_grow HW1.out.gon (Grow.alloc w1 (.cells #[.string ⟨f.toArray⟩] 9))))
          have HMA := Lib.hid (HW1.out.grow (Grow.alloc w1 (.cells #[.string ⟨f.toArray⟩] 9)))
          obtain ⟨nn, hnn⟩ : ∃ q, q = (f :: l).length := ⟨_, rfl⟩
          rw [← hnn] at c2
          have hnn2 : nn = l.length + 1 := by rw [hnn]; simp
          have hnn3 : nn ≤ c3' := by rw [hnn]; exact hc3
          have hfi : (0 : Int) < (nn : Int) := by omega
          have hfn : 0 < nn := by omega
          have HNN := Lib.hid hnn
          have HNN2 := Lib.hid hnn2
          have HCC := Lib.hid hcc3
          clear hv5 hv3 hnn hnn2 hT3 hcc3 hc3
          go_upto_region 13 with fail
          go_cut [7] from 27 to 112 (fun _ wx => ∃ A6 c6, MW wx base m cap pol v (.slice A6 (s'.gone.length + 1) c6) s'.L (s'.gone ++ [f]) s'.begun s'.gone.length ∧ FarM base m w wx)
          case first =>
            go_wp2_with fail
            go_region_law ((refine step_append_any _ (by rfl) (.tmp 74) (.tmp 82) 30 (by rfl) base 9 i0 (.string ⟨#[]⟩) 1 16 Try.underlying30 HI.out HZ0.out HZ1.out HZ2.out rfl (by decide) _ s'.gone.length (texts s'.gone) (by rfl) HOG.out (w1.alloc (.cells #[.string ⟨f.toArray⟩] 9)).heap.size (some ⟨w1.heap.size, 0, none⟩) 1 1 [.string ⟨f.toArray⟩] (by rfl) (reads_one _ _) (by simp [Value.oneCell']) (by unfold maxLen; omega) (by omega) (HMA.out.base_le) ?_; intro v' w5 hown hgrow hblk; have hne5 := HNE.out; rw [HV5.out] at hne5; have s5 := grown_cell hgrow hne5 c5a; have f5 := grown_free hgrow hne5 c5a (HMA.out.fr 5); obtain ⟨A6, c6, rfl⟩ := own_form hown))
            all_goals (
              have hpu := MW.push5 (w := (w1.alloc (.cells #[.string ⟨f.toArray⟩] 9)).drew) (HMA.out.grow (Below.drew (Grow.refl _))) f hown (by rw [HV5.out]; exact hgrow) (by rw [HV5.out]; simpa using hblk)
              have HFN := Lib.hid (show FarM base m w _ from Far.trans HF1.out (Far.trans (Far.grow (Grow.alloc w1 (.cells #[.string ⟨f.toArray⟩] 9)) HW1.out.base_le) (Far.trans (Far.grow (Below.drew (Grow.refl _)) HMA.out.base_le) hpu.2)))
              go_wp2_with fail
              go_meet
              exact ⟨_, _, hpu.1, HFN.out⟩)
          case rest =>
          obtain ⟨A6, c6, hwn, hfn⟩ := hcut
          have HWN := Lib.hid hwn
          have HFN := Lib.hid hfn
          clear hwn hfn HOG HNE HMA c5 c2 c5a
          have hcells : ∀ j, j < (f :: l).length → wc.cell? ⟨g3, j, none⟩ = some (.string ⟨((f :: l).getD j []).toArray⟩) := by
            obtain ⟨A7, c7, e7, _, hT7⟩ := own_texts HWN.out.row
            rw [hL] at e7 hT7
            obtain ⟨g7, e8, hcc7, _⟩ := hT7 (by simp)
            rw [HV3.out, e8] at e7
            injection e7 with e9
            injection e9 with e9
            injection e9 with e9
            rw [e9]
            exact hcc7
          have c2 := HWN.out.c2
          rw [HV3.out, ← HNN.out] at c2
          have c2b := (HWN.out.grow (Grow.alloc wc (.cells #[] 9))).c2
          rw [HV3.out, ← HNN.out] at c2b
          have HC6 := Lib.hid hcells
          clear hcells
          have hfc : (0 : Int) ≤ (c3' : Int) := by omega
          go_wp2_with (at_builtin; refine wpList_append_any _ rfl (.tmp 86) (.tmp 92) 30 rfl wc.heap.size 9 i0 (.string ⟨#[]⟩) 1 16 Try.underlying30 HI.out HZ0.out HZ1.out HZ2.out rfl (by decide) _ 0 [] (by rfl) (World.ownsRow_made (base := wc.heap.size) (e := 9) (size := 1) wc #[] 0 (Nat.le_refl _) (by unfold maxLen; omega) rfl) (wc.alloc (.cells #[] 9)).heap.size (some ⟨g3, 0, none⟩) 0 c3' (texts []) (by rfl) (reads_part (w := wc.alloc (.cells #[] 9)) (L := f :: l) (fun j hj => (Grow.alloc wc (.cells #[] 9)).cell (HC6.out j hj)) 0 [] (by rfl) (fun j hj => by simp at hj)) (texts_one _) (by unfold maxLen; omega) (by omega) (by simp) ?k8)
          case k8 =>
          intro v7 w7 hown7 hgrow7 hblk7
          have hown7' : w7.ownsRow wc.heap.size 9 1 v7 0 (texts []) := by first | exact hown7 | (simpa using hown7)
          have hG7 : Grow wc w7 := Below.trans (Grow.alloc wc (.cells #[] 9)) (below_grown hgrow7 (by simp) (fun k hk => by simp [Value.ownBlock] at hk; omega))
          clear hblk7 hgrow7
          obtain ⟨A7, c7, rfl⟩ := own_form hown7
          have HOWN7 := Lib.hid hown7'
          have HG7 := Lib.hid hG7
          clear hown7 hown7' hG7 c2 c2b
          have c2 := (HWN.out.grow HG7.out).c2
          rw [HV3.out, ← HNN.out] at c2
          have hw1 : IntKind.i64.wrap 1 = 1 := by rw [IntKind.wrap_i64]; omega
          have hw2 : IntKind.i64.wrap 2 = 2 := by rw [IntKind.wrap_i64]; omega
          have hnl2 : (1 : Int) ≤ (nn : Int) := by have := HNN2.out; omega
          have hmx3 : nn ≤ 1048576 := by have h := hlenL; rw [hL, ← HNN.out] at h; omega
          by_cases hcc1 : c3' = 1
          · subst hcc1
            have hl0 : l = [] := List.eq_nil_of_length_eq_zero (by have := HNN2.out; omega)
            go_wp2_with (at_builtin; refine wpList_append_any _ rfl (.tmp 95) (.tmp 102) 30 rfl wc.heap.size 9 i0 (.string ⟨#[]⟩) 1 16 Try.underlying30 HI.out HZ0.out HZ1.out HZ2.out rfl (by decide) _ 0 (texts []) (by rfl) HOWN7.out w7.heap.size (some ⟨g3, 0, none⟩) 0 (0) (texts l) (by rfl) (reads_empty rfl hl0) (texts_one _) (by unfold maxLen; omega) (by omega) (by have := HG7.out.size; omega) ?k9)
            case k9 =>
            intro v8 w8 hown8 hgrow8 hblk8
            have hown8' : w8.ownsRow wc.heap.size 9 1 v8 (l).length (texts (l)) := by
              have e1 : (l).length = 0 + 0 := by simp [hl0]
              have e2 : texts (l) = texts [] ++ texts l := by unfold texts; simp
              rw [e1, e2]
              first | exact hown8 | (simpa using hown8) | (simpa [hl0] using hown8)
            have hG8 : Grow wc w8 := Below.trans HG7.out (below_grown hgrow8 HG7.out.size (fun k hk => (HOWN7.out.lt k hk).1))
            obtain ⟨A8, c8, rfl⟩ := own_form hown8
            have hw8 := HWN.out.grow hG8
            have hs9 := (hw8.set2 (own_mono hown8' HWN.out.base_le) (fun g h1 h2 => by have := hown8'.lt g h1; have := HWN.out.gon.lt g h2; omega)).set4 g2
            have s8 := hw8.c2
            have f8 := hw8.fr 2
            have c4 := hw8.c4
            have f4 := hw8.fr 4
            rw [← HGL.out] at c4
            have HS9 := Lib.hid hs9
            have HF9 := Lib.hid (fun (vq : Value) => (Far.set (Pb := fun k => k = m) (Far.set (Pb := fun k => k = m) (Far.trans HFN.out (Far.grow hG8 HWN.out.base_le)) rfl HWN.out.hm 2 vq) rfl HWN.out.hm 4 (.int .u64 (g2 : Nat)) : FarM base m w _))
            clear hs9 hw8 hown8 hown8' hgrow8 hblk8 hG8 c2
            go_wp2_with fail
            go_roundw
            case rel =>
              refine ⟨s'.lose, ?_, HF9.out _, by have := HLENS.out; omega, by rw [HLR.out.1, HRR.out], by rw [HLR.out.2, HBB.out], by rw [HP.out]; exact HST.out⟩
              rw [HLO.out]
              have hwl := HWF.out.lose
              rw [HLO.out] at hwl
              have h9 := HS9.out
              rw [HBB.out, hb] at h9
              have e9 : g2 = (s'.gone ++ [f]).length := by have := HGL.out; have := HG2.out; simp; omega
              exact MAt.mk' hcap hcap2 hwl h9 e9
            case measure =>
              rw [HM'.out.lenAt]
              have h9 := HS9.out
              have hl9 : lenAtM m _ = (l).length := MW.lenAtM h9
              rw [hl9]
              have := HLENS.out.1
              rw [HLO.out] at this
              show (l).length < s'.L.length
              simp only at this
              omega
          · skip
            go_wp2_with (at_builtin; refine wpList_append_any _ rfl (.tmp 95) (.tmp 102) 30 rfl wc.heap.size 9 i0 (.string ⟨#[]⟩) 1 16 Try.underlying30 HI.out HZ0.out HZ1.out HZ2.out rfl (by decide) _ 0 (texts []) (by rfl) HOWN7.out w7.heap.size (some ⟨g3, 1, none⟩) (nn - 1) (c3' - 1) (texts l) (by rfl) (reads_part (w := w7) (L := f :: l) (fun j hj => HG7.out.cell (HC6.out j hj)) 1 l (by have := HNN2.out; omega) (fun j hj => by simp [Nat.add_comm] at hj ⊢; try omega)) (texts_one _) (by unfold maxLen; omega) (by omega) (by have := HG7.out.size; omega) ?k10)
            case k10 =>
            intro v8 w8 hown8 hgrow8 hblk8
            have hown8' : w8.ownsRow wc.heap.size 9 1 v8 (l).length (texts (l)) := by
              have e1 : (l).length = 0 + (nn - 1) := by have := HNN2.out; simp; try omega
              have e2 : texts (l) = texts [] ++ texts l := by unfold texts; simp
              rw [e1, e2]
              first | exact hown8 | (simpa using hown8) | (simpa [hl0] using hown8)
            have hG8 : Grow wc w8 := Below.trans HG7.out (below_grown hgrow8 HG7.out.size (fun k hk => (HOWN7.out.lt k hk).1))
            obtain ⟨A8, c8, rfl⟩ := own_form hown8
            have hw8 := HWN.out.grow hG8
            have hs9 := (hw8.set2 (own_mono hown8' HWN.out.base_le) (fun g h1 h2 => by have := hown8'.lt g h1; have := HWN.out.gon.lt g h2; omega)).set4 g2
            have s8 := hw8.c2
            have f8 := hw8.fr 2
            have c4 := hw8.c4
            have f4 := hw8.fr 4
            rw [← HGL.out] at c4
            have HS9 := Lib.hid hs9
            have HF9 := Lib.hid (fun (vq : Value) => (Far.set (Pb := fun k => k = m) (Far.set (Pb := fun k => k = m) (Far.trans HFN.out (Far.grow hG8 HWN.out.base_le)) rfl HWN.out.hm 2 vq) rfl HWN.out.hm 4 (.int .u64 (g2 : Nat)) : FarM base m w _))
            clear hs9 hw8 hown8 hown8' hgrow8 hblk8 hG8 c2
            go_wp2_with fail
            go_roundw
            case rel =>
              refine ⟨s'.lose, ?_, HF9.out _, by have := HLENS.out; omega, by rw [HLR.out.1, HRR.out], by rw [HLR.out.2, HBB.out], by rw [HP.out]; exact HST.out⟩
              rw [HLO.out]
              have hwl := HWF.out.lose
              rw [HLO.out] at hwl
              have h9 := HS9.out
              rw [HBB.out, hb] at h9
              have e9 : g2 = (s'.gone ++ [f]).length := by have := HGL.out; have := HG2.out; simp; omega
              exact MAt.mk' hcap hcap2 hwl h9 e9
            case measure =>
              rw [HM'.out.lenAt]
              have h9 := HS9.out
              have hl9 : lenAtM m _ = (l).length := MW.lenAtM h9
              rw [hl9]
              have := HLENS.out.1
              rw [HLO.out] at this
              show (l).length < s'.L.length
              simp only at this
              omega
end
end Go.Proofs.Ytdicgpbdfnlniaa
