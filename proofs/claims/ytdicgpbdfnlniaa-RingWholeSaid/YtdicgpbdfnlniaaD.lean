/- The walk of Drain. -/
import Derived.Test.YtdicgpbdfnlniaaC
namespace Go.Proofs.Ytdicgpbdfnlniaa
open Go.RowKit
set_option linter.unusedVariables false
set_option linter.unusedSimpArgs false
set_option maxRecDepth 100000
theorem dr_whole {n : Nat} {f : List UInt8} {l : List (List UInt8)} {b : Bool} (h0 : 0 < n) (h : f.length ≤ n) : dr n (f :: l) b = dr (n - f.length) l false := by
  conv => lhs; unfold dr
  rw [if_neg (by omega), if_pos h]
theorem dr_part {n : Nat} {f : List UInt8} {l : List (List UInt8)} {b : Bool} (h0 : 0 < n) (h : ¬ f.length ≤ n) : dr n (f :: l) b = dr 0 (f.drop n :: l) true := by
  conv => lhs; unfold dr
  rw [if_neg (by omega), if_neg h]
  unfold dr
  rw [if_pos rfl]
theorem dr_zero (l : List (List UInt8)) (b : Bool) : dr 0 l b = (l, b) := by
  cases l <;> simp [dr]
attribute [local irreducible] roomC ringC peekR layR strOf putG RG.used RG.rest RG.lose RG.sizes RG.bytes RingAt dr
section
variable {w : World} {base r g cap : Nat} {pol : Int} {s : RG}
set_option maxHeartbeats 4000000 in
theorem drain_ring (h : RingAt w base r g cap pol s) (most : Int) (n : Nat) (hn : n = min most.toNat s.used) : Calls Try.prog 13 #[.pointer (some ⟨r, 0, none⟩), .int .i64 most] w fun e w' => e = .returned (strOf (s.bytes.take n)) ∧ RingAt w' base r g cap pol (drain s n) ∧ FarR base r g w w' := by
  obtain ⟨hcap, hcap2, hwf, hd, R, A, c, hw, hhd, hrm⟩ : 179 ≤ cap ∧ cap ≤ 1048576 ∧ WF cap s ∧ ∃ hd R A c, RW w base r g cap pol hd R A s.sizes c s.used s.begun s.gone.length ∧ hd < cap ∧ RoomAt cap hd R s.bytes := by unfold RingAt at h; exact h
  have hroom := hwf.room
  have hpk : peekR cap hd R n = s.bytes.take n := peekR_take hrm (by show n ≤ s.bytes.length; unfold RG.used at hn; omega)
  obtain ⟨us, hus⟩ : ∃ q, q = s.used := ⟨_, rfl⟩
  rw [← hus] at hw hn hroom
  have hnu : n ≤ us := by omega
  have HPEEK := Lib.hid (peek_any hw 0 n 0 rfl (by omega) hhd (Nat.zero_le _) (by omega))
  rw [Nat.add_zero, hpk] at HPEEK
  have hmx : min (max most 0) (us : Int) = (n : Int) := by omega
  have c4 := hw.c4
  have HW := Lib.hid hw
  have HUS := Lib.hid hus
  have HWF := Lib.hid hwf
  have HRM := Lib.hid hrm
  clear h hw hus hwf hrm hpk hn
  go_enter Try.func13, Try.ntmps13
  go_upto_region 3 with fail
  go_cut [5] (fun v wx => v = .int .i64 n ∧ wx = w)
  case first => as_aux_lemma =>
    go_wp2
    all_goals (as_aux_lemma => (go_meet; exact ⟨by congr 1; omega, rfl⟩))
  case rest =>
  obtain ⟨rfl, hwx⟩ := hcut
  subst hwx
  go_wp2_with fail
  refine HPEEK.out.mono ?_
  rintro e w1 ⟨rfl, hg⟩
  clear c4
  have HW1 := Lib.hid (HW.out.grow hg)
  have HF1 := Lib.hid (show FarR base r g _ w1 from Far.grow hg HW.out.base_le)
  clear hg hmx
  have c0 := HW1.out.c0
  have c2 := HW1.out.c2
  obtain ⟨hd2, hhd2⟩ : ∃ q, q = (hd + n) % cap := ⟨_, rfl⟩
  have hhc : hd2 < cap := by rw [hhd2]; exact Nat.mod_lt _ (by omega)
  obtain ⟨q1, hq1⟩ : ∃ q, q = hd + n := ⟨_, rfl⟩
  have e1 : IntKind.i64.wrap ((hd : Int) + (n : Int)) = (q1 : Int) := by rw [IntKind.wrap_i64]; omega
  have e2 : (q1 : Int).tmod (cap : Int) = (hd2 : Int) := by rw [hhd2, hq1]; rfl
  have e3 : ((cap : Int) == 0) = false := by simp; omega
  have e4 : ¬ cap = 0 := by omega
  have HHD := Lib.hid hhd2; clear hhd2 hq1
  go_wp2_with fail
  go_still_tail 15, (by kernel_rfl)
  change wpList _ _ _ _ _ w1.drew
  clear c0 c2 e1 e2 e3
  have hs3 := HW1.out.grow (Below.drew (Grow.refl w1))
  have hf3 : FarR base r g _ w1.drew := Far.trans HF1.out (Far.grow (Below.drew (Grow.refl w1)) HW1.out.base_le)
  generalize w1.drew = w3 at hs3 hf3 ⊢
  obtain ⟨u2, hu2⟩ : ∃ q, q = us - n := ⟨_, rfl⟩
  have e5 : IntKind.i64.wrap ((us : Int) - (n : Int)) = (u2 : Int) := by rw [IntKind.wrap_i64]; omega
  have c2 := hs3.c2
  have c4 := hs3.c4
  have f2 := hs3.fr 2
  have f4 := hs3.fr 4
  have HS3 := Lib.hid ((hs3.set2 hd2).set4 u2)
  have HF3 := Lib.hid (Far.set (hf3.set (Or.inl rfl) hs3.hr 2 (.int .i64 (hd2 : Nat))) (Or.inl rfl) hs3.hr 4 (.int .i64 (u2 : Nat)))
  have HU2 := Lib.hid hu2
  clear hs3 hf3 hu2
  obtain ⟨w4, hw4⟩ : ∃ w4, w4 = (w3.setCell ⟨r, 2, none⟩ (.int .i64 (hd2 : Nat))).setCell ⟨r, 4, none⟩ (.int .i64 (u2 : Nat)) := ⟨_, rfl⟩
  rw [← hw4] at HS3 HF3
  have HQ4 := Lib.hid hw4; clear hw4
  go_wp2_with fail
  rw [← HQ4.out]
  clear c2 c4 f2 f4 e5 HQ4
  go_loopw [5, 7] (fun i _ wr => ∃ k L' b' A' c', i = .int .i64 (k : Nat) ∧ RW wr base r g cap pol hd2 R A' (L'.map List.length) c' u2 b' s.gone.length ∧ dr k L' b' = dr n s.L s.begun ∧ k ≤ L'.flatten.length ∧ L'.flatten.length ≤ cap ∧ (∀ f ∈ L', 0 < f.length) ∧ FarR base r g wc wr) (fun i _ _ => (intOf i).toNat)
  case atStart => exact ⟨n, s.L, s.begun, A, c, rfl, by have := HS3.out; unfold RG.sizes at this; exact this, rfl, by have := HUS.out; unfold RG.used RG.bytes at this; omega, by have := HWF.out.room; unfold RG.used RG.bytes at this; exact this, HWF.out.pos, HF3.out⟩
  case round =>
    obtain ⟨k, L', b', A', c', rfl, hw, hdr, hk, hlc, hpos, hf⟩ := hrel
    have HF := Lib.hid hf; clear hf
    by_cases h0 : 0 < k
    · match L' with
      | [] => simp at hk; omega
      | f :: l =>
        obtain ⟨b, off, rfl, hbb, hcc, hcf⟩ := hw.sz.get (by simp)
        have z1 := hcc 0 (by simp)
        have c3 := hw.c3
        have f0 := hpos f (by simp)
        obtain ⟨z, hz⟩ : ∃ q, q = f.length := ⟨_, rfl⟩
        obtain ⟨m, hm⟩ : ∃ q, q = l.map List.length := ⟨_, rfl⟩
        simp only [List.map_cons, ← hz, ← hm, List.getD_cons_zero, Nat.add_zero, List.length_cons] at hw z1 c3 f0
        obtain ⟨nl, hnl⟩ : ∃ q, q = m.length := ⟨_, rfl⟩
        have hlc2 : nl + 1 ≤ c' := by have := hw.sz.1; simp only [List.length_cons] at this; omega
        rw [← hnl] at c3
        obtain ⟨_, cs, hbk⟩ := hw.sz.blk
        have fz := hcf off
        have hdl : dr k (f :: l) b' = dr n s.L s.begun := hdr
        have hkf : k ≤ z + l.flatten.length := by simp only [List.flatten_cons, List.length_append] at hk; omega
        have hzc : z + l.flatten.length ≤ cap := by simp only [List.flatten_cons, List.length_append] at hlc; omega
        have np : (0 : Int) < (nl : Int) + 1 := by omega
        have hkc : k ≤ cap := by omega
        have HDL := Lib.hid hdl
        have HKF := Lib.hid hkf
        have HPOS := Lib.hid hpos
        have HNL := Lib.hid hnl
        have HM := Lib.hid hm
        have HZ := Lib.hid hz
        clear hnl hm hz
        clear hdl hkf hdr hk hlc hpos hcc hcf
        by_cases hle : z ≤ k
        · by_cases heq : k = z
          · have h0' : (0 : Int) < (z : Int) := by omega
            have ez : IntKind.i64.wrap ((z : Int) - (z : Int)) = 0 := by rw [IntKind.wrap_i64]; omega
            have ez0 : IntKind.i64.wrap 0 = 0 := by rw [IntKind.wrap_i64]; omega
            subst heq
            have hs9 := RW.setSz hw (zs' := 0 :: m) rfl rfl off (.int .i64 (0 : Nat)) (hw.sz.set0 0)
            have hf9 : FarR base r g wc (wr.setCell ⟨b, off, none⟩ (.int .i64 (0 : Nat))) := Far.setT HF.out hbk hbb off _
            obtain ⟨w5, hw5⟩ : ∃ w5, w5 = wr.setCell ⟨b, off, none⟩ (.int .i64 0) := ⟨_, rfl⟩
            have hw5' : w5 = wr.setCell ⟨b, off, none⟩ (.int .i64 (0 : Nat)) := hw5
            rw [← hw5'] at hs9 hf9
            have HS9 := Lib.hid hs9
            have HF9 := Lib.hid hf9
            have HQ5 := Lib.hid hw5
            clear hs9 hf9 hw5 hw5' hw hbk
            go_upto_region 10 with fail
            rw [← HQ5.out]
            clear z1 fz c3 HQ5
            have c3 := HS9.out.c3
            simp only [List.length_cons] at c3
            rw [← HNL.out] at c3
            obtain ⟨b9, off9, e9, _, hcc9, _⟩ := HS9.out.sz.get (by simp)
            injection e9 with e9; injection e9 with e9 e9'
            subst e9 e9'
            have z1 := hcc9 0 (by simp)
            simp only [List.getD_cons_zero, Nat.add_zero] at z1
            have f5 := HS9.out.fr 5
            have c5 := HS9.out.c5
            have HS10 := Lib.hid (HS9.out.set5 false)
            have HF10 := Lib.hid (show FarR base r g wc (w5.setCell ⟨r, 5, none⟩ (.bool false)) from Far.set HF9.out (Or.inl rfl) HS9.out.hr 5 _)
            obtain ⟨w6, hw6⟩ : ∃ w6, w6 = w5.setCell ⟨r, 5, none⟩ (.bool false) := ⟨_, rfl⟩
            rw [← hw6] at HS10 HF10
            have HQ6 := Lib.hid hw6; clear hw6 hcc9
            go_upto_region 11 with fail
            rw [← HQ6.out]
            clear z1 c3 c5 f5 HQ6 HS9 HF9
            have c3 := HS10.out.c3
            simp only [List.length_cons] at c3
            rw [← HNL.out] at c3
            have c5 := HS10.out.c5
            have f3 := HS10.out.fr 3
            have hw1 : IntKind.i64.wrap 1 = 1 := by rw [IntKind.wrap_i64]; omega
            have htl := HS10.out.sz.tail
            by_cases hc1 : c' = 1
            · subst hc1
              have hnl0 : nl = 0 := by omega
              subst hnl0
              have hfin := RW.set3 HS10.out.hr HS10.out.hg HS10.out.blk HS10.out.room (htl.1 rfl)
              rw [← HNL.out] at hfin
              have HFIN := Lib.hid hfin
              have HFF := Lib.hid (show FarR base r g wc (w6.setCell ⟨r, 3, none⟩ (.slice (some ⟨b, off, none⟩) 0 0)) from Far.set HF10.out (Or.inl rfl) HS10.out.hr 3 _)
              clear hfin htl
              go_wp2_with fail
              go_roundw
              case rel => exact ⟨0, l, false, _, _, by rfl, by have := HFIN.out; rw [HM.out] at this; exact this, by rw [← HDL.out, dr_whole f0 (by have := HZ.out; omega), ← HZ.out, Nat.sub_self], by have := HKF.out; (try have := HK2.out); omega, by omega, fun x hx => HPOS.out x (by simp [hx]), HFF.out⟩
              case measure => simp [intOf]; omega
            · have hfin := RW.set3 HS10.out.hr HS10.out.hg HS10.out.blk HS10.out.room htl.2
              rw [← HNL.out] at hfin
              have HFIN := Lib.hid hfin
              have HFF := Lib.hid (show FarR base r g wc (w6.setCell ⟨r, 3, none⟩ (.slice (some ⟨b, off + 1, none⟩) nl (c' - 1))) from Far.set HF10.out (Or.inl rfl) HS10.out.hr 3 _)
              clear hfin htl
              go_wp2_with fail
              go_roundw
              case rel => exact ⟨0, l, false, _, _, by rfl, by have := HFIN.out; rw [HM.out] at this; exact this, by rw [← HDL.out, dr_whole f0 (by have := HZ.out; omega), ← HZ.out, Nat.sub_self], by have := HKF.out; (try have := HK2.out); omega, by omega, fun x hx => HPOS.out x (by simp [hx]), HFF.out⟩
              case measure => simp [intOf]; omega
          · have h0' : (0 : Int) < (k : Int) := by omega
            have hgt : ¬ (k : Int) ≤ (z : Int) := by omega
            obtain ⟨k2, hk2⟩ : ∃ q, q = k - z := ⟨_, rfl⟩
            have ez : IntKind.i64.wrap ((z : Int) - (z : Int)) = 0 := by rw [IntKind.wrap_i64]; omega
            have ez0 : IntKind.i64.wrap 0 = 0 := by rw [IntKind.wrap_i64]; omega
            have ek : IntKind.i64.wrap ((k : Int) - (z : Int)) = (k2 : Int) := by rw [IntKind.wrap_i64]; omega
            have HK2 := Lib.hid hk2; clear hk2
            have hs9 := RW.setSz hw (zs' := 0 :: m) rfl rfl off (.int .i64 (0 : Nat)) (hw.sz.set0 0)
            have hf9 : FarR base r g wc (wr.setCell ⟨b, off, none⟩ (.int .i64 (0 : Nat))) := Far.setT HF.out hbk hbb off _
            obtain ⟨w5, hw5⟩ : ∃ w5, w5 = wr.setCell ⟨b, off, none⟩ (.int .i64 0) := ⟨_, rfl⟩
            have hw5' : w5 = wr.setCell ⟨b, off, none⟩ (.int .i64 (0 : Nat)) := hw5
            rw [← hw5'] at hs9 hf9
            have HS9 := Lib.hid hs9
            have HF9 := Lib.hid hf9
            have HQ5 := Lib.hid hw5
            clear hs9 hf9 hw5 hw5' hw hbk
            go_upto_region 10 with fail
            rw [← HQ5.out]
            clear z1 fz c3 HQ5
            have c3 := HS9.out.c3
            simp only [List.length_cons] at c3
            rw [← HNL.out] at c3
            obtain ⟨b9, off9, e9, _, hcc9, _⟩ := HS9.out.sz.get (by simp)
            injection e9 with e9; injection e9 with e9 e9'
            subst e9 e9'
            have z1 := hcc9 0 (by simp)
            simp only [List.getD_cons_zero, Nat.add_zero] at z1
            have f5 := HS9.out.fr 5
            have c5 := HS9.out.c5
            have HS10 := Lib.hid (HS9.out.set5 false)
            have HF10 := Lib.hid (show FarR base r g wc (w5.setCell ⟨r, 5, none⟩ (.bool false)) from Far.set HF9.out (Or.inl rfl) HS9.out.hr 5 _)
            obtain ⟨w6, hw6⟩ : ∃ w6, w6 = w5.setCell ⟨r, 5, none⟩ (.bool false) := ⟨_, rfl⟩
            rw [← hw6] at HS10 HF10
            have HQ6 := Lib.hid hw6; clear hw6 hcc9
            go_upto_region 11 with fail
            rw [← HQ6.out]
            clear z1 c3 c5 f5 HQ6 HS9 HF9
            have c3 := HS10.out.c3
            simp only [List.length_cons] at c3
            rw [← HNL.out] at c3
            have c5 := HS10.out.c5
            have f3 := HS10.out.fr 3
            have hw1 : IntKind.i64.wrap 1 = 1 := by rw [IntKind.wrap_i64]; omega
            have htl := HS10.out.sz.tail
            by_cases hc1 : c' = 1
            · subst hc1
              have hnl0 : nl = 0 := by omega
              subst hnl0
              have hfin := RW.set3 HS10.out.hr HS10.out.hg HS10.out.blk HS10.out.room (htl.1 rfl)
              rw [← HNL.out] at hfin
              have HFIN := Lib.hid hfin
              have HFF := Lib.hid (show FarR base r g wc (w6.setCell ⟨r, 3, none⟩ (.slice (some ⟨b, off, none⟩) 0 0)) from Far.set HF10.out (Or.inl rfl) HS10.out.hr 3 _)
              clear hfin htl
              go_wp2_with fail
              go_roundw
              case rel => exact ⟨k2, l, false, _, _, by rfl, by have := HFIN.out; rw [HM.out] at this; exact this, by rw [← HDL.out, dr_whole h0 (by have := HZ.out; omega), ← HZ.out, HK2.out], by have := HKF.out; (try have := HK2.out); omega, by omega, fun x hx => HPOS.out x (by simp [hx]), HFF.out⟩
              case measure => simp [intOf]; (try have := HK2.out); omega
            · have hfin := RW.set3 HS10.out.hr HS10.out.hg HS10.out.blk HS10.out.room htl.2
              rw [← HNL.out] at hfin
              have HFIN := Lib.hid hfin
              have HFF := Lib.hid (show FarR base r g wc (w6.setCell ⟨r, 3, none⟩ (.slice (some ⟨b, off + 1, none⟩) nl (c' - 1))) from Far.set HF10.out (Or.inl rfl) HS10.out.hr 3 _)
              clear hfin htl
              go_wp2_with fail
              go_roundw
              case rel => exact ⟨k2, l, false, _, _, by rfl, by have := HFIN.out; rw [HM.out] at this; exact this, by rw [← HDL.out, dr_whole h0 (by have := HZ.out; omega), ← HZ.out, HK2.out], by have := HKF.out; (try have := HK2.out); omega, by omega, fun x hx => HPOS.out x (by simp [hx]), HFF.out⟩
              case measure => simp [intOf]; (try have := HK2.out); omega
        · have h0' : (0 : Int) < (k : Int) := by omega
          have hkz : (k : Int) ≤ (z : Int) := by omega
          obtain ⟨z2, hz2⟩ : ∃ q, q = z - k := ⟨_, rfl⟩
          have ez : IntKind.i64.wrap ((z : Int) - (k : Int)) = (z2 : Int) := by rw [IntKind.wrap_i64]; omega
          have ez0 : IntKind.i64.wrap 0 = 0 := by rw [IntKind.wrap_i64]; omega
          have ek : IntKind.i64.wrap ((k : Int) - (k : Int)) = 0 := by rw [IntKind.wrap_i64]; omega
          have hz20 : (0 : Int) < (z2 : Int) := by omega
          have hz2n : 0 < z2 := by omega
          have HZ2 := Lib.hid hz2; clear hz2
          have hs9 := RW.setSz hw (zs' := z2 :: m) rfl rfl off (.int .i64 (z2 : Nat)) (hw.sz.set0 z2)
          have hf9 : FarR base r g wc (wr.setCell ⟨b, off, none⟩ (.int .i64 (z2 : Nat))) := Far.setT HF.out hbk hbb off _
          obtain ⟨w5, hw5⟩ : ∃ w5, w5 = wr.setCell ⟨b, off, none⟩ (.int .i64 (z2 : Nat)) := ⟨_, rfl⟩
          have hw5' : w5 = wr.setCell ⟨b, off, none⟩ (.int .i64 (z2 : Nat)) := hw5
          rw [← hw5'] at hs9 hf9
          have HS9 := Lib.hid hs9
          have HF9 := Lib.hid hf9
          have HQ5 := Lib.hid hw5
          clear hs9 hf9 hw5 hw5' hw hbk
          go_upto_region 10 with fail
          rw [← HQ5.out]
          clear z1 fz c3 HQ5
          have c3 := HS9.out.c3
          simp only [List.length_cons] at c3
          rw [← HNL.out] at c3
          obtain ⟨b9, off9, e9, _, hcc9, _⟩ := HS9.out.sz.get (by simp)
          injection e9 with e9; injection e9 with e9 e9'
          subst e9 e9'
          have z1 := hcc9 0 (by simp)
          simp only [List.getD_cons_zero, Nat.add_zero] at z1
          have f5 := HS9.out.fr 5
          have c5 := HS9.out.c5
          have hfin := HS9.out.set5 true
          have HFIN := Lib.hid (show RW (w5.setCell ⟨r, 5, none⟩ (.bool true)) base r g cap pol hd2 R (some ⟨b, off, none⟩) ((f.drop k :: l).map List.length) c' u2 true s.gone.length by
            have e : (f.drop k :: l).map List.length = z2 :: m := by
              simp only [List.map_cons, List.length_drop, HM.out]
              have := HZ.out
              have := HZ2.out
              congr 1; omega
            rw [e]; exact hfin)
          have HFF := Lib.hid (show FarR base r g wc (w5.setCell ⟨r, 5, none⟩ (.bool true)) from Far.set HF9.out (Or.inl rfl) HS9.out.hr 5 _)
          clear hfin hcc9
          go_wp2_with fail
          go_roundw
          case rel => exact ⟨0, f.drop k :: l, true, _, _, rfl, HFIN.out, by rw [← HDL.out]; exact (dr_part h0 (by have := HZ.out; omega)).symm, Nat.zero_le _, by simp only [List.flatten_cons, List.length_append, List.length_drop]; have := HZ.out; omega, fun x hx => by
            simp at hx
            rcases hx with hx | hx
            · rw [hx, List.length_drop]; have := HZ.out; omega
            · exact HPOS.out x (by simp [hx]), HFF.out⟩
          case measure => simp [intOf]; (try have := HK2.out); omega
    · have hk0 : k = 0 := by omega
      subst hk0
      rw [dr_zero] at hdr
      have HWE := Lib.hid hw
      have HDR := Lib.hid hdr
      clear hw hdr hk hlc hpos
      go_wp2
      go_ret
      refine ⟨rfl, ?_, HF.out⟩
      have e1 : drain s n = ⟨L', b', s.gone⟩ := by unfold drain; rw [← HDR.out]
      have hwd := HWF.out.drain n
      rw [e1] at hwd ⊢
      unfold RingAt
      have hby := dr_bytes n s.L s.begun
      rw [← HDR.out] at hby
      refine ⟨hcap, hcap2, hwd, hd2, R, A', c', ?_, hhc, ?_⟩
      · have e2 : RG.used ⟨L', b', s.gone⟩ = u2 := by
          have h1 := HUS.out
          have h2 := HU2.out
          unfold RG.used RG.bytes at h1 ⊢
          show L'.flatten.length = u2
          rw [hby, List.length_drop]; omega
        have e3 : RG.sizes ⟨L', b', s.gone⟩ = L'.map List.length := by unfold RG.sizes; rfl
        rw [e2, e3]
        exact HWE.out
      · have e4 : RG.bytes ⟨L', b', s.gone⟩ = s.bytes.drop n := by unfold RG.bytes; exact hby
        rw [e4, HHD.out]
        exact RoomAt.drop HRM.out n
end
end Go.Proofs.Ytdicgpbdfnlniaa
