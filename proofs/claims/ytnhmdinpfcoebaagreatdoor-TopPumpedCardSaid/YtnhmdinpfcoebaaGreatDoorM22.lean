/- Texts of the proof, merged: Law3, Deco, Wr. -/
import Derived.Test.YtnhmdinpfcoebaaGreatDoorM21
/-! === Law3 -/
section
/- The law's walk with no frames; the law. -/
namespace Go.Proofs.YtnhmdinpfcoebaaGreatDoor
open Go.RowKit
set_option linter.unusedVariables false
set_option linter.unusedSimpArgs false
set_option maxRecDepth 100000

open Go.Conc
attribute [local irreducible] FramesAt TurnsAt Rg.RingAt tab
attribute [local irreducible] ItsAt fed
set_option maxHeartbeats 8000000 in
theorem law_none (w : World) (TA : Option Addr) (fn fcap tn tcap : Nat) (room : Nat) (gf : Nat → Fr) (gt : Nat → Int × Int) (HL : LiveOk w) (hF : FramesAt w none fn gf) (hT : TurnsAt w TA tn gt) (h1 : 1 ≤ room) (h2 : room ≤ 64) (hfn : fn ≤ 40) (htn : tn ≤ 200) :
    Calls Tryz.prog 3 #[.slice none fn fcap, .slice TA tn tcap, .int .i64 room] w fun e w' => e = .returned (.bool true) ∧ Below w.heap.size w w' := by
  have HLV := Lib.hid HL; clear HL
  have HF0 := Lib.hid (show fn = 0 by
    by_cases h : fn = 0
    · exact h
    · obtain ⟨a, h2, _⟩ := FramesAt.at hF 0 (by omega)
      cases h2)
  clear hF
  have HT := Lib.hid hT; clear hT
  have HH1 := Lib.hid h1; clear h1
  have HH2 := Lib.hid h2; clear h2
  have i40 : ¬ (40 : Int) < (fn : Int) := by omega
  have i200 : ¬ (200 : Int) < (tn : Int) := by omega
  have HFN := Lib.hid hfn; clear hfn
  have HTN := Lib.hid htn; clear htn
  obtain ⟨i0, hi, hz0, hz1, hz2⟩ := info_parts info85z
  have HI0 := Lib.hid hi; clear hi
  have HZ0 := Lib.hid hz0; clear hz0
  have HZ1 := Lib.hid hz1; clear hz1
  have HZ2 := Lib.hid hz2; clear hz2
  go_enter Tryz.func3, Tryz.ntmps3
  go_wp2_with fail
  refine (pnew_any w room HH1.out HH2.out).mono ?_
  rintro _ w1 ⟨rfl, hp, hg⟩
  have HP := Lib.hid hp; clear hp
  have HG1 := Lib.hid hg; clear hg
  obtain ⟨p, hpe⟩ : ∃ p, p = w.heap.size + 1 := ⟨_, rfl⟩
  rw [← hpe] at HP ⊢
  clear hpe
  have HC := Lib.hid (show w.heap.size ≤ w.heap.size from Nat.le_refl _)
  go_wp2_with fail
  refine (Rg.new_ok w1 w.heap.size 1048576 0 (by decide) (by decide) (.inl rfl) HG1.out.size).mono ?_
  rintro _ w2 ⟨r, g, rfl, hr, hg⟩
  have HRG := Lib.hid hr; clear hr
  have HG2 := Lib.hid hg; clear hg
  go_wp2_with fail
  refine (HLV.out w2 (HG1.out.trans HG2.out)).mono ?_
  rintro _ w3 ⟨rfl, hg⟩
  have HG3 := Lib.hid hg; clear hg
  go_wp2_with fail
  refine (make_any w3).mono ?_
  rintro _ w4 ⟨rfl, hw4⟩
  have HTB := Lib.hid (show TabAt w4 w3.heap.size by rw [hw4]; exact heapAt_alloc_new _ _)
  have HG4 := Lib.hid (show Grow w3 w4 by rw [hw4]; exact Grow.alloc _ _)
  clear hw4
  generalize w3.heap.size = tb at HTB ⊢
  go_wp2_with fail
  refine (hnew_any w4 tb HTB.out).mono ?_
  rintro _ w5 ⟨rfl, hh, hg⟩
  have HHU := Lib.hid hh; clear hh
  have HG5 := Lib.hid hg; clear hg
  have HLE := Lib.hid (show w.heap.size ≤ w4.heap.size from Nat.le_trans HG1.out.size (Nat.le_trans HG2.out.size (Nat.le_trans HG3.out.size HG4.out.size)))
  generalize w4.heap.size = h at HHU HLE ⊢
  have HK0 := Lib.hid (LK.start HP.out HG1.out HC.out HRG.out HG2.out (HG3.out.trans HG4.out) HHU.out HG5.out HLE.out)
  obtain ⟨c, hce⟩ : ∃ c, c = w.heap.size := ⟨_, rfl⟩
  rw [← hce] at HK0
  clear HP HRG HHU HG1 HG2 HG3 HG4 HG5 hce HC HTB i40 i200
  go_upto_region 10 with (fail)
  go_loopw [64, 15, 13, 14] (fun i nx av gv wr => ∃ k x : Nat, k ≤ tn ∧ i = .int .i64 k ∧ nx = .int .i64 x ∧ x ≤ fn ∧ LK w r g p c h tb room x gv av wr) (fun i _ _ _ _ => tn - (intOf i).toNat)
  case atStart => exact ⟨0, 0, Nat.zero_le _, rfl, rfl, Nat.zero_le _, HK0.out⟩
  case round =>
    obtain ⟨k, x, hk, rfl, rfl, hx, s, l, F, al, hj, hit, rfl, heq, hsz⟩ := hrel
    have HJ := Lib.hid hj; clear hj
    have HIT := Lib.hid hit; clear hit
    have HEQ := Lib.hid heq; clear heq
    have HSZ := Lib.hid hsz; clear hsz
    have HX := Lib.hid hx; clear hx
    have HAL := Lib.hid (show F.length + (flat l).length + s.bytes.length ≤ 7160 by
      have h1 := congrArg List.length HEQ.out
      rw [List.length_append, List.length_append, Array.length_toList] at h1
      have h2 : al.data.size = al.size := rfl
      have := HSZ.out
      have := HX.out
      have := HFN.out
      omega)
    by_cases hlt : k < tn
    · have hlti : (k : Int) < tn := by omega
      have k0 : (0 : Int) ≤ (k : Int) := by omega
      obtain ⟨ta, hTA, p0, p1⟩ := TurnsAt.at (TurnsAt.grow HT.out HJ.out.b) k hlt
      rw [hTA]
      clear hTA
      generalize (gt k).1 = kd at *
      generalize (gt k).2 = nn at *
      go_upto_region 12 with (fail)
      have HJ1 := Lib.hid (HJ.out.grow (Grow.alloc wr (.cells #[.int .i64 kd, .int .i64 nn] 39)))
      have HIT1 := Lib.hid (HIT.out.grow (Grow.alloc wr (.cells #[.int .i64 kd, .int .i64 nn] 39)))
      have HTB := Lib.hid (heapAt_alloc_new wr (.cells #[.int .i64 kd, .int .i64 nn] 39))
      clear p0 p1
      generalize wr.heap.size = tg at HTB ⊢
      generalize wr.alloc (.cells #[.int .i64 kd, .int .i64 nn] 39) = wt at HJ1 HIT1 HTB ⊢
      have t0 := cell_block HTB.out 0
      have t1 := cell_block HTB.out 1
      simp at t0 t1
      by_cases hk1 : kd = 1
      · subst hk1
        by_cases hxn : x < fn
        · have hxi : (x : Int) < fn := by omega
          have x0 : (0 : Int) ≤ (x : Int) := by omega
          exact absurd hxn (by have := HF0.out; omega)
        · have hxi : ¬ (x : Int) < fn := by omega
          have hxe : x = fn := by have := HX.out; omega
          have xb : (x : Int) ≤ 40 := by have := HX.out; have := HFN.out; omega
          have HLK := Lib.hid (show LK w r g p c h tb room x u14 (.string al) wt from ⟨s, l, F, al, HJ1.out, HIT1.out, rfl, HEQ.out, HSZ.out⟩)
          clear hxn
          have HXE := Lib.hid hxe; clear hxe
          go_wp2_with fail
          go_roundw
          case rel => exact ⟨k + 1, x, by omega, by go_num, by rw [show min ((x : Int) + 1) (fn : Int) = (x : Int) by have := HXE.out; omega], HX.out, HLK.out⟩
          case measure => simp [intOf]; omega
      · have b1 : (kd == 1) = false := by simpa using hk1
        by_cases hk2 : kd = 2
        · subst hk2
          go_wp2_with fail
          refine (LJ.pump HJ1.out nn).mono ?_
          rintro _ w6 ⟨⟨kk, rfl⟩, hj, hki⟩
          have HLK := Lib.hid (show LK w r g p c h tb room x u14 (.string al) w6 from ⟨_, _, F, al, hj, HIT1.out.keepI hki, rfl, by rw [HEQ.out, List.append_assoc, List.append_assoc, pump_flat], HSZ.out⟩)
          clear hj hki t0 t1
          go_wp2_with fail
          go_roundw
          case rel => exact ⟨k + 1, x, by omega, by go_num, rfl, HX.out, HLK.out⟩
          case measure => simp [intOf]; omega
        · have b2 : (kd == 2) = false := by simpa using hk2
          by_cases hk3 : kd = 3
          · subst hk3
            go_wp2_with fail
            refine (LJ.feed HJ1.out (by have := HAL.out; omega)).mono ?_
            rintro _ w6 ⟨⟨its, F', l', ⟨u, ub, rfl, hu⟩, hj, ho, hfl, hll⟩, hki⟩
            have HJ2 := Lib.hid hj
            have HIT2 := Lib.hid (HIT1.out.keepI hki)
            have HO := Lib.hid ho
            have HFL := Lib.hid hfl
            obtain ⟨L1, e1, o1, v1⟩ := its_out HIT2.out
            obtain ⟨L2, e2, o2, v2⟩ := its_out hu
            obtain ⟨A2, cp2, rfl, hr2⟩ := own_reads o2
            have HE := Lib.hid (And.intro e1 e2)
            have HO1 := Lib.hid o1
            have HV1 := Lib.hid v1
            have HV2 := Lib.hid v2
            have HR2 := Lib.hid hr2
            have HLN := Lib.hid (show L1.length ≤ 14320 ∧ L2.length ≤ 14320 by
              have h1 := (fed_bd F').ou
              rw [HO.out, List.length_append, ← e1, ← e2, List.length_map, List.length_map] at h1
              have h2 := congrArg List.length HFL.out
              rw [List.length_append, List.length_append] at h2
              have := HAL.out
              omega)
            have HBW := Lib.hid (show w.heap.size ≤ w6.heap.size from HJ2.out.b.size)
            clear e1 e2 o1 o2 v1 v2 hr2 hu hj ho hfl hll hki
            generalize hl1 : L1.length = n1 at *
            have HN1 := Lib.hid hl1; clear hl1
            generalize hl2 : L2.length = n2 at *
            have HN2 := Lib.hid hl2; clear hl2
            go_wp2_with (at_builtin; refine wpList_append_any _ rfl (.tmp 119) (.tmp 120) 37 rfl w.heap.size 85 i0 _ 4 40 Tryz.underlying37 HI0.out HZ0.out HZ1.out HZ2.out rfl (by decide) _ n1 (itsC L1) (by rfl) HO1.out _ A2 n2 cp2 (itsC L2) (by rfl) HR2.out (itsC_one L2 fun p hp => (HV2.out p hp).one) ?c4 ?c5 ?c6 ?c7)
            case c4 => have := HLN.out; unfold maxLen; omega
            case c5 => have := HLN.out; omega
            case c6 => exact HBW.out
            case c7 =>
              intro v' w7 hown hgr hblk
              have HLK := Lib.hid (show LK w r g p c h tb room x v' (.string al) w7 from ⟨s, l', F', al, HJ2.out.own (by rw [← HN1.out] at HO1; exact HO1.out) (Nat.le_refl _) hgr, by
                rw [HO.out]
                exact ItsAt.app L1 L2 HE.out.1 HE.out.2 (by rw [HN1.out]; exact HO1.out) HV1.out HV2.out (by rw [HN1.out, HN2.out]; exact hown) hgr, rfl, by rw [HEQ.out, HFL.out], HSZ.out⟩)
              clear hown hgr hblk
              go_wp2_with fail
              go_roundw
              case rel => exact ⟨k + 1, x, by omega, by go_num, rfl, HX.out, HLK.out⟩
              case measure => simp [intOf]; omega
          · have b3 : (kd == 3) = false := by simpa using hk3
            have HLK := Lib.hid (show LK w r g p c h tb room x u14 (.string al) wt from ⟨s, l, F, al, HJ1.out, HIT1.out, rfl, HEQ.out, HSZ.out⟩)
            go_wp2_with fail
            go_roundw
            case rel => exact ⟨k + 1, x, by omega, by go_num, rfl, HX.out, HLK.out⟩
            case measure => simp [intOf]; omega
    · have hlti : ¬ (k : Int) < tn := by omega
      go_wp2_with fail
      refine (make_any wr).mono ?_
      rintro _ w6 ⟨rfl, hw6⟩
      have HTB2 := Lib.hid (show TabAt w6 wr.heap.size by rw [hw6]; exact heapAt_alloc_new _ _)
      have HG6 := Lib.hid (show Grow wr w6 by rw [hw6]; exact Grow.alloc _ _)
      clear hw6
      generalize wr.heap.size = tb2 at HTB2 ⊢
      go_wp2_with fail
      refine (hnew_any w6 tb2 HTB2.out).mono ?_
      rintro _ w7 ⟨rfl, hh, hg⟩
      have HHU := Lib.hid hh; clear hh
      have HNE := Lib.hid (show w6.heap.size ≠ h by
        intro e
        obtain ⟨t, _, hs⟩ := HJ.out.sw
        have := heapAt_lt hs.hu.b
        have := HG6.out.size
        omega)
      have HJ7 := Lib.hid (HJ.out.grow (HG6.out.trans hg))
      have HIT7 := Lib.hid (HIT.out.grow (HG6.out.trans hg))
      have HOWN := Lib.hid (show ∀ q, u14.ownBlock = some q → q < w7.heap.size from fun q hq => by
        obtain ⟨L, _, ho, _⟩ := its_out HIT7.out
        exact (ho.lt q hq).2)
      have HL2 := Lib.hid (show w.heap.size ≤ w6.heap.size from Nat.le_trans HJ.out.b.size HG6.out.size)
      clear hg
      generalize w6.heap.size = h2 at HHU HNE HL2 ⊢
      go_wp2_with fail
      refine (feed_any al HHU.out (Nat.le_refl _) (by show 0 + 0 + al.size < 2 ^ 40; have := HSZ.out; have := HX.out; have := HFN.out; omega) (by show 0 + al.size < 2 ^ 30; have := HSZ.out; have := HX.out; have := HFN.out; omega)).mono ?_
      rintro _ w8 ⟨⟨wv, rfl, hw⟩, hp2, ho2⟩
      have HQ8 := Lib.hid (LQ.start HJ7.out HIT7.out HEQ.out HHU.out HNE.out hw hp2 ho2 HOWN.out HL2.out)
      obtain ⟨t2, hq8⟩ := HQ8.out
      have HQ := Lib.hid hq8; clear hq8 HQ8 hw hp2 ho2
      obtain ⟨A1, cp1, g1, rfl, hc1, r1, e1⟩ := ItsAt.rd HQ.out.it
      obtain ⟨A2, cp2, g2, rfl, hc2, r2, e2⟩ := ItsAt.rd HQ.out.wt
      obtain ⟨more, hmore⟩ := fed_prefix F (flat l ++ s.bytes)
      have HMO := Lib.hid (show (fed al.data.toList).out = (fed F).out ++ more by rw [HEQ.out, List.append_assoc]; exact hmore)
      have hle : (fed F).out.length ≤ (fed al.data.toList).out.length := by rw [HMO.out, List.length_append]; omega
      have HS9 := Lib.hid (same9_eq w8 A1 A2 (fed F).out.length cp1 cp2 g1 g2 (by have := (fed_bd F).ou; have := HAL.out; omega) r1 (ItsRd.less r2 hle) (fun j hj => by
        have h1 := e1 j hj
        have h2 := e2 j (by omega)
        refine ⟨?_, ?_⟩
        · rw [h1, h2, HMO.out, List.getD_eq_getElem?_getD, List.getD_eq_getElem?_getD, List.getElem?_append_left hj]
        · rw [h1]
          have hm : (fed F).out.getD j (.gap 0 0) ∈ (fed F).out := by
            rw [List.getD_eq_getElem?_getD, List.getElem?_eq_getElem hj]
            exact List.getElem_mem _
          have := (fed_bd F).es _ hm
          omega))
      have HSZA := Lib.hid (show (fed F).out.length ≤ 20000 ∧ (fed al.data.toList).out.length ≤ 20000 by
        have h1 := (fed_bd F).ou
        have h2 := (fed_bd al.data.toList).ou
        have h3 : al.data.toList.length = al.size := by rw [Array.length_toList]; rfl
        have := HAL.out
        have := HSZ.out
        have := HX.out
        have := HFN.out
        omega)
      clear r1 r2 e1 e2 hmore HJ HIT HHU HJ7 HIT7 HTB2 HG6 HOWN HMO
      generalize hgl : (fed F).out.length = gl at *
      generalize hwl : (fed al.data.toList).out.length = wl at *
      have HGL := Lib.hid hgl; clear hgl
      have HWL := Lib.hid hwl; clear hwl
      have j1 : ¬ (wl : Int) < (gl : Int) := by omega
      have j2 : (0 : Int) ≤ (gl : Int) := by omega
      have j3 : (gl : Int) ≤ (cp2 : Int) := by omega
      go_wp2_with fail
      refine HS9.out.mono ?_
      rintro _ _ ⟨rfl, m9, rfl⟩
      have HQ9 := Lib.hid (HQ.out.grow (Grow.drewN w8 m9))
      have HA := Lib.hid (show al.data.toList.length ≤ 7160 by
        have h3 : al.data.toList.length = al.size := by rw [Array.length_toList]; rfl
        have := HSZ.out
        have := HX.out
        have := HFN.out
        omega)
      clear HS9 HQ j1 j2 j3 HAL HEQ
      generalize w8.drewN m9 = w9 at HQ9 ⊢
      generalize al.data.toList = A at *
      go_upto_region 30 with (fail)
      have hdc : decide (wl < gl) = false := decide_eq_false (by omega)
      rw [hdc]
      clear hdc
      rw [HWL.out.symm] at HSZA
      have hroom : (room : Int) ≤ 64 := by have := HH2.out; omega
      have hroom1 : (1 : Int) ≤ room := by have := HH1.out; omega
      have HC1 := Lib.hid hc1; clear hc1
      have HC2 := Lib.hid hc2; clear hc2
      go_loopw [145, 14] (fun i gv wr => ∃ k : Nat, k ≤ 80 ∧ i = .int .i64 k ∧ ∃ s l F, LQ w wr r g p c h tb room h2 tb2 A t2 (.slice A2 wl cp2) gv s l F ∧ (k = 0 ∨ l = []) ∧ (1 ≤ k → s.used = 0 ∨ s.used + 200 * (k - 1) ≤ 7160)) (fun i _ _ => 80 - (intOf i).toNat)
      case atStart => exact ⟨0, by omega, rfl, s, l, F, HQ9.out, .inl rfl, fun h => absurd h (by omega)⟩
      case round =>
        clear HQ9 HGL HC1
        obtain ⟨k2, hk2, rfl, s0, l0, F0, hq, hl0, hus⟩ := hrel
        have HQ := Lib.hid hq; clear hq
        have HL0 := Lib.hid hl0; clear hl0
        have HUS := Lib.hid hus; clear hus
        by_cases hlt2 : k2 < 80
        · have hlti2 : (k2 : Int) < 80 := by omega
          go_upto_region 32 with (fail)
          go_loopw [149] (fun i wr => ∃ j : Nat, j ≤ room + 1 ∧ i = .int .i64 j ∧ ∃ s1 l1, LQ w wr r g p c h tb room h2 tb2 A t2 (.slice A2 wl cp2) u14 s1 l1 F0 ∧ s1.used ≤ s0.used ∧ (j = 0 → l1 = l0) ∧ (l0 = [] → 1 ≤ j → s1.used ≤ s0.used - 200)) (fun i _ => room + 1 - (intOf i).toNat)
          case atStart => exact ⟨0, by omega, rfl, s0, l0, HQ.out, Nat.le_refl _, fun _ => rfl, fun _ h => absurd h (by omega)⟩
          case round =>
            clear HQ
            obtain ⟨j, hj, rfl, s1, l1, hq, hu1, hl1, hu2⟩ := hrel
            have HQ := Lib.hid hq; clear hq
            have HU := Lib.hid (And.intro hu1 (And.intro hl1 hu2)); clear hu1 hl1 hu2
            by_cases hlt3 : j < room + 1
            · have hlti3 : (j : Int) < (room : Int) + 1 := by omega
              go_wp2_with fail
              refine (LJ.pump HQ.out.j 200).mono ?_
              rintro _ w6 ⟨⟨kk, rfl⟩, hj6, hki⟩
              have HQ6 := Lib.hid (HQ.out.step hj6 hki (pump_flat _ _ _ _))
              have HU6 := Lib.hid (pump_used room 200 s1 l1)
              clear hj6 hki
              go_wp2_with fail
              go_roundw
              case rel => exact ⟨j + 1, by omega, by go_num, _, _, HQ6.out, Nat.le_trans HU6.out.1 HU.out.1, fun h => absurd h (by omega), fun hn _ => by
                by_cases h0 : j = 0
                · have h1 := HU6.out.2 (by rw [HU.out.2.1 h0, hn]; exact HH1.out) (by decide)
                  rw [h1]
                  have := HU.out.1
                  show s1.used - 200 ≤ s0.used - 200
                  omega
                · exact Nat.le_trans HU6.out.1 (HU.out.2.2 hn (by omega))⟩
              case measure => simp [intOf]; omega
            · have hlti3 : ¬ (j : Int) < (room : Int) + 1 := by omega
              have HU2 := Lib.hid (show s1.used ≤ s0.used ∧ (l0 = [] → s1.used ≤ s0.used - 200) from ⟨HU.out.1, fun hn => HU.out.2.2 hn (by omega)⟩)
              clear HU hlt3 hj
              go_upto_region 36 with (fail)
              go_loopw [157, 14] (fun i gv wr => ∃ j : Nat, j ≤ room + 1 ∧ i = .int .i64 j ∧ ∃ l2 F2, LQ w wr r g p c h tb room h2 tb2 A t2 (.slice A2 wl cp2) gv s1 l2 F2 ∧ l2.length ≤ room - j) (fun i _ _ => room + 1 - (intOf i).toNat)
              case atStart => exact ⟨0, by omega, rfl, l1, F0, HQ.out, HQ.out.j.le⟩
              case round =>
                clear HQ
                obtain ⟨j2, hj2, rfl, l2, F2, hq, hl2⟩ := hrel
                have HQ := Lib.hid hq; clear hq
                have HL2' := Lib.hid hl2; clear hl2
                by_cases hlt4 : j2 < room + 1
                · have hlti4 : (j2 : Int) < (room : Int) + 1 := by omega
                  have HAL := Lib.hid (HQ.out.len HA.out)
                  go_wp2_with fail
                  refine (LJ.feed HQ.out.j (by have := HAL.out; omega)).mono ?_
                  rintro _ w6 ⟨⟨its, F', l', ⟨u, ub, rfl, hu⟩, hj, ho, hfl, hll⟩, hki⟩
                  have HJ2 := Lib.hid hj
                  have HKI := Lib.hid hki
                  have HO := Lib.hid ho
                  have HFL := Lib.hid hfl
                  have HLL := Lib.hid hll
                  obtain ⟨L1, e1, o1, v1⟩ := its_out (HQ.out.it.keepI hki)
                  obtain ⟨L2, e2, o2, v2⟩ := its_out hu
                  obtain ⟨A3, cp3, rfl, hr2⟩ := own_reads o2
                  have HE := Lib.hid (And.intro e1 e2)
                  have HO1 := Lib.hid o1
                  have HV1 := Lib.hid v1
                  have HV2 := Lib.hid v2
                  have HR2 := Lib.hid hr2
                  have HLN := Lib.hid (show L1.length ≤ 14320 ∧ L2.length ≤ 14320 by
                    have h1 := (fed_bd F').ou
                    rw [HO.out, List.length_append, ← e1, ← e2, List.length_map, List.length_map] at h1
                    have h2 := congrArg List.length HFL.out
                    rw [List.length_append, List.length_append] at h2
                    have := HAL.out
                    omega)
                  have HBW := Lib.hid (show w.heap.size ≤ w6.heap.size from HJ2.out.b.size)
                  clear e1 e2 o1 o2 v1 v2 hr2 hu hj ho hfl hll hki
                  generalize hl1 : L1.length = n1 at *
                  have HN1 := Lib.hid hl1; clear hl1
                  generalize hl2 : L2.length = n2 at *
                  have HN2 := Lib.hid hl2; clear hl2
                  go_wp2_with (at_builtin; refine wpList_append_any _ rfl (.tmp 165) (.tmp 166) 37 rfl w.heap.size 85 i0 _ 4 40 Tryz.underlying37 HI0.out HZ0.out HZ1.out HZ2.out rfl (by decide) _ n1 (itsC L1) (by rfl) HO1.out _ A3 n2 cp3 (itsC L2) (by rfl) HR2.out (itsC_one L2 fun p hp => (HV2.out p hp).one) ?d4 ?d5 ?d6 ?d7)
                  case d4 => have := HLN.out; unfold maxLen; omega
                  case d5 => have := HLN.out; omega
                  case d6 => exact HBW.out
                  case d7 =>
                    intro v' w7 hown hgr hblk
                    have HQ7 := Lib.hid (HQ.out.fed' HJ2.out HKI.out HO.out HFL.out L1 L2 HE.out.1 HE.out.2 (by rw [HN1.out]; exact HO1.out) HV1.out HV2.out (by rw [HN1.out, HN2.out]; exact hown) hgr hblk)
                    clear hown hgr hblk
                    go_wp2_with fail
                    go_roundw
                    case rel => exact ⟨j2 + 1, by omega, by go_num, l', F', HQ7.out, by have := HL2'.out; have := HLL.out; omega⟩
                    case measure => simp [intOf]; omega
                · have hlti4 : ¬ (j2 : Int) < (room : Int) + 1 := by omega
                  have hl2n : l2 = [] := List.eq_nil_of_length_eq_zero (by have := HL2'.out; omega)
                  subst hl2n
                  clear HL2'
                  go_wp2_with fail
                  go_roundw
                  case rel => exact ⟨k2 + 1, by omega, by go_num, s1, [], F2, HQ.out, .inr rfl, fun _ => by
                    have h1 := HU2.out
                    have h3 := HQ.out.len HA.out
                    have h4 : s1.bytes.length = s1.used := rfl
                    by_cases h0 : k2 = 0
                    · subst h0; right; omega
                    · have h5 := HUS.out (by omega)
                      have h6 := h1.2 (by rcases HL0.out with h | h; · exact absurd h h0
                                          · exact h)
                      omega⟩
                  case measure => simp [intOf]; omega
        · have hlti2 : ¬ (k2 : Int) < 80 := by omega
          have hk80 : k2 = 80 := by omega
          subst hk80
          have hl0n : l0 = [] := by
            rcases HL0.out with h | h
            · exact absurd h (by decide)
            · exact h
          have hu0 : s0.used = 0 := by
            rcases HUS.out (by decide) with h | h
            · exact h
            · omega
          subst hl0n
          have hAF : A = F0 := by
            have h1 := HQ.out.eq
            have h2 : s0.bytes = [] := List.eq_nil_of_length_eq_zero hu0
            rw [h2] at h1
            simpa [flat] using h1
          subst hAF
          have HU0 := Lib.hid hu0; clear hu0
          obtain ⟨A3, cp3, g3, hgv, hc3, r3, e3⟩ := ItsAt.rd HQ.out.it
          subst hgv
          obtain ⟨A4, cp4, g4, hwv, hc4, r4, e4⟩ := ItsAt.rd HQ.out.wt
          injection hwv with hx1 hx2 hx3
          subst hx1 hx3
          have HS9 := Lib.hid (same9_eq wr A3 A2 (fed A).out.length cp3 cp2 g3 g4 (by have := (fed_bd A).ou; have := HA.out; omega) r3 r4 (fun j hj => by
            have h1 := e3 j hj
            have h2 := e4 j hj
            refine ⟨h1.trans h2.symm, ?_⟩
            rw [h1]
            have hm : (fed A).out.getD j (.gap 0 0) ∈ (fed A).out := by
              rw [List.getD_eq_getElem?_getD, List.getElem?_eq_getElem hj]
              exact List.getElem_mem _
            have := (fed_bd A).es _ hm
            omega))
          clear r3 r4 e3 e4 HL0 HUS HSZA
          go_wp2_with fail
          refine HS9.out.mono ?_
          rintro _ _ ⟨rfl, m10, rfl⟩
          have HQA := Lib.hid (HQ.out.grow (Grow.drewN wr m10))
          clear HS9 HQ
          generalize wr.drewN m10 = wa at HQA ⊢
          go_wp2_with fail
          refine (Rg.used_ring HQA.out.j.rg 0 HU0.out).mono ?_
          rintro _ _ ⟨rfl, rfl⟩
          have HSK := Lib.hid HQA.out.j.sw
          obtain ⟨t3, _, hs3⟩ := HSK.out
          have HS3 := Lib.hid hs3; clear hs3
          go_wp2_with fail
          refine (skipped_any HS3.out.hu).mono ?_
          rintro _ _ ⟨rfl, rfl⟩
          go_wp2_with fail
          refine (skipped_any HQA.out.hu2).mono ?_
          rintro _ _ ⟨rfl, rfl⟩
          go_wp2
          go_ret
          exact ⟨rfl, HQA.out.j.b⟩
theorem law_any (w : World) (FA TA : Option Addr) (fn fcap tn tcap : Nat) (room : Int) (gf : Nat → Fr) (gt : Nat → Int × Int) (HL : LiveOk w) (hF : FramesAt w FA fn gf) (hT : TurnsAt w TA tn gt) :
    Calls Tryz.prog 3 #[.slice FA fn fcap, .slice TA tn tcap, .int .i64 room] w fun e w' => e = .returned (.bool true) ∧ Below w.heap.size w w' := by
  by_cases h : room < 1 ∨ 64 < room
  · exact law_bad w FA TA fn fcap tn tcap room HL h
  · obtain ⟨r, rfl⟩ : ∃ r : Nat, room = (r : Int) := ⟨room.toNat, by omega⟩
    by_cases h2 : 40 < fn ∨ 200 < tn
    · exact law_wide w FA TA fn fcap tn tcap r HL (by omega) (by omega) h2
    · cases FA with
      | none => exact law_none w TA fn fcap tn tcap r gf gt HL hF hT (by omega) (by omega) (by omega) (by omega)
      | some fa => exact law_walk w fa TA fn fcap tn tcap r gf gt HL hF hT (by omega) (by omega) (by omega) (by omega)
end Go.Proofs.YtnhmdinpfcoebaaGreatDoor
end

/-! === Deco -/
section
/- taffrailtop.decode: a log, fed by cuts. -/
namespace Go.Proofs.YtnhmdinpfcoebaaGreatDoor
open Go.RowKit
set_option linter.unusedVariables false
set_option linter.unusedSimpArgs false
set_option maxRecDepth 100000

open Go.Conc
attribute [local irreducible] tab
theorem fed_step (F y : Top.Bytes) (t : ByteArray) (h : t.data.toList = (fed F).text) : fed (F ++ y) = { Top.hunt false (t.data.toList ++ y) (fed F).next (fed F).skipped (fed F).lost with out := (fed F).out ++ (Top.hunt false (t.data.toList ++ y) (fed F).next (fed F).skipped (fed F).lost).out } := by rw [fed_more, h]
theorem bl (x : ByteArray) : x.data.toList.length = x.size := by rw [Array.length_toList]; rfl
/-- While a log is decoded. -/
structure DL (w0 wr : World) (h tb : Nat) (A : Top.Bytes) (gv : Value) (F : Top.Bytes) (t x : ByteArray) : Prop where
  hu : HuAt wr h tb t (fed F).next (fed F).skipped (fed F).lost false
  tx : t.data.toList = (fed F).text
  it : ItsAt wr w0.heap.size gv (fed F).out
  eq : A = F ++ x.data.toList
  b : Below w0.heap.size w0 wr
  le : w0.heap.size ≤ h
theorem DL.start {w0 w4 w5 : World} {h tb : Nat} {x : ByteArray} (hh : HuAt w5 h tb ByteArray.empty 0 0 0 false) (hg : Grow w0 w5) (hle : w0.heap.size ≤ h) : DL w0 w5 h tb x.data.toList (.slice none 0 0) [] ByteArray.empty x :=
  ⟨hh, rfl, ItsAt.nil _ _, rfl, hg, hle⟩
theorem DL.len {w0 wr : World} {h tb : Nat} {A F : Top.Bytes} {gv : Value} {t x : ByteArray} (d : DL w0 wr h tb A gv F t x) : F.length + x.size = A.length ∧ (fed F).skipped + t.size ≤ F.length ∧ (fed F).lost ≤ (fed F).next := by
  have h1 := congrArg List.length d.eq
  rw [List.length_append, bl] at h1
  have h3 := (fed_bd F).sk
  rw [← d.tx, bl] at h3
  exact ⟨by omega, by omega, fed_next F⟩
/-- Fed, and appended. -/
theorem DL.fed' {w0 wr w5 w6 : World} {h tb : Nat} {A F : Top.Bytes} {gv v' : Value} {t x y x' : ByteArray} (d : DL w0 wr h tb A gv F t x) (R : Top.Hu) (hR : R = Top.hunt false (t.data.toList ++ y.data.toList) (fed F).next (fed F).skipped (fed F).lost) (hp : HuP w5 h tb R false) (ho : Only h wr w5)
    (hx : x.data.toList = y.data.toList ++ x'.data.toList) (L1 L2 : List (Top.It × Value)) (e1 : L1.map Prod.fst = (fed F).out) (e2 : L2.map Prod.fst = R.out) (o1 : w5.ownsRow w0.heap.size 85 4 gv L1.length (itsC L1)) (v1 : ∀ p ∈ L1, EvAt w5 p.2 p.1.es) (v2 : ∀ p ∈ L2, EvAt w5 p.2 p.1.es)
    (hown : w6.ownsRow w0.heap.size 85 4 v' (L1.length + L2.length) (itsC L1 ++ itsC L2)) (hg : w5.grownBy w6 gv.ownBlock) : ∃ t', DL w0 w6 h tb A v' (F ++ y.data.toList) t' x' := by
  have hf := fed_step F y.data.toList t d.tx
  rw [← hR] at hf
  obtain ⟨t', h1, h2, _⟩ := hp
  refine ⟨t', ?_, ?_, ?_, ?_, ?_, d.le⟩
  · rw [hf]; exact h2.grown o1 hg (by decide) (by decide)
  · rw [hf]; exact h1
  · rw [hf]; exact ItsAt.app L1 L2 e1 e2 o1 v1 v2 hown hg
  · rw [d.eq, hx, List.append_assoc]
  · have h5 := Below.trans d.b (ho.below d.le d.b.size)
    exact Below.trans h5 (below_grown hg h5.size fun k hk => (o1.lt k hk).1)
theorem DL.lens {w0 wr : World} {h tb : Nat} {A F : Top.Bytes} {gv : Value} {t x : ByteArray} (d : DL w0 wr h tb A gv F t x) (R : Top.Hu) (y : Top.Bytes) (c : Bool) (hy : y.length ≤ x.size) (hR : R = Top.hunt c (t.data.toList ++ y) (fed F).next (fed F).skipped (fed F).lost) (hA : A.length ≤ 1000000) (L1 L2 : List (Top.It × Value)) (e1 : L1.map Prod.fst = (fed F).out) (e2 : L2.map Prod.fst = R.out) : L1.length ≤ 2000000 ∧ L2.length ≤ 2000000 := by
  have h1 := (fed_bd F).ou
  have h2 := (hunt_bd c (t.data.toList ++ y) (fed F).next (fed F).skipped (fed F).lost).ou
  rw [← hR, ← e2, List.length_map, List.length_append, bl] at h2
  rw [← e1, List.length_map] at h1
  have := d.len
  omega
/-- What a log gives, decoded and closed. -/
def closed (A : Top.Bytes) : Top.Hu := Top.hunt true (fed A).text (fed A).next (fed A).skipped (fed A).lost
theorem DL.closed' {w0 wr w5 w6 : World} {h tb : Nat} {A : Top.Bytes} {gv v' : Value} {t x : ByteArray} (d : DL w0 wr h tb A gv A t x) (R : Top.Hu) (hR : R = Top.hunt true t.data.toList (fed A).next (fed A).skipped (fed A).lost) (hp : HuP w5 h tb R true) (ho : Only h wr w5)
    (L1 L2 : List (Top.It × Value)) (e1 : L1.map Prod.fst = (fed A).out) (e2 : L2.map Prod.fst = R.out) (o1 : w5.ownsRow w0.heap.size 85 4 gv L1.length (itsC L1)) (v1 : ∀ p ∈ L1, EvAt w5 p.2 p.1.es) (v2 : ∀ p ∈ L2, EvAt w5 p.2 p.1.es)
    (hown : w6.ownsRow w0.heap.size 85 4 v' (L1.length + L2.length) (itsC L1 ++ itsC L2)) (hg : w5.grownBy w6 gv.ownBlock) : ItsAt w6 w0.heap.size v' ((fed A).out ++ (closed A).out) ∧ HuP w6 h tb (closed A) true ∧ Below w0.heap.size w0 w6 := by
  have hc : R = closed A := by rw [hR, d.tx]; rfl
  rw [← hc]
  refine ⟨ItsAt.app L1 L2 e1 e2 o1 v1 v2 hown hg, ?_, ?_⟩
  · obtain ⟨t', h1, h2, h3⟩ := hp
    exact ⟨t', h1, h2.grown o1 hg (by decide) (by decide), h3⟩
  · have h5 := Below.trans d.b (ho.below d.le d.b.size)
    exact Below.trans h5 (below_grown hg h5.size fun k hk => (o1.lt k hk).1)
attribute [local irreducible] ItsAt fed Top.hunt HuP
set_option maxHeartbeats 8000000 in
theorem decode_any (w : World) (log : ByteArray) (C : Option Addr) (cn ccap : Nat) (cut : Nat → Int) (hlog : log.size ≤ 1000000) (hC : RowAt w C cn 1 fun j => [.int .i64 (cut j)]) (hcn : cn ≤ 1000000) :
    Calls Tryz.prog 19 #[.string log, .slice C cn ccap] w fun e w' => ∃ v h tb, e = .returned (.tuple #[v, .pointer (some ⟨h, 0, none⟩)]) ∧ ItsAt w' w.heap.size v ((fed log.data.toList).out ++ (closed log.data.toList).out) ∧ HuP w' h tb (closed log.data.toList) true ∧ Below w.heap.size w w' := by
  have HLOG := Lib.hid hlog; clear hlog
  have HC := Lib.hid hC; clear hC
  have HCN := Lib.hid hcn; clear hcn
  obtain ⟨i0, hi, hz0, hz1, hz2⟩ := info_parts info85z
  have HI0 := Lib.hid hi; clear hi
  have HZ0 := Lib.hid hz0; clear hz0
  have HZ1 := Lib.hid hz1; clear hz1
  have HZ2 := Lib.hid hz2; clear hz2
  go_enter Tryz.func19, Tryz.ntmps19
  go_wp2_with fail
  refine (make_any w).mono ?_
  rintro _ w4 ⟨rfl, hw4⟩
  have HTB := Lib.hid (show TabAt w4 w.heap.size by rw [hw4]; exact heapAt_alloc_new _ _)
  have HG4 := Lib.hid (show Grow w w4 by rw [hw4]; exact Grow.alloc _ _)
  clear hw4
  obtain ⟨tb, htb⟩ : ∃ tb, tb = w.heap.size := ⟨_, rfl⟩
  rw [← htb] at HTB ⊢
  clear htb
  go_wp2_with fail
  refine (hnew_any w4 tb HTB.out).mono ?_
  rintro _ w5 ⟨rfl, hh, hg⟩
  have HD0 := Lib.hid (DL.start (x := log) (w4 := w4) hh (HG4.out.trans hg) HG4.out.size)
  generalize hA : log.data.toList = A at *
  have HAL := Lib.hid (show A.length ≤ 1000000 by rw [← hA, bl]; exact HLOG.out)
  have HA := Lib.hid hA
  clear hA hh hg HG4 HTB HLOG
  have hcni : (cn : Int) ≤ 1000000 := by have := HCN.out; omega
  generalize w4.heap.size = h at HD0 ⊢
  go_upto_region 3 with (fail)
  go_loopw [15, 4, 0, 7] (fun i gv xv _ wr => ∃ k : Nat, k ≤ cn ∧ i = .int .i64 k ∧ ∃ (x t : ByteArray) (F : Top.Bytes), xv = .string x ∧ DL w wr h tb A gv F t x) (fun i _ _ _ _ => cn - (intOf i).toNat)
  case atStart => exact ⟨0, Nat.zero_le _, rfl, log, _, _, rfl, HD0.out⟩
  case round =>
    obtain ⟨k, hk, rfl, x, t, F, rfl, hd⟩ := hrel
    have HD := Lib.hid hd; clear hd HD0
    have HLEN := Lib.hid HD.out.len
    have hxs : (x.size : Int) ≤ 1000000 := by have := HAL.out; have := HLEN.out; omega
    by_cases hlt : k < cn
    · have hlti : (k : Int) < cn := by omega
      have k0 : (0 : Int) ≤ (k : Int) := by omega
      have HC2 := Lib.hid (RowAt.below HC.out HD.out.b)
      obtain ⟨ca, hCA, hcc⟩ := HC2.out (by omega)
      rw [hCA]
      have p0 : wr.cell? (ca.add k) = some (.int .i64 (cut k)) := by
        have h := hcc k hlt 0 _ rfl
        rw [Nat.mul_one] at h
        exact h
      clear hcc HC2
      generalize cut k = ck at *
      obtain ⟨m, hm, hmx⟩ : ∃ m : Nat, min (max ck 0) (x.size : Int) = (m : Int) ∧ m ≤ x.size := ⟨(min (max ck 0) (x.size : Int)).toNat, by omega, by omega⟩
      have m0 : (0 : Int) ≤ (m : Int) := by omega
      have m1 : (m : Int) ≤ (x.size : Int) := by omega
      go_upto_region 6 with (fail)
      go_wp2_with fail
      generalize hy : x.extract 0 m = y at *
      have HY := Lib.hid (show x.data.toList = y.data.toList ++ (x.extract m x.size).data.toList by
        rw [← hy, extract_list, extract_list, Nat.sub_zero]
        show x.data.toList = (x.data.toList.drop 0).take m ++ (x.data.toList.drop m).take (x.size - m)
        rw [List.drop_zero, show (x.data.toList.drop m).take (x.size - m) = x.data.toList.drop m from List.take_of_length_le (by rw [List.length_drop, bl]; omega), List.take_append_drop])
      have HYS := Lib.hid (show y.size ≤ x.size by have h := congrArg List.length HY.out; rw [List.length_append, bl, bl] at h; omega)
      clear hy
      refine (feed_any y HD.out.hu HLEN.out.2.2 (by have := HLEN.out; have := HYS.out; have := HAL.out; omega) (by have := HLEN.out; have := HYS.out; have := HAL.out; omega)).mono ?_
      generalize hR : Top.hunt false (t.data.toList ++ y.data.toList) (fed F).next (fed F).skipped (fed F).lost = R
      rintro _ w6 ⟨⟨u, rfl, hu⟩, hp, ho⟩
      have HR := Lib.hid hR.symm
      have HP := Lib.hid hp
      have HO := Lib.hid ho
      obtain ⟨L1, e1, o1, v1⟩ := its_out (HD.out.it.only ho HD.out.hu.b (by decide) (by decide))
      obtain ⟨L2, e2, o2, v2⟩ := its_out hu
      obtain ⟨A3, cp3, rfl, hr2⟩ := own_reads o2
      have HE := Lib.hid (And.intro e1 e2)
      have HO1 := Lib.hid o1
      have HV1 := Lib.hid v1
      have HV2 := Lib.hid v2
      have HR2 := Lib.hid hr2
      have HLN := Lib.hid (HD.out.lens R y.data.toList false (by rw [bl]; exact HYS.out) hR.symm HAL.out L1 L2 e1 e2)
      have HBW := Lib.hid (show w.heap.size ≤ w6.heap.size from Nat.le_trans HD.out.b.size ho.2.2.2.1)
      clear e1 e2 o1 o2 v1 v2 hr2 hu hp ho hR
      generalize hl1 : L1.length = n1 at *
      have HN1 := Lib.hid hl1; clear hl1
      generalize hl2 : L2.length = n2 at *
      have HN2 := Lib.hid hl2; clear hl2
      go_wp2_with (at_builtin; refine wpList_append_any _ rfl (.tmp 24) (.tmp 29) 37 rfl w.heap.size 85 i0 _ 4 40 Tryz.underlying37 HI0.out HZ0.out HZ1.out HZ2.out rfl (by decide) _ n1 (itsC L1) (by rfl) HO1.out _ A3 n2 cp3 (itsC L2) (by rfl) HR2.out (itsC_one L2 fun p hp => (HV2.out p hp).one) ?c4 ?c5 ?c6 ?c7)
      case c4 => have := HLN.out; unfold maxLen; omega
      case c5 => have := HLN.out; omega
      case c6 => exact HBW.out
      case c7 =>
        intro v' w7 hown hgr hblk
        obtain ⟨t', hd'⟩ := HD.out.fed' R HR.out HP.out HO.out HY.out L1 L2 HE.out.1 HE.out.2 (by rw [HN1.out]; exact HO1.out) HV1.out HV2.out (by rw [HN1.out, HN2.out]; exact hown) hgr
        have HD2 := Lib.hid hd'
        clear hown hgr hblk hd'
        go_wp2_with fail
        go_roundw
        case rel => exact ⟨k + 1, by omega, by go_num, _, t', _, rfl, HD2.out⟩
        case measure => simp [intOf]; omega
    · have hlti : ¬ (k : Int) < cn := by omega
      go_wp2_with fail
      refine (feed_any x HD.out.hu HLEN.out.2.2 (by have := HLEN.out; have := HAL.out; omega) (by have := HLEN.out; have := HAL.out; omega)).mono ?_
      generalize hR : Top.hunt false (t.data.toList ++ x.data.toList) (fed F).next (fed F).skipped (fed F).lost = R
      rintro _ w6 ⟨⟨u, rfl, hu⟩, hp, ho⟩
      have HR := Lib.hid hR.symm
      have HP := Lib.hid hp
      have HO := Lib.hid ho
      obtain ⟨L1, e1, o1, v1⟩ := its_out (HD.out.it.only ho HD.out.hu.b (by decide) (by decide))
      obtain ⟨L2, e2, o2, v2⟩ := its_out hu
      obtain ⟨A3, cp3, rfl, hr2⟩ := own_reads o2
      have HE := Lib.hid (And.intro e1 e2)
      have HO1 := Lib.hid o1
      have HV1 := Lib.hid v1
      have HV2 := Lib.hid v2
      have HR2 := Lib.hid hr2
      have HLN := Lib.hid (HD.out.lens R x.data.toList false (by rw [bl]; exact (Nat.le_refl x.size)) hR.symm HAL.out L1 L2 e1 e2)
      have HBW := Lib.hid (show w.heap.size ≤ w6.heap.size from Nat.le_trans HD.out.b.size ho.2.2.2.1)
      clear e1 e2 o1 o2 v1 v2 hr2 hu hp ho hR
      generalize hl1 : L1.length = n1 at *
      have HN1 := Lib.hid hl1; clear hl1
      generalize hl2 : L2.length = n2 at *
      have HN2 := Lib.hid hl2; clear hl2
      go_wp2_with (at_builtin; refine wpList_append_any _ rfl (.tmp 35) (.tmp 38) 37 rfl w.heap.size 85 i0 _ 4 40 Tryz.underlying37 HI0.out HZ0.out HZ1.out HZ2.out rfl (by decide) _ n1 (itsC L1) (by rfl) HO1.out _ A3 n2 cp3 (itsC L2) (by rfl) HR2.out (itsC_one L2 fun p hp => (HV2.out p hp).one) ?d4 ?d5 ?d6 ?d7)
      case d4 => have := HLN.out; unfold maxLen; omega
      case d5 => have := HLN.out; omega
      case d6 => exact HBW.out
      case d7 =>
        intro v' w7 hown hgr hblk
        obtain ⟨t', hd'⟩ := HD.out.fed' (x' := ByteArray.empty) R HR.out HP.out HO.out (by simp) L1 L2 HE.out.1 HE.out.2 (by rw [HN1.out]; exact HO1.out) HV1.out HV2.out (by rw [HN1.out, HN2.out]; exact hown) hgr
        have HD2 := Lib.hid hd'
        clear hown hgr hblk hd'
        have HAF := Lib.hid (show A = F ++ x.data.toList from HD.out.eq)
        rw [← HAF.out] at HD2
        have HLEN2 := Lib.hid HD2.out.len
        clear HD HP HO HE HO1 HV1 HV2 HR2 HN1 HN2 HLN HR HLEN HAF
        go_wp2_with fail
        refine (close_any HD2.out.hu HLEN2.out.2.2 (by have := HLEN2.out; have := HAL.out; omega)).mono ?_
        generalize hR : Top.hunt true t'.data.toList (fed A).next (fed A).skipped (fed A).lost = R2
        rintro _ w8 ⟨⟨u, rfl, hu⟩, hp, ho⟩
        have HR := Lib.hid hR.symm
        have HP := Lib.hid hp
        have HO := Lib.hid ho
        obtain ⟨L1, e1, o1, v1⟩ := its_out (HD2.out.it.only ho HD2.out.hu.b (by decide) (by decide))
        obtain ⟨L2, e2, o2, v2⟩ := its_out hu
        obtain ⟨A4, cp4, rfl, hr2⟩ := own_reads o2
        have HE := Lib.hid (And.intro e1 e2)
        have HO1 := Lib.hid o1
        have HV1 := Lib.hid v1
        have HV2 := Lib.hid v2
        have HR2 := Lib.hid hr2
        have HLN := Lib.hid (HD2.out.lens R2 [] true (Nat.zero_le _) (by rw [List.append_nil]; exact hR.symm) HAL.out L1 L2 e1 e2)
        have HBW := Lib.hid (show w.heap.size ≤ w8.heap.size from Nat.le_trans HD2.out.b.size ho.2.2.2.1)
        clear e1 e2 o1 o2 v1 v2 hr2 hu hp ho hR
        generalize hl1 : L1.length = n1 at *
        have HN1 := Lib.hid hl1; clear hl1
        generalize hl2 : L2.length = n2 at *
        have HN2 := Lib.hid hl2; clear hl2
        go_wp2_with (at_builtin; refine wpList_append_any _ rfl (.tmp 40) (.tmp 42) 37 rfl w.heap.size 85 i0 _ 4 40 Tryz.underlying37 HI0.out HZ0.out HZ1.out HZ2.out rfl (by decide) _ n1 (itsC L1) (by rfl) HO1.out _ A4 n2 cp4 (itsC L2) (by rfl) HR2.out (itsC_one L2 fun p hp => (HV2.out p hp).one) ?f4 ?f5 ?f6 ?f7)
        case f4 => have := HLN.out; unfold maxLen; omega
        case f5 => have := HLN.out; omega
        case f6 => exact HBW.out
        case f7 =>
          intro v2 w9 hown hgr hblk
          have HC9 := Lib.hid (HD2.out.closed' R2 HR.out HP.out HO.out L1 L2 HE.out.1 HE.out.2 (by rw [HN1.out]; exact HO1.out) HV1.out HV2.out (by rw [HN1.out, HN2.out]; exact hown) hgr)
          clear hown hgr hblk
          go_wp2
          go_ret2
          exact ⟨_, h, tb, rfl, by rw [HA.out]; exact HC9.out⟩
end Go.Proofs.YtnhmdinpfcoebaaGreatDoor
end

/-! === Wr -/
section
/- cursor.Writer: bytes put behind bytes; sept.Put. -/
namespace Go.Proofs.YtnhmdinpfcoebaaGreatDoor
open Go.RowKit
set_option linter.unusedVariables false
set_option linter.unusedSimpArgs false
set_option maxRecDepth 100000

open Go.Lib
/-- A writer that has written. -/
structure WrAt (w : World) (B b : Nat) (v : Value) (l : Top.Bytes) : Prop where
  bk : w.heap[b]? = some (.cells #[v] 212 (0, 0))
  o : w.ownsRow B 5 1 v l.length (u8s l)
  le : B ≤ b
theorem u8s_one (l : Top.Bytes) : ∀ u ∈ u8s l, u.oneCell' = true := fun u hu => by
  obtain ⟨x, _, rfl⟩ := List.mem_map.1 hu
  rfl
theorem u8s_len (l : Top.Bytes) : (u8s l).length = l.length := List.length_map _
theorem WrAt.grow {w w' : World} {B b : Nat} {v : Value} {l : Top.Bytes} (h : WrAt w B b v l) (hg : Grow w w') : WrAt w' B b v l := ⟨hg.at h.bk, own_grow h.o hg, h.le⟩
theorem WrAt.new (w : World) (B : Nat) (hB : B ≤ w.heap.size) : WrAt (w.alloc (.cells #[.slice none 0 0] 212)) B w.heap.size (.slice none 0 0) [] := ⟨heapAt_alloc_new _ _, World.ownsRow_nil _ _ _ _, hB⟩
/-- What a writer leaves as it was. -/
structure Bk (B : Nat) (w w' : World) : Prop where
  b : Below B w w'
  k : ∀ (k : Nat) (cs : Array Value) (t : TypeId) (fr : Nat × Nat), t ≠ 5 → t ≠ 212 → w.heap[k]? = some (.cells cs t fr) → w'.heap[k]? = some (.cells cs t fr)
theorem Bk.refl (B : Nat) (w : World) : Bk B w w := ⟨Below.refl _ _, fun _ _ _ _ _ _ h => h⟩
theorem Bk.trans {B : Nat} {a b c : World} (h : Bk B a b) (g : Bk B b c) : Bk B a c := ⟨h.b.trans g.b, fun k cs t fr h1 h2 h3 => g.k k cs t fr h1 h2 (h.k k cs t fr h1 h2 h3)⟩
theorem Bk.size {B : Nat} {w w' : World} (h : Bk B w w') : w.heap.size ≤ w'.heap.size := h.b.size
theorem Bk.grow {B : Nat} {w w' : World} (h : Grow w w') (hB : B ≤ w.heap.size) : Bk B w w' := ⟨Below.mono h hB, fun _ _ _ _ _ _ hk => h.at hk⟩
theorem Bk.alloc {B : Nat} {w w' : World} (h : Bk B w w') (hB : B ≤ w'.heap.size) (o : Obj) : Bk B w (w'.alloc o) := h.trans (Bk.grow (Grow.alloc w' o) hB)
theorem WrAt.put {w w1 w2 : World} {B b : Nat} {v v' : Value} {l m : Top.Bytes} (h : WrAt w B b v l) (ho : w1.ownsRow B 5 1 v' (l.length + m.length) (u8s l ++ u8s m)) (hg : w.grownBy w1 v.ownBlock) (h2 : w2.heap[b]? = some (.cells #[v'] 212 (0, 0))) (hon : Only b w1 w2) : WrAt w2 B b v' (l ++ m) ∧ Bk B w w2 := by
  have hb1 := at_grown h.o hg h.bk (by decide)
  have hB : B ≤ w.heap.size := by have := heapAt_lt h.bk; have := h.le; omega
  refine ⟨⟨h2, ?_, h.le⟩, (below_grown hg hB fun k hk => (h.o.lt k hk).1).trans (hon.below h.le (Nat.le_trans hB hg.size)), fun k cs t fr h1 h3 h4 => ?_⟩
  · rw [List.length_append, u8s, List.map_append]
    exact own_only ho hon hb1 (by decide)
  · have h5 := at_grown h.o hg h4 h1
    exact hon.at (ty_ne h5 hb1 h3) h5
/-- What a call that writes gives. -/
def WrOut (w0 : World) (B b : Nat) (l : Top.Bytes) (w : World) : Prop := (∃ v, WrAt w B b v l) ∧ Bk B w0 w
set_option maxHeartbeats 4000000 in
theorem info59 : (Tryz.prog.info? 59).map (·.size) = some 1 := by kernel_rfl
set_option maxHeartbeats 4000000 in
theorem wput_any {w : World} {B b : Nat} {v : Value} {l : Top.Bytes} (h : WrAt w B b v l) (C : Nat) (A : Option Addr) (m : Nat) (cp : Nat) (news : Top.Bytes) (hm : m = news.length) (hr : Reads w C 1 A m (u8s news)) (hl : l.length + m ≤ 1000000) :
    Calls Tryz.prog 126 #[.pointer (some ⟨b, 0, none⟩), .slice A m cp] w fun e w' => e = .returned (.tuple #[]) ∧ WrOut w B b (l ++ news) w' := by
  subst hm
  obtain ⟨i0, hi, hz0, hz1, hz2⟩ := info_parts info5z
  have HI0 := Lib.hid hi; clear hi
  have HZ0 := Lib.hid hz0; clear hz0
  have HZ1 := Lib.hid hz1; clear hz1
  have HZ2 := Lib.hid hz2; clear hz2
  have HW := Lib.hid h
  have HR := Lib.hid hr; clear hr
  have HL := Lib.hid hl; clear hl
  have c0 := cell_block h.bk 0
  simp at c0
  clear h
  have hB : B ≤ w.heap.size := by have := heapAt_lt HW.out.bk; have := HW.out.le; omega
  go_enter Tryz.func126, Tryz.ntmps126
  go_wp2_with (at_builtin; refine wpList_append_any _ rfl (.tmp 10) (.tmp 11) 59 rfl B 5 i0 _ 1 1 Tryz.underlying59 HI0.out HZ0.out HZ1.out HZ2.out rfl (by decide) _ l.length (u8s l) (by rfl) HW.out.o C A news.length cp (u8s news) (by rfl) HR.out (u8s_one news) ?c4 ?c5 ?c6 ?c7)
  case c4 => have := HL.out; unfold maxLen; omega
  case c5 => have := HL.out; omega
  case c6 => exact hB
  case c7 =>
    intro v' w1 hown hgr hblk
    have HO := Lib.hid hown
    have HG := Lib.hid hgr
    have hb1 := at_grown HW.out.o hgr HW.out.bk (by decide)
    have HB1 := Lib.hid hb1
    obtain ⟨A2, cp2, rfl, _⟩ := own_slice hown
    clear hown hgr hblk hb1 c0
    go_wp2_with (first
      | ((with_reducible refine store_in rfl 59 _ _ rfl b 0 212 _ #[.slice A2 (l.length + news.length) cp2] (.slice A2 (l.length + news.length) cp2) info59 HB1.out rfl ?_ ?_ ?_ ?_ ?_); (· rfl); (· rfl); (· simp); (· rfl); intro w2 hw2 hb2 ho2; clear hw2))
    have HP := Lib.hid (HW.out.put HO.out HG.out hb2 ho2)
    clear hb2 ho2
    go_end0
    exact ⟨rfl, ⟨_, HP.out.1⟩, HP.out.2⟩
theorem u8s_str (s : ByteArray) : strCells s = u8s s.data.toList := by
  rfl
set_option maxHeartbeats 4000000 in
theorem wtext_any {w : World} {B b : Nat} {v : Value} {l : Top.Bytes} (h : WrAt w B b v l) (s : ByteArray) (hl : l.length + s.size ≤ 1000000) :
    Calls Tryz.prog 93 #[.pointer (some ⟨b, 0, none⟩), .string s] w fun e w' => e = .returned (.tuple #[]) ∧ WrOut w B b (l ++ s.data.toList) w' := by
  obtain ⟨i0, hi, hz0, hz1, hz2⟩ := info_parts info5z
  have HI0 := Lib.hid hi; clear hi
  have HZ0 := Lib.hid hz0; clear hz0
  have HZ1 := Lib.hid hz1; clear hz1
  have HZ2 := Lib.hid hz2; clear hz2
  have HW := Lib.hid h
  have HL := Lib.hid hl; clear hl
  have HSS := Lib.hid (bl s)
  have c0 := cell_block h.bk 0
  simp at c0
  clear h
  have hB : B ≤ w.heap.size := by have := heapAt_lt HW.out.bk; have := HW.out.le; omega
  go_enter Tryz.func93, Tryz.ntmps93
  go_wp2_with (at_builtin; refine wpList_append_own_string _ rfl (.tmp 10) (.tmp 11) 59 9 rfl B 5 i0 Tryz.underlying59 Tryz.underlying9 HI0.out HZ0.out HZ1.out HZ2.out _ l.length (u8s l) (by rfl) HW.out.o s (by rfl) ?c4 ?c5 ?c6 ?c7)
  case c4 => have := HL.out; unfold maxLen; omega
  case c5 => have := HL.out; omega
  case c6 => exact hB
  case c7 =>
    intro v' w1 hown hgr hblk
    rw [u8s_str, ← HSS.out] at hown
    have HO := Lib.hid hown
    have HG := Lib.hid hgr
    have hb1 := at_grown HW.out.o hgr HW.out.bk (by decide)
    have HB1 := Lib.hid hb1
    obtain ⟨A2, cp2, rfl, _⟩ := own_slice hown
    clear hown hgr hblk hb1 c0
    go_wp2_with (first
      | ((with_reducible refine store_in rfl 59 _ _ rfl b 0 212 _ #[.slice A2 (l.length + s.data.toList.length) cp2] (.slice A2 (l.length + s.data.toList.length) cp2) info59 HB1.out rfl ?_ ?_ ?_ ?_ ?_); (· rfl); (· rfl); (· simp); (· rfl); intro w2 hw2 hb2 ho2; clear hw2))
    have HP := Lib.hid (HW.out.put HO.out HG.out hb2 ho2)
    clear hb2 ho2
    go_end0
    exact ⟨rfl, ⟨_, HP.out.1⟩, HP.out.2⟩
set_option maxHeartbeats 4000000 in
theorem wlen_any {w : World} {B b : Nat} {v : Value} {l : Top.Bytes} (h : WrAt w B b v l) : Calls Tryz.prog 91 #[.pointer (some ⟨b, 0, none⟩)] w fun e w' => e = .returned (.int .i64 l.length) ∧ w' = w := by
  have c0 := cell_block h.bk 0
  simp at c0
  obtain ⟨A2, cp2, rfl, _⟩ := own_slice h.o
  clear h
  go_enter Tryz.func91, Tryz.ntmps91
  go_wp2
  go_ret
  exact ⟨rfl, rfl⟩
set_option maxHeartbeats 4000000 in
theorem wstr_any {w : World} {B b : Nat} {v : Value} {l : Top.Bytes} (h : WrAt w B b v l) : Calls Tryz.prog 98 #[.pointer (some ⟨b, 0, none⟩)] w fun e w' => e = .returned (.string ⟨l.toArray⟩) ∧ w' = w := by
  have c0 := cell_block h.bk 0
  simp at c0
  have hc2 := conv_row (P := Tryz.prog) w 59 9 5 Tryz.underlying59 Tryz.underlying5 Tryz.underlying9 B l.length v l rfl h.o
  clear h
  go_enter Tryz.func98, Tryz.ntmps98
  go_wp2
  go_ret
  exact ⟨rfl, rfl⟩
end Go.Proofs.YtnhmdinpfcoebaaGreatDoor
end
