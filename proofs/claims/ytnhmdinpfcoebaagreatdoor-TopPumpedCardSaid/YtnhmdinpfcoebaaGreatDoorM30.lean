/- Texts of the proof, merged: KRec, Live. -/
import Derived.Test.YtnhmdinpfcoebaaGreatDoorM29
/-! === KRec -/
section
/- record: the walk of one task's run. -/
namespace Go.Proofs.YtnhmdinpfcoebaaGreatDoor
open Go.Proofs.YtnhmdinpfcoebaaGreatDoor.Qu
open Go.RowKit
set_option linter.unusedVariables false
set_option linter.unusedSimpArgs false
set_option maxRecDepth 100000

open Go.Lib
attribute [local simp] RelKnown Is
attribute [local irreducible] kCells Rg.RingAt tab logE
set_option maxHeartbeats 8000000 in
theorem record1 (w : World) (tv lv sv qv mv : Value) (hC : Sy.ConfV w tv lv sv qv mv X1) (hTQ : Qu.TabAt w) :
    Calls Tryz.prog 17 #[.agg (Sy.cfC tv lv sv qv mv X1), .agg #[.slice none 0 0, .slice none 0 0, .int .i64 2], .agg (planC 120)] w fun r w' => r = .returned (.tuple #[.string ⟨logE.toArray⟩, .int .i64 1, .int .u64 0, .bool true]) ∧ Grow w w' := by
  have HC := Lib.hid hC
  have HI7 := Lib.hid info77s
  have HTQ := Lib.hid hTQ
  clear hC hTQ
  go_enter Tryz.func17, Tryz.ntmps17
  go_upto_region 1 with (fail)
  have HG2 := Lib.hid (((Grow.alloc w (.cells (Sy.cfC tv lv sv qv mv X1) 71)).trans (Grow.alloc _ (.cells #[.slice none 0 0, .slice none 0 0, .int .i64 2] 77))).trans (Grow.alloc _ (.cells (planC 120) 80)))
  obtain ⟨w2, hw2⟩ : ∃ w2, w2 = ((w.alloc (.cells (Sy.cfC tv lv sv qv mv X1) 71)).alloc (.cells #[.slice none 0 0, .slice none 0 0, .int .i64 2] 77)).alloc (.cells (planC 120) 80) := ⟨_, rfl⟩
  have HX2 := Lib.hid (show w2.heap[w.heap.size]? = some (.cells (Sy.cfC tv lv sv qv mv X1) 71 (0, 0)) by rw [hw2]; exact (Grow.alloc _ _).at ((Grow.alloc _ _).at (heapAt_alloc_new w _)))
  have HY2 := Lib.hid (show w2.heap[w.heap.size + 1]? = some (.cells #[.slice none 0 0, .slice none 0 0, .int .i64 2] 77 (0, 0)) by
    rw [hw2]
    have h := heapAt_alloc_new (w.alloc (.cells (Sy.cfC tv lv sv qv mv X1) 71)) (.cells #[.slice none 0 0, .slice none 0 0, .int .i64 2] 77)
    rw [show (w.alloc (.cells (Sy.cfC tv lv sv qv mv X1) 71)).heap.size = w.heap.size + 1 from Array.size_push _] at h
    exact (Grow.alloc _ _).at h)
  have HZ2 := Lib.hid (show w2.heap[w.heap.size + 1 + 1]? = some (.cells (planC 120) 80 (0, 0)) by
    rw [hw2]
    have h := heapAt_alloc_new ((w.alloc (.cells (Sy.cfC tv lv sv qv mv X1) 71)).alloc (.cells #[.slice none 0 0, .slice none 0 0, .int .i64 2] 77)) (.cells (planC 120) 80)
    rwa [show ((w.alloc (.cells (Sy.cfC tv lv sv qv mv X1) 71)).alloc (.cells #[.slice none 0 0, .slice none 0 0, .int .i64 2] 77)).heap.size = w.heap.size + 1 + 1 from (Array.size_push _).trans (congrArg (· + 1) (Array.size_push _))] at h)
  rw [← hw2] at HG2 ⊢
  clear hw2
  have HWN := Lib.hid (wnew_w w2 tv lv sv qv mv (HC.out.grow HG2.out))
  have HI80 := Lib.hid (info80 120)
  go_wp2_with (first
    | ((with_reducible refine wpList_load_blk rfl 71 _ rfl w.heap.size 71 (Sy.cfC tv lv sv qv mv X1) _ ?_ HX2.out Tryz.underlying71 rfl (Sy.info71s tv lv sv qv mv X1) ?_); (· rfl))
    | ((with_reducible refine wpList_load_blk rfl 77 _ rfl (w.heap.size + 1) 77 #[.slice none 0 0, .slice none 0 0, .int .i64 2] _ ?_ HY2.out Tryz.underlying77 rfl HI7.out ?_); (· rfl)))
  refine HWN.out.mono ?_
  rintro _ w3 ⟨B, g, b, tb, nb, kb, cb, xb, s, mv2, rfl, hwa, hB, hBg, hf, hg⟩
  have HWA := Lib.hid hwa
  have HBB := Lib.hid (Nat.le_trans HG2.out.size hB)
  have HBG := Lib.hid hBg
  have HF3 := Lib.hid hf
  have HG3 := Lib.hid (HG2.out.trans hg)
  have HY3 := Lib.hid (hg.at HY2.out)
  have HZ3 := Lib.hid (hg.at HZ2.out)
  have z1 := cell_block HZ3.out 1
  simp at z1
  clear hwa hB hBg hf hg HWN HX2 HY2 HZ2 HG2
  go_upto_region 2 with (fail)
  have z0 := cell_block HZ3.out 0
  have z2 := cell_block HZ3.out 2
  have z3 := cell_block HZ3.out 3
  have z4 := cell_block HZ3.out 4
  simp at z0 z2 z3 z4
  have HPO := Lib.hid (show Calls Tryz.prog 35 #[.agg #[.int .i64 120, .int .i64 1048576, .bool false, .slice none 0 0, .slice none 0 0]] w3.drew fun r w' => r = .returned (.int .i64 0) ∧ Grow w3.drew w' from policy_w w3.drew 120)
  go_cut [12, 13] from 29 to 37 (fun v12 v13 wx => ∃ r rg, v12 = .pointer (some ⟨r, 0, none⟩) ∧ v13 = .int .i64 0 ∧ Rg.RingAt wx w.heap.size r rg 1048576 0 Rg.s0 ∧ Grow w3 wx)
  case first =>
    go_region_with (first
      | (go_at_call 35; refine HPO.out.mono ?_; rintro _ w4 ⟨rfl, hg⟩; have HG4 := Lib.hid (Grow.trans (show Grow w3 w3.drew from Grow.drewN w3 1) hg); have z1 := cell_below HG4.out (Nat.le_refl _) z1; clear hg)
      | (go_at_call 5; refine (Rg.new_ok _ w.heap.size 1048576 0 (by decide) (by decide) (.inl rfl) (Nat.le_trans HG3.out.size HG4.out.size)).mono ?_; rintro _ w5 ⟨r, rg, rfl, hr, hg⟩; have HRG := Lib.hid hr; have HG5 := Lib.hid (Grow.trans HG4.out hg); clear hr hg))
    all_goals
      go_wp2_with fail
      go_meet
      exact ⟨_, _, rfl, rfl, HRG.out, HG5.out⟩
  case rest =>
    obtain ⟨r, rg, rfl, rfl, hr, hg⟩ := hcut
    have HRG := Lib.hid hr
    have HGC := Lib.hid hg
    have HZC := Lib.hid (hg.at HZ3.out)
    clear hr hg z0 z1 z2 z3 z4 HPO
    have z0 := cell_block HZC.out 0
    simp at z0
    go_upto_region 3 with (fail)
    obtain ⟨Bx, hBx⟩ : ∃ Bx, Bx = wc.heap.size := ⟨_, rfl⟩
    have HSZ := Lib.hid (show w.heap.size ≤ Bx by rw [hBx]; exact Nat.le_trans HG3.out.size HGC.out.size)
    have HBX := Lib.hid (show Bx ≤ wc.heap.size by rw [hBx]; exact Nat.le_refl _)
    clear hBx
    go_cut [14, 15] from 37 to 45 (fun v14 v15 wx => ∃ x ct, v14 = .pointer (some ⟨x, 0, none⟩) ∧ v15 = .int .i64 0 ∧ RS wx Bx x ct r 0 (.slice none 0 0) ∧ Go.Proofs.YtnhmdinpfcoebaaGreatDoor.TabAt wx ct ∧ Grow wc wx ∧ Bx ≤ x)
    case first =>
      go_region_with (first
        | (go_at_call 8; refine (make_ex _).mono ?_; rintro _ w6 ⟨ct, rfl, hT, hg⟩; have HT6 := Lib.hid hT; have HG6 := Lib.hid (Grow.trans (show Grow wc wc.drew from Grow.drewN wc 1) hg); have z0 := cell_below HG6.out (Nat.le_refl _) z0; clear hT hg)
        | (go_at_call 36; refine (rnew_ex _ ct r Bx (Nat.le_trans HBX.out HG6.out.size)).mono ?_; rintro _ w7 ⟨x, rfl, hrs, hg, hx⟩; have HRS := Lib.hid hrs; have HT7 := Lib.hid (show Go.Proofs.YtnhmdinpfcoebaaGreatDoor.TabAt w7 ct from hg.at HT6.out); have HG7 := Lib.hid (Grow.trans HG6.out hg); have HX7 := Lib.hid hx; clear hrs hg hx))
      all_goals
        go_wp2_with fail
        go_meet
        exact ⟨_, _, rfl, rfl, HRS.out, HT7.out, HG7.out, HX7.out⟩
    case rest =>
      obtain ⟨x, ct, rfl, rfl, hrs, hT, hg, hx⟩ := hcut
      have HRS := Lib.hid hrs
      have HXB := Lib.hid hx
      have HTS := Lib.hid (show TS 1 w wc B g b tb nb kb cb xb s mv2 r rg ct (w.heap.size + 1 + 1) (w.heap.size + 1) from
        ⟨(hg.at (HGC.out.at HWA.out)), (by unfold Kst; rw [if_pos rfl]; exact HF3.out.grow (HGC.out.trans hg)), HRG.out.grow hg, hT, hg.at HZC.out, hg.at (HGC.out.at HY3.out),
         fun j hj => (Below.cell (p := ⟨0, j, none⟩) ((HG3.out.trans HGC.out).trans hg) (by have := cell_lt (HTQ.out 0 (by decide)); exact this)).trans (HTQ.out j hj), (HG3.out.trans HGC.out).trans hg, HBB.out, HBG.out, Nat.le_trans HF3.out.k.b0 (HGC.out.trans hg).size, cell_lt (HTQ.out 0 (by decide))⟩)
      have HWB := Lib.hid (Nat.le_trans HBX.out hg.size)
      clear hrs hT hg hx z0 HRG HGC HZC HWA HBB HBG HF3 HG3 HY3 HZ3 HC HI7 HI80 HTQ HBX
      go_wp2_with fail
      go_loopw [6, 16] (fun lg i wr => lg = .string ⟨#[]⟩ ∧ ∃ (q : Nat) (sx : KS) (op : Value), 1 ≤ q ∧ q ≤ 3 ∧ i = .int .i64 q ∧ TS q w wr B g b tb nb kb cb xb sx mv2 r rg ct (w.heap.size + 1 + 1) (w.heap.size + 1) ∧ RS wr Bx x ct r (preQ q) op ∧ Bx ≤ wr.heap.size) (fun _ i _ => 3 - (RowKit.intOf i).toNat)
      case atStart => exact ⟨rfl, 1, s, _, by decide, by decide, rfl, HTS.out, HRS.out, HWB.out⟩
      case round =>
        clear HTS HRS HWB
        obtain ⟨rfl, q, sx, op, hq1, hq3, rfl, hts, hrs, hbx⟩ := hrel
        have HQ1 := Lib.hid hq1; clear hq1
        have HTS := Lib.hid hts; clear hts
        have HRS := Lib.hid hrs; clear hrs
        have HBW := Lib.hid hbx; clear hbx
        have c2 := cell_block HTS.out.sc 2
        simp at c2
        by_cases hlt : q ≤ 2
        · have hlti : (q : Int) ≤ 2 := by omega
          have HQ := Lib.hid (show q = 1 ∨ q = 2 by have := HQ1.out; omega)
          have HNX := Lib.hid (HTS.out.next HQ.out)
          go_wp2_with fail
          refine HNX.out.mono ?_
          rintro _ w5 ⟨v, s', rfl, ho, ht, hk⟩
          clear c2 HNX
          have HOX := Lib.hid (show ∀ k, v.ownBlock = some k → k ≠ x ∧ op.ownBlock ≠ some k from fun k hk => ⟨fun e => by have := (ho.lt k hk).1; have := heapAt_lt HRS.out.bk; omega, fun e => by have := (HRS.out.o.lt k e).2; have := (ho.lt k hk).1; omega⟩)
          obtain ⟨A, cap, rfl, he, hblk⟩ := own_evs ho
          have HE := Lib.hid he
          have HBK := Lib.hid hblk
          have HT5 := Lib.hid ht
          have HR5 := Lib.hid (HRS.out.kp hk (.inl ⟨_, _, _, HRS.out.bk, by decide⟩) (fun k e => by obtain ⟨cur, hc⟩ := own_blk HRS.out.o e; exact .inl ⟨_, _, _, hc, by decide⟩))
          have HB5 := Lib.hid (Nat.le_trans HBW.out hk.size)
          clear ho ht hk he hblk HTS HRS HBW
          obtain ⟨n, hn⟩ : ∃ n, n = (evQ q).length := ⟨_, rfl⟩
          rw [← hn] at HE ⊢
          have HN := Lib.hid hn; clear hn
          have HN3 := Lib.hid (show n ≤ 3 by rw [HN.out]; exact evQ_len HQ.out)
          have n3 : (n : Int) ≤ 3 := by have := HN3.out; omega
          go_wp2_with fail
          go_loopw [6, 64] (fun lg i wr => lg = .string ⟨#[]⟩ ∧ ∃ (k : Nat) (op' : Value), k ≤ n ∧ i = .int .i64 k ∧ RS wr Bx x ct r (preQ q + k) op' ∧ Kp (fun j => j ≠ x ∧ op.ownBlock ≠ some j) w5 wr ∧ ∀ j, j < w5.heap.size → op'.ownBlock = some j → op.ownBlock = some j) (fun _ i _ => n - (RowKit.intOf i).toNat)
          case atStart => exact ⟨rfl, 0, op, Nat.zero_le _, rfl, HR5.out, Kp.refl _ _, fun _ _ h => h⟩
          case round =>
            obtain ⟨rfl, k, op', hk, rfl, hrs, hkp, hob⟩ := hrel
            have HRS := Lib.hid hrs; clear hrs
            have HKP := Lib.hid hkp; clear hkp
            have HOB := Lib.hid hob; clear hob
            by_cases hlt : k < n
            · have hltk : (k : Int) < n := by omega
              have k0 : (0 : Int) ≤ (k : Int) := by omega
              have HLE := Lib.hid (show k < (evQ q).length by rw [← HN.out]; exact hlt)
              have he : EvRd wr A n fun j => (evQ q).getD j default := RowAt.kp HE.out HKP.out fun a hA => HOX.out _ (HBK.out a hA)
              obtain ⟨a, hAa, p0, p1, p2, p3, p4, p5⟩ := EvRd.at he k hlt
              rw [evQ_at HQ.out HLE.out] at p0 p1 p2 p3 p4 p5
              subst hAa
              have HX := Lib.hid (heapAt_alloc_new wr (.cells (evC (fE (preQ q + k))) 98))
              have HG := Lib.hid (Grow.alloc wr (.cells (evC (fE (preQ q + k))) 98))
              clear he
              go_upto_region 12 with (fail)
              clear p0 p1 p2 p3 p4 p5
              generalize wr.alloc (.cells (evC (fE (preQ q + k))) 98) = w6 at HX HG ⊢
              have d0 := cell_block HX.out 0
              have d1 := cell_block HX.out 1
              have d2 := cell_block HX.out 2
              have d3 := cell_block HX.out 3
              have d4 := cell_block HX.out 4
              have d5 := cell_block HX.out 5
              simp at d0 d1 d2 d3 d4 d5
              have hgb : wr.heap.size ≠ x := by have := heapAt_lt HRS.out.bk; omega
              have HXN := Lib.hid hgb; clear hgb
              have HR6 := Lib.hid (show RS w6 Bx x ct r (preQ q + k) op' from HRS.out.kp (Kp.of_grow (P := fun _ => True) HG.out) trivial (fun _ _ => trivial))
              have HB6 := Lib.hid (show Bx ≤ w6.heap.size from Nat.le_trans HB5.out (Nat.le_trans HKP.out.size HG.out.size))
              have HK6 := Lib.hid (show Kp (fun j => j ≠ x ∧ op.ownBlock ≠ some j) w5 w6 from HKP.out.trans (Kp.of_grow HG.out))
              have HPU := Lib.hid (rput_E HR6.out HB6.out (by have := preQ_lt HQ.out HLE.out; omega))
              have HZ6 := Lib.hid (show w5.heap.size ≤ w6.heap.size from HK6.out.size)
              clear HRS HKP HG
              generalize wr.heap.size = gb at HX HXN d0 d1 d2 d3 d4 d5 ⊢
              go_wp2_with fail
              refine HPU.out.mono ?_
              rintro _ w7 ⟨rfl, op2, hrs, hkp, hob⟩
              have HR7 := Lib.hid hrs
              have HK7 := Lib.hid (show Kp (fun j => j ≠ x ∧ op.ownBlock ≠ some j) w5 w7 from HK6.out.then hkp fun j hj hP => ⟨hP.1, fun e => hP.2 (HOB.out j hj e)⟩)
              have HO7 := Lib.hid (show ∀ j, j < w5.heap.size → op2.ownBlock = some j → op.ownBlock = some j from fun j hj e => HOB.out j hj (hob j (Nat.lt_of_lt_of_le hj HZ6.out) e))
              clear hrs hkp hob d0 d1 d2 d3 d4 d5
              go_wp2_with fail
              go_roundw
              case rel => exact ⟨rfl, k + 1, op2, HLE.out |> fun h => (by have := HN.out; omega), by go_num, HR7.out, HK7.out, HO7.out⟩
              case measure => simp [RowKit.intOf]; omega
            · have hltk : ¬ (k : Int) < n := by omega
              obtain rfl : k = n := by omega
              have HT6 := Lib.hid (HT5.out.kp HKP.out (fun j cs t fr hj h1 h2 => ⟨ty_ne2 hj HR5.out.bk h2, fun e => by obtain ⟨cur, hc⟩ := own_blk HR5.out.o e; exact ty_ne2 hj hc h1 rfl⟩) (fun j hj => ⟨by have := HXB.out; have := HSZ.out; omega, fun e => by have := (HR5.out.o.lt j e).1; have := HSZ.out; omega⟩))
              have z3 := cell_block HT6.out.pl 3
              simp at z3
              have HB6 := Lib.hid (show Bx ≤ wr.heap.size from Nat.le_trans HB5.out HKP.out.size)
              go_wp2_with fail
              go_loopw [6, 76] (fun lg i wr2 => lg = .string ⟨#[]⟩ ∧ i = .int .i64 0 ∧ wr2 = wr) (fun _ _ _ => 0)
              case atStart => exact ⟨rfl, rfl, rfl⟩
              case round =>
                obtain ⟨rfl, rfl, hw⟩ := hrel
                have hw := hw.symm
                subst hw
                go_wp2_with fail
                go_roundw
                case rel => exact ⟨rfl, q + 1, s', op', by omega, by omega, by go_num, HT6.out, (by rw [← preQ_next HQ.out, ← HN.out]; exact HRS.out), HB6.out⟩
                case measure => simp [RowKit.intOf]; omega
        · obtain rfl : q = 3 := by omega
          have hk3 : Third B wr b tb nb kb cb xb sx mv2 := by have := HTS.out.ks; unfold Kst at this; rwa [if_neg (by decide), if_neg (by decide)] at this
          obtain ⟨tv2, qq, hK, _, _⟩ := hk3.k.k
          have hst := wstamp_w wr g b _ 2 _ HTS.out.wt hK
          simp only [hk3.y, hk3.c] at hst
          have HST := Lib.hid hst
          have HR4 := Lib.hid (show RS wr Bx x ct r 4 op from HRS.out)
          clear hst hk3 hK HRS
          go_wp2_with fail
          refine HST.out.mono ?_
          rintro _ w5 ⟨rfl, hg⟩
          have HT5 := Lib.hid (HTS.out.grow hg)
          have HR5 := Lib.hid (HR4.out.kp (Kp.of_grow (P := fun _ => True) hg) trivial (fun _ _ => trivial))
          have HB5 := Lib.hid (Nat.le_trans HBW.out hg.size)
          clear hg HTS HR4 HBW c2 HST
          have HNX := Lib.hid (ring_ne HT5.out.rg HR5.out.bk)
          have HCL := Lib.hid (rclose_E HR5.out HT5.out.tt HT5.out.rg HB5.out HSZ.out (Nat.le_trans HSZ.out HXB.out) HNX.out)
          go_wp2_with fail
          refine HCL.out.mono ?_
          rintro _ w6 ⟨rfl, hr, hrg, hb⟩
          have HR6 := Lib.hid hr
          have HG6 := Lib.hid hrg
          have HB6 := Lib.hid (Below.trans HT5.out.gr hb)
          clear hr hrg hb HCL
          have HUS := Lib.hid (Rg.used_ring HG6.out 83 (by rw [ring_used, logE_len]))
          go_wp2_with fail
          refine HUS.out.mono ?_
          rintro _ w7 ⟨rfl, hw⟩
          have hw := hw.symm
          subst hw
          obtain ⟨lg, hlg⟩ : ∃ lg : ByteArray, lg = ⟨logE.toArray⟩ := ⟨_, rfl⟩
          have hls : lg.size = 83 := by rw [hlg]; show logE.toArray.size = 83; rw [List.size_toArray]; exact logE_len
          have HLG := Lib.hid (show (⟨#[]⟩ : ByteArray) ++ lg = ⟨logE.toArray⟩ by rw [hlg]; exact ByteArray.mk_append_mk [] logE)
          have HDR := Lib.hid (drain_E HG6.out)
          rw [← hlg] at HDR
          have hl1 : lg.size ≤ 100 := by omega
          have hl2 : (lg.size : Int) ≤ 100 := by omega
          have hl3 : ¬ lg.size > 9223372036854775807 := by omega
          clear hlg hls
          go_wp2_with fail
          refine HDR.out.mono ?_
          rintro _ w7 ⟨rfl, hrg, hf⟩
          have HG7 := Lib.hid hrg
          have HB7 := Lib.hid (Below.trans HB6.out hf.1)
          have HR7 := Lib.hid (show RecAt w7 Bx x ct r 120 (.slice none 0 0) [] 0 evZ 1 true from ⟨hf.2 x _ HR6.out.bk HNX.out (by intro cs f e; injection e with _ e _; cases e), World.ownsRow_nil _ _ _ _⟩)
          clear hrg hf HDR HUS
          go_wp2_with fail
          refine (rframes_w _ _ _ _ _ _ _ _ _ _ _ _ HR7.out).mono ?_
          rintro _ w8 ⟨rfl, hw⟩
          have hw := hw.symm
          subst hw
          go_wp2_with fail
          refine (Rg.lost_ring HG7.out 0 rfl).mono ?_
          rintro _ w8 ⟨rfl, hw⟩
          have hw := hw.symm
          subst hw
          go_wp2
          rw [HLG.out]
          refine bodyPost_ret (v := .tuple #[.string ⟨logE.toArray⟩, .int .i64 1, .int .u64 0, .bool true]) (by simp [results, Tryz.results17, go_sem]) rfl ⟨rfl, HB7.out⟩
end Go.Proofs.YtnhmdinpfcoebaaGreatDoor
end

/-! === Live -/
section
/- live: the fixed run is recorded and decoded as the document fixes. -/
namespace Go.Proofs.YtnhmdinpfcoebaaGreatDoor
open Go.Proofs.YtnhmdinpfcoebaaGreatDoor.Qu
open Go.RowKit
set_option linter.unusedVariables false
set_option linter.unusedSimpArgs false
set_option maxRecDepth 100000

open Go.Lib
attribute [local simp] RelKnown Is
theorem fed_E : ((fed logE).out ++ (closed logE).out).map (fun it => it.es.length) = [5] := by decide +kernel
theorem row_one {w : World} {g t : Nat} {cs : List Value} {fr : Nat × Nat} (h : w.heap[g]? = some (.cells cs.toArray t fr)) (f : Nat → List Value) (hf : f 0 = cs) (s : Nat) : RowAt w (some ⟨g, 0, none⟩) 1 s f := fun _ => ⟨⟨g, 0, none⟩, rfl, fun j hj r u hu => by
  obtain rfl : j = 0 := by omega
  rw [hf] at hu
  rw [Nat.zero_mul, add2, cell_block h, Nat.zero_add]
  simpa using hu⟩
theorem its_one {w : World} {base : Nat} {v : Value} {its : List Top.It} (h : ItsAt w base v its) (hm : its.map (fun it => it.es.length) = [5]) : ∃ g cap A c, v = .slice (some ⟨g, 0, none⟩) 1 cap ∧ w.cell? ⟨g, 3, none⟩ = some (.slice A 5 c) := by
  obtain ⟨L, h1, h2, h3⟩ := h
  rw [← h1] at hm
  obtain ⟨p, rfl⟩ : ∃ p, L = [p] := by
    have := congrArg List.length hm
    simp at this
    exact List.length_eq_one_iff.1 this
  simp at hm
  obtain ⟨g, cap, rest, e1, e2, e3, e4, e5⟩ := own_open h2 Nat.zero_lt_one
  have h4 := h3 p (by simp)
  unfold EvAt at h4
  obtain ⟨A, c, e6, _⟩ := own_slice h4
  rw [hm] at e6
  obtain ⟨i, pv⟩ := p
  simp only at e6
  subst e6
  refine ⟨g, cap, A, c, e1, ?_⟩
  rw [cell_block e4]
  cases i <;> rfl
attribute [local irreducible] kCells Rg.RingAt tab logE ItsAt fed Top.hunt HuP
theorem record_ex (w : World) (tv lv sv qv mv : Value) (hC : Sy.ConfV w tv lv sv qv mv X1) (hTQ : Qu.TabAt w) :
    Calls Tryz.prog 17 #[.agg (Sy.cfC tv lv sv qv mv X1), .agg #[.slice none 0 0, .slice none 0 0, .int .i64 2], .agg (planC 120)] w fun r w' => ∃ lg : ByteArray, r = .returned (.tuple #[.string lg, .int .i64 1, .int .u64 0, .bool true]) ∧ Hid (lg.data.toList = logE ∧ lg.size ≤ 1000000) ∧ Grow w w' :=
  (record1 w tv lv sv qv mv hC hTQ).mono fun e w' h => ⟨⟨logE.toArray⟩, h.1, Lib.hid ⟨List.toList_toArray .., by show logE.toArray.size ≤ 1000000; rw [List.size_toArray, logE_len]; decide⟩, h.2⟩
set_option maxHeartbeats 8000000 in
theorem live1 (w : World) (hTQ : Qu.TabAt w) : Calls Tryz.prog 6 #[] w fun e w' => e = .returned (.bool true) ∧ Grow w w' := by
  have HTQ := Lib.hid hTQ; clear hTQ
  go_enter Tryz.func6, Tryz.ntmps6
  go_upto_region 2 with (fail)
  have h1 := heapAt_alloc_new w (.cells #[.int .i64 37, .int .i64 0, .int .i64 0, .int .i64 0, .int .i64 0, .int .u32 0] 64)
  have g1 := Grow.alloc w (.cells #[.int .i64 37, .int .i64 0, .int .i64 0, .int .i64 0, .int .i64 0, .int .u32 0] 64)
  have z1 : (w.alloc (.cells #[.int .i64 37, .int .i64 0, .int .i64 0, .int .i64 0, .int .i64 0, .int .u32 0] 64)).heap.size = w.heap.size + 1 := Array.size_push _
  generalize w.alloc (.cells #[.int .i64 37, .int .i64 0, .int .i64 0, .int .i64 0, .int .i64 0, .int .u32 0] 64) = w1 at h1 g1 z1 ⊢
  have h2 := heapAt_alloc_new w1 (.cells #[.int .i64 0, .int .i64 1, .int .i64 0, .int .i64 0, .int .i64 0, .slice (some ⟨w.heap.size, 0, none⟩) 1 1] 67)
  have g2 := Grow.alloc w1 (.cells #[.int .i64 0, .int .i64 1, .int .i64 0, .int .i64 0, .int .i64 0, .slice (some ⟨w.heap.size, 0, none⟩) 1 1] 67)
  have z2 : (w1.alloc (.cells #[.int .i64 0, .int .i64 1, .int .i64 0, .int .i64 0, .int .i64 0, .slice (some ⟨w.heap.size, 0, none⟩) 1 1] 67)).heap.size = w1.heap.size + 1 := Array.size_push _
  generalize w1.alloc (.cells #[.int .i64 0, .int .i64 1, .int .i64 0, .int .i64 0, .int .i64 0, .slice (some ⟨w.heap.size, 0, none⟩) 1 1] 67) = w2 at h2 g2 z2 ⊢
  rw [z1] at h2 z2
  obtain ⟨tv, htv⟩ : ∃ tv : Value, tv = .slice (some ⟨w.heap.size + 1, 0, none⟩) 1 1 := ⟨_, rfl⟩
  have h3 := heapAt_alloc_new w2 (.cells (Sy.cfC tv (.slice none 0 0) (.slice none 0 0) (.slice none 0 0) (.slice none 0 0) X1) 71)
  have g3 := Grow.alloc w2 (.cells (Sy.cfC tv (.slice none 0 0) (.slice none 0 0) (.slice none 0 0) (.slice none 0 0) X1) 71)
  rw [z2] at h3
  have hC : Sy.ConfV w2 tv (.slice none 0 0) (.slice none 0 0) (.slice none 0 0) (.slice none 0 0) X1 := by
    refine ⟨⟨_, 1, fun _ => .slice (some ⟨w.heap.size, 0, none⟩) 1 1, htv, Nat.le_refl _, row_one h2 _ rfl 6, fun j hj => ⟨_, 1, rfl, Nat.le_refl _, row_one (g2.at h1) _ rfl 6⟩⟩, ⟨none, 0, fun _ => .slice none 0 0, rfl, Nat.le_refl _, fun h => absurd h (by decide), fun j hj => absurd hj (by show ¬ j < 0; omega)⟩, ⟨none, 0, rfl, Nat.le_refl _, fun h => absurd h (by decide)⟩, ⟨none, 0, rfl, Nat.le_refl _, fun h => absurd h (by decide)⟩, ⟨none, 0, rfl, Nat.le_refl _, fun h => absurd h (by decide)⟩⟩
  have hC3 := hC.grow g3
  have HGW := Lib.hid ((g1.trans g2).trans g3)
  have HTV := Lib.hid htv
  rw [← htv]
  clear htv hC g1 g2 h1 h2 z1 z2
  change Code.wp _ _ _ _ (w2.alloc (.cells (Sy.cfC tv (.slice none 0 0) (.slice none 0 0) (.slice none 0 0) (.slice none 0 0) X1) 71))
  generalize w2.alloc (.cells (Sy.cfC tv (.slice none 0 0) (.slice none 0 0) (.slice none 0 0) (.slice none 0 0) X1) 71) = w3 at h3 g3 hC3 HGW ⊢
  clear g3
  have gd : Grow w3 w3.drew := Grow.drewN w3 1
  have HX := Lib.hid (gd.at h3)
  have HC := Lib.hid (hC3.grow gd)
  have HG := Lib.hid (HGW.out.trans gd)
  clear h3 hC3 gd
  have HI77 := Lib.hid info77s
  have HB77 := Lib.hid (show Tryz.prog.built 77 [(2, .int .i64 2)] = some #[.slice none 0 0, .slice none 0 0, .int .i64 2] by kernel_rfl)
  have x0 := cell_block HX.out 0
  have x1 := cell_block HX.out 1
  have x2 := cell_block HX.out 2
  have x3 := cell_block HX.out 3
  have x4 := cell_block HX.out 4
  have x5 := cell_block HX.out 5
  have x6 := cell_block HX.out 6
  have x7 := cell_block HX.out 7
  have x8 := cell_block HX.out 8
  have x9 := cell_block HX.out 9
  have x10 := cell_block HX.out 10
  have x11 := cell_block HX.out 11
  simp [X1] at x0 x1 x2 x3 x4 x5 x6 x7 x8 x9 x10 x11
  have htv := HTV.out
  clear HTV
  subst htv
  go_cut [2, 3, 4, 5] from 13 to 22 (fun v2 v3 v4 v5 wx => ∃ lg : ByteArray, v2 = .string lg ∧ v3 = .int .i64 1 ∧ v4 = .int .u64 0 ∧ v5 = .bool true ∧ Hid (lg.data.toList = logE ∧ lg.size ≤ 1000000) ∧ Grow w wx)
  case first =>
    go_region_with (first
      | (go_at_call 18; refine (wide_w _ 120).mono ?_; rintro _ w5 ⟨rfl, hg⟩; have HX := Lib.hid (hg.at HX.out); have HC := Lib.hid (HC.out.grow hg); have HG := Lib.hid (HG.out.trans hg); have x0 := cell_below hg (Nat.le_refl _) x0; have x1 := cell_below hg (Nat.le_refl _) x1; have x2 := cell_below hg (Nat.le_refl _) x2; have x3 := cell_below hg (Nat.le_refl _) x3; have x4 := cell_below hg (Nat.le_refl _) x4; have x5 := cell_below hg (Nat.le_refl _) x5; have x6 := cell_below hg (Nat.le_refl _) x6; have x7 := cell_below hg (Nat.le_refl _) x7; have x8 := cell_below hg (Nat.le_refl _) x8; have x9 := cell_below hg (Nat.le_refl _) x9; have x10 := cell_below hg (Nat.le_refl _) x10; have x11 := cell_below hg (Nat.le_refl _) x11; clear hg)
      | (go_at_call 17; refine (record_ex _ _ _ _ _ _ HC.out (fun j hj => (Below.cell (p := ⟨0, j, none⟩) HG.out (by have := cell_lt (HTQ.out 0 (by decide)); exact this)).trans (HTQ.out j hj))).mono ?_; rintro _ w6 ⟨lg, rfl, HLG, hg⟩; have HG6 := Lib.hid (HG.out.trans hg); clear hg))
    all_goals
      simp only [Act.put, List.getElem_toArray, List.getElem_cons_succ, List.getElem_cons_zero, List.setIfInBounds_toArray, List.set_cons_zero, List.set_cons_succ]
      go_wp2_with fail
      go_meet
      exact ⟨lg, rfl, rfl, rfl, rfl, HLG, HG6.out⟩
  case rest =>
    obtain ⟨lg, rfl, rfl, rfl, rfl, HLG, hg⟩ := hcut
    have HGC := Lib.hid hg
    clear hg x0 x1 x2 x3 x4 x5 x6 x7 x8 x9 x10 x11 HX HC HG HI77 HB77 HGW
    have HL1 := Lib.hid HLG.out.1
    have HL2 := Lib.hid HLG.out.2
    clear HLG
    have HA := Lib.hid (show RowAt (wc.alloc (.cells #[.int .i64 1, .int .i64 70] 3)) (some ⟨wc.heap.size, 0, none⟩) 2 1 (fun j => [.int .i64 (if j = 0 then 1 else 70 : Int)]) from fun _ => ⟨_, rfl, fun j hj r u hu => by
      have hr : r = 0 := by have := (List.getElem?_eq_some_iff.1 hu).1; simpa using this
      subst hr
      rw [add2, cell_block (heapAt_alloc_new _ _)]
      simp at hu
      rw [← hu]
      match j, hj with
      | 0, _ => rfl
      | 1, _ => rfl⟩)
    have HGA := Lib.hid (HGC.out.trans (Grow.alloc wc (.cells #[.int .i64 1, .int .i64 70] 3)))
    have HDE := Lib.hid (decode_any _ lg _ 2 2 _ HL2.out HA.out (by decide))
    go_wp2_with fail
    refine HDE.out.mono ?_
    rintro _ w6 ⟨v, h, tb, rfl, hit, hhu, hb⟩
    have HG6 := Lib.hid (HGA.out.trans hb)
    rw [HL1.out] at hit
    obtain ⟨g, cap, A, c, rfl, hc⟩ := its_one hit fed_E
    have g0 : (0 : Int) < 1 := by decide
    clear hit hhu hb HDE HGA HA
    go_wp2
    go_ret
    exact ⟨rfl, HG6.out⟩
theorem live_ok (w0 : World) (h : Qu.TabAt w0) : LiveOk w0 := fun w hg => live1 w fun j hj => (Below.cell (p := ⟨0, j, none⟩) hg (by
  have := cell_lt (h 0 (by decide)); exact this)).trans (h j hj)
end Go.Proofs.YtnhmdinpfcoebaaGreatDoor
end
