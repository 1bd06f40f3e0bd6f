/- The walk of RingRoom. -/
import Derived.Test.YtdicgpbdfnlniaaH
namespace Go.Proofs.Ytdicgpbdfnlniaa
open Go.RowKit
set_option linter.unusedVariables false
set_option linter.unusedSimpArgs false
set_option maxRecDepth 100000
theorem putG_count (cap : Nat) (pol : Int) (t : List UInt8) : ∀ (n : Nat) (s : RG), (putG cap pol t n s).2.gone.length + (putG cap pol t n s).2.L.length ≤ s.gone.length + s.L.length + 1 ∧ s.gone.length ≤ (putG cap pol t n s).2.gone.length
  | 0, s => by simp [putG]; omega
  | n + 1, s => by
    unfold putG
    split
    · simp; omega
    · split
      · simp; omega
      · have h := putG_count cap pol t n s.lose
        have h2 : s.lose.gone.length + s.lose.L.length ≤ s.gone.length + s.L.length ∧ s.gone.length ≤ s.lose.gone.length := by
          obtain ⟨L, b, go⟩ := s
          cases b with
          | true =>
            match L with
            | [] => simp [RG.lose]
            | [f] => simp [RG.lose]
            | f :: f1 :: l => simp [RG.lose]; try omega
          | false =>
            match L with
            | [] => simp [RG.lose]
            | f :: l => simp [RG.lose]; try omega
        omega
theorem put_count (cap : Nat) (pol : Int) (t : List UInt8) (s : RG) : (put cap pol s t).2.gone.length + (put cap pol s t).2.L.length ≤ s.gone.length + s.L.length + 1 ∧ s.gone.length ≤ (put cap pol s t).2.gone.length := by
  unfold put
  split
  · exact putG_count cap pol t _ s
  · simp
theorem put_fit {cap : Nat} {pol : Int} {t : List UInt8} {s : RG} (h1 : 1 ≤ t.length) (h2 : t.length ≤ 179) (h3 : t.length ≤ cap - s.used) : put cap pol s t = (0, ⟨s.L ++ [t], s.begun, s.gone⟩) := by
  unfold put
  rw [if_pos ⟨h1, h2⟩]
  cases s.L.length with
  | zero => rfl
  | succ n => unfold putG; rw [if_pos h3]
theorem dr_count : ∀ (n : Nat) (L : List (List UInt8)) (b : Bool), (dr n L b).1.length ≤ L.length
  | _, [], _ => by simp [dr]
  | n, f :: l, b => by
    unfold dr
    split
    · simp
    · split
      · have := dr_count (n - f.length) l false
        simp; omega
      · simp
theorem drain_count (n : Nat) (s : RG) : (drain s n).gone.length + (drain s n).L.length ≤ s.gone.length + s.L.length := by have := dr_count n s.L s.begun; simp only [drain]; omega
theorem drain_gone (n : Nat) (s : RG) : (drain s n).gone.length = s.gone.length := by simp only [drain]
theorem push_used (s : RG) (t : List UInt8) : RG.used ⟨s.L ++ [t], s.begun, s.gone⟩ = s.used + t.length := by simp [RG.used, RG.bytes]
theorem RingAt.ltr {w : World} {base r g cap : Nat} {pol : Int} {s : RG} (h : RingAt w base r g cap pol s) : r < w.heap.size := by
  obtain ⟨_, _, _, _, _, _, _, h, _⟩ := h
  exact heapAt_lt h.blk
theorem RingAt.ltg {w : World} {base r g cap : Nat} {pol : Int} {s : RG} (h : RingAt w base r g cap pol s) : g < w.heap.size := by
  obtain ⟨_, _, _, _, _, _, _, h, _⟩ := h
  exact heapAt_lt h.room
attribute [local irreducible] roomC ringC strOf outC RingAt put drain RG.used RG.bytes RG.sizes sumT GP
theorem room_bad (cap pol : Int) (A : Option Addr) (n scap : Nat) (w : World) (h : cap < 179 ∨ 1048576 < cap ∨ (pol ≠ 0 ∧ pol ≠ 1)) : Calls Try.prog 6 #[.int .i64 cap, .int .i64 pol, .slice A n scap] w fun e w' => e = .returned (.bool true) ∧ Below w.heap.size w w' := by
  go_enter Try.func6, Try.ntmps6
  go_wp2_with fail
  refine (new_bad w cap pol h).mono ?_
  rintro e w1 ⟨rfl, hw⟩
  subst hw
  go_wp2_with fail
  refine (awake_any _).mono ?_
  rintro e w2 ⟨rfl, hg⟩
  have HG := Lib.hid hg
  clear hg
  go_wp2_with fail
  refine (awake_any w2).mono ?_
  rintro e w4 ⟨rfl, hg⟩
  replace HG := Lib.hid (HG.out.trans hg)
  clear hg
  go_wp2
  go_ret
  exact ⟨rfl, HG.out⟩
set_option maxHeartbeats 8000000 in
theorem room_walk (cap : Nat) (pol : Int) (A : Option Addr) (n scap : Nat) (K V : Nat → Int) (T : Nat → List UInt8) (w : World) (hcap : 179 ≤ cap) (hcap2 : cap ≤ 1048576) (hpol : pol = 0 ∨ pol = 1) (hn : n ≤ scap) (hmx : scap ≤ maxLen) (hM : ScriptAt w A n K V T) : Calls Try.prog 6 #[.int .i64 cap, .int .i64 pol, .slice A n scap] w fun e w' => e = .returned (.bool true) ∧ Below w.heap.size w w' := by
  have HM := Lib.hid hM; clear hM
  go_enter Try.func6, Try.ntmps6
  go_wp2_with fail
  refine (new_ok w w.heap.size cap pol hcap hcap2 hpol (Nat.le_refl _)).mono ?_
  rintro e w1 ⟨r, g, rfl, hr, hg⟩
  have HR := Lib.hid hr
  have HG := Lib.hid hg
  clear hr hg
  go_wp2_with fail
  refine (awake_any w1).mono ?_
  rintro e w2 ⟨rfl, hg⟩
  replace HR := Lib.hid (HR.out.grow hg)
  replace HG := Lib.hid (HG.out.trans hg)
  clear hg
  go_wp2_with fail
  refine (great_any w2 A n scap K V T hn hmx (HM.out.grow HG.out)).mono ?_
  rintro e w3 hgp
  unfold GP at hgp
  obtain ⟨b, rfl, hg, hsm⟩ := hgp
  replace HR := Lib.hid (HR.out.grow hg)
  replace HG := Lib.hid (HG.out.trans hg)
  clear hg
  cases b with
  | true =>
    clear hsm
    go_wp2_with fail
    refine (awake_any w3).mono ?_
    rintro e w4 ⟨rfl, hg⟩
    replace HG := Lib.hid (HG.out.trans hg)
    clear hg
    go_wp2
    go_ret
    exact ⟨rfl, HG.out⟩
  | false =>
    have hn3 := (hsm rfl).1
    clear hsm
    go_wp2_with fail
    go_loopw [37] (fun i wr => ∃ k : Nat, k ≤ n ∧ i = .int .i64 k ∧ ∃ s, RingAt wr w.heap.size r g cap pol s ∧ Below w.heap.size w wr ∧ s.gone.length + s.L.length ≤ k) (fun i _ => n - (intOf i).toNat)
    case atStart => exact ⟨0, by omega, rfl, s0, HR.out, HG.out, by simp [s0]⟩
    case round =>
      obtain ⟨k, hk, rfl, s, hs, hbl, hcn⟩ := hrel
      have HS := Lib.hid hs
      have HB := Lib.hid hbl
      clear hs hbl
      by_cases hlt : k < n
      · obtain ⟨a, hA, hm⟩ := (HM.out.grow HB.out) (by omega)
        obtain ⟨m0, m1, m2⟩ := hm k hlt
        rw [hA]
        clear hm hA
        generalize K k = kk at *
        generalize V k = vv at *
        generalize T k = tt at *
        have k0 : (0 : Int) ≤ (k : Int) := by omega
        have kn : (k : Int) < (n : Int) := by omega
        have HGA := Lib.hid (heapAt_alloc_new wr (.cells #[.int .i64 kk, .int .i64 vv, .string ⟨tt.toArray⟩] 35))
        have HSA := Lib.hid (HS.out.grow (Grow.alloc wr (.cells #[.int .i64 kk, .int .i64 vv, .string ⟨tt.toArray⟩] 35)))
        have HBA := Lib.hid (show Below w.heap.size w (wr.alloc (.cells #[.int .i64 kk, .int .i64 vv, .string ⟨tt.toArray⟩] 35)) from HB.out.alloc HS.out.base_le _)
        have HOR := Lib.hid (show wr.heap.size ≠ r from by have := HS.out.ltr; omega)
        have HOG := Lib.hid (show wr.heap.size ≠ g from by have := HS.out.ltg; omega)
        have hroom : s.used ≤ cap := by have := HS.out; unfold RingAt at this; exact this.2.2.1.room
        obtain ⟨us, hus⟩ : ∃ q, q = s.used := ⟨_, rfl⟩
        obtain ⟨ls, hls⟩ : ∃ q, q = s.gone.length := ⟨_, rfl⟩
        obtain ⟨fr, hfr⟩ : ∃ q, q = cap - us := ⟨_, rfl⟩
        rw [← hus] at hroom
        have e1 : IntKind.i64.wrap ((cap : Int) - (us : Int)) = (fr : Int) := by rw [IntKind.wrap_i64]; omega
        have HUS := Lib.hid hus
        have HLS := Lib.hid hls
        have HFR := Lib.hid hfr
        clear hus hls hfr
        by_cases h1 : kk = 1
        · have hkk := h1
          by_cases hc1 : 1 ≤ tt.length
          · by_cases hc2 : tt.length ≤ 179
            · by_cases hc3 : tt.length ≤ fr
              · rw [hkk] at m0 HGA HSA HBA
                have q0 : (1 : Int) ≤ (tt.length : Int) := by omega
                have q1 : (tt.length : Int) ≤ 179 := by omega
                have q2 : (tt.length : Int) ≤ (fr : Int) := by omega
                have hfit := put_fit (pol := pol) (s := s) (by omega) (by omega) (show tt.length ≤ cap - s.used by rw [← HUS.out, ← HFR.out]; exact hc3)
                obtain ⟨u5, hu5⟩ : ∃ q, RG.used ⟨s.L ++ [tt], s.begun, s.gone⟩ = q := ⟨_, rfl⟩
                have hu5' : u5 = us + tt.length := by rw [← hu5, push_used, ← HUS.out]
                have e5 : IntKind.i64.wrap ((us : Int) + (tt.length : Int)) = (u5 : Int) := by rw [IntKind.wrap_i64]; omega
                have HPUT := Lib.hid fun (w4 : World) (h4 : RingAt w4 w.heap.size r g cap pol s) => put_any h4 tt (put cap pol s tt).1 (put cap pol s tt).2 rfl (by omega)
                have hcnt := put_count cap pol tt s
                rw [hfit] at HPUT hcnt
                have CNT := Lib.hid (show (RG.mk (s.L ++ [tt]) s.begun s.gone).gone.length + (RG.mk (s.L ++ [tt]) s.begun s.gone).L.length ≤ k + 1 by have h1 := hcnt.1; (try dsimp only at h1 ⊢); omega)
                have LST := Lib.hid (show ls ≤ (RG.mk (s.L ++ [tt]) s.begun s.gone).gone.length by have h1 := hcnt.2; have h2 := HLS.out; (try dsimp only at h1 h2 ⊢); omega)
                clear hcnt
                go_wp2_with fail
                refine (used_ring HSA.out us HUS.out.symm).mono ?_
                rintro e w3 ⟨rfl, hw⟩
                subst hw
                go_wp2_with fail
                refine (lost_ring HSA.out ls HLS.out.symm).mono ?_
                rintro e w3 ⟨rfl, hw⟩
                subst hw
                go_wp2_with fail
                generalize wr.alloc (.cells #[.int .i64 1, .int .i64 vv, .string ⟨tt.toArray⟩] 35) = wA at HGA HSA HBA ⊢
                refine (HPUT.out wA HSA.out).mono ?_
                rintro e w5 ⟨rfl, hr5, hf5⟩
                have hgo := hf5.2 _ _ HGA.out (fun h => by rcases h with h | h; exact HOR.out h; exact HOG.out h) (fun cs f e => by injection e with e1 e2; exact absurd e2 (by decide))
                have RW5 := Lib.hid hr5
                have BW5 := Lib.hid (show Below w.heap.size w w5 from Below.trans HBA.out hf5.1)
                clear hr5 hf5
                have o2 := cell_block hgo 2
                simp at o2
                clear hgo
                have HU5 := Lib.hid fun (n : Nat) => used_ring (RW5.out.grow (Grow.drewN w5 n)) u5 hu5
                have HL5 := Lib.hid fun (n : Nat) => lost_ring (RW5.out.grow (Grow.drewN w5 n)) ls (show s.gone.length = ls from HLS.out.symm)
                clear hu5 hfit
                go_wp2_with fail
                go_quiet ((first | (go_at_call 19; exact Calls.quiet_of_same (HL5.out _)) | (go_at_call 16; exact Calls.quiet_of_same (HU5.out _)) | fail))
                have RW9 := Lib.hid (RW5.out.grow (Grow.drewN w5 nq))
                have BW9 := Lib.hid (show Below w.heap.size w (w5.drewN nq) from below_drewN BW5.out nq)
                clear o2
                generalize w5.drewN nq = w9 at RW9 BW9 ⊢
                have WFW := Lib.hid (show WF cap (RG.mk (s.L ++ [tt]) s.begun s.gone) from by have := RW9.out; unfold RingAt at this; exact this.2.2.1)
                have huw9 := WFW.out.room
                obtain ⟨u9, hu9⟩ : ∃ q, (RG.mk (s.L ++ [tt]) s.begun s.gone).used = q := ⟨_, rfl⟩
                obtain ⟨l9, hl9⟩ : ∃ q, (RG.mk (s.L ++ [tt]) s.begun s.gone).gone.length = q := ⟨_, rfl⟩
                have g1 : ¬ (cap : Int) < (u9 : Int) := by omega
                have g2 : ¬ (u9 : Int) < 0 := by omega
                have g3 : ¬ (l9 : Int) < (ls : Int) := by
                  have h1 := LST.out
                  have h2 := hl9
                  (try dsimp only at h1 h2)
                  omega
                have HU9 := Lib.hid (used_ring RW9.out u9 hu9)
                have HL9 := Lib.hid (lost_ring RW9.out l9 hl9)
                clear hu9 hl9 huw9
                go_wp2_with fail
                refine HU9.out.mono ?_
                rintro e w9' ⟨rfl, hw⟩
                subst hw
                go_wp2_with fail
                refine HU9.out.mono ?_
                rintro e w9' ⟨rfl, hw⟩
                subst hw
                go_wp2_with fail
                refine HL9.out.mono ?_
                rintro e w9' ⟨rfl, hw⟩
                subst hw
                go_wp2_with fail
                go_roundw
                case rel => exact ⟨k + 1, by omega, by go_num, _, RW9.out, BW9.out, by have := CNT.out; omega⟩
                case measure => simp [intOf]; omega
              · rw [hkk] at m0 HGA HSA HBA
                have q0 : (1 : Int) ≤ (tt.length : Int) := by omega
                have q1 : (tt.length : Int) ≤ 179 := by omega
                have q2 : ¬ (tt.length : Int) ≤ (fr : Int) := by omega
                have HPUT := Lib.hid fun (w4 : World) (h4 : RingAt w4 w.heap.size r g cap pol s) => put_any h4 tt (put cap pol s tt).1 (put cap pol s tt).2 rfl (by omega)
                have hcnt := put_count cap pol tt s
                obtain ⟨px, s2, hps⟩ : ∃ x s2, put cap pol s tt = (x, s2) := ⟨_, _, rfl⟩
                rw [hps] at HPUT hcnt
                have CNT := Lib.hid (show s2.gone.length + s2.L.length ≤ k + 1 by have h1 := hcnt.1; (try dsimp only at h1 ⊢); omega)
                have LST := Lib.hid (show ls ≤ s2.gone.length by have h1 := hcnt.2; have h2 := HLS.out; (try dsimp only at h1 h2 ⊢); omega)
                clear hcnt
                go_wp2_with fail
                refine (used_ring HSA.out us HUS.out.symm).mono ?_
                rintro e w3 ⟨rfl, hw⟩
                subst hw
                go_wp2_with fail
                refine (lost_ring HSA.out ls HLS.out.symm).mono ?_
                rintro e w3 ⟨rfl, hw⟩
                subst hw
                go_wp2_with fail
                generalize wr.alloc (.cells #[.int .i64 1, .int .i64 vv, .string ⟨tt.toArray⟩] 35) = wA at HGA HSA HBA ⊢
                refine (HPUT.out wA HSA.out).mono ?_
                rintro e w5 ⟨rfl, hr5, hf5⟩
                have hgo := hf5.2 _ _ HGA.out (fun h => by rcases h with h | h; exact HOR.out h; exact HOG.out h) (fun cs f e => by injection e with e1 e2; exact absurd e2 (by decide))
                have RW5 := Lib.hid hr5
                have BW5 := Lib.hid (show Below w.heap.size w w5 from Below.trans HBA.out hf5.1)
                clear hr5 hf5
                have o2 := cell_block hgo 2
                simp at o2
                clear hgo
                go_wp2_with fail
                go_quiet (fail)
                have RW9 := Lib.hid (RW5.out.grow (Grow.drewN w5 nq))
                have BW9 := Lib.hid (show Below w.heap.size w (w5.drewN nq) from below_drewN BW5.out nq)
                clear o2
                generalize w5.drewN nq = w9 at RW9 BW9 ⊢
                have WFW := Lib.hid (show WF cap s2 from by have := RW9.out; unfold RingAt at this; exact this.2.2.1)
                have huw9 := WFW.out.room
                obtain ⟨u9, hu9⟩ : ∃ q, s2.used = q := ⟨_, rfl⟩
                obtain ⟨l9, hl9⟩ : ∃ q, s2.gone.length = q := ⟨_, rfl⟩
                have g1 : ¬ (cap : Int) < (u9 : Int) := by omega
                have g2 : ¬ (u9 : Int) < 0 := by omega
                have g3 : ¬ (l9 : Int) < (ls : Int) := by
                  have h1 := LST.out
                  have h2 := hl9
                  (try dsimp only at h1 h2)
                  omega
                have HU9 := Lib.hid (used_ring RW9.out u9 hu9)
                have HL9 := Lib.hid (lost_ring RW9.out l9 hl9)
                clear hu9 hl9 huw9
                go_wp2_with fail
                refine HU9.out.mono ?_
                rintro e w9' ⟨rfl, hw⟩
                subst hw
                go_wp2_with fail
                refine HU9.out.mono ?_
                rintro e w9' ⟨rfl, hw⟩
                subst hw
                go_wp2_with fail
                refine HL9.out.mono ?_
                rintro e w9' ⟨rfl, hw⟩
                subst hw
                go_wp2_with fail
                go_roundw
                case rel => exact ⟨k + 1, by omega, by go_num, _, RW9.out, BW9.out, by have := CNT.out; omega⟩
                case measure => simp [intOf]; omega
            · rw [hkk] at m0 HGA HSA HBA
              have q0 : (1 : Int) ≤ (tt.length : Int) := by omega
              have q1 : ¬ (tt.length : Int) ≤ 179 := by omega
              have d1 : decide ((tt.length : Int) ≤ 179) = false := decide_eq_false q1
              have HPUT := Lib.hid fun (w4 : World) (h4 : RingAt w4 w.heap.size r g cap pol s) => put_any h4 tt (put cap pol s tt).1 (put cap pol s tt).2 rfl (by omega)
              have hcnt := put_count cap pol tt s
              obtain ⟨px, s2, hps⟩ : ∃ x s2, put cap pol s tt = (x, s2) := ⟨_, _, rfl⟩
              rw [hps] at HPUT hcnt
              have CNT := Lib.hid (show s2.gone.length + s2.L.length ≤ k + 1 by have h1 := hcnt.1; (try dsimp only at h1 ⊢); omega)
              have LST := Lib.hid (show ls ≤ s2.gone.length by have h1 := hcnt.2; have h2 := HLS.out; (try dsimp only at h1 h2 ⊢); omega)
              clear hcnt
              go_wp2_with fail
              refine (used_ring HSA.out us HUS.out.symm).mono ?_
              rintro e w3 ⟨rfl, hw⟩
              subst hw
              go_wp2_with fail
              refine (lost_ring HSA.out ls HLS.out.symm).mono ?_
              rintro e w3 ⟨rfl, hw⟩
              subst hw
              go_wp2_with fail
              generalize wr.alloc (.cells #[.int .i64 1, .int .i64 vv, .string ⟨tt.toArray⟩] 35) = wA at HGA HSA HBA ⊢
              refine (HPUT.out wA HSA.out).mono ?_
              rintro e w5 ⟨rfl, hr5, hf5⟩
              have hgo := hf5.2 _ _ HGA.out (fun h => by rcases h with h | h; exact HOR.out h; exact HOG.out h) (fun cs f e => by injection e with e1 e2; exact absurd e2 (by decide))
              have RW5 := Lib.hid hr5
              have BW5 := Lib.hid (show Below w.heap.size w w5 from Below.trans HBA.out hf5.1)
              clear hr5 hf5
              have o2 := cell_block hgo 2
              simp at o2
              clear hgo
              go_wp2_with fail
              go_quiet (fail)
              have RW9 := Lib.hid (RW5.out.grow (Grow.drewN w5 nq))
              have BW9 := Lib.hid (show Below w.heap.size w (w5.drewN nq) from below_drewN BW5.out nq)
              clear o2
              generalize w5.drewN nq = w9 at RW9 BW9 ⊢
              have WFW := Lib.hid (show WF cap s2 from by have := RW9.out; unfold RingAt at this; exact this.2.2.1)
              have huw9 := WFW.out.room
              obtain ⟨u9, hu9⟩ : ∃ q, s2.used = q := ⟨_, rfl⟩
              obtain ⟨l9, hl9⟩ : ∃ q, s2.gone.length = q := ⟨_, rfl⟩
              have g1 : ¬ (cap : Int) < (u9 : Int) := by omega
              have g2 : ¬ (u9 : Int) < 0 := by omega
              have g3 : ¬ (l9 : Int) < (ls : Int) := by
                have h1 := LST.out
                have h2 := hl9
                (try dsimp only at h1 h2)
                omega
              have HU9 := Lib.hid (used_ring RW9.out u9 hu9)
              have HL9 := Lib.hid (lost_ring RW9.out l9 hl9)
              clear hu9 hl9 huw9
              go_wp2_with fail
              refine HU9.out.mono ?_
              rintro e w9' ⟨rfl, hw⟩
              subst hw
              go_wp2_with fail
              refine HU9.out.mono ?_
              rintro e w9' ⟨rfl, hw⟩
              subst hw
              go_wp2_with fail
              refine HL9.out.mono ?_
              rintro e w9' ⟨rfl, hw⟩
              subst hw
              go_wp2_with fail
              go_roundw
              case rel => exact ⟨k + 1, by omega, by go_num, _, RW9.out, BW9.out, by have := CNT.out; omega⟩
              case measure => simp [intOf]; omega
          · rw [hkk] at m0 HGA HSA HBA
            have q1 : ¬ (1 : Int) ≤ (tt.length : Int) := by omega
            have d1 : decide ((1 : Int) ≤ (tt.length : Int)) = false := decide_eq_false q1
            have HPUT := Lib.hid fun (w4 : World) (h4 : RingAt w4 w.heap.size r g cap pol s) => put_any h4 tt (put cap pol s tt).1 (put cap pol s tt).2 rfl (by omega)
            have hcnt := put_count cap pol tt s
            obtain ⟨px, s2, hps⟩ : ∃ x s2, put cap pol s tt = (x, s2) := ⟨_, _, rfl⟩
            rw [hps] at HPUT hcnt
            have CNT := Lib.hid (show s2.gone.length + s2.L.length ≤ k + 1 by have h1 := hcnt.1; (try dsimp only at h1 ⊢); omega)
            have LST := Lib.hid (show ls ≤ s2.gone.length by have h1 := hcnt.2; have h2 := HLS.out; (try dsimp only at h1 h2 ⊢); omega)
            clear hcnt
            go_wp2_with fail
            refine (used_ring HSA.out us HUS.out.symm).mono ?_
            rintro e w3 ⟨rfl, hw⟩
            subst hw
            go_wp2_with fail
            refine (lost_ring HSA.out ls HLS.out.symm).mono ?_
            rintro e w3 ⟨rfl, hw⟩
            subst hw
            go_wp2_with fail
            generalize wr.alloc (.cells #[.int .i64 1, .int .i64 vv, .string ⟨tt.toArray⟩] 35) = wA at HGA HSA HBA ⊢
            refine (HPUT.out wA HSA.out).mono ?_
            rintro e w5 ⟨rfl, hr5, hf5⟩
            have hgo := hf5.2 _ _ HGA.out (fun h => by rcases h with h | h; exact HOR.out h; exact HOG.out h) (fun cs f e => by injection e with e1 e2; exact absurd e2 (by decide))
            have RW5 := Lib.hid hr5
            have BW5 := Lib.hid (show Below w.heap.size w w5 from Below.trans HBA.out hf5.1)
            clear hr5 hf5
            have o2 := cell_block hgo 2
            simp at o2
            clear hgo
            go_wp2_with fail
            go_quiet (fail)
            have RW9 := Lib.hid (RW5.out.grow (Grow.drewN w5 nq))
            have BW9 := Lib.hid (show Below w.heap.size w (w5.drewN nq) from below_drewN BW5.out nq)
            clear o2
            generalize w5.drewN nq = w9 at RW9 BW9 ⊢
            have WFW := Lib.hid (show WF cap s2 from by have := RW9.out; unfold RingAt at this; exact this.2.2.1)
            have huw9 := WFW.out.room
            obtain ⟨u9, hu9⟩ : ∃ q, s2.used = q := ⟨_, rfl⟩
            obtain ⟨l9, hl9⟩ : ∃ q, s2.gone.length = q := ⟨_, rfl⟩
            have g1 : ¬ (cap : Int) < (u9 : Int) := by omega
            have g2 : ¬ (u9 : Int) < 0 := by omega
            have g3 : ¬ (l9 : Int) < (ls : Int) := by
              have h1 := LST.out
              have h2 := hl9
              (try dsimp only at h1 h2)
              omega
            have HU9 := Lib.hid (used_ring RW9.out u9 hu9)
            have HL9 := Lib.hid (lost_ring RW9.out l9 hl9)
            clear hu9 hl9 huw9
            go_wp2_with fail
            refine HU9.out.mono ?_
            rintro e w9' ⟨rfl, hw⟩
            subst hw
            go_wp2_with fail
            refine HU9.out.mono ?_
            rintro e w9' ⟨rfl, hw⟩
            subst hw
            go_wp2_with fail
            refine HL9.out.mono ?_
            rintro e w9' ⟨rfl, hw⟩
            subst hw
            go_wp2_with fail
            go_roundw
            case rel => exact ⟨k + 1, by omega, by go_num, _, RW9.out, BW9.out, by have := CNT.out; omega⟩
            case measure => simp [intOf]; omega
        by_cases h2 : kk = 2
        · have hkk := h2
          rw [hkk] at m0 HGA HSA HBA
          have CNT := Lib.hid (show (drain s (min vv.toNat s.used)).gone.length + (drain s (min vv.toNat s.used)).L.length ≤ k + 1 by have := drain_count (min vv.toNat s.used) s; omega)
          have LST := Lib.hid (show ls ≤ (drain s (min vv.toNat s.used)).gone.length by have := drain_gone (min vv.toNat s.used) s; have := HLS.out; omega)
          go_wp2_with fail
          refine (used_ring HSA.out us HUS.out.symm).mono ?_
          rintro e w3 ⟨rfl, hw⟩
          subst hw
          go_wp2_with fail
          refine (lost_ring HSA.out ls HLS.out.symm).mono ?_
          rintro e w3 ⟨rfl, hw⟩
          subst hw
          go_wp2_with fail
          generalize wr.alloc (.cells #[.int .i64 2, .int .i64 vv, .string ⟨tt.toArray⟩] 35) = wA at HGA HSA HBA ⊢
          refine (drain_any HSA.out vv (min vv.toNat s.used) _ _ rfl rfl rfl).mono ?_
          rintro e w9 ⟨rfl, hr5, hf5⟩
          have RW9 := Lib.hid hr5
          have BW9 := Lib.hid (show Below w.heap.size w w9 from Below.trans HBA.out hf5.1)
          clear hr5 hf5
          generalize drain s (min vv.toNat s.used) = s2 at *
          have WFW := Lib.hid (show WF cap s2 from by have := RW9.out; unfold RingAt at this; exact this.2.2.1)
          have huw9 := WFW.out.room
          obtain ⟨u9, hu9⟩ : ∃ q, s2.used = q := ⟨_, rfl⟩
          obtain ⟨l9, hl9⟩ : ∃ q, s2.gone.length = q := ⟨_, rfl⟩
          have g1 : ¬ (cap : Int) < (u9 : Int) := by omega
          have g2 : ¬ (u9 : Int) < 0 := by omega
          have g3 : ¬ (l9 : Int) < (ls : Int) := by
            have h1 := LST.out
            have h2 := hl9
            (try dsimp only at h1 h2)
            omega
          have HU9 := Lib.hid (used_ring RW9.out u9 hu9)
          have HL9 := Lib.hid (lost_ring RW9.out l9 hl9)
          clear hu9 hl9 huw9
          go_wp2_with fail
          refine HU9.out.mono ?_
          rintro e w9' ⟨rfl, hw⟩
          subst hw
          go_wp2_with fail
          refine HU9.out.mono ?_
          rintro e w9' ⟨rfl, hw⟩
          subst hw
          go_wp2_with fail
          refine HL9.out.mono ?_
          rintro e w9' ⟨rfl, hw⟩
          subst hw
          go_wp2_with fail
          go_roundw
          case rel => exact ⟨k + 1, by omega, by go_num, _, RW9.out, BW9.out, by have := CNT.out; omega⟩
          case measure => simp [intOf]; omega
        have b1 : (kk == 1) = false := by simpa using h1
        have b2 : (kk == 2) = false := by simpa using h2
        have CNT := Lib.hid (show s.gone.length + s.L.length ≤ k + 1 by omega)
        have LST := Lib.hid (show ls ≤ s.gone.length by have := HLS.out; omega)
        go_wp2_with fail
        refine (used_ring HSA.out us HUS.out.symm).mono ?_
        rintro e w3 ⟨rfl, hw⟩
        subst hw
        go_wp2_with fail
        refine (lost_ring HSA.out ls HLS.out.symm).mono ?_
        rintro e w3 ⟨rfl, hw⟩
        subst hw
        have RW9 := HSA
        have BW9 := HBA
        have WFW := Lib.hid (show WF cap s from by have := RW9.out; unfold RingAt at this; exact this.2.2.1)
        have huw9 := WFW.out.room
        obtain ⟨u9, hu9⟩ : ∃ q, s.used = q := ⟨_, rfl⟩
        obtain ⟨l9, hl9⟩ : ∃ q, s.gone.length = q := ⟨_, rfl⟩
        have g1 : ¬ (cap : Int) < (u9 : Int) := by omega
        have g2 : ¬ (u9 : Int) < 0 := by omega
        have g3 : ¬ (l9 : Int) < (ls : Int) := by
          have h1 := LST.out
          have h2 := hl9
          (try dsimp only at h1 h2)
          omega
        have HU9 := Lib.hid (used_ring RW9.out u9 hu9)
        have HL9 := Lib.hid (lost_ring RW9.out l9 hl9)
        clear hu9 hl9 huw9
        go_wp2_with fail
        refine HU9.out.mono ?_
        rintro e w9' ⟨rfl, hw⟩
        subst hw
        go_wp2_with fail
        refine HU9.out.mono ?_
        rintro e w9' ⟨rfl, hw⟩
        subst hw
        go_wp2_with fail
        refine HL9.out.mono ?_
        rintro e w9' ⟨rfl, hw⟩
        subst hw
        go_wp2_with fail
        go_roundw
        case rel => exact ⟨k + 1, by omega, by go_num, _, RW9.out, BW9.out, by have := CNT.out; omega⟩
        case measure => simp [intOf]; omega
      · have kn : ¬ (k : Int) < (n : Int) := by omega
        go_wp2
        go_ret
        exact ⟨rfl, HB.out⟩
end Go.Proofs.Ytdicgpbdfnlniaa
