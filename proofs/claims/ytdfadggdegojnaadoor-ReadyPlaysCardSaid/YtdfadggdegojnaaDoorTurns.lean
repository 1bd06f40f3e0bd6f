/- The walk of ReadyTurns. -/
import Derived.Test.YtdfadggdegojnaaDoorAt
import Derived.Test.YtdfadggdegojnaaDoorPlainC
namespace Go.Proofs.YtdfadggdegojnaaDoor
open Go.RowKit
set_option linter.unusedVariables false
attribute [local irreducible] ctz qCells lvl pushR cutR firstR total inR hd putR turnR lead rowAt r0
set_option maxRecDepth 100000
theorem at_any (w : World) (b : Nat) (l : Int) (L : Rows) (xs : List Nat) (hx : xs = rowAt L l) (h : RQ w b L) : Calls Tryd.prog 20 #[.pointer (some ⟨b, 0, none⟩), .int .i64 l] w fun e w' => ∃ A cap, e = .returned (.slice A xs.length cap) ∧ MemOwn w' w.heap.size A xs.length (rowM xs) ∧ xs.length ≤ cap ∧ Grow w w' := by
  by_cases hl : 0 ≤ l ∧ l < 32
  · obtain ⟨k, rfl⟩ := Int.eq_ofNat_of_zero_le hl.1
    have hx2 : xs = L k := by rw [hx]; unfold rowAt; rw [if_pos hl]; rfl
    subst hx2
    by_cases he : L k = []
    · refine (at_empty w b k L (by omega) he h).mono ?_
      rintro e w' ⟨rfl, rfl⟩
      rw [he]
      exact ⟨none, 0, rfl, fun h => absurd h (by simp), Nat.le_refl _, Grow.refl _⟩
    · exact at_row w b k L (by omega) he h
  · have hx2 : xs = [] := by rw [hx]; unfold rowAt; rw [if_neg hl]
    subst hx2
    refine (at_out w b l hl).mono ?_
    rintro e w' ⟨rfl, rfl⟩
    exact ⟨none, 0, rfl, fun h => absurd h (by simp), Nat.le_refl _, Grow.refl _⟩
section
variable {w0 : World} {b : Nat}
theorem put_any_st (w : World) (t l : Int) (L : Rows) (h : Sr w0 b L w) : Calls Tryd.prog 9 #[.pointer (some ⟨b, 0, none⟩), .int .i64 t, .int .i64 l] w fun e w' => ∃ v : Int, e = .returned (.int .i64 v) ∧ Sr w0 b (putR L t l) w' := by
  by_cases hok : putOk L t l
  · exact (put_st w t l L hok h).mono fun _ _ ⟨he, hq⟩ => ⟨0, he, hq⟩
  · refine (put_no w b t l L hok h.2.2).mono ?_
    rintro e w' ⟨rfl, rfl⟩
    exact ⟨1, rfl, by unfold putR; rw [if_neg hok]; exact h⟩
theorem first_st2 (w : World) (L : Rows) (f : Int) (hf : firstR L = f) (h0 : 0 ≤ f) (h : Sr w0 b L w) : Calls Tryd.prog 11 #[.pointer (some ⟨b, 0, none⟩)] w fun e w' => e = .returned (.tuple #[.int .i64 f, .bool true]) ∧ Sr w0 b L w' ∧ Grow w w' := by
  cases hl : lead L with
  | none => rw [firstR_none hl] at hf; omega
  | some l =>
    subst hf
    exact (first_yes w b l L hl h.1.tab h.2.2).mono fun _ _ ⟨he, k, hk⟩ => ⟨he, by rw [hk]; exact h.drewN k, by rw [hk]; exact Grow.drewN w k⟩
theorem turn_st2 (w : World) (t : Int) (L : Rows) (hin : inR L t) (h : Sr w0 b L w) : Calls Tryd.prog 15 #[.pointer (some ⟨b, 0, none⟩), .int .i64 t] w fun e w' => e = .returned (.bool true) ∧ Sr w0 b (turnR L t) w' ∧ Only b w w' :=
  (turn_ok w b t L hin h.2.2).mono fun _ _ ⟨he, hq, ho⟩ => ⟨he, h.only ho hq, ho⟩
theorem Sr.grow {w w' : World} {L : Rows} (h : Sr w0 b L w) (hg : Grow w w') : Sr w0 b L w' := ⟨h.1.below hg, h.2.1, h.2.2.below hg⟩
end
theorem turns_long (A : Option Addr) (n cap : Nat) (l : Int) (w : World) (hT : TabAt w) (hn : 100 < (n : Int)) : Calls Tryd.prog 5 #[.slice A n cap, .int .i64 l] w fun e w' => e = .returned (.bool true) ∧ Bl w w' := by
  have h := Bl.refl hT
  go_enter Tryd.func5, Tryd.ntmps5
  go_wp2_with fail
  refine (awake_bl _ h).mono ?_
  rintro e w2 ⟨rfl, h2⟩
  go_wp2_with fail
  refine (awake_bl _ h2).mono ?_
  rintro e w3 ⟨rfl, h3⟩
  go_wp2
  go_ret
  exact ⟨rfl, h3⟩
set_option maxHeartbeats 1000000 in
theorem turns_walk (A : Option Addr) (n cap : Nat) (M : Nat → Int) (l : Int) (w : World) (hT : TabAt w) (hn : (n : Int) ≤ 100) (hcap : (n : Int) ≤ cap) (hM : MemAt w A n M) : Calls Tryd.prog 5 #[.slice A n cap, .int .i64 l] w fun e w' => e = .returned (.bool true) ∧ Bl w w' := by
  have h := Bl.refl hT
  have HM := Lib.hid hM; clear hM
  go_enter Tryd.func5, Tryd.ntmps5
  go_wp2_with fail
  refine (awake_bl _ h).mono ?_
  rintro e w2 ⟨rfl, h2⟩
  clear h
  go_wp2_with fail
  rw [show Sem.run Tryd.prog (zeroValue 29) w2 = .ok (.agg (qCells zeroS)) w2 from zero29 w2]
  have h3 := new_st w2 h2
  clear h2
  go_wp2_with fail
  generalize w2.alloc (.cells (qCells zeroS) 29) = w3 at h3 ⊢
  generalize w2.heap.size = b at h3 ⊢
  have H3 := Lib.hid h3; clear h3
  go_loopw [21] (fun i wr => ∃ k : Nat, k ≤ n ∧ i = .int .i64 k ∧ ∃ L, Sr w b L wr ∧ Lone L l) (fun i _ => n - (intOf i).toNat)
  case atStart => exact ⟨0, by omega, rfl, r0, H3.out, by unfold r0; exact lone_zero l⟩
  case round =>
    obtain ⟨k, hk, rfl, L, hs, hlone⟩ := hrel
    have HS := Lib.hid hs; clear hs
    have HL := Lib.hid hlone; clear hlone
    by_cases hlt : k < n
    · obtain ⟨a, hA, hm⟩ := (HM.out.grow HS.out.1.2) (by omega)
      have m1 := hm k hlt
      rw [hA]
      clear hm hA
      have k0 : (0 : Int) ≤ (k : Int) := by omega
      have kn : (k : Int) < (n : Int) := by omega
      go_wp2_with fail
      refine (put_any_st _ (M k) l L HS.out).mono ?_
      rintro e w4 ⟨v, rfl, h4⟩
      have H4 := Lib.hid h4; clear h4
      have HL4 := Lib.hid (lone_put HL.out (M k))
      go_wp2_with fail
      go_roundw
      case rel => exact ⟨k + 1, by omega, by go_num, _, H4.out, HL4.out⟩
      case measure => simp [intOf]; omega
    · have kn : ¬ (k : Int) < (n : Int) := by omega
      obtain ⟨xs, hxs⟩ : ∃ xs, xs = rowAt L l := ⟨_, rfl⟩
      have HXS := Lib.hid hxs
      go_wp2_with fail
      refine (at_any _ b l L xs hxs HS.out.2.2).mono ?_
      rintro e w5 ⟨WA, wcap, rfl, hown, hwc, hg⟩
      have HOWN := Lib.hid hown; clear hown
      have HWC := Lib.hid hwc; clear hwc
      have H5 := Lib.hid (HS.out.grow hg)
      have HB := Lib.hid (show b < wr.heap.size from by obtain ⟨s, hq, _⟩ := HS.out.2.2; exact heapAt_lt hq)
      clear hg hxs
      have hlen : (xs.length : Int) ≤ 64 := by
        obtain ⟨s, hq, hp⟩ := H5.out.2.2
        have hx := HXS.out
        by_cases hl : 0 ≤ l ∧ l < 32
        · obtain ⟨q, rfl⟩ := Int.eq_ofNat_of_zero_le hl.1
          have hx2 : xs = L q := by rw [hx]; unfold rowAt; rw [if_pos hl]; rfl
          have := nodup_len 64 (L q) (hp.nodup q (by omega)) (fun y hy => (hp.mem q (by omega) y hy).1)
          rw [hx2]; omega
        · have hx2 : xs = [] := by rw [hx]; unfold rowAt; rw [if_neg hl]
          rw [hx2]; simp
      go_wp2_with fail
      go_loopw [33] (fun i wq => ∃ j : Nat, j ≤ xs.length ∧ i = .int .i64 j ∧ ∃ L2, Sr w b L2 wq ∧ Lone L2 l ∧ rowAt L2 l = xs.drop j ++ xs.take j ∧ MemOwn wq (b + 1) WA xs.length (rowM xs)) (fun i _ => xs.length - (intOf i).toNat)
      case atStart => exact ⟨0, by omega, rfl, L, H5.out, HL.out, by simp; exact HXS.out.symm, HOWN.out.mono HB.out⟩
      case round =>
        obtain ⟨j, hj, rfl, L2, hs2, hl2, hr2, ho2⟩ := hrel
        have HS2 := Lib.hid hs2; clear hs2
        have HL2 := Lib.hid hl2; clear hl2
        have HO2 := Lib.hid ho2; clear ho2
        by_cases hjt : j < xs.length
        · have j0 : (0 : Int) ≤ (j : Int) := by omega
          have jn : (j : Int) < (xs.length : Int) := by omega
          obtain ⟨rest, hd1, hd2⟩ := rot_step xs j hjt
          rw [hd1] at hr2
          have hlr : 0 ≤ l ∧ l < 32 := Classical.byContradiction fun hno => by
            unfold rowAt at hr2; rw [if_neg hno] at hr2; cases hr2
          generalize xs[j] = x at *
          have hLl : L2 l.toNat = x :: rest := by unfold rowAt at hr2; rw [if_pos hlr] at hr2; exact hr2
          have hq32 : l.toNat < 32 := by omega
          have hlq : ((l.toNat : Nat) : Int) = l := by omega
          have hfirst : firstR L2 = x := by
            unfold firstR
            rw [lead_lone hq32 (by rw [hlq]; exact HL2.out) (by rw [hLl]; simp)]
            simp only [hLl, hd]
          obtain ⟨sq, hsq, hsp⟩ := HS2.out.2.2
          obtain ⟨hin, hrow, hoth⟩ := turn_head hsp hq32 hLl
          clear hsq hsp
          have HIN := Lib.hid hin; clear hin
          have HROW := Lib.hid (show rowAt (turnR L2 x) l = xs.drop (j + 1) ++ xs.take (j + 1) from by unfold rowAt; rw [if_pos hlr, hrow, hd2])
          have HLO := Lib.hid (show Lone (turnR L2 x) l from fun i hi hne => by rw [hoth i (by omega)]; exact HL2.out i hi hne)
          have HF := Lib.hid hfirst
          clear hrow hoth hfirst hLl hd1 hd2 hr2 hlr hq32 hlq
          go_wp2_with fail
          refine (first_st2 _ L2 x HF.out (by omega) HS2.out).mono ?_
          rintro e w6 ⟨rfl, h6, hg6⟩
          have HO6 := Lib.hid (HO2.out.grow hg6)
          clear hg6
          go_wp2_with fail
          refine (turn_st2 _ x L2 HIN.out h6).mono ?_
          rintro e w7 ⟨rfl, h7, ho7⟩
          have HO7 := Lib.hid (HO6.out.only ho7 (fun g hA hn0 => by obtain ⟨m, h1, h2, _⟩ := HO6.out.lt hn0; rw [h1] at hA; injection hA with hA; injection hA with hA; omega))
          have H7 := Lib.hid h7
          clear h6 h7 ho7
          go_wp2_with fail
          go_roundw
          case rel => exact ⟨j + 1, by omega, by go_num, _, H7.out, HLO.out, HROW.out, HO7.out⟩
          case measure => simp [intOf]; omega
        · have jn : ¬ (j : Int) < (xs.length : Int) := by omega
          have hjx : j = xs.length := by omega
          rw [hjx, List.drop_length, List.take_length, List.nil_append] at hr2
          have HTOT := Lib.hid (show (total L2 : Int) = xs.length by rw [total_lone HL2.out, hr2])
          have HAT := Lib.hid (at_any _ b l L2 xs hr2.symm HS2.out.2.2)
          clear hr2 hjx
          go_wp2_with fail
          refine HAT.out.mono ?_
          rintro e w8 ⟨A2, cap2, rfl, hm2, hc2, hg8⟩
          have H8 := Lib.hid (HS2.out.grow hg8)
          go_wp2_with fail
          refine (ints_same _ A2 WA xs.length cap2 wcap (rowM xs) (by omega) (by omega) (by have := HWC.out; omega) hm2.at (HO2.out.grow hg8).at).mono ?_
          rintro e w9 ⟨rfl, hg9⟩
          have H9 := Lib.hid (H8.out.grow hg9)
          have hl9 := len_r _ b L2 H9.out.2.2
          rw [HTOT.out] at hl9
          clear hg8 hg9 hm2
          go_wp2_with fail
          refine hl9.mono ?_
          rintro e w' ⟨rfl, rfl⟩
          go_wp2
          go_ret
          exact ⟨by simp, H9.out.1⟩
end Go.Proofs.YtdfadggdegojnaaDoor
