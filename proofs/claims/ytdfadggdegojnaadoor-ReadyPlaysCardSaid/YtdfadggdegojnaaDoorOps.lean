/- The walks of the calls, in the rows' words. -/
import Derived.Test.YtdfadggdegojnaaDoorQ
import Derived.Test.YtdfadggdegojnaaDoorPlainB
import Derived.BigQuiet
namespace Go.Proofs.YtdfadggdegojnaaDoor
open Go.RowKit
set_option linter.unusedVariables false
set_option linter.unusedSimpArgs false
attribute [local irreducible] ctz qCells lvl pushR cutR firstR total inR
set_option maxRecDepth 100000

/-- The queues lie at b, with these rows. -/
def RQ (w : World) (b : Nat) (L : Rows) : Prop := ∃ s, QAt w b s ∧ Rep s L
theorem RQ.only {w w' : World} {b c : Nat} {L : Rows} (h : RQ w b L) (ho : Only c w w') (hne : b ≠ c) : RQ w' b L := by
  obtain ⟨s, h1, h2⟩ := h
  exact ⟨s, h1.only ho hne, h2⟩
theorem RQ.below {w w' : World} {b : Nat} {L : Rows} (h : RQ w b L) (hb : Below w.heap.size w w') : RQ w' b L := by
  obtain ⟨s, h1, h2⟩ := h
  exact ⟨s, h1.below hb, h2⟩
theorem RQ.drewN {w : World} {b : Nat} {L : Rows} (h : RQ w b L) (n : Nat) : RQ (w.drewN n) b L := h
theorem push_r (w : World) (b t l : Nat) (L : Rows) (ht : t < 64) (hl : l < 32) (hno : lvl L (t : Int) = -1) (h : RQ w b L) :
    Calls Tryd.prog 25 #[.pointer (some ⟨b, 0, none⟩), .int .i64 t, .int .i64 l] w fun e w' => e = .returned (.tuple #[]) ∧ RQ w' b (pushR L t l) ∧ Only b w w' := by
  obtain ⟨s, hq, hr⟩ := h
  have hc : s.count = total L := hr.count
  have hT := total_le hr
  refine (push_any w b t l s ht hl (by omega) (by omega) (hr.back_in hl) hq).mono ?_
  rintro e w' ⟨rfl, h1, h2⟩
  refine ⟨rfl, ⟨_, h1, ?_⟩, h2⟩
  have := rep_push hr ht hl (by rw [hr.level_eq ht, hno]; omega)
  unfold pushR; exact this
theorem cut_r (w : World) (b t l : Nat) (L : Rows) (hl : l < 32) (hm : t ∈ L l) (h : RQ w b L) :
    Calls Tryd.prog 27 #[.pointer (some ⟨b, 0, none⟩), .int .i64 t] w fun e w' => e = .returned (.tuple #[]) ∧ RQ w' b (cutR L t l) ∧ lvl (cutR L t l) (t : Int) = -1 ∧ Only b w w' := by
  obtain ⟨s, hq, hr⟩ := h
  have hc : s.count = total L := hr.count
  have hT := total_le hr
  obtain ⟨ha, hf⟩ := hr.ends hl hm
  obtain ⟨ht, hlv⟩ := hr.mem l hl t hm
  refine (cut_any w b t l s ht hl hlv ha hf (by omega) (by omega) hq).mono ?_
  rintro e w' ⟨rfl, h1, h2⟩
  refine ⟨rfl, ⟨_, h1, ?_⟩, cut_no hr hl hm, h2⟩
  have := rep_cut hr hl hm
  unfold cutR; exact this
theorem has_r (w : World) (b : Nat) (t : Int) (L : Rows) (r : Bool) (hr : r = decide (inR L t)) (h : RQ w b L) : Calls Tryd.prog 24 #[.pointer (some ⟨b, 0, none⟩), .int .i64 t] w fun e w' => e = .returned (.bool r) ∧ w' = w := by
  obtain ⟨s, hq, hp⟩ := h
  by_cases ht : 0 ≤ t ∧ t < 64
  · obtain ⟨k, rfl⟩ := Int.eq_ofNat_of_zero_le ht.1
    refine (has_in w b k s (by omega) hq).mono ?_
    rintro e w' ⟨rfl, rfl⟩
    refine ⟨?_, rfl⟩
    rw [hr, hp.level_eq (show k < 64 by omega)]
    congr 2
    unfold inR
    exact decide_eq_decide.2 (by omega)
  · refine (has_out w b t ht).mono ?_
    rintro e w' ⟨rfl, rfl⟩
    refine ⟨?_, rfl⟩
    rw [hr]
    congr 2
    exact (decide_eq_false (by unfold inR; rw [lvl_out hp ht]; omega)).symm
theorem level_r (w : World) (b : Nat) (t : Int) (L : Rows) (v : Int) (hv : v = lvl L t) (h : RQ w b L) : Calls Tryd.prog 22 #[.pointer (some ⟨b, 0, none⟩), .int .i64 t] w fun e w' => e = .returned (.int .i64 v) ∧ w' = w := by
  have hh := has_r w b t L _ rfl h
  by_cases hin : inR L t
  · rw [decide_eq_true hin] at hh
    have HH := Lib.hid hh
    obtain ⟨l, hl, hlv, h0, hm⟩ := inR_pos hin
    obtain ⟨k, rfl⟩ := Int.eq_ofNat_of_zero_le h0
    obtain ⟨s, hq, hp⟩ := h
    have hk := (hp.mem l hl k (by simpa using hm)).1
    have c := hq.level k hk
    rw [(hp.mem l hl k (by simpa using hm)).2] at c
    rw [hlv] at hv
    subst hv
    have l0 : (0 : Int) ≤ (l : Int) := by omega
    have l1 : (l : Int) < 32 := by omega
    have k0 : (0 : Int) ≤ (k : Int) := by omega
    have k1 : (k : Int) < 64 := by omega
    clear hh hp hq hm hlv hin hl
    go_enter Tryd.func22, Tryd.ntmps22
    go_wp2_with fail
    refine HH.out.mono ?_
    rintro e w' ⟨rfl, rfl⟩
    go_wp2
    go_ret
    exact ⟨rfl, rfl⟩
  · rw [decide_eq_false hin] at hh
    have HH := Lib.hid hh
    have hv2 : v = -1 := by
      rw [hv]
      rcases lvl_cases L t with ⟨e, _⟩ | ⟨l, _, e, _⟩
      · exact e
      · exact absurd (by unfold inR; omega) hin
    subst hv2
    clear hh hin h hv
    go_enter Tryd.func22, Tryd.ntmps22
    go_wp2_with fail
    refine HH.out.mono ?_
    rintro e w' ⟨rfl, rfl⟩
    go_wp2
    go_ret
    exact ⟨rfl, rfl⟩
theorem level_nil (w : World) (t : Int) : Calls Tryd.prog 22 #[.pointer none, .int .i64 t] w fun e w' => e = .returned (.int .i64 (-1)) ∧ w' = w := by
  go_enter Tryd.func22, Tryd.ntmps22
  go_wp2_with fail
  refine (has_nil _ _).mono ?_
  rintro e w' ⟨rfl, rfl⟩
  go_wp2
  go_ret
  exact ⟨rfl, rfl⟩
theorem len_r (w : World) (b : Nat) (L : Rows) (h : RQ w b L) : Calls Tryd.prog 10 #[.pointer (some ⟨b, 0, none⟩)] w fun e w' => e = .returned (.int .i64 (total L)) ∧ w' = w := by
  obtain ⟨s, hq, hp⟩ := h
  have c := hq.count
  rw [hp.count] at c
  clear hq hp
  go_enter Tryd.func10, Tryd.ntmps10
  go_wp2
  go_ret
  exact ⟨rfl, rfl⟩
theorem len_nil (w : World) : Calls Tryd.prog 10 #[.pointer none] w fun e w' => e = .returned (.int .i64 0) ∧ w' = w := by
  go_enter Tryd.func10, Tryd.ntmps10
  go_wp2
  go_ret
  exact ⟨rfl, rfl⟩
theorem put_nil (w : World) (t l : Int) : Calls Tryd.prog 9 #[.pointer none, .int .i64 t, .int .i64 l] w fun e w' => e = .returned (.int .i64 16) ∧ w' = w := by
  go_enter Tryd.func9, Tryd.ntmps9
  go_wp2
  go_ret
  exact ⟨rfl, rfl⟩
theorem put_ok (w : World) (b : Nat) (t l : Int) (L : Rows) (hok : putOk L t l) (h : RQ w b L) : Calls Tryd.prog 9 #[.pointer (some ⟨b, 0, none⟩), .int .i64 t, .int .i64 l] w fun e w' => e = .returned (.int .i64 0) ∧ RQ w' b (putR L t l) ∧ Only b w w' := by
  have HOK := Lib.hid hok
  obtain ⟨t0, t1, l0, l1, hno⟩ := hok
  have HIS := Lib.hid (is_any w t l true ⟨fun _ => ⟨t0, t1, l0, l1⟩, fun _ => rfl⟩)
  have HH := Lib.hid (has_r w b t L false (by rw [decide_eq_false (by unfold inR; omega)]) h)
  obtain ⟨k, rfl⟩ := Int.eq_ofNat_of_zero_le t0
  obtain ⟨m, rfl⟩ := Int.eq_ofNat_of_zero_le l0
  have HP := Lib.hid (push_r w b k m L (by omega) (by omega) hno h)
  clear h hno
  go_enter Tryd.func9, Tryd.ntmps9
  go_wp2_with fail
  refine HIS.out.mono ?_
  rintro e w' ⟨rfl, rfl⟩
  go_wp2_with fail
  refine HH.out.mono ?_
  rintro e w' ⟨rfl, rfl⟩
  go_wp2_with fail
  refine HP.out.mono ?_
  rintro e w' ⟨rfl, hq, ho⟩
  have HQ := Lib.hid hq; clear hq
  have HO := Lib.hid ho; clear ho
  go_wp2
  go_ret
  refine ⟨rfl, ?_, HO.out⟩
  have := HQ.out
  unfold putR
  rw [if_pos HOK.out]
  simpa using this
theorem put_no (w : World) (b : Nat) (t l : Int) (L : Rows) (hok : ¬ putOk L t l) (h : RQ w b L) : Calls Tryd.prog 9 #[.pointer (some ⟨b, 0, none⟩), .int .i64 t, .int .i64 l] w fun e w' => e = .returned (.int .i64 1) ∧ w' = w := by
  by_cases hi : 0 ≤ t ∧ t < 64 ∧ 0 ≤ l ∧ l < 32
  · have HIS := Lib.hid (is_any w t l true ⟨fun _ => hi, fun _ => rfl⟩)
    have hin : inR L t := by
      unfold inR
      rcases lvl_cases L t with ⟨e, _⟩ | ⟨j, _, e, _⟩
      · exact absurd ⟨hi.1, hi.2.1, hi.2.2.1, hi.2.2.2, e⟩ hok
      · omega
    have HH := Lib.hid (has_r w b t L true (by rw [decide_eq_true hin]) h)
    clear hi hin hok h
    go_enter Tryd.func9, Tryd.ntmps9
    go_wp2_with fail
    refine HIS.out.mono ?_
    rintro e w' ⟨rfl, rfl⟩
    go_wp2_with fail
    refine HH.out.mono ?_
    rintro e w' ⟨rfl, rfl⟩
    go_wp2
    go_ret
    exact ⟨rfl, rfl⟩
  · have HIS := Lib.hid (is_any w t l false ⟨fun h => (by cases h), fun h => absurd h hi⟩)
    clear hi hok h
    go_enter Tryd.func9, Tryd.ntmps9
    go_wp2_with fail
    refine HIS.out.mono ?_
    rintro e w' ⟨rfl, rfl⟩
    go_wp2
    go_ret
    exact ⟨rfl, rfl⟩
theorem remove_nil (w : World) (t : Int) : Calls Tryd.prog 12 #[.pointer none, .int .i64 t] w fun e w' => e = .returned (.bool false) ∧ w' = w := by
  go_enter Tryd.func12, Tryd.ntmps12
  go_wp2_with fail
  refine (has_nil _ _).mono ?_
  rintro e w' ⟨rfl, rfl⟩
  go_wp2
  go_ret
  exact ⟨rfl, rfl⟩
theorem turn_nil (w : World) (t : Int) : Calls Tryd.prog 15 #[.pointer none, .int .i64 t] w fun e w' => e = .returned (.bool false) ∧ w' = w := by
  go_enter Tryd.func15, Tryd.ntmps15
  go_wp2_with fail
  refine (has_nil _ _).mono ?_
  rintro e w' ⟨rfl, rfl⟩
  go_wp2
  go_ret
  exact ⟨rfl, rfl⟩
theorem move_nil (w : World) (t l : Int) : Calls Tryd.prog 17 #[.pointer none, .int .i64 t, .int .i64 l] w fun e w' => e = .returned (.bool false) ∧ w' = w := by
  go_enter Tryd.func17, Tryd.ntmps17
  go_wp2_with fail
  refine (has_nil _ _).mono ?_
  rintro e w' ⟨rfl, rfl⟩
  go_wp2
  go_ret
  exact ⟨rfl, rfl⟩
theorem first_nil (w : World) : Calls Tryd.prog 11 #[.pointer none] w fun e w' => e = .returned (.tuple #[.int .i64 0, .bool false]) ∧ w' = w := by
  go_enter Tryd.func11, Tryd.ntmps11
  go_wp2
  go_ret2
  exact ⟨rfl, rfl⟩
theorem at_nil (w : World) (l : Int) : Calls Tryd.prog 20 #[.pointer none, .int .i64 l] w fun e w' => e = .returned (.slice none 0 0) ∧ w' = w := by
  go_enter Tryd.func20, Tryd.ntmps20
  go_wp2
  go_ret
  exact ⟨rfl, rfl⟩
theorem remove_no (w : World) (b : Nat) (t : Int) (L : Rows) (hin : ¬ inR L t) (h : RQ w b L) : Calls Tryd.prog 12 #[.pointer (some ⟨b, 0, none⟩), .int .i64 t] w fun e w' => e = .returned (.bool false) ∧ w' = w := by
  have HH := Lib.hid (has_r w b t L false (by rw [decide_eq_false hin]) h)
  clear hin h
  go_enter Tryd.func12, Tryd.ntmps12
  go_wp2_with fail
  refine HH.out.mono ?_
  rintro e w' ⟨rfl, rfl⟩
  go_wp2
  go_ret
  exact ⟨rfl, rfl⟩
theorem turn_no (w : World) (b : Nat) (t : Int) (L : Rows) (hin : ¬ inR L t) (h : RQ w b L) : Calls Tryd.prog 15 #[.pointer (some ⟨b, 0, none⟩), .int .i64 t] w fun e w' => e = .returned (.bool false) ∧ w' = w := by
  have HH := Lib.hid (has_r w b t L false (by rw [decide_eq_false hin]) h)
  clear hin h
  go_enter Tryd.func15, Tryd.ntmps15
  go_wp2_with fail
  refine HH.out.mono ?_
  rintro e w' ⟨rfl, rfl⟩
  go_wp2
  go_ret
  exact ⟨rfl, rfl⟩
theorem remove_ok (w : World) (b : Nat) (t : Int) (L : Rows) (hin : inR L t) (h : RQ w b L) : Calls Tryd.prog 12 #[.pointer (some ⟨b, 0, none⟩), .int .i64 t] w fun e w' => e = .returned (.bool true) ∧ RQ w' b (removeR L t) ∧ Only b w w' := by
  have HH := Lib.hid (has_r w b t L true (by rw [decide_eq_true hin]) h)
  obtain ⟨l, hl, hlv, h0, hm⟩ := inR_pos hin
  have HR := Lib.hid (show removeR L t = cutR L t.toNat l by unfold removeR; rw [if_pos hin, hlv]; rfl)
  obtain ⟨k, rfl⟩ := Int.eq_ofNat_of_zero_le h0
  have HC := Lib.hid (cut_r w b k l L hl (by simpa using hm) h)
  clear hin h hm hlv
  go_enter Tryd.func12, Tryd.ntmps12
  go_wp2_with fail
  refine HH.out.mono ?_
  rintro e w' ⟨rfl, rfl⟩
  go_wp2_with fail
  refine HC.out.mono ?_
  rintro e w2 ⟨rfl, hq, hn, ho⟩
  have HQ := Lib.hid hq; clear hq hn
  have HO := Lib.hid ho; clear ho
  go_wp2
  go_ret
  refine ⟨rfl, ?_, HO.out⟩
  rw [HR.out]; simpa using HQ.out
theorem turn_ok (w : World) (b : Nat) (t : Int) (L : Rows) (hin : inR L t) (h : RQ w b L) : Calls Tryd.prog 15 #[.pointer (some ⟨b, 0, none⟩), .int .i64 t] w fun e w' => e = .returned (.bool true) ∧ RQ w' b (turnR L t) ∧ Only b w w' := by
  have HH := Lib.hid (has_r w b t L true (by rw [decide_eq_true hin]) h)
  obtain ⟨l, hl, hlv, h0, hm⟩ := inR_pos hin
  have HLV := Lib.hid (level_r w b t L l hlv.symm h)
  have HR := Lib.hid (show turnR L t = pushR (cutR L t.toNat l) t.toNat l by unfold turnR; rw [if_pos hin, hlv]; rfl)
  have ht : t < 64 := by
    obtain ⟨s, _, hp⟩ := h
    have := (hp.mem l hl _ hm).1
    omega
  obtain ⟨k, rfl⟩ := Int.eq_ofNat_of_zero_le h0
  have HC := Lib.hid (cut_r w b k l L hl (by simpa using hm) h)
  clear hin h hm hlv
  go_enter Tryd.func15, Tryd.ntmps15
  go_wp2_with fail
  refine HH.out.mono ?_
  rintro e w' ⟨rfl, rfl⟩
  go_wp2_with fail
  refine HLV.out.mono ?_
  rintro e w' ⟨rfl, rfl⟩
  go_wp2_with fail
  refine HC.out.mono ?_
  rintro e w2 ⟨rfl, hq, hn, ho⟩
  have HP := Lib.hid (push_r w2 b k l (cutR L k l) (by omega) hl hn hq)
  clear hq hn
  have HO := Lib.hid ho; clear ho
  go_wp2_with fail
  refine HP.out.mono ?_
  rintro e w3 ⟨rfl, hq, ho⟩
  have HQ := Lib.hid hq; clear hq
  replace HO := Lib.hid (HO.out.trans ho); clear ho
  go_wp2
  go_ret
  refine ⟨rfl, ?_, HO.out⟩
  rw [HR.out]; simpa using HQ.out
theorem move_ok (w : World) (b : Nat) (t d : Int) (L : Rows) (hok : moveOk L t d) (h : RQ w b L) : Calls Tryd.prog 17 #[.pointer (some ⟨b, 0, none⟩), .int .i64 t, .int .i64 d] w fun e w' => e = .returned (.bool true) ∧ RQ w' b (moveR L t d) ∧ Only b w w' := by
  obtain ⟨h1, d0, d1, hne⟩ := id hok
  have hin : inR L t := by unfold inR; exact h1
  have HH := Lib.hid (has_r w b t L true (by rw [decide_eq_true hin]) h)
  obtain ⟨l, hl, hlv, h0, hm⟩ := inR_pos hin
  have HLV := Lib.hid (level_r w b t L l hlv.symm h)
  have HR := Lib.hid (show moveR L t d = pushR (cutR L t.toNat l) t.toNat d.toNat by unfold moveR; rw [if_pos hok, hlv]; rfl)
  have ht : t < 64 := by
    obtain ⟨s, _, hp⟩ := h
    have := (hp.mem l hl _ hm).1
    omega
  have HIS := Lib.hid (is_any w t d true ⟨fun _ => ⟨h0, ht, d0, d1⟩, fun _ => rfl⟩)
  obtain ⟨k, rfl⟩ := Int.eq_ofNat_of_zero_le h0
  obtain ⟨m, rfl⟩ := Int.eq_ofNat_of_zero_le d0
  have hne2 : ((l : Int) == (m : Int)) = false := by rw [hlv] at hne; simpa using hne
  have HC := Lib.hid (cut_r w b k l L hl (by simpa using hm) h)
  clear hin h hm hlv hok hne h1
  go_enter Tryd.func17, Tryd.ntmps17
  go_wp2_with fail
  refine HH.out.mono ?_
  rintro e w' ⟨rfl, rfl⟩
  go_wp2_with fail
  refine HIS.out.mono ?_
  rintro e w' ⟨rfl, rfl⟩
  go_wp2_with fail
  refine HLV.out.mono ?_
  rintro e w' ⟨rfl, rfl⟩
  go_wp2_with fail
  refine HC.out.mono ?_
  rintro e w2 ⟨rfl, hq, hn, ho⟩
  have HP := Lib.hid (push_r w2 b k m (cutR L k l) (by omega) (by omega) hn hq)
  clear hq hn
  have HO := Lib.hid ho; clear ho
  go_wp2_with fail
  refine HP.out.mono ?_
  rintro e w3 ⟨rfl, hq, ho⟩
  have HQ := Lib.hid hq; clear hq
  replace HO := Lib.hid (HO.out.trans ho); clear ho
  go_wp2
  go_ret
  refine ⟨rfl, ?_, HO.out⟩
  rw [HR.out]; simpa using HQ.out
theorem move_no (w : World) (b : Nat) (t d : Int) (L : Rows) (hok : ¬ moveOk L t d) (h : RQ w b L) : Calls Tryd.prog 17 #[.pointer (some ⟨b, 0, none⟩), .int .i64 t, .int .i64 d] w fun e w' => e = .returned (.bool false) ∧ w' = w := by
  by_cases hin : inR L t
  · have HH := Lib.hid (has_r w b t L true (by rw [decide_eq_true hin]) h)
    obtain ⟨l, hl, hlv, h0, hm⟩ := inR_pos hin
    have ht : t < 64 := by
      obtain ⟨s, _, hp⟩ := h
      have := (hp.mem l hl _ hm).1
      omega
    by_cases hd : 0 ≤ d ∧ d < 32
    · have HIS := Lib.hid (is_any w t d true ⟨fun _ => ⟨h0, ht, hd.1, hd.2⟩, fun _ => rfl⟩)
      have hld : (l : Int) = d := Classical.byContradiction fun hne => hok ⟨by unfold inR at hin; exact hin, hd.1, hd.2, by rw [hlv]; exact hne⟩
      have HLV := Lib.hid (level_r w b t L d (by rw [hlv, hld]) h)
      clear hin h hm hlv hok hld hd h0 ht
      go_enter Tryd.func17, Tryd.ntmps17
      go_wp2_with fail
      refine HH.out.mono ?_
      rintro e w' ⟨rfl, rfl⟩
      go_wp2_with fail
      refine HIS.out.mono ?_
      rintro e w' ⟨rfl, rfl⟩
      go_wp2_with fail
      refine HLV.out.mono ?_
      rintro e w' ⟨rfl, rfl⟩
      go_wp2
      go_ret
      exact ⟨rfl, rfl⟩
    · have HIS := Lib.hid (is_any w t d false ⟨fun h => (by cases h), fun h => absurd h.2.2 hd⟩)
      clear hin h hm hlv hok hd h0 ht
      go_enter Tryd.func17, Tryd.ntmps17
      go_wp2_with fail
      refine HH.out.mono ?_
      rintro e w' ⟨rfl, rfl⟩
      go_wp2_with fail
      refine HIS.out.mono ?_
      rintro e w' ⟨rfl, rfl⟩
      go_wp2
      go_ret
      exact ⟨rfl, rfl⟩
  · have HH := Lib.hid (has_r w b t L false (by rw [decide_eq_false hin]) h)
    clear hin h hok
    go_enter Tryd.func17, Tryd.ntmps17
    go_wp2_with fail
    refine HH.out.mono ?_
    rintro e w' ⟨rfl, rfl⟩
    go_wp2
    go_ret
    exact ⟨rfl, rfl⟩
end Go.Proofs.YtdfadggdegojnaaDoor
