/- The reference's Turn and Move walked; each call in the rows' words. -/
import Derived.Test.YtdfadggdegojnaaDoorRefOps
namespace Go.Proofs.YtdfadggdegojnaaDoor
open Go.RowKit
set_option linter.unusedVariables false
set_option linter.unusedSimpArgs false
set_option maxRecDepth 100000
attribute [local irreducible] ctz qCells lvl cutR pushR firstR total hd but refCells lead
theorem RS.below {w : World} {m : Nat} {L : Rows} {w' : World} (h : RS w m L) (hg : Grow w w') : RS w' m L ∧ Far m w w' := ⟨h.grow hg, Far.grow hg (by have := h.lt; omega)⟩
theorem refPut_any (w : World) (m : Nat) (L : Rows) (s : QS) (t l : Int) (hp : Rep s L) (h : RS w m L) : Calls Tryd.prog 13 #[.pointer (some ⟨m, 0, none⟩), .int .i64 t, .int .i64 l] w fun e w' => e = .returned (.bool (decide (putOk L t l))) ∧ RS w' m (putR L t l) ∧ Far m w w' := by
  by_cases hok : putOk L t l
  · have e : putR L t l = pushR L t.toNat l.toNat := by unfold putR; rw [if_pos hok]
    rw [e, decide_eq_true hok]
    obtain ⟨h0, h1, h2, h3, h4⟩ := hok
    obtain ⟨t', rfl⟩ := Int.eq_ofNat_of_zero_le h0
    obtain ⟨l', rfl⟩ := Int.eq_ofNat_of_zero_le h2
    exact refPut_ok w m L t' l' (by omega) (by omega) hp.short h4 h
  · have e : putR L t l = L := by unfold putR; rw [if_neg hok]
    rw [e, decide_eq_false hok]
    refine (refPut_no w m L t l hp.short hok h).mono ?_
    rintro e w' ⟨rfl, hg⟩
    exact ⟨rfl, h.below hg⟩
theorem refRemove_any (w : World) (m : Nat) (L : Rows) (s : QS) (t : Int) (hp : Rep s L) (h : RS w m L) : Calls Tryd.prog 14 #[.pointer (some ⟨m, 0, none⟩), .int .i64 t] w fun e w' => e = .returned (.bool (decide (inR L t))) ∧ RS w' m (removeR L t) ∧ Far m w w' := by
  by_cases hok : inR L t
  · have e : removeR L t = cutR L t.toNat (lvl L t).toNat := by unfold removeR; rw [if_pos hok]
    rw [e, decide_eq_true hok]
    obtain ⟨l, hl, hlv, h0, hm⟩ := inR_pos hok
    obtain ⟨t', rfl⟩ := Int.eq_ofNat_of_zero_le h0
    rw [hlv]
    exact refRemove_ok w m L t' l hl hp.short hlv h
  · have e : removeR L t = L := by unfold removeR; rw [if_neg hok]
    rw [e, decide_eq_false hok]
    refine (refRemove_no w m L t hp.short hok h).mono ?_
    rintro e w' ⟨rfl, hg⟩
    exact ⟨rfl, h.below hg⟩
theorem refTurn_any (w : World) (m : Nat) (L : Rows) (s : QS) (t : Int) (hp : Rep s L) (h : RS w m L) : Calls Tryd.prog 16 #[.pointer (some ⟨m, 0, none⟩), .int .i64 t] w fun e w' => e = .returned (.bool (decide (inR L t))) ∧ RS w' m (turnR L t) ∧ Far m w w' := by
  by_cases hok : inR L t
  · have e : turnR L t = pushR (cutR L t.toNat (lvl L t).toNat) t.toNat (lvl L t).toNat := by unfold turnR; rw [if_pos hok]
    rw [e, decide_eq_true hok]
    obtain ⟨l, hl, hlv, h0, hm⟩ := inR_pos hok
    obtain ⟨t', rfl⟩ := Int.eq_ofNat_of_zero_le h0
    rw [hlv]
    have ht : t' < 64 := (hp.mem l hl t' (by simpa using hm)).1
    have hn := cut_no hp hl (show t' ∈ L l by simpa using hm)
    have hsh := hp.short.cut t' l
    have HL := Lib.hid (refLevel_s w m L t' l hlv hp.short h)
    have HR := Lib.hid fun (w1 : World) (hg : Grow w w1) => refRemove_ok w1 m L t' l hl hp.short hlv (h.grow hg)
    have HP := Lib.hid fun (w1 : World) (h1 : RS w1 m (cutR L t' l)) => refPut_ok w1 m (cutR L t' l) t' l ht hl hsh hn h1
    have HMW := Lib.hid h.lt
    clear hok hm h hn hsh hlv e hp h0
    show Calls Tryd.prog 16 _ w fun e w' => e = .returned (.bool true) ∧ RS w' m (pushR (cutR L t' l) t' l) ∧ Far m w w'
    go_enter Tryd.func16, Tryd.ntmps16
    go_wp2_with fail
    refine HL.out.mono ?_
    rintro e w1 ⟨rfl, hg⟩
    have HG := Lib.hid hg; clear hg
    go_wp2_with fail
    refine (HR.out w1 HG.out).mono ?_
    rintro e w2 ⟨rfl, hr, hb⟩
    have HR2 := Lib.hid hr; clear hr
    have HB := Lib.hid hb; clear hb
    go_wp2_with fail
    refine (HP.out w2 HR2.out).mono ?_
    rintro e w3 ⟨rfl, hr, hb⟩
    have HR3 := Lib.hid hr; clear hr
    have HB2 := Lib.hid hb; clear hb
    go_wp2
    go_ret
    exact ⟨rfl, HR3.out, Far.trans (Far.grow HG.out (by have := HMW.out; omega)) (Far.trans HB.out HB2.out)⟩
  · have e : turnR L t = L := by unfold turnR; rw [if_neg hok]
    rw [e, decide_eq_false hok]
    obtain ⟨v, hv⟩ : ∃ v, lvl L t = v := ⟨_, rfl⟩
    have HL := Lib.hid (refLevel_s w m L t v hv hp.short h)
    have HR := Lib.hid fun (w1 : World) (hg : Grow w w1) => refRemove_no w1 m L t hp.short hok (h.grow hg)
    have HH := Lib.hid h
    clear hok h hv e hp
    go_enter Tryd.func16, Tryd.ntmps16
    go_wp2_with fail
    refine HL.out.mono ?_
    rintro e w1 ⟨rfl, hg⟩
    have HG := Lib.hid hg; clear hg
    go_wp2_with fail
    refine (HR.out w1 HG.out).mono ?_
    rintro e w2 ⟨rfl, hg⟩
    have HG2 := Lib.hid (HG.out.trans hg); clear hg
    go_wp2
    go_ret
    exact ⟨rfl, HH.out.below HG2.out⟩
theorem refMove_any (w : World) (m : Nat) (L : Rows) (s : QS) (t d : Int) (hp : Rep s L) (h : RS w m L) : Calls Tryd.prog 18 #[.pointer (some ⟨m, 0, none⟩), .int .i64 t, .int .i64 d] w fun e w' => e = .returned (.bool (decide (moveOk L t d))) ∧ RS w' m (moveR L t d) ∧ Far m w w' := by
  by_cases hok : moveOk L t d
  · have e : moveR L t d = pushR (cutR L t.toNat (lvl L t).toNat) t.toNat d.toNat := by unfold moveR; rw [if_pos hok]
    rw [e, decide_eq_true hok]
    obtain ⟨k1, k2, k3, k4⟩ := hok
    obtain ⟨l, hl, hlv, h0, hm⟩ := inR_pos (show inR L t from k1)
    obtain ⟨t', rfl⟩ := Int.eq_ofNat_of_zero_le h0
    obtain ⟨d', rfl⟩ := Int.eq_ofNat_of_zero_le k2
    rw [hlv]
    rw [hlv] at k4
    have ht : t' < 64 := (hp.mem l hl t' (by simpa using hm)).1
    have hn := cut_no hp hl (show t' ∈ L l by simpa using hm)
    have hsh := hp.short.cut t' l
    have hd : d' < 32 := by omega
    have HL := Lib.hid (refLevel_s w m L t' l hlv hp.short h)
    have HR := Lib.hid fun (w1 : World) (hg : Grow w w1) => refRemove_ok w1 m L t' l hl hp.short hlv (h.grow hg)
    have HP := Lib.hid fun (w1 : World) (h1 : RS w1 m (cutR L t' l)) => refPut_ok w1 m (cutR L t' l) t' d' ht hd hsh hn h1
    have HMW := Lib.hid h.lt
    have l0 : (0 : Int) ≤ (l : Int) := by omega
    have hbe : ((l : Int) == (d' : Int)) = false := by simpa using k4
    have k5 : ¬ (l : Int) = (d' : Int) := k4
    clear hm h hn hsh hlv e hp h0 k1
    show Calls Tryd.prog 18 _ w fun e w' => e = .returned (.bool true) ∧ RS w' m (pushR (cutR L t' l) t' d') ∧ Far m w w'
    go_enter Tryd.func18, Tryd.ntmps18
    go_wp2_with fail
    refine HL.out.mono ?_
    rintro e w1 ⟨rfl, hg⟩
    have HG := Lib.hid hg; clear hg
    go_wp2_with fail
    refine (HR.out w1 HG.out).mono ?_
    rintro e w2 ⟨rfl, hr, hb⟩
    have HR2 := Lib.hid hr; clear hr
    have HB := Lib.hid hb; clear hb
    go_wp2_with fail
    refine (HP.out w2 HR2.out).mono ?_
    rintro e w3 ⟨rfl, hr, hb⟩
    have HR3 := Lib.hid hr; clear hr
    have HB2 := Lib.hid hb; clear hb
    go_wp2
    go_ret
    exact ⟨rfl, HR3.out, Far.trans (Far.grow HG.out (by have := HMW.out; omega)) (Far.trans HB.out HB2.out)⟩
  · have e : moveR L t d = L := by unfold moveR; rw [if_neg hok]
    rw [e, decide_eq_false hok]
    obtain ⟨v, hv⟩ : ∃ v, lvl L t = v := ⟨_, rfl⟩
    have HL := Lib.hid (refLevel_s w m L t v hv hp.short h)
    have HH := Lib.hid h
    unfold moveOk at hok
    rw [hv] at hok
    clear h hv e hp
    by_cases h0 : v < 0
    · clear hok
      go_enter Tryd.func18, Tryd.ntmps18
      go_wp2_with fail
      refine HL.out.mono ?_
      rintro e w1 ⟨rfl, hg⟩
      have HG := Lib.hid hg; clear hg
      go_wp2
      go_ret
      exact ⟨rfl, HH.out.below HG.out⟩
    by_cases h1 : d < 0
    · clear hok
      go_enter Tryd.func18, Tryd.ntmps18
      go_wp2_with fail
      refine HL.out.mono ?_
      rintro e w1 ⟨rfl, hg⟩
      have HG := Lib.hid hg; clear hg
      go_wp2
      go_ret
      exact ⟨rfl, HH.out.below HG.out⟩
    by_cases h2 : 31 < d
    · clear hok
      go_enter Tryd.func18, Tryd.ntmps18
      go_wp2_with fail
      refine HL.out.mono ?_
      rintro e w1 ⟨rfl, hg⟩
      have HG := Lib.hid hg; clear hg
      go_wp2
      go_ret
      exact ⟨rfl, HH.out.below HG.out⟩
    have e : v = d := Classical.byContradiction fun hne => hok ⟨by omega, by omega, by omega, hne⟩
    subst e
    clear hok
    go_enter Tryd.func18, Tryd.ntmps18
    go_wp2_with fail
    refine HL.out.mono ?_
    rintro e w1 ⟨rfl, hg⟩
    have HG := Lib.hid hg; clear hg
    go_wp2
    go_ret
    exact ⟨rfl, HH.out.below HG.out⟩
end Go.Proofs.YtdfadggdegojnaaDoor
