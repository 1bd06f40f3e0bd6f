/- awake. -/
import Derived.Test.YtdicgpbdfnlniaaE
namespace Go.Proofs.Ytdicgpbdfnlniaa
open Go.RowKit
set_option linter.unusedVariables false
set_option linter.unusedSimpArgs false
set_option maxRecDepth 100000
theorem put_any {w : World} {base r g cap : Nat} {pol : Int} {s : RG} (h : RingAt w base r g cap pol s) (t : List UInt8) (x : Int) (s2 : RG) (hp : put cap pol s t = (x, s2)) (hl : s.gone.length + s.L.length < 4611686018427387900) :
    Calls Try.prog 11 #[.pointer (some ⟨r, 0, none⟩), .string ⟨t.toArray⟩] w fun e w' => e = .returned (.int .i64 x) ∧ RingAt w' base r g cap pol s2 ∧ FarR base r g w w' := by
  unfold put at hp
  split at hp
  · rename_i ht
    exact put_walk h t x s2 hp ht.1 ht.2 hl
  · rename_i ht
    obtain ⟨rfl, rfl⟩ := Prod.mk.inj hp
    refine (put_bad h t ht).mono ?_
    rintro e w' ⟨rfl, rfl⟩
    exact ⟨rfl, h, Far.refl _ _ _ _⟩
theorem drain_any {w : World} {base r g cap : Nat} {pol : Int} {s : RG} (h : RingAt w base r g cap pol s) (most : Int) (n : Nat) (o : List UInt8) (s2 : RG) (hn : min most.toNat s.used = n) (ho : s.bytes.take n = o) (hs : drain s n = s2) :
    Calls Try.prog 13 #[.pointer (some ⟨r, 0, none⟩), .int .i64 most] w fun e w' => e = .returned (.string ⟨o.toArray⟩) ∧ RingAt w' base r g cap pol s2 ∧ FarR base r g w w' := by
  subst ho hs
  exact drain_ring h most n hn.symm
theorem text_str (w : World) (c : Nat) (ci : Int) (n : Nat) (ni : Int) (hni : ni = (n : Int)) (hci : ci = ((UInt8.ofNat c).toNat : Int)) (hn : n ≤ 1000) : Calls Try.prog 20 #[.int .u8 ci, .int .i64 ni] w fun e w' => e = .returned (.string ⟨(ce c n).toArray⟩) ∧ Grow w w' := text_any w c ci n ni hni hci hn
theorem ba_append (a b : List UInt8) : (ByteArray.mk a.toArray) ++ (ByteArray.mk b.toArray) = ByteArray.mk (a ++ b).toArray := by
  apply ByteArray.ext
  simp
def sA : RG := ⟨[ce 97 100], false, []⟩
def sB : RG := ⟨[ce 97 100, ce 98 60], false, []⟩
def sC : RG := ⟨[ce 98 60, ce 99 50], false, [ce 97 100]⟩
def sD : RG := ⟨[ce 98 50, ce 99 50], true, [ce 97 100]⟩
def sE : RG := ⟨[ce 98 50, ce 99 50], true, [ce 97 100, ce 100 130]⟩
def sF : RG := ⟨[], false, [ce 97 100, ce 100 130]⟩
theorem pA : put 179 1 s0 (ce 97 100) = (0, sA) := by rfl
theorem pB : put 179 1 sA (ce 98 60) = (0, sB) := by rfl
theorem pC : put 179 1 sB (ce 99 50) = (0, sC) := by rfl
theorem pD : drain sC 10 = sD := by rfl
theorem pD2 : sC.bytes.take 10 = ce 98 10 := by rfl
theorem pE : put 179 1 sD (ce 100 130) = (7, sE) := by rfl
theorem pF : drain sE 100 = sF := by rfl
theorem pF2 : sE.bytes.take 100 = ce 98 50 ++ ce 99 50 := by rfl
theorem uC1 : sC.gone.length = 1 := rfl
theorem uC2 : sC.used = 110 := by rfl
theorem uC3 : sC.L.length = 2 := rfl
theorem uC4 : min (10 : Int).toNat sC.used = 10 := by rfl
theorem uL : (ce 98 50).length + (ce 99 50).length = 100 := by rfl
theorem uE1 : sE.begun = true := rfl
theorem uE2 : sE.gone.length = 2 := rfl
theorem uE3 : sE.used = 100 := by rfl
theorem uE4 : min (200 : Int).toNat sE.used = 100 := by rfl
attribute [local irreducible] roomC ringC strOf outC RingAt ce put drain RG.used RG.bytes
set_option maxHeartbeats 4000000 in
theorem awake_any (w : World) : Calls Try.prog 9 #[] w fun e w' => e = .returned (.bool true) ∧ Grow w w' := by
  have qA := pA
  have hcat := ba_append (ce 98 50) (ce 99 50)
  have hlost : ((2 : Int) != 1) = true := rfl
  have hle : ¬ 9223372036854775807 < (ce 98 50).length + (ce 99 50).length := by rw [uL]; omega
  go_enter Try.func9, Try.ntmps9
  go_wp2_with fail
  refine (new_ok w w.heap.size 179 1 (by omega) (by omega) (.inr rfl) (Nat.le_refl _)).mono ?_
  rintro e w1 ⟨r, g, rfl, hr, hg⟩
  have HR := Lib.hid hr
  have HG := Lib.hid hg
  clear hr hg qA
  go_wp2_with fail
  refine (new_bad w1 178 1 (.inl (by omega))).mono ?_
  rintro e w1' ⟨rfl, hw⟩
  subst hw
  go_wp2_with fail
  refine (text_str w1' 97 97 100 100 rfl (by decide) (by omega)).mono ?_
  rintro e v2 ⟨rfl, hg⟩
  replace HR := Lib.hid (HR.out.grow hg)
  replace HG := Lib.hid (HG.out.trans hg)
  clear hg
  go_wp2_with fail
  refine (put_any HR.out (ce 97 100) 0 sA pA (by decide)).mono ?_
  rintro e v3 ⟨rfl, hr, hf⟩
  replace HR := Lib.hid hr
  replace HG := Lib.hid (show Grow w v3 from Below.trans HG.out hf.1)
  clear hr hf
  go_wp2_with fail
  refine (text_str v3 98 98 60 60 rfl (by decide) (by omega)).mono ?_
  rintro e v4 ⟨rfl, hg⟩
  replace HR := Lib.hid (HR.out.grow hg)
  replace HG := Lib.hid (HG.out.trans hg)
  clear hg
  go_wp2_with fail
  refine (put_any HR.out (ce 98 60) 0 sB pB (by decide)).mono ?_
  rintro e v5 ⟨rfl, hr, hf⟩
  replace HR := Lib.hid hr
  replace HG := Lib.hid (show Grow w v5 from Below.trans HG.out hf.1)
  clear hr hf
  go_wp2_with fail
  refine (text_str v5 99 99 50 50 rfl (by decide) (by omega)).mono ?_
  rintro e v6 ⟨rfl, hg⟩
  replace HR := Lib.hid (HR.out.grow hg)
  replace HG := Lib.hid (HG.out.trans hg)
  clear hg
  go_wp2_with fail
  refine (put_any HR.out (ce 99 50) 0 sC pC (by decide)).mono ?_
  rintro e v7 ⟨rfl, hr, hf⟩
  replace HR := Lib.hid hr
  replace HG := Lib.hid (show Grow w v7 from Below.trans HG.out hf.1)
  clear hr hf
  go_wp2_with fail
  refine (lost_ring HR.out 1 uC1).mono ?_
  rintro e v8 ⟨rfl, hw⟩
  subst hw
  go_wp2_with fail
  refine (used_ring HR.out 110 uC2).mono ?_
  rintro e v9 ⟨rfl, hw⟩
  subst hw
  go_wp2_with fail
  refine (held_ring HR.out 2 uC3).mono ?_
  rintro e v10 ⟨rfl, hw⟩
  subst hw
  go_wp2_with fail
  refine (drain_any HR.out 10 10 (ce 98 10) sD uC4 pD2 pD).mono ?_
  rintro e v11 ⟨rfl, hr, hf⟩
  replace HR := Lib.hid hr
  replace HG := Lib.hid (show Grow w v11 from Below.trans HG.out hf.1)
  clear hr hf
  go_wp2_with fail
  refine (text_str v11 100 100 130 130 rfl (by decide) (by omega)).mono ?_
  rintro e v12 ⟨rfl, hg⟩
  replace HR := Lib.hid (HR.out.grow hg)
  replace HG := Lib.hid (HG.out.trans hg)
  clear hg
  go_wp2_with fail
  refine (put_any HR.out (ce 100 130) 7 sE pE (by decide)).mono ?_
  rintro e v13 ⟨rfl, hr, hf⟩
  replace HR := Lib.hid hr
  replace HG := Lib.hid (show Grow w v13 from Below.trans HG.out hf.1)
  clear hr hf
  go_wp2_with fail
  refine (text_str v13 98 98 10 10 rfl (by decide) (by omega)).mono ?_
  rintro e v14 ⟨rfl, hg⟩
  replace HR := Lib.hid (HR.out.grow hg)
  replace HG := Lib.hid (HG.out.trans hg)
  clear hg
  go_wp2_with fail
  refine (begun_ring HR.out true uE1).mono ?_
  rintro e v15 ⟨rfl, hw⟩
  subst hw
  go_wp2_with fail
  refine (lost_ring HR.out 2 uE2).mono ?_
  rintro e v16 ⟨rfl, hw⟩
  subst hw
  go_wp2_with fail
  refine (used_ring HR.out 100 uE3).mono ?_
  rintro e v17 ⟨rfl, hw⟩
  subst hw
  go_wp2_with fail
  refine (drain_any HR.out 200 100 (ce 98 50 ++ ce 99 50) sF uE4 pF2 pF).mono ?_
  rintro e v18 ⟨rfl, hr, hf⟩
  replace HR := Lib.hid hr
  replace HG := Lib.hid (show Grow w v18 from Below.trans HG.out hf.1)
  clear hr hf
  go_wp2_with fail
  refine (text_str v18 98 98 50 50 rfl (by decide) (by omega)).mono ?_
  rintro e v19 ⟨rfl, hg⟩
  replace HR := Lib.hid (HR.out.grow hg)
  replace HG := Lib.hid (HG.out.trans hg)
  clear hg
  go_wp2_with fail
  refine (text_str v19 99 99 50 50 rfl (by decide) (by omega)).mono ?_
  rintro e v20 ⟨rfl, hg⟩
  replace HR := Lib.hid (HR.out.grow hg)
  replace HG := Lib.hid (HG.out.trans hg)
  clear hg
  go_wp2
  go_ret
  exact ⟨rfl, HG.out⟩
end Go.Proofs.Ytdicgpbdfnlniaa
