/- The walk of RingOnce. -/
import Derived.Test.YtdicgpbdfnlniaaOnceP
import Derived.Test.YtdicgpbdfnlniaaScriptB
namespace Go.Proofs.Ytdicgpbdfnlniaa
open Go.RowKit
set_option linter.unusedVariables false
set_option linter.unusedSimpArgs false
set_option maxRecDepth 100000
theorem put_sum (cap : Nat) (pol : Int) (t : List UInt8) (s : RG) (h1 : 1 ≤ t.length) (h2 : t.length ≤ 179) : ((put cap pol s t).1 != 1) = true ∧ (put cap pol s t).2.used + gsum (put cap pol s t).2 = s.used + gsum s + t.length ∧ (put cap pol s t).2.gone.length + (put cap pol s t).2.L.length = s.gone.length + s.L.length + 1 := by
  unfold put
  rw [if_pos ⟨h1, h2⟩]
  refine ⟨?_, putG_sum cap pol t _ s⟩
  rcases putG_one cap pol t s.L.length s with h | h <;> rw [h] <;> rfl
theorem put_one {cap : Nat} {pol : Int} {t : List UInt8} {s : RG} (h : ¬ (1 ≤ t.length ∧ t.length ≤ 179)) : put cap pol s t = (1, s) := by
  unfold put
  rw [if_neg h]
theorem used0 : s0.used + gsum s0 = 0 := by unfold gsum; simp [s0, RG.used, RG.bytes]
theorem sumT_le (T : Nat → List UInt8) (n k : Nat) (h : k ≤ n) : sumT T k ≤ sumT T n := by
  induction n with
  | zero => have : k = 0 := by omega
            subst this; exact Nat.le_refl _
  | succ n ih =>
    rcases Nat.lt_or_ge n k with h1 | h1
    · have : k = n + 1 := by omega
      subst this; exact Nat.le_refl _
    · have := ih h1
      rw [sumT_succ]; omega
attribute [local irreducible] roomC ringC strOf outC RingAt put drain RG.used RG.bytes RG.sizes sumT GP refC texts sumF MAt most gsum
set_option maxHeartbeats 16000000 in
theorem once_new (cap : Nat) (A : Option Addr) (n scap : Nat) (K V : Nat → Int) (T : Nat → List UInt8) (w : World) (hcap : 179 ≤ cap) (hcap2 : cap ≤ 1048576) (hn : n ≤ scap) (hmx : scap ≤ maxLen) (hM : ScriptAt w A n K V T) (hV : ∀ j, j < n → V j ≤ 9223372036854775807) : Calls Try.prog 4 #[.int .i64 cap, .bool false, .slice A n scap] w fun e w' => e = .returned (.bool true) ∧ Below w.heap.size w w' := by
  have HM := Lib.hid hM; clear hM
  have HV := Lib.hid hV; clear hV
  go_enter Try.func4, Try.ntmps4
  go_wp2_with fail
  refine (new_ok w w.heap.size cap 0 hcap hcap2 (.inl rfl) (Nat.le_refl _)).mono ?_
  rintro e w1 ⟨r, g, rfl, hr, hg⟩
  have HR := Lib.hid hr
  have HG := Lib.hid hg
  clear hr hg
  go_wp2_with fail
  refine (awake_any w1).mono ?_
  rintro e w2 ⟨rfl, hg⟩
  replace HR := Lib.hid (HR.out.grow hg)
  replace HG := Lib.hid (HG.out.trans hg)
  clear hg
  go_wp2_with fail
  refine (great_any w2 A n scap K V T hn hmx (HM.out.grow HG.out)).mono ?_
  rintro e w3 hgp
  unfold GP at hgp
  obtain ⟨b, rfl, hg, hsm⟩ := hgp
  replace HR := Lib.hid (HR.out.grow hg)
  replace HG := Lib.hid (HG.out.trans hg)
  clear hg
  cases b with
  | true =>
    clear hsm
    go_wp2_with fail
    refine (awake_any w3).mono ?_
    rintro e w4 ⟨rfl, hg⟩
    replace HG := Lib.hid (HG.out.trans hg)
    clear hg
    go_wp2
    go_ret
    exact ⟨rfl, HG.out⟩
  | false =>
    have hn3 := (hsm rfl).1
    have HSM := Lib.hid (hsm rfl).2
    clear hsm
    have HMA0 := Lib.hid (new_ref (w := w3) (base := w.heap.size) (cap := cap) (pol := 0) hcap hcap2 HG.out.size)
    have HG4 := Lib.hid (HG.out.trans (Grow.alloc w3 (.cells #[.int .i64 cap, .int .i64 0, .slice none 0 0, .bool false, .int .u64 0, .slice none 0 0] 33)))
    have HR4 := Lib.hid (HR.out.grow (Grow.alloc w3 (.cells #[.int .i64 cap, .int .i64 0, .slice none 0 0, .bool false, .int .u64 0, .slice none 0 0] 33)))
    go_wp2_with fail
    generalize w3.alloc _ = w4 at HMA0 HG4 HR4 ⊢
    generalize w3.heap.size = m at HMA0 ⊢
    go_loopw [47, 11, 12] (fun i bv fv wr => ∃ k : Nat, k ≤ n ∧ i = .int .i64 k ∧ ∃ (s : RG) (fn : Nat), RingAt wr w.heap.size r g cap 0 s ∧ MAt wr w.heap.size m cap 0 s ∧ Below w.heap.size w wr ∧ bv = .int .i64 (s.used + gsum s : Nat) ∧ fv = .int .u64 fn ∧ s.gone.length + s.L.length ≤ fn ∧ fn ≤ k ∧ s.used + gsum s ≤ sumT T k) (fun i _ _ _ => n - (intOf i).toNat)
    case atStart => exact ⟨0, by omega, rfl, s0, 0, HR4.out, HMA0.out, HG4.out, by rw [used0]; rfl, rfl, by simp [s0], by omega, by rw [used0]; omega⟩
    case round =>
      obtain ⟨k, hk, rfl, s, fn, hs, hm, hbl, rfl, rfl, hfn, hfk, hsu⟩ := hrel
      have HS := Lib.hid hs
      have HMM := Lib.hid hm
      have HB := Lib.hid hbl
      have hsle := sumT_le T n k hk
      have hsn := HSM.out
      clear hs hbl hm
      obtain ⟨by1, hby⟩ : ∃ q, q = s.used + gsum s := ⟨_, rfl⟩
      rw [← hby] at hsu ⊢
      by_cases hlt : k < n
      · obtain ⟨a, hA, hm⟩ := (HM.out.grow HB.out) (by omega)
        obtain ⟨m0, m1, m2⟩ := hm k hlt
        have HVV := Lib.hid (HV.out k hlt)
        have hst := sumT_succ T k
        have hsle2 := sumT_le T n (k + 1) hlt
        rw [hA]
        clear hm hA
        generalize K k = kk at *
        generalize V k = vv at *
        generalize T k = tt at *
        obtain ⟨su2, hsu2⟩ : ∃ q, q = sumT T (k + 1) := ⟨_, rfl⟩
        obtain ⟨su1, hsu1⟩ : ∃ q, q = sumT T k := ⟨_, rfl⟩
        rw [← hsu2, ← hsu1] at hst
        rw [← hsu1] at hsu hsle
        rw [← hsu2] at hsle2
        have HSU2 := Lib.hid hsu2
        have HBY := Lib.hid hby
        clear hsu2 hsu1 hby
        have k0 : (0 : Int) ≤ (k : Int) := by omega
        have kn : (k : Int) < (n : Int) := by omega
        have HGA := Lib.hid (heapAt_alloc_new wr (.cells #[.int .i64 kk, .int .i64 vv, .string ⟨tt.toArray⟩] 35))
        have HSA := Lib.hid (HS.out.grow (Grow.alloc wr (.cells #[.int .i64 kk, .int .i64 vv, .string ⟨tt.toArray⟩] 35)))
        have HMA := Lib.hid (HMM.out.grow (Grow.alloc wr (.cells #[.int .i64 kk, .int .i64 vv, .string ⟨tt.toArray⟩] 35)))
        have HBA := Lib.hid (show Below w.heap.size w (wr.alloc (.cells #[.int .i64 kk, .int .i64 vv, .string ⟨tt.toArray⟩] 35)) from HB.out.alloc HS.out.base_le _)
        have HOR := Lib.hid (show wr.heap.size ≠ r from by have := HS.out.ltr; omega)
        have HOG := Lib.hid (show wr.heap.size ≠ g from by have := HS.out.ltg; omega)
        have HOM := Lib.hid (show wr.heap.size ≠ m from by have := HMM.out.lt; omega)
        by_cases h1 : kk = 1
        · have hkk := h1
          by_cases hok : 1 ≤ tt.length ∧ tt.length ≤ 179
          · rw [hkk] at m0 HGA HSA HBA HMA
            obtain ⟨px, s2, hps⟩ : ∃ x s2, put cap 0 s tt = (x, s2) := ⟨_, _, rfl⟩
            obtain ⟨hx, hsum, hcnt⟩ := put_sum cap 0 tt s hok.1 hok.2
            rw [hps] at hx hsum hcnt
            dsimp only at hx hsum hcnt
            obtain ⟨by2, hby2⟩ : ∃ q, q = s2.used + gsum s2 := ⟨_, rfl⟩
            have hb2 : by2 = by1 + tt.length := by have := HBY.out; omega
            have e5 : IntKind.i64.wrap ((by1 : Int) + (tt.length : Int)) = (by2 : Int) := by rw [IntKind.wrap_i64]; omega
            obtain ⟨f2, hf2⟩ : ∃ q, q = fn + 1 := ⟨_, rfl⟩
            have e6 : IntKind.u64.wrap ((fn : Int) + 1) = (f2 : Int) := by rw [IntKind.wrap_u64]; omega
            have HB2 := Lib.hid hb2
            have HBY2 := Lib.hid hby2
            have HF2 := Lib.hid hf2
            have HCNT := Lib.hid hcnt
            clear hsum hb2 hby2 hf2 hcnt
            go_wp2_with fail
            generalize wr.alloc (.cells #[.int .i64 1, .int .i64 vv, .string ⟨tt.toArray⟩] 35) = wA at HGA HSA HBA HMA ⊢
            refine (refPut_any HMA.out tt px s2 hps (by omega)).mono ?_
            rintro e w5 ⟨rfl, hm5, hf5⟩
            have hgo := hf5.2 _ _ HGA.out HOM.out (fun cs f => ob_ne (by decide))
            have R5 := Lib.hid (HSA.out.farM HMA.out hf5)
            have M5 := Lib.hid hm5
            have B5 := Lib.hid (show Below w.heap.size w w5 from Below.trans HBA.out hf5.1)
            have HGO := Lib.hid hgo
            have o0 := cell_block hgo 0
            have o1 := cell_block hgo 1
            have o2 := cell_block hgo 2
            simp at o0 o1 o2
            clear hgo hm5 hf5
            go_wp2_with fail
            refine (put_any R5.out tt px s2 hps (by omega)).mono ?_
            rintro e w6 ⟨rfl, hr6, hf6⟩
            have hgo := hf6.2 _ _ HGO.out (fun e => by rcases e with e | e; exact HOR.out e; exact HOG.out e) (fun cs f => ob_ne (by decide))
            have M6 := Lib.hid (M5.out.farR R5.out hf6)
            have R6 := Lib.hid hr6
            have B6 := Lib.hid (show Below w.heap.size w w6 from Below.trans B5.out hf6.1)
            clear o0 o1 o2
            have o0 := cell_block hgo 0
            have o1 := cell_block hgo 1
            have o2 := cell_block hgo 2
            simp at o0 o1 o2
            clear hgo hr6 hf6
            go_wp2_with fail
            go_roundw
            case rel => exact ⟨k + 1, by omega, by go_num, s2, f2, R6.out, M6.out, B6.out, by rw [← HBY2.out], rfl, by have := HCNT.out; have := HF2.out; omega, by have := HF2.out; omega, by rw [← HBY2.out, ← HSU2.out]; have := HB2.out; omega⟩
            case measure => simp [intOf]; omega
          · rw [hkk] at m0 HGA HSA HBA HMA
            have hps := put_one (cap := cap) (pol := 0) (s := s) hok
            go_wp2_with fail
            generalize wr.alloc (.cells #[.int .i64 1, .int .i64 vv, .string ⟨tt.toArray⟩] 35) = wA at HGA HSA HBA HMA ⊢
            refine (refPut_any HMA.out tt 1 s hps (by omega)).mono ?_
            rintro e w5 ⟨rfl, hm5, hf5⟩
            have hgo := hf5.2 _ _ HGA.out HOM.out (fun cs f => ob_ne (by decide))
            have R5 := Lib.hid (HSA.out.farM HMA.out hf5)
            have M5 := Lib.hid hm5
            have B5 := Lib.hid (show Below w.heap.size w w5 from Below.trans HBA.out hf5.1)
            have HGO := Lib.hid hgo
            have o0 := cell_block hgo 0
            have o1 := cell_block hgo 1
            have o2 := cell_block hgo 2
            simp at o0 o1 o2
            clear hgo hm5 hf5
            go_wp2_with fail
            refine (put_any R5.out tt 1 s hps (by omega)).mono ?_
            rintro e w6 ⟨rfl, hr6, hf6⟩
            have hgo := hf6.2 _ _ HGO.out (fun e => by rcases e with e | e; exact HOR.out e; exact HOG.out e) (fun cs f => ob_ne (by decide))
            have M6 := Lib.hid (M5.out.farR R5.out hf6)
            have R6 := Lib.hid hr6
            have B6 := Lib.hid (show Below w.heap.size w w6 from Below.trans B5.out hf6.1)
            clear o0 o1 o2
            have o0 := cell_block hgo 0
            have o1 := cell_block hgo 1
            have o2 := cell_block hgo 2
            simp at o0 o1 o2
            clear hgo hr6 hf6
            go_wp2_with fail
            go_roundw
            case rel => exact ⟨k + 1, by omega, by go_num, s, fn, R6.out, M6.out, B6.out, by rw [HBY.out], rfl, by omega, by omega, by rw [← HBY.out, ← HSU2.out]; omega⟩
            case measure => simp [intOf]; omega
        by_cases h2 : kk = 2
        · have hkk := h2
          rw [hkk] at m0 HGA HSA HBA HMA
          have hwf : WF cap s := by have := HMA.out; unfold MAt at this; exact this.2.2.1
          obtain ⟨hdu, hdg⟩ := drain_used hwf vv
          have hdc := drain_count (most s vv) s
          obtain ⟨s2, hds⟩ : ∃ s2, drain s (most s vv) = s2 := ⟨_, rfl⟩
          obtain ⟨oo, hoo⟩ : ∃ o, s.bytes.take (most s vv) = o := ⟨_, rfl⟩
          have hol : oo.length = most s vv := by
            rw [← hoo, List.length_take]
            have : s.bytes.length = s.used := by unfold RG.used; rfl
            omega
          rw [hds] at hdu hdg hdc
          obtain ⟨by2, hby2⟩ : ∃ q, q = s2.used + gsum s2 := ⟨_, rfl⟩
          have hb2 : by2 + oo.length = by1 := by have := HBY.out; omega
          have e5 : IntKind.i64.wrap ((by1 : Int) - (oo.length : Int)) = (by2 : Int) := by rw [IntKind.wrap_i64]; omega
          have HB2 := Lib.hid hb2
          have HBY2 := Lib.hid hby2
          have HDC := Lib.hid hdc
          clear hwf hdu hdg hol hb2 hby2 hdc
          go_wp2_with fail
          generalize wr.alloc (.cells #[.int .i64 2, .int .i64 vv, .string ⟨tt.toArray⟩] 35) = wA at HGA HSA HBA HMA ⊢
          refine (refDrain_any HMA.out vv HVV.out oo s2 hoo hds).mono ?_
          rintro e w5 ⟨rfl, hm5, hf5⟩
          have hgo := hf5.2 _ _ HGA.out HOM.out (fun cs f => ob_ne (by decide))
          have R5 := Lib.hid (HSA.out.farM HMA.out hf5)
          have M5 := Lib.hid hm5
          have B5 := Lib.hid (show Below w.heap.size w w5 from Below.trans HBA.out hf5.1)
          have o0 := cell_block hgo 0
          have o1 := cell_block hgo 1
          have o2 := cell_block hgo 2
          simp at o0 o1 o2
          clear hgo hm5 hf5
          go_wp2_with fail
          refine (drain_any R5.out vv (most s vv) oo s2 (by unfold most; rfl) hoo hds).mono ?_
          rintro e w6 ⟨rfl, hr6, hf6⟩
          have M6 := Lib.hid (M5.out.farR R5.out hf6)
          have R6 := Lib.hid hr6
          have B6 := Lib.hid (show Below w.heap.size w w6 from Below.trans B5.out hf6.1)
          clear hr6 hf6 hoo hds
          go_wp2_with fail
          go_roundw
          case rel => exact ⟨k + 1, by omega, by go_num, s2, fn, R6.out, M6.out, B6.out, by rw [← HBY2.out], rfl, by have := HDC.out; omega, by omega, by rw [← HBY2.out, ← HSU2.out]; have := HB2.out; omega⟩
          case measure => simp [intOf]; omega
        have b1 : (kk == 1) = false := by simpa using h1
        have b2 : (kk == 2) = false := by simpa using h2
        go_wp2_with fail
        go_roundw
        case rel => exact ⟨k + 1, by omega, by go_num, s, fn, HSA.out, HMA.out, HBA.out, by rw [HBY.out], rfl, by omega, by omega, by rw [← HBY.out, ← HSU2.out]; omega⟩
        case measure => simp [intOf]; omega
      · have kn : ¬ (k : Int) < (n : Int) := by omega
        obtain ⟨v, v2, hw⟩ : ∃ v v2, MW wr w.heap.size m cap 0 v v2 s.L s.gone s.begun s.gone.length := by have := HMM.out; unfold MAt at this; exact this.2.2.2
        have hwf : WF cap s := by have := HMM.out; unfold MAt at this; exact this.2.2.1
        obtain ⟨A5, c5', hv5, hc5, hT5⟩ := own_texts hw.gon
        have c5 := hw.c5
        rw [hv5] at c5
        have HT5 := Lib.hid hT5
        have hg1 : s.gone.length ≤ 300 := by omega
        have hgs : s.gone.flatten.length = gsum s := by unfold gsum; rfl
        have HBY := Lib.hid hby
        have hgsle : gsum s ≤ by1 := by omega
        have HGS := Lib.hid hgs
        clear hw hv5 hT5 hgs hby
        go_wp2_with fail
        go_loopw [90, 15, 17] (fun i sv _ wq => ∃ j : Nat, j ≤ s.gone.length ∧ i = .int .i64 j ∧ sv = .int .i64 (sumF s.gone j) ∧ wq = wr) (fun i _ _ _ => s.gone.length - (intOf i).toNat)
        case atStart => exact ⟨0, by omega, rfl, by rw [sumF_zero]; rfl, rfl⟩
        case round =>
          obtain ⟨j, hj, rfl, rfl, rfl⟩ := hrel
          by_cases hjl : j < s.gone.length
          · obtain ⟨g5, rfl, hcc, _⟩ := HT5.out (by omega)
            have z1 := hcc j hjl
            have hs := sumF_succ s.gone j hjl
            have hle := sumF_le s.gone (j + 1)
            have hgg := HGS.out
            generalize s.gone.getD j [] = f at *
            obtain ⟨sq, hsq⟩ : ∃ q, q = sumF s.gone (j + 1) := ⟨_, rfl⟩
            rw [← hsq] at hs hle
            generalize sumF s.gone j = sp at *
            have k0 : (0 : Int) ≤ (j : Int) := by omega
            have kn : (j : Int) < (s.gone.length : Int) := by omega
            have e1 : IntKind.i64.wrap ((sp : Int) + (f.length : Int)) = (sq : Int) := by rw [IntKind.wrap_i64]; omega
            have HSQ := Lib.hid hsq
            clear hs hle hgg hsq hcc
            go_wp2_with fail
            go_roundw
            case rel => exact ⟨j + 1, by omega, by go_num, by rw [HSQ.out], trivial⟩
            case measure => simp [intOf]; omega
          · have kn : ¬ (j : Int) < (s.gone.length : Int) := by omega
            have hjg : j = s.gone.length := by omega
            subst hjg
            obtain ⟨hd1, hd2, hd3⟩ := drain_all hwf
            obtain ⟨us, hus⟩ : ∃ q, s.used = q := ⟨_, rfl⟩
            have hdg := drain_gone (most s (s.used : Nat)) s
            have hbl : s.bytes.length = us := by rw [← hus]; unfold RG.used; rfl
            rw [hus] at hd1 hd2 hd3 hdg
            obtain ⟨s2, hds⟩ : ∃ s2, drain s (most s (us : Nat)) = s2 := ⟨_, rfl⟩
            rw [hds] at hd1 hd2 hdg
            obtain ⟨oo, hoo⟩ : ∃ o, s.bytes = o := ⟨_, rfl⟩
            rw [hoo] at hd3 hbl
            have hu2 : s2.used = 0 := by unfold RG.used RG.bytes; rw [hd1]; rfl
            have hl2 : s2.L.length = 0 := by rw [hd1]; rfl
            obtain ⟨gg, hgg⟩ : ∃ q, q = sumF s.gone s.gone.length := ⟨_, rfl⟩
            have hgg2 : gg = gsum s := by rw [hgg, sumF_all, HGS.out]
            rw [← hgg]
            have e7 : IntKind.i64.wrap ((by1 : Int) - (gg : Int)) = (us : Int) := by have := HBY.out; rw [IntKind.wrap_i64]; omega
            have e8 : IntKind.u64.wrap (s.gone.length : Int) = (s.gone.length : Int) := by rw [IntKind.wrap_u64]; omega
            have hbb : ((oo.length : Nat) : Int) = (us : Int) := by omega
            have hff : (s.gone.length : Int) ≤ (fn : Int) := by omega
            clear hgg hgg2 hwf hd1
            go_wp2_with fail
            refine (used_ring HS.out us hus).mono ?_
            rintro e wx ⟨rfl, hwx⟩
            subst hwx
            go_wp2_with fail
            refine (drain_any HS.out (us : Nat) (most s (us : Nat)) oo s2 (by unfold most; rfl) (by rw [← hoo] at hd3 ⊢; exact hd3) hds).mono ?_
            rintro e w8 ⟨rfl, hr8, hf8⟩
            have c5w := hf8.2
            have M8 := Lib.hid (HMM.out.farR HS.out hf8)
            have R8 := Lib.hid hr8
            have B8 := Lib.hid (show Below w.heap.size w w8 from Below.trans HB.out hf8.1)
            obtain ⟨v3, v4, hw3⟩ : ∃ v v2, MW w8 w.heap.size m cap 0 v v2 s.L s.gone s.begun s.gone.length := by have := M8.out; unfold MAt at this; exact this.2.2.2
            obtain ⟨A6, c6', hv6, _, _⟩ := own_texts hw3.gon
            have c6 := hw3.c5
            rw [hv6] at c6
            have H1 := Lib.hid fun (q : Nat) => used_ring (R8.out.grow (Grow.drewN w8 q)) 0 hu2
            have H3 := Lib.hid fun (q : Nat) => held_ring (R8.out.grow (Grow.drewN w8 q)) 0 hl2
            have H4 := Lib.hid fun (q : Nat) => begun_ring (R8.out.grow (Grow.drewN w8 q)) false hd2
            have H5 := Lib.hid fun (q : Nat) => lost_ring (R8.out.grow (Grow.drewN w8 q)) s.gone.length hdg
            clear hr8 hf8 c5w hw3 hv6 hu2 hl2 hd2 hdg hd3 hus hoo hds c5
            go_wp2_with fail
            go_quiet ((first | (go_at_call 16; exact Calls.quiet_of_same (H1.out _)) | (go_at_call 17; exact Calls.quiet_of_same (H3.out _)) | (go_at_call 18; exact Calls.quiet_of_same (H4.out _)) | (go_at_call 19; exact Calls.quiet_of_same (H5.out _))))
            have HE := Lib.hid (below_drewN B8.out nq)
            go_wp2
            go_ret
            exact ⟨rfl, HE.out⟩
end Go.Proofs.Ytdicgpbdfnlniaa
