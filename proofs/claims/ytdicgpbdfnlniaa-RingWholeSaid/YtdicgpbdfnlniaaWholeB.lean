/- The walk of RingWhole. -/
import Derived.Test.YtdicgpbdfnlniaaWhole
namespace Go.Proofs.Ytdicgpbdfnlniaa
open Go.RowKit
set_option linter.unusedVariables false
set_option linter.unusedSimpArgs false
set_option maxRecDepth 100000
attribute [local irreducible] roomC ringC strOf outC RingAt put drain RG.used RG.bytes RG.sizes sumT GP refC texts sumF MAt most gsum
set_option maxHeartbeats 16000000 in
theorem whole_old (cap : Nat) (A : Option Addr) (n scap : Nat) (K V : Nat → Int) (T : Nat → List UInt8) (w : World) (hcap : 179 ≤ cap) (hcap2 : cap ≤ 1048576) (hn : n ≤ scap) (hmx : scap ≤ maxLen) (hM : ScriptAt w A n K V T) (hV : ∀ j, j < n → V j ≤ 9223372036854775807) : Calls Try.prog 5 #[.int .i64 cap, .bool true, .slice A n scap] w fun e w' => e = .returned (.bool true) ∧ Below w.heap.size w w' := by
  have HM := Lib.hid hM; clear hM
  have HV := Lib.hid hV; clear hV
  go_enter Try.func5, Try.ntmps5
  go_wp2_with fail
  refine (new_ok w w.heap.size cap 1 hcap hcap2 (.inr rfl) (Nat.le_refl _)).mono ?_
  rintro e w1 ⟨r, g, rfl, hr, hg⟩
  have HR := Lib.hid hr
  have HG := Lib.hid hg
  clear hr hg
  go_wp2_with fail
  refine (awake_any w1).mono ?_
  rintro e w2 ⟨rfl, hg⟩
  replace HR := Lib.hid (HR.out.grow hg)
  replace HG := Lib.hid (HG.out.trans hg)
  clear hg
  go_wp2_with fail
  refine (great_any w2 A n scap K V T hn hmx (HM.out.grow HG.out)).mono ?_
  rintro e w3 hgp
  unfold GP at hgp
  obtain ⟨b, rfl, hg, hsm⟩ := hgp
  replace HR := Lib.hid (HR.out.grow hg)
  replace HG := Lib.hid (HG.out.trans hg)
  clear hg
  cases b with
  | true =>
    clear hsm
    go_wp2_with fail
    refine (awake_any w3).mono ?_
    rintro e w4 ⟨rfl, hg⟩
    replace HG := Lib.hid (HG.out.trans hg)
    clear hg
    go_wp2
    go_ret
    exact ⟨rfl, HG.out⟩
  | false =>
    have hn3 := (hsm rfl).1
    have HSM := Lib.hid (hsm rfl).2
    clear hsm
    have HMA0 := Lib.hid (new_ref (w := w3) (base := w.heap.size) (cap := cap) (pol := 1) hcap hcap2 HG.out.size)
    have HG4 := Lib.hid (HG.out.trans (Grow.alloc w3 (.cells #[.int .i64 cap, .int .i64 1, .slice none 0 0, .bool false, .int .u64 0, .slice none 0 0] 33)))
    have HR4 := Lib.hid (HR.out.grow (Grow.alloc w3 (.cells #[.int .i64 cap, .int .i64 1, .slice none 0 0, .bool false, .int .u64 0, .slice none 0 0] 33)))
    go_wp2_with fail
    generalize w3.alloc _ = w4 at HMA0 HG4 HR4 ⊢
    generalize w3.heap.size = m at HMA0 ⊢
    go_loopw [43, 11, 12] (fun i bv fv wr => ∃ k : Nat, k ≤ n ∧ i = .int .i64 k ∧ ∃ (s : RG) (o : List UInt8), RingAt wr w.heap.size r g cap 1 s ∧ MAt wr w.heap.size m cap 1 s ∧ Below w.heap.size w wr ∧ bv = .string ⟨o.toArray⟩ ∧ fv = .string ⟨o.toArray⟩ ∧ s.gone.length + s.L.length ≤ k ∧ o.length + s.used + gsum s ≤ sumT T k) (fun i _ _ _ => n - (intOf i).toNat)
    case atStart => exact ⟨0, by omega, rfl, s0, [], HR4.out, HMA0.out, HG4.out, rfl, rfl, by simp [s0], by have := used0; simp; omega⟩
    case round =>
      obtain ⟨k, hk, rfl, s, o, hs, hm, hbl, rfl, rfl, hfk, hsu⟩ := hrel
      have HS := Lib.hid hs
      have HMM := Lib.hid hm
      have HB := Lib.hid hbl
      have hsle := sumT_le T n k hk
      have hsn := HSM.out
      clear hs hbl hm
      by_cases hlt : k < n
      · obtain ⟨a, hA, hm⟩ := (HM.out.grow HB.out) (by omega)
        obtain ⟨m0, m1, m2⟩ := hm k hlt
        have HVV := Lib.hid (HV.out k hlt)
        have hst := sumT_succ T k
        have hsle2 := sumT_le T n (k + 1) hlt
        rw [hA]
        clear hm hA
        generalize K k = kk at *
        generalize V k = vv at *
        generalize T k = tt at *
        obtain ⟨su2, hsu2⟩ : ∃ q, q = sumT T (k + 1) := ⟨_, rfl⟩
        obtain ⟨su1, hsu1⟩ : ∃ q, q = sumT T k := ⟨_, rfl⟩
        rw [← hsu2, ← hsu1] at hst
        rw [← hsu1] at hsu hsle
        rw [← hsu2] at hsle2
        have HSU2 := Lib.hid hsu2
        clear hsu2 hsu1
        have k0 : (0 : Int) ≤ (k : Int) := by omega
        have kn : (k : Int) < (n : Int) := by omega
        have HGA := Lib.hid (heapAt_alloc_new wr (.cells #[.int .i64 kk, .int .i64 vv, .string ⟨tt.toArray⟩] 35))
        have HSA := Lib.hid (HS.out.grow (Grow.alloc wr (.cells #[.int .i64 kk, .int .i64 vv, .string ⟨tt.toArray⟩] 35)))
        have HMA := Lib.hid (HMM.out.grow (Grow.alloc wr (.cells #[.int .i64 kk, .int .i64 vv, .string ⟨tt.toArray⟩] 35)))
        have HBA := Lib.hid (show Below w.heap.size w (wr.alloc (.cells #[.int .i64 kk, .int .i64 vv, .string ⟨tt.toArray⟩] 35)) from HB.out.alloc HS.out.base_le _)
        have HOR := Lib.hid (show wr.heap.size ≠ r from by have := HS.out.ltr; omega)
        have HOG := Lib.hid (show wr.heap.size ≠ g from by have := HS.out.ltg; omega)
        have HOM := Lib.hid (show wr.heap.size ≠ m from by have := HMM.out.lt; omega)
        by_cases h1 : kk = 1
        · have hkk := h1
          rw [hkk] at m0 HGA HSA HBA HMA
          obtain ⟨px, s2, hps⟩ : ∃ x s2, put cap 1 s tt = (x, s2) := ⟨_, _, rfl⟩
          have hsum : s2.used + gsum s2 ≤ s.used + gsum s + tt.length ∧ s2.gone.length + s2.L.length ≤ s.gone.length + s.L.length + 1 := by
            by_cases hok : 1 ≤ tt.length ∧ tt.length ≤ 179
            · obtain ⟨_, h1, h2⟩ := put_sum cap 1 tt s hok.1 hok.2
              rw [hps] at h1 h2
              dsimp only at h1 h2
              omega
            · have h1 := put_one (cap := cap) (pol := 1) (s := s) hok
              rw [hps] at h1
              have h2 : s2 = s := (Prod.mk.inj h1).2
              rw [h2]; omega
          have HSUM := Lib.hid hsum
          clear hsum
          go_wp2_with fail
          generalize wr.alloc (.cells #[.int .i64 1, .int .i64 vv, .string ⟨tt.toArray⟩] 35) = wA at HGA HSA HBA HMA ⊢
          refine (put_any HSA.out tt px s2 hps (by omega)).mono ?_
          rintro e w5 ⟨rfl, hr5, hf5⟩
          have hgo := hf5.2 _ _ HGA.out (fun e => by rcases e with e | e; exact HOR.out e; exact HOG.out e) (fun cs f => ob_ne (by decide))
          have M5 := Lib.hid (HMA.out.farR HSA.out hf5)
          have R5 := Lib.hid hr5
          have B5 := Lib.hid (show Below w.heap.size w w5 from Below.trans HBA.out hf5.1)
          have o0 := cell_block hgo 0
          have o1 := cell_block hgo 1
          have o2 := cell_block hgo 2
          simp at o0 o1 o2
          clear hgo hr5 hf5
          go_wp2_with fail
          refine (refPut_any M5.out tt px s2 hps (by omega)).mono ?_
          rintro e w6 ⟨rfl, hm6, hf6⟩
          have R6 := Lib.hid (R5.out.farM M5.out hf6)
          have M6 := Lib.hid hm6
          have B6 := Lib.hid (show Below w.heap.size w w6 from Below.trans B5.out hf6.1)
          clear hm6 hf6
          go_wp2_with fail
          go_roundw
          case rel => exact ⟨k + 1, by omega, by go_num, s2, o, R6.out, M6.out, B6.out, rfl, rfl, by have := HSUM.out; omega, by rw [← HSU2.out]; have := HSUM.out; omega⟩
          case measure => simp [intOf]; omega
        by_cases h2 : kk = 2
        · have hkk := h2
          rw [hkk] at m0 HGA HSA HBA HMA
          have hwf : WF cap s := by have := HMA.out; unfold MAt at this; exact this.2.2.1
          obtain ⟨hdu, hdg⟩ := drain_used hwf vv
          have hdc := drain_count (most s vv) s
          obtain ⟨s2, hds⟩ : ∃ s2, drain s (most s vv) = s2 := ⟨_, rfl⟩
          obtain ⟨oo, hoo⟩ : ∃ o, s.bytes.take (most s vv) = o := ⟨_, rfl⟩
          have hol : oo.length = most s vv := by
            rw [← hoo, List.length_take]
            have : s.bytes.length = s.used := by unfold RG.used; rfl
            omega
          rw [hds] at hdu hdg hdc
          have hcat := ba_append o oo
          have hle : ¬ 9223372036854775807 < o.length + oo.length := by omega
          have HSUM := Lib.hid (show (o ++ oo).length + s2.used + gsum s2 = o.length + s.used + gsum s by rw [List.length_append]; omega)
          have HDC := Lib.hid hdc
          clear hwf hdu hdg hol hdc
          go_wp2_with fail
          generalize wr.alloc (.cells #[.int .i64 2, .int .i64 vv, .string ⟨tt.toArray⟩] 35) = wA at HGA HSA HBA HMA ⊢
          refine (drain_any HSA.out vv (most s vv) oo s2 (by unfold most; rfl) hoo hds).mono ?_
          rintro e w5 ⟨rfl, hr5, hf5⟩
          have hgo := hf5.2 _ _ HGA.out (fun e => by rcases e with e | e; exact HOR.out e; exact HOG.out e) (fun cs f => ob_ne (by decide))
          have M5 := Lib.hid (HMA.out.farR HSA.out hf5)
          have R5 := Lib.hid hr5
          have B5 := Lib.hid (show Below w.heap.size w w5 from Below.trans HBA.out hf5.1)
          have o0 := cell_block hgo 0
          have o1 := cell_block hgo 1
          have o2 := cell_block hgo 2
          simp at o0 o1 o2
          clear hgo hr5 hf5
          go_wp2_with fail
          refine (refDrain_any M5.out vv HVV.out oo s2 hoo hds).mono ?_
          rintro e w6 ⟨rfl, hm6, hf6⟩
          have R6 := Lib.hid (R5.out.farM M5.out hf6)
          have M6 := Lib.hid hm6
          have B6 := Lib.hid (show Below w.heap.size w w6 from Below.trans B5.out hf6.1)
          clear hm6 hf6 hoo hds
          go_wp2_with fail
          go_roundw
          case rel => exact ⟨k + 1, by omega, by go_num, s2, o ++ oo, R6.out, M6.out, B6.out, rfl, rfl, by have := HDC.out; omega, by rw [← HSU2.out]; have := HSUM.out; omega⟩
          case measure => simp [intOf]; omega
        have b1 : (kk == 1) = false := by simpa using h1
        have b2 : (kk == 2) = false := by simpa using h2
        go_wp2_with fail
        go_roundw
        case rel => exact ⟨k + 1, by omega, by go_num, s, o, HSA.out, HMA.out, HBA.out, rfl, rfl, by omega, by rw [← HSU2.out]; omega⟩
        case measure => simp [intOf]; omega
      · have kn : ¬ (k : Int) < (n : Int) := by omega
        have hwf : WF cap s := by have := HMM.out; unfold MAt at this; exact this.2.2.1
        obtain ⟨hd1, hd2, hd3⟩ := drain_all hwf
        obtain ⟨us, hus⟩ : ∃ q, s.used = q := ⟨_, rfl⟩
        have hbl : s.bytes.length = us := by rw [← hus]; unfold RG.used; rfl
        rw [hus] at hd3
        obtain ⟨s2, hds⟩ : ∃ s2, drain s (most s (us : Nat)) = s2 := ⟨_, rfl⟩
        obtain ⟨oo, hoo⟩ : ∃ o, s.bytes = o := ⟨_, rfl⟩
        have hfl : s.L.flatten = oo := by rw [← hoo]; unfold RG.bytes; rfl
        rw [hoo] at hd3 hbl
        have hcat := ba_append o oo
        have hle : ¬ 9223372036854775807 < o.length + oo.length := by omega
        have HFL := Lib.hid hfl
        have hL3 := hwf.len
        have htot : o.length + oo.length ≤ 32768 := by omega
        clear hwf hd1 hd2 hfl
        go_wp2_with fail
        refine (used_ring HS.out us hus).mono ?_
        rintro e wx ⟨rfl, hwx⟩
        subst hwx
        go_wp2_with fail
        refine (drain_any HS.out (us : Nat) (most s (us : Nat)) oo s2 (by unfold most; rfl) (by rw [← hoo] at hd3 ⊢; exact hd3) hds).mono ?_
        rintro e w8 ⟨rfl, hr8, hf8⟩
        have M8 := Lib.hid (HMM.out.farR HS.out hf8)
        have B8 := Lib.hid (show Below w.heap.size w w8 from Below.trans HB.out hf8.1)
        obtain ⟨v3, v4, hw3⟩ : ∃ v v2, MW w8 w.heap.size m cap 1 v v2 s.L s.gone s.begun s.gone.length := by have := M8.out; unfold MAt at this; exact this.2.2.2
        obtain ⟨A6, c6', hv6, hc6, hT6⟩ := own_texts hw3.row
        rw [hv6] at hw3
        have HT6 := Lib.hid hT6
        have HBK := Lib.hid hw3.blk
        have HMB := Lib.hid hw3.hm
        have HROW := Lib.hid hw3.row
        clear hr8 hf8 hd3 hus hoo hds hv6 hT6 hw3
        obtain ⟨g6, hg6, hcell6⟩ : ∃ g6, (0 < s.L.length → A6 = some ⟨g6, 0, none⟩ ∧ g6 ≠ m) ∧ ∀ i, i < s.L.length → w8.cell? ⟨g6, i, none⟩ = some (.string ⟨(s.L.getD i []).toArray⟩) := by
          by_cases h0 : 0 < s.L.length
          · obtain ⟨g6, rfl, hcc, _⟩ := HT6.out h0
            refine ⟨g6, fun _ => ⟨rfl, fun e => ?_⟩, hcc⟩
            obtain ⟨cs, f, hk⟩ := own_kind HROW.out rfl
            exact ty_ne hk HBK.out (by decide) e
          · exact ⟨0, fun h => absurd h h0, fun i hi => by omega⟩
        obtain ⟨n0, hn0⟩ : ∃ q, q = s.L.length := ⟨_, rfl⟩
        rw [← hn0] at hg6 hcell6 hc6
        have hbk := HBK.out
        rw [← hn0] at hbk
        have HBK2 := Lib.hid hbk
        have HG6 := Lib.hid hg6
        have HC6 := Lib.hid hcell6
        have HN0 := Lib.hid hn0
        have hn0c : n0 ≤ 1048576 := by omega
        have hflat := flat_le s.L
        rw [HFL.out] at hflat
        have HFLE := Lib.hid hflat
        clear hbk hg6 hcell6 hn0 hflat
        have c2 := cell_block HBK2.out 2
        rw [refC2] at c2
        go_wp2_with fail
        go_loopw [12] (fun wv wq => ∃ (j : Nat) (A' : Option Addr), j ≤ n0 ∧ wv = .string ⟨(o ++ (s.L.take j).flatten).toArray⟩ ∧ wq.heap[m]? = some (.cells (refC cap 1 (.slice A' (n0 - j) (c6' - j)) s.begun s.gone.length v4) 33 (0, 0)) ∧ (j < n0 → A' = some ⟨g6, j, none⟩) ∧ (∀ i, i < n0 → wq.cell? ⟨g6, i, none⟩ = some (.string ⟨(s.L.getD i []).toArray⟩)) ∧ Below w.heap.size w wq) (fun _ wq => lenAtM m wq)
        case atStart => exact ⟨0, A6, Nat.zero_le _, by simp, HBK2.out, fun h => (HG6.out h).1, HC6.out, B8.out⟩
        case round =>
          obtain ⟨j, A', hj, rfl, hbq, hA', hcq, hblq⟩ := hrel
          have HBQ := Lib.hid hbq
          have HCQ := Lib.hid hcq
          have HLQ := Lib.hid hblq
          have c2 := cell_block hbq 2
          rw [refC2] at c2
          have f2 := free_block hbq 2
          obtain ⟨q, hq⟩ : ∃ q, q = n0 - j := ⟨_, rfl⟩
          obtain ⟨cq, hcq2⟩ : ∃ q, q = c6' - j := ⟨_, rfl⟩
          rw [← hq, ← hcq2] at c2
          have hqc : q ≤ cq := by omega
          by_cases hjn : j < n0
          · have hA := hA' hjn
            subst hA
            have z1 := hcq j hjn
            have hft := flat_take (L := s.L) (j := j) (by rw [← HN0.out]; exact hjn)
            have hfe := HFLE.out (j + 1)
            rw [hft, List.length_append] at hfe
            generalize s.L.getD j [] = f at z1 hft hfe
            have hqi : (0 : Int) < (q : Int) := by omega
            have hqn : 0 < q := by omega
            have hq1 : (1 : Int) ≤ (q : Int) := by omega
            have hw1 : IntKind.i64.wrap 1 = 1 := by rw [IntKind.wrap_i64]; omega
            have hle2 : ¬ 9223372036854775807 < (o ++ (s.L.take j).flatten).length + f.length := by rw [List.length_append]; omega
            have hcat2 := ba_append (o ++ (s.L.take j).flatten) f
            have hoft : o ++ (s.L.take (j + 1)).flatten = (o ++ (s.L.take j).flatten) ++ f := by rw [hft, List.append_assoc]
            obtain ⟨ow, how⟩ : ∃ x, x = o ++ (s.L.take j).flatten := ⟨_, rfl⟩
            rw [← how] at hle2 hcat2 hoft ⊢
            have hqa : q - 1 = n0 - (j + 1) := by omega
            have hca : cq - 1 = c6' - (j + 1) := by omega
            have HQA := Lib.hid hqa
            have HCA := Lib.hid hca
            have HOFT := Lib.hid hoft
            have HQ := Lib.hid hq
            have HCQ2 := Lib.hid hcq2
            have hlenq : lenAtM m wr = q := by unfold lenAtM; rw [c2]
            have HLEN := Lib.hid hlenq
            clear hft hfe hoft hqa hca how hq hcq2 hlenq hA' hbq hcq hblq
            have HSET := Lib.hid (show ∀ (x : Option Addr), (wr.setCell ⟨m, 2, none⟩ (.slice x (q - 1) (cq - 1))).heap[m]? = some (.cells (refC cap 1 (.slice x (n0 - (j + 1)) (c6' - (j + 1))) s.begun s.gone.length v4) 33 (0, 0)) from fun x => by rw [set_block HBQ.out, refC_set2, HQA.out, HCA.out])
            have HCEL := Lib.hid (show ∀ (x : Option Addr) (i : Nat), i < n0 → (wr.setCell ⟨m, 2, none⟩ (.slice x (q - 1) (cq - 1))).cell? ⟨g6, i, none⟩ = some (.string ⟨(s.L.getD i []).toArray⟩) from fun x i hi => (World.cell?_of_block (a := ⟨g6, i, none⟩) (set_block_other (HG6.out (by omega)).2 2 _)).trans (HCQ.out i hi))
            have HLW := Lib.hid (show ∀ (x : Option Addr), Below w.heap.size w (wr.setCell ⟨m, 2, none⟩ (.slice x (q - 1) (cq - 1))) from fun x => Below.setCell (p := ⟨m, 2, none⟩) HLQ.out HMB.out _)
            by_cases hc1 : cq = 1
            · subst hc1
              have hq0 : q = 1 := by omega
              subst hq0
              go_wp2_with fail
              go_roundw
              case rel => exact ⟨j + 1, _, by omega, by rw [HOFT.out], HSET.out _, fun h => by have := HQ.out; omega, HCEL.out _, HLW.out _⟩
              case measure =>
                rw [HLEN.out]
                have := cell_block (HSET.out (some ⟨g6, j, none⟩)) 2
                rw [refC2] at this
                unfold lenAtM
                simp only [Nat.sub_self] at this ⊢
                rw [this]
                have := HQ.out
                show n0 - (j + 1) < 1
                omega
            · go_wp2_with fail
              go_roundw
              case rel => exact ⟨j + 1, _, by omega, by rw [HOFT.out], HSET.out _, fun h => rfl, HCEL.out _, HLW.out _⟩
              case measure =>
                rw [HLEN.out]
                have := cell_block (HSET.out (some ⟨g6, j + 1, none⟩)) 2
                rw [refC2] at this
                unfold lenAtM
                rw [this]
                show n0 - (j + 1) < q
                have := HQ.out
                omega
          · have hjn2 : j = n0 := by omega
            have hq0 : q = 0 := by omega
            subst hq0
            have hend : o ++ (s.L.take j).flatten = o ++ oo := by rw [hjn2, HN0.out, List.take_length, HFL.out]
            rw [hend]
            clear hend hq hcq2
            go_wp2
            go_ret
            exact ⟨rfl, HLQ.out⟩
theorem whole_bad (cap : Int) (old : Bool) (A : Option Addr) (n scap : Nat) (w : World) (hb : cap < 179 ∨ 1048576 < cap) : Calls Try.prog 5 #[.int .i64 cap, .bool old, .slice A n scap] w fun e w' => e = .returned (.bool true) ∧ Below w.heap.size w w' := by
  have h : ∀ p : Int, cap < 179 ∨ 1048576 < cap ∨ (p ≠ 0 ∧ p ≠ 1) := fun p => by rcases hb with h | h; exact .inl h; exact .inr (.inl h)
  clear hb
  cases old
  · skip
    go_enter Try.func5, Try.ntmps5
    go_wp2_with fail
    refine (new_bad w cap 0 (h 0)).mono ?_
    rintro e w1 ⟨rfl, hw⟩
    subst hw
    clear h
    go_wp2_with fail
    refine (awake_any _).mono ?_
    rintro e w2 ⟨rfl, hg⟩
    have HG := Lib.hid hg
    clear hg
    go_wp2_with fail
    refine (awake_any w2).mono ?_
    rintro e w4 ⟨rfl, hg⟩
    replace HG := Lib.hid (HG.out.trans hg)
    clear hg
    go_wp2
    go_ret
    exact ⟨rfl, HG.out⟩
  · skip
    go_enter Try.func5, Try.ntmps5
    go_wp2_with fail
    refine (new_bad w cap 1 (h 1)).mono ?_
    rintro e w1 ⟨rfl, hw⟩
    subst hw
    clear h
    go_wp2_with fail
    refine (awake_any _).mono ?_
    rintro e w2 ⟨rfl, hg⟩
    have HG := Lib.hid hg
    clear hg
    go_wp2_with fail
    refine (awake_any w2).mono ?_
    rintro e w4 ⟨rfl, hg⟩
    replace HG := Lib.hid (HG.out.trans hg)
    clear hg
    go_wp2
    go_ret
    exact ⟨rfl, HG.out⟩
end Go.Proofs.Ytdicgpbdfnlniaa
