/- The walk of the reference's Drain. -/
import Derived.Test.YtdicgpbdfnlniaaRefPut
import Derived.Test.YtdicgpbdfnlniaaRefPutB
namespace Go.Proofs.Ytdicgpbdfnlniaa
open Go.RowKit
set_option linter.unusedVariables false
set_option linter.unusedSimpArgs false
set_option maxRecDepth 100000
theorem refPut_bad (w : World) (m : Nat) (t : List UInt8) (ht : ¬ (1 ≤ t.length ∧ t.length ≤ 179)) : Calls Try.prog 12 #[.pointer (some ⟨m, 0, none⟩), .string ⟨t.toArray⟩] w fun e w' => e = .returned (.int .i64 1) ∧ w' = w := by
  by_cases h1 : (t.length : Int) < 1
  · clear ht
    go_enter Try.func12, Try.ntmps12
    go_wp2
    go_ret
    exact ⟨rfl, rfl⟩
  · have h2 : (179 : Int) < (t.length : Int) := by omega
    clear ht
    go_enter Try.func12, Try.ntmps12
    go_wp2
    go_ret
    exact ⟨rfl, rfl⟩
theorem refPut_any {w : World} {base m cap : Nat} {pol : Int} {s : RG} (h : MAt w base m cap pol s) (t : List UInt8) (x : Int) (s2 : RG) (hp : put cap pol s t = (x, s2)) (hl : s.gone.length + s.L.length < 1000000) :
    Calls Try.prog 12 #[.pointer (some ⟨m, 0, none⟩), .string ⟨t.toArray⟩] w fun e w' => e = .returned (.int .i64 x) ∧ MAt w' base m cap pol s2 ∧ FarM base m w w' := by
  unfold put at hp
  split at hp
  · rename_i ht
    by_cases hb : s.begun = true
    · exact refPut_begun h hb t x s2 hp ht.1 ht.2 hl
    · exact refPut_plain h (by simpa using hb) t x s2 hp ht.1 ht.2 hl
  · rename_i ht
    obtain ⟨rfl, rfl⟩ := Prod.mk.inj hp
    refine (refPut_bad w m t ht).mono ?_
    rintro e w' ⟨rfl, rfl⟩
    exact ⟨rfl, h, Far.refl _ _ _ _⟩
/-- How many can be taken. -/
def most (s : RG) (mk : Int) : Nat := min mk.toNat s.used
theorem drain_whole {f : List UInt8} {l : List (List UInt8)} {b : Bool} {go : List (List UInt8)} {mk : Int} (h0 : 0 < f.length) (h : (f.length : Int) ≤ mk) :
    drain ⟨f :: l, b, go⟩ (most ⟨f :: l, b, go⟩ mk) = drain ⟨l, false, go⟩ (most ⟨l, false, go⟩ (mk - f.length)) ∧ (RG.bytes ⟨f :: l, b, go⟩).take (most ⟨f :: l, b, go⟩ mk) = f ++ (RG.bytes ⟨l, false, go⟩).take (most ⟨l, false, go⟩ (mk - f.length)) := by
  have e : most ⟨f :: l, b, go⟩ mk = f.length + most ⟨l, false, go⟩ (mk - f.length) := by
    simp only [most, RG.used, RG.bytes, List.flatten_cons, List.length_append]
    omega
  rw [e]
  constructor
  · unfold drain
    simp only
    rw [dr_whole (by omega) (by omega), Nat.add_sub_cancel_left]
  · simp only [RG.bytes, List.flatten_cons]
    rw [List.take_append, List.take_of_length_le (by omega)]
    simp
theorem drain_part {f : List UInt8} {l : List (List UInt8)} {b : Bool} {go : List (List UInt8)} {mk : Nat} (h0 : 0 < mk) (h : mk < f.length) :
    drain ⟨f :: l, b, go⟩ (most ⟨f :: l, b, go⟩ mk) = drain ⟨f.drop mk :: l, true, go⟩ (most ⟨f.drop mk :: l, true, go⟩ 0) ∧ (RG.bytes ⟨f :: l, b, go⟩).take (most ⟨f :: l, b, go⟩ mk) = f.take mk ++ (RG.bytes ⟨f.drop mk :: l, true, go⟩).take (most ⟨f.drop mk :: l, true, go⟩ 0) := by
  have e : most ⟨f :: l, b, go⟩ mk = mk := by
    simp only [most, RG.used, RG.bytes, List.flatten_cons, List.length_append]
    omega
  have e0 : most ⟨f.drop mk :: l, true, go⟩ 0 = 0 := by simp [most]
  rw [e, e0]
  constructor
  · unfold drain
    simp only
    rw [dr_part (by omega) (by omega)]
  · simp only [RG.bytes, List.flatten_cons]
    rw [List.take_append_of_le_length (by omega)]
    simp
theorem drain_none {s : RG} {mk : Int} (h : mk ≤ 0 ∨ s.L = []) : drain s (most s mk) = s ∧ s.bytes.take (most s mk) = [] := by
  have e : most s mk = 0 := by
    rcases h with h | h
    · simp only [most]; omega
    · simp [most, RG.used, RG.bytes, h]
  rw [e]
  exact ⟨by unfold drain; rw [dr_zero], by simp⟩
theorem ba_take (f : List UInt8) (k : Nat) : (ByteArray.mk f.toArray).extract 0 k = ByteArray.mk (f.take k).toArray := by
  apply ByteArray.ext
  rw [ByteArray.data_extract]
  apply Array.ext'
  simp
theorem ba_drop (f : List UInt8) (k : Nat) : (ByteArray.mk f.toArray).extract k f.length = ByteArray.mk (f.drop k).toArray := by
  apply ByteArray.ext
  rw [ByteArray.data_extract]
  apply Array.ext'
  simp [List.take_of_length_le]
theorem wf_whole {cap : Nat} {f : List UInt8} {l : List (List UInt8)} {b : Bool} {go : List (List UInt8)} (h : WF cap ⟨f :: l, b, go⟩) : WF cap ⟨l, false, go⟩ := by
  refine ⟨fun x hx => h.pos x (by simp [hx]), ?_, fun h => by cases h⟩
  have := h.room
  simp [RG.used, RG.bytes] at this ⊢
  omega
theorem wf_part {cap k : Nat} {f : List UInt8} {l : List (List UInt8)} {b : Bool} {go : List (List UInt8)} (h : WF cap ⟨f :: l, b, go⟩) (hk : k < f.length) : WF cap ⟨f.drop k :: l, true, go⟩ := by
  refine ⟨fun x hx => ?_, ?_, fun _ => by simp⟩
  · simp only [List.mem_cons] at hx
    rcases hx with hx | hx
    · rw [hx, List.length_drop]; omega
    · exact h.pos x (by simp [hx])
  · have := h.room
    simp [RG.used, RG.bytes] at this ⊢
    omega
attribute [local irreducible] refC texts sumF RG.used RG.bytes MAt drain most
section
variable {w : World} {base m cap : Nat} {pol : Int} {s : RG}
set_option maxHeartbeats 8000000 in
theorem refDrain_any (h : MAt w base m cap pol s) (mo : Int) (hmo : mo ≤ 9223372036854775807) (o : List UInt8) (s2 : RG) (ho : s.bytes.take (most s mo) = o) (hs : drain s (most s mo) = s2) :
    Calls Try.prog 14 #[.pointer (some ⟨m, 0, none⟩), .int .i64 mo] w fun e w' => e = .returned (.string ⟨o.toArray⟩) ∧ MAt w' base m cap pol s2 ∧ FarM base m w w' := by
  have hcap : 179 ≤ cap := by unfold MAt at h; exact h.1
  have hcap2 : cap ≤ 1048576 := by unfold MAt at h; exact h.2.1
  have holen : o.length ≤ 1048576 := by
    have h3 : WF cap s := by unfold MAt at h; exact h.2.2.1
    have h4 := h3.room
    rw [← ho]
    have : s.bytes.length = s.used := by unfold RG.used; rfl
    rw [List.length_take]; omega
  obtain ⟨i0, hi, hz0, hz1, hz2⟩ := info_parts info9
  have HI := Lib.hid hi
  have HZ0 := Lib.hid hz0
  have HZ1 := Lib.hid hz1
  have HZ2 := Lib.hid hz2
  have HH := Lib.hid h
  have HO := Lib.hid ho
  have HS := Lib.hid hs
  clear h hi hz0 hz1 hz2 ho hs
  go_enter Try.func14, Try.ntmps14
  go_wp2_with fail
  go_loopw [1, 5, 6] (fun mv ov _ wr => ∃ (mk : Int) (o1 : List UInt8) (s' : RG), mv = .int .i64 mk ∧ ov = .string ⟨o1.toArray⟩ ∧ MAt wr base m cap pol s' ∧ FarM base m w wr ∧ o1 ++ s'.bytes.take (most s' mk) = o ∧ drain s' (most s' mk) = s2 ∧ mk ≤ 9223372036854775807) (fun mv _ _ _ => (intOf mv).toNat)
  case atStart => exact ⟨mo, [], s, rfl, rfl, HH.out, Far.refl _ _ _ _, HO.out, HS.out, hmo⟩
  case round =>
    obtain ⟨mk, o1, s', rfl, rfl, h', hf, ho, hs, hmb⟩ := hrel
    have HM' := Lib.hid h'
    have HF := Lib.hid hf
    have hwf : WF cap s' := by unfold MAt at h'; exact h'.2.2.1
    obtain ⟨v, v2, hw⟩ : ∃ v v2, MW wr base m cap pol v v2 s'.L s'.gone s'.begun s'.gone.length := by unfold MAt at h'; exact h'.2.2.2
    have hlenL := hwf.len
    obtain ⟨A3, c3', hv3, hc3, hT3⟩ := own_texts hw.row
    have c2 := hw.c2
    rw [hv3] at c2
    by_cases hm0 : 0 < mk
    · by_cases hL0 : s'.L = []
      · obtain ⟨e1, e2⟩ := drain_none (s := s') (mk := mk) (.inr hL0)
        rw [e2, List.append_nil] at ho
        rw [e1] at hs
        subst ho hs
        rw [hL0, List.length_nil] at c2
        clear hw hv3 hT3
        go_wp2
        go_ret
        exact ⟨rfl, HM'.out, HF.out⟩
      · obtain ⟨L, b, go⟩ := s'
        simp only at hL0 hw hlenL hv3 hc3 hT3 c2
        match L with
        | [] => exact absurd rfl hL0
        | f :: l =>
          obtain ⟨g3, rfl, hcc3, _⟩ := hT3 (by simp)
          have zz := hcc3 0 (by simp)
          simp only [List.getD_cons_zero] at zz
          have hfp := hwf.pos f (by simp)
          have hroomF : f.length ≤ cap := by have := hwf.room; unfold RG.used RG.bytes at this; simp at this; omega
          obtain ⟨nn, hnn⟩ : ∃ q, q = (f :: l).length := ⟨_, rfl⟩
          rw [← hnn] at c2 hlenL
          have hnn2 : nn = l.length + 1 := by rw [hnn]; simp
          have hnn3 : nn ≤ c3' := by rw [hnn]; exact hc3
          have hfi : (0 : Int) < (nn : Int) := by omega
          have hfn : 0 < nn := by omega
          have hnl2 : (1 : Int) ≤ (nn : Int) := by omega
          have hw1 : IntKind.i64.wrap 1 = 1 := by rw [IntKind.wrap_i64]; omega
          have HW := Lib.hid hw
          have HV3 := Lib.hid hv3
          have HNN := Lib.hid hnn
          have HNN2 := Lib.hid hnn2
          have HCC := Lib.hid hcc3
          have HWF := Lib.hid hwf
          clear hw hv3 hnn hnn2 hT3 hcc3 hwf hc3
          by_cases hle : (f.length : Int) ≤ mk
          · obtain ⟨d1, d2⟩ := drain_whole (l := l) (b := b) (go := go) hfp hle
            rw [d1] at hs
            rw [d2, ← List.append_assoc] at ho
            have hol : o1.length + f.length ≤ 1048576 := by rw [← ho] at holen; simp at holen; omega
            have hol2 : ¬ 9223372036854775807 < o1.length + f.length := by omega
            have hba := ba_append o1 f
            obtain ⟨mk2, hmk2⟩ : ∃ q, q = mk - f.length := ⟨_, rfl⟩
            rw [← hmk2] at hs ho
            have e1 : IntKind.i64.wrap (mk - (f.length : Int)) = mk2 := by rw [IntKind.wrap_i64]; omega
            have HO2 := Lib.hid ho
            have HS2 := Lib.hid hs
            have HMK := Lib.hid hmk2
            clear d1 d2 ho hs hmk2
            go_upto_region 6 with fail
            have c2b := (HW.out.grow (Grow.alloc wr (.cells #[] 9))).c2
            rw [HV3.out, ← HNN.out] at c2b
            by_cases hcc1 : c3' = 1
            · subst hcc1
              have hl0 : l = [] := List.eq_nil_of_length_eq_zero (by have := HNN2.out; omega)
              go_wp2_with (at_builtin; refine wpList_append_any _ rfl (.tmp 44) (.tmp 49) 30 rfl wr.heap.size 9 i0 (.string ⟨#[]⟩) 1 16 Try.underlying30 HI.out HZ0.out HZ1.out HZ2.out rfl (by decide) _ 0 [] (by rfl) (World.ownsRow_made (base := wr.heap.size) (e := 9) (size := 1) wr #[] 0 (Nat.le_refl _) (by unfold maxLen; omega) rfl) (wr.alloc (.cells #[] 9)).heap.size (some ⟨g3, 0, none⟩) 0 (0) (texts l) (by rfl) (reads_empty rfl hl0) (texts_one _) (by unfold maxLen; omega) (by omega) (by simp) ?k1)
              case k1 =>
              intro v8 w8 hown8 hgrow8 hblk8
              have hown8' : w8.ownsRow wr.heap.size 9 1 v8 l.length (texts l) := by
                have e1 : l.length = 0 := by have := HNN2.out; (first | omega | (simp [hl0]; done))
                rw [e1]
                first | exact hown8 | (simpa using hown8) | (simpa [hl0] using hown8)
              have hG8 : Grow wr w8 := Below.trans (Grow.alloc wr (.cells #[] 9)) (below_grown hgrow8 (by simp) (fun k hk => by simp [Value.ownBlock] at hk; omega))
              obtain ⟨A8, c8, rfl⟩ := own_form hown8
              have hw8 := HW.out.grow hG8
              have hs9 := (hw8.set2 (own_mono hown8' HW.out.base_le) (fun g h1 h2 => by have := hown8'.lt g h1; have := HW.out.gon.lt g h2; omega)).set3 false
              have s8 := hw8.c2
              have f8 := hw8.fr 2
              have c9 := hw8.c3
              have f9 := hw8.fr 3
              have HS9 := Lib.hid hs9
              have HF9 := Lib.hid (fun (vq : Value) => (Far.set (Pb := fun k => k = m) (Far.set (Pb := fun k => k = m) (Far.trans HF.out (Far.grow hG8 HW.out.base_le)) rfl HW.out.hm 2 vq) rfl HW.out.hm 3 (.bool false) : FarM base m w _))
              clear hs9 hw8 hown8 hown8' hgrow8 hblk8 hG8 c2 c2b
              go_wp2_with fail
              go_roundw
              case rel => exact ⟨mk2, o1 ++ f, ⟨l, false, go⟩, rfl, rfl, MAt.mk' hcap hcap2 (wf_whole HWF.out) HS9.out rfl, HF9.out _, HO2.out, HS2.out, by have := HMK.out; omega⟩
              case measure => simp [intOf]; have := HMK.out; omega
            · skip
              go_wp2_with (at_builtin; refine wpList_append_any _ rfl (.tmp 44) (.tmp 49) 30 rfl wr.heap.size 9 i0 (.string ⟨#[]⟩) 1 16 Try.underlying30 HI.out HZ0.out HZ1.out HZ2.out rfl (by decide) _ 0 [] (by rfl) (World.ownsRow_made (base := wr.heap.size) (e := 9) (size := 1) wr #[] 0 (Nat.le_refl _) (by unfold maxLen; omega) rfl) (wr.alloc (.cells #[] 9)).heap.size (some ⟨g3, 1, none⟩) (nn - 1) (c3' - 1) (texts l) (by rfl) (reads_part (w := wr.alloc (.cells #[] 9)) (L := f :: l) (fun j hj => (Grow.alloc wr (.cells #[] 9)).cell (HCC.out j hj)) 1 l (by have := HNN2.out; omega) (fun j hj => by simp [Nat.add_comm] at hj ⊢; try omega)) (texts_one _) (by unfold maxLen; omega) (by omega) (by simp) ?k2)
              case k2 =>
              intro v8 w8 hown8 hgrow8 hblk8
              have hown8' : w8.ownsRow wr.heap.size 9 1 v8 l.length (texts l) := by
                have e1 : l.length = (nn - 1) := by have := HNN2.out; (first | omega | (simp [List.nil_append]; done))
                rw [e1]
                first | exact hown8 | (simpa using hown8) | (simpa [List.nil_append] using hown8)
              have hG8 : Grow wr w8 := Below.trans (Grow.alloc wr (.cells #[] 9)) (below_grown hgrow8 (by simp) (fun k hk => by simp [Value.ownBlock] at hk; omega))
              obtain ⟨A8, c8, rfl⟩ := own_form hown8
              have hw8 := HW.out.grow hG8
              have hs9 := (hw8.set2 (own_mono hown8' HW.out.base_le) (fun g h1 h2 => by have := hown8'.lt g h1; have := HW.out.gon.lt g h2; omega)).set3 false
              have s8 := hw8.c2
              have f8 := hw8.fr 2
              have c9 := hw8.c3
              have f9 := hw8.fr 3
              have HS9 := Lib.hid hs9
              have HF9 := Lib.hid (fun (vq : Value) => (Far.set (Pb := fun k => k = m) (Far.set (Pb := fun k => k = m) (Far.trans HF.out (Far.grow hG8 HW.out.base_le)) rfl HW.out.hm 2 vq) rfl HW.out.hm 3 (.bool false) : FarM base m w _))
              clear hs9 hw8 hown8 hown8' hgrow8 hblk8 hG8 c2 c2b
              go_wp2_with fail
              go_roundw
              case rel => exact ⟨mk2, o1 ++ f, ⟨l, false, go⟩, rfl, rfl, MAt.mk' hcap hcap2 (wf_whole HWF.out) HS9.out rfl, HF9.out _, HO2.out, HS2.out, by have := HMK.out; omega⟩
              case measure => simp [intOf]; have := HMK.out; omega
          · have hlt : mk.toNat < f.length := by omega
            obtain ⟨kk, rfl⟩ := Int.eq_ofNat_of_zero_le (show 0 ≤ mk by omega)
            have hk0 : 0 < kk := by omega
            have hkf : kk < f.length := by omega
            obtain ⟨d1, d2⟩ := drain_part (l := l) (b := b) (go := go) hk0 hkf
            rw [d1] at hs
            rw [d2, ← List.append_assoc] at ho
            have hol : o1.length + (f.take kk).length ≤ 1048576 := by rw [← ho] at holen; simp only [List.length_append] at holen; omega
            have hol2 : ¬ 9223372036854775807 < o1.length + (f.take kk).length := by omega
            have hba := ba_append o1 (f.take kk)
            have HO2 := Lib.hid ho
            have HS2 := Lib.hid hs
            have hkfi : (kk : Int) ≤ (f.length : Int) := by omega
            clear d1 d2 ho hs
            have hex1 := ba_take f kk
            have hex2 := ba_drop f kk
            have c2d := (HW.out.grow (Grow.alloc wr (.cells #[.string ⟨(f.drop kk).toArray⟩] 9))).c2
            rw [HV3.out, ← HNN.out] at c2d
            by_cases hcc1 : c3' = 1
            · subst hcc1
              have hl0 : l = [] := List.eq_nil_of_length_eq_zero (by have := HNN2.out; omega)
              go_upto_region 9 with fail
              go_cut [6] from 7 to 87 (fun lv wx => wx.ownsRow wr.heap.size 9 1 lv (f.drop kk :: l).length (texts (f.drop kk :: l)) ∧ Grow wr wx)
              case first =>
                go_wp2_with fail
                go_region_law ((refine step_append_any _ (by rfl) (.tmp 74) (.tmp 79) 30 (by rfl) wr.heap.size 9 i0 (.string ⟨#[]⟩) 1 16 Try.underlying30 HI.out HZ0.out HZ1.out HZ2.out rfl (by decide) _ 1 [.string ⟨(f.drop kk).toArray⟩] (by rfl) (World.ownsRow_lit (base := wr.heap.size) (e := 9) (size := 1) wr #[.string ⟨(f.drop kk).toArray⟩] 1 (Nat.le_refl _) (by unfold maxLen; omega) rfl) (wr.alloc (.cells #[.string ⟨(f.drop kk).toArray⟩] 9)).heap.size (some ⟨g3, 0, none⟩) 0 (0) (texts l) (by rfl) (reads_empty rfl hl0) (texts_one _) (by unfold maxLen; omega) (by omega) (by simp) ?_; intro v8 w8 hown8 hgrow8 hblk8))
                all_goals (
                  have hown8' : w8.ownsRow wr.heap.size 9 1 v8 (f.drop kk :: l).length (texts (f.drop kk :: l)) := by
                    have e1 : (f.drop kk :: l).length = 1 + 0 := by have := HNN2.out; simp; (first | omega | (simp [hl0]; done))
                    have e2 : texts (f.drop kk :: l) = [.string ⟨(f.drop kk).toArray⟩] ++ texts l := by unfold texts; simp
                    rw [e1, e2]
                    first | exact hown8 | (simpa using hown8) | (simpa [hl0] using hown8)
                  have hG8 : Grow wr w8 := Below.trans (Below.drew (Grow.alloc wr (.cells #[.string ⟨(f.drop kk).toArray⟩] 9))) (below_grown (B := wr.heap.size) (w := (wr.alloc (.cells #[.string ⟨(f.drop kk).toArray⟩] 9)).drew) hgrow8 (by simp) (fun k hk => by simp [Value.ownBlock] at hk; omega))
                  go_wp2_with fail
                  go_meet
                  exact ⟨hown8', hG8⟩)
              case rest =>
              obtain ⟨hown8, hG8⟩ := hcut
              obtain ⟨nl, hnl⟩ : ∃ q, q = (f.drop kk :: l).length := ⟨_, rfl⟩
              have hown9 := hown8
              rw [← hnl] at hown9
              obtain ⟨A8, c8, hv8⟩ := own_form hown9
              subst hv8
              clear hown9 hnl
              have hw8 := HW.out.grow hG8
              have hs9 := (hw8.set2 (own_mono hown8 HW.out.base_le) (fun g h1 h2 => by have := hown8.lt g h1; have := HW.out.gon.lt g h2; omega)).set3 true
              have s8 := hw8.c2
              have f8 := hw8.fr 2
              have c9 := hw8.c3
              have f9 := hw8.fr 3
              have HS9 := Lib.hid hs9
              have HF9 := Lib.hid (fun (vq : Value) => (Far.set (Pb := fun k => k = m) (Far.set (Pb := fun k => k = m) (Far.trans HF.out (Far.grow hG8 HW.out.base_le)) rfl HW.out.hm 2 vq) rfl HW.out.hm 3 (.bool true) : FarM base m w _))
              clear hs9 hw8 hown8 hG8 c2 c2d
              go_wp2_with fail
              go_roundw
              case rel => exact ⟨0, o1 ++ f.take kk, ⟨f.drop kk :: l, true, go⟩, rfl, rfl, MAt.mk' hcap hcap2 (wf_part (k := kk) HWF.out hkf) HS9.out rfl, HF9.out _, HO2.out, HS2.out, by omega⟩
              case measure => simp [intOf]; omega
            · skip
              go_upto_region 9 with fail
              go_cut [6] from 7 to 87 (fun lv wx => wx.ownsRow wr.heap.size 9 1 lv (f.drop kk :: l).length (texts (f.drop kk :: l)) ∧ Grow wr wx)
              case first =>
                go_wp2_with fail
                go_region_law ((refine step_append_any _ (by rfl) (.tmp 74) (.tmp 79) 30 (by rfl) wr.heap.size 9 i0 (.string ⟨#[]⟩) 1 16 Try.underlying30 HI.out HZ0.out HZ1.out HZ2.out rfl (by decide) _ 1 [.string ⟨(f.drop kk).toArray⟩] (by rfl) (World.ownsRow_lit (base := wr.heap.size) (e := 9) (size := 1) wr #[.string ⟨(f.drop kk).toArray⟩] 1 (Nat.le_refl _) (by unfold maxLen; omega) rfl) (wr.alloc (.cells #[.string ⟨(f.drop kk).toArray⟩] 9)).heap.size (some ⟨g3, 1, none⟩) (nn - 1) (c3' - 1) (texts l) (by rfl) (reads_part (w := wr.alloc (.cells #[.string ⟨(f.drop kk).toArray⟩] 9)) (L := f :: l) (fun j hj => (Grow.alloc wr (.cells #[.string ⟨(f.drop kk).toArray⟩] 9)).cell (HCC.out j hj)) 1 l (by have := HNN2.out; omega) (fun j hj => by simp [Nat.add_comm] at hj ⊢; try omega)) (texts_one _) (by unfold maxLen; omega) (by omega) (by simp) ?_; intro v8 w8 hown8 hgrow8 hblk8))
                all_goals (
                  have hown8' : w8.ownsRow wr.heap.size 9 1 v8 (f.drop kk :: l).length (texts (f.drop kk :: l)) := by
                    have e1 : (f.drop kk :: l).length = 1 + (nn - 1) := by have := HNN2.out; simp; (first | omega | (simp [List.nil_append]; done))
                    have e2 : texts (f.drop kk :: l) = [.string ⟨(f.drop kk).toArray⟩] ++ texts l := by unfold texts; simp
                    rw [e1, e2]
                    first | exact hown8 | (simpa using hown8) | (simpa [List.nil_append] using hown8)
                  have hG8 : Grow wr w8 := Below.trans (Below.drew (Grow.alloc wr (.cells #[.string ⟨(f.drop kk).toArray⟩] 9))) (below_grown (B := wr.heap.size) (w := (wr.alloc (.cells #[.string ⟨(f.drop kk).toArray⟩] 9)).drew) hgrow8 (by simp) (fun k hk => by simp [Value.ownBlock] at hk; omega))
                  go_wp2_with fail
                  go_meet
                  exact ⟨hown8', hG8⟩)
              case rest =>
              obtain ⟨hown8, hG8⟩ := hcut
              obtain ⟨nl, hnl⟩ : ∃ q, q = (f.drop kk :: l).length := ⟨_, rfl⟩
              have hown9 := hown8
              rw [← hnl] at hown9
              obtain ⟨A8, c8, hv8⟩ := own_form hown9
              subst hv8
              clear hown9 hnl
              have hw8 := HW.out.grow hG8
              have hs9 := (hw8.set2 (own_mono hown8 HW.out.base_le) (fun g h1 h2 => by have := hown8.lt g h1; have := HW.out.gon.lt g h2; omega)).set3 true
              have s8 := hw8.c2
              have f8 := hw8.fr 2
              have c9 := hw8.c3
              have f9 := hw8.fr 3
              have HS9 := Lib.hid hs9
              have HF9 := Lib.hid (fun (vq : Value) => (Far.set (Pb := fun k => k = m) (Far.set (Pb := fun k => k = m) (Far.trans HF.out (Far.grow hG8 HW.out.base_le)) rfl HW.out.hm 2 vq) rfl HW.out.hm 3 (.bool true) : FarM base m w _))
              clear hs9 hw8 hown8 hG8 c2 c2d
              go_wp2_with fail
              go_roundw
              case rel => exact ⟨0, o1 ++ f.take kk, ⟨f.drop kk :: l, true, go⟩, rfl, rfl, MAt.mk' hcap hcap2 (wf_part (k := kk) HWF.out hkf) HS9.out rfl, HF9.out _, HO2.out, HS2.out, by omega⟩
              case measure => simp [intOf]; omega
    · obtain ⟨e1, e2⟩ := drain_none (s := s') (mk := mk) (.inl (by omega))
      rw [e2, List.append_nil] at ho
      rw [e1] at hs
      subst ho hs
      clear hw hv3 hT3
      go_wp2
      go_ret
      exact ⟨rfl, HM'.out, HF.out⟩
end
end Go.Proofs.Ytdicgpbdfnlniaa
