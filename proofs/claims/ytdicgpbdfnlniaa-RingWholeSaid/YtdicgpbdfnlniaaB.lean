/- The walk of lose. -/
import Derived.Test.YtdicgpbdfnlniaaA
import Derived.WalkMore
namespace Go.Proofs.Ytdicgpbdfnlniaa
open Go.RowKit
set_option linter.unusedVariables false
set_option linter.unusedSimpArgs false
set_option maxRecDepth 100000
attribute [local irreducible] roomC ringC peekR layR strOf
section
variable {w : World} {base r g cap head c used lost : Nat} {pol : Int} {R : Nat → UInt8} {A : Option Addr} {zs : List Nat} {begun : Bool} {z0 z1 : Nat} {zr : List Nat}
theorem used_any (h : RW w base r g cap pol head R A zs c used begun lost) : Calls Try.prog 16 #[.pointer (some ⟨r, 0, none⟩)] w fun e w' => e = .returned (.int .i64 used) ∧ w' = w := by
  have c4 := h.c4
  clear h
  go_enter Try.func16, Try.ntmps16
  go_wp2
  go_ret
  exact ⟨rfl, rfl⟩
theorem held_any (h : RW w base r g cap pol head R A zs c used begun lost) : Calls Try.prog 17 #[.pointer (some ⟨r, 0, none⟩)] w fun e w' => e = .returned (.int .i64 zs.length) ∧ w' = w := by
  have c3 := h.c3
  clear h
  go_enter Try.func17, Try.ntmps17
  go_wp2
  go_ret
  exact ⟨rfl, rfl⟩
theorem begun_any (h : RW w base r g cap pol head R A zs c used begun lost) : Calls Try.prog 18 #[.pointer (some ⟨r, 0, none⟩)] w fun e w' => e = .returned (.bool begun) ∧ w' = w := by
  have c5 := h.c5
  clear h
  go_enter Try.func18, Try.ntmps18
  go_wp2
  go_ret
  exact ⟨rfl, rfl⟩
theorem lost_any (h : RW w base r g cap pol head R A zs c used begun lost) : Calls Try.prog 19 #[.pointer (some ⟨r, 0, none⟩)] w fun e w' => e = .returned (.int .u64 lost) ∧ w' = w := by
  have c6 := h.c6
  clear h
  go_enter Try.func19, Try.ntmps19
  go_wp2
  go_ret
  exact ⟨rfl, rfl⟩
theorem used_nil (w : World) : Calls Try.prog 16 #[.pointer none] w fun e w' => e = .returned (.int .i64 0) ∧ w' = w := by
  go_enter Try.func16, Try.ntmps16
  go_wp2
  go_ret
  exact ⟨rfl, rfl⟩
theorem held_nil (w : World) : Calls Try.prog 17 #[.pointer none] w fun e w' => e = .returned (.int .i64 0) ∧ w' = w := by
  go_enter Try.func17, Try.ntmps17
  go_wp2
  go_ret
  exact ⟨rfl, rfl⟩
theorem begun_nil (w : World) : Calls Try.prog 18 #[.pointer none] w fun e w' => e = .returned (.bool false) ∧ w' = w := by
  go_enter Try.func18, Try.ntmps18
  go_wp2
  go_ret
  exact ⟨rfl, rfl⟩
theorem lost_nil (w : World) : Calls Try.prog 19 #[.pointer none] w fun e w' => e = .returned (.int .u64 0) ∧ w' = w := by
  go_enter Try.func19, Try.ntmps19
  go_wp2
  go_ret
  exact ⟨rfl, rfl⟩
theorem put_nil (w : World) (s : ByteArray) : Calls Try.prog 11 #[.pointer none, .string s] w fun e w' => e = .returned (.int .i64 16) ∧ w' = w := by
  go_enter Try.func11, Try.ntmps11
  go_wp2_with fail
  go_step3
  go_wp2
  rw [Exit.noGoto_ret]
  go_ret
  exact ⟨rfl, rfl⟩
theorem drain_nil (w : World) (n : Int) : Calls Try.prog 13 #[.pointer none, .int .i64 n] w fun e w' => e = .returned (.string ⟨#[]⟩) ∧ w' = w := by
  go_enter Try.func13, Try.ntmps13
  go_wp2
  go_ret
  exact ⟨rfl, rfl⟩
set_option maxHeartbeats 4000000 in
theorem lose_plain (h : RW w base r g cap pol head R A (z0 :: zr) c used false lost) (hcap : (cap : Int) ≤ 1048576) (hh : head < cap) (hx : 0 ≤ cap) (hn : z0 ≤ used) (hu : used ≤ cap) (hl : lost < 4611686018427387904) :
    Calls Try.prog 22 #[.pointer (some ⟨r, 0, none⟩)] w fun e w' => e = .returned (.tuple #[]) ∧ RW w' base r g cap pol ((head + z0) % cap) (layR R cap ((head + z0) % cap) (peekR cap head R 0) 0) A (zr) c (used - z0) false (lost + 1) ∧ FarR base r g w w' := by
  obtain ⟨b, off, rfl, hbb, hc, hcf⟩ := h.sz.get (by simp)
  have cz := hc 0 (by simp)
  simp only [List.getD_cons_zero, List.getD_cons_succ, Nat.add_zero] at cz
  have c3 := h.c3
  have c5 := h.c5
  have HREST := Lib.hid (rest_any h 0 (fun _ => by simp) (by rfl))
  have HPEEK := Lib.hid fun (w1 : World) (hw : RW w1 base r g cap pol head R (some ⟨b, off, none⟩) (z0 :: zr) c used false lost) => peek_any hw 0 0 0 rfl hcap hh (Nat.zero_le _) hx
  obtain ⟨kk, hkk⟩ : ∃ kk, kk = peekR cap head R 0 := ⟨_, rfl⟩
  have hkl : kk.length = 0 := by rw [hkk]; exact peekR_len _ _ _ _
  obtain ⟨hd2, hhd⟩ : ∃ q, q = (head + z0) % cap := ⟨_, rfl⟩
  have hhc : hd2 < cap := by rw [hhd]; exact Nat.mod_lt _ (by omega)
  have HLAY := Lib.hid fun (w1 : World) (hw : RW w1 base r g cap pol hd2 R (some ⟨b, off, none⟩) (z0 :: zr) c used false lost) => lay_str hw 0 0 kk rfl hcap hhc (Nat.zero_le _) (by omega)
  simp only [Nat.add_zero, hkl] at HLAY
  simp only [Nat.add_zero, ← hkk] at HPEEK
  rw [← hkk, ← hhd]
  have HKK := Lib.hid hkk; clear hkk hkl
  have HS := Lib.hid h
  have HBL := Lib.hid h.base_le
  have hzc := h.sz.1
  have HSZ := Lib.hid h.sz
  clear h hc hcf hx
  obtain ⟨nz, hnz⟩ : ∃ q, q = (z0 :: zr).length := ⟨_, rfl⟩
  rw [← hnz] at c3 hzc
  simp only [List.length_cons] at hnz
  have hati : (0 : Int) < (nz : Int) := by omega
  have hatc : (0 : Int) ≤ (c : Int) := by omega
  have hat1 : (1 : Int) ≤ (nz : Int) := by omega
  have hnc : (nz : Int) ≤ (c : Int) := by omega
  have HNZ := Lib.hid hnz; clear hnz
  go_enter Try.func22, Try.ntmps22
  go_wp2_with fail
  refine HREST.out.mono ?_
  rintro e w0 ⟨rfl, hw1⟩
  subst hw1
  go_wp2_with fail
  refine (HPEEK.out _ HS.out).mono ?_
  rintro e w2 ⟨rfl, hg⟩
  have hs2 := HS.out.grow hg
  have HF := Lib.hid (show FarR base r g _ w2 from Far.grow hg HBL.out)
  clear hg c3 c5 cz HREST HPEEK
  have HS2 := Lib.hid hs2
  have c0 := hs2.c0
  have c2 := hs2.c2
  clear hs2
  obtain ⟨q1, hq1⟩ : ∃ q, q = head + z0 := ⟨_, rfl⟩
  have e1 : IntKind.i64.wrap ((head : Int) + (z0 : Int)) = (q1 : Int) := by rw [IntKind.wrap_i64]; omega
  have e2 : (q1 : Int).tmod (cap : Int) = (hd2 : Int) := by rw [hhd, hq1]; rfl
  have e3 : ((cap : Int) == 0) = false := by simp; omega
  have e4 : ¬ cap = 0 := by omega
  have HHD := Lib.hid hhd; clear hhd
  have HQ1 := Lib.hid hq1; clear hq1
  go_wp2_with fail
  go_still_tail 15, (by kernel_rfl)
  change wpList _ _ _ _ _ w2.drew
  clear c0 c2 e1 e2 e3
  have hs3 := HS2.out.grow (Below.drew (Grow.refl w2))
  have hf3 : FarR base r g _ w2.drew := Far.trans HF.out (Far.grow (Below.drew (Grow.refl w2)) HS2.out.base_le)
  generalize w2.drew = w3 at hs3 hf3 ⊢
  have c2 := hs3.c2
  have f2 := hs3.fr 2
  have HS3 := Lib.hid (hs3.set2 hd2)
  have HF3 := Lib.hid (hf3.set (Or.inl rfl) hs3.hr 2 (.int .i64 (hd2 : Nat)))
  clear hs3 hf3
  obtain ⟨w4, hw4⟩ : ∃ w4, w4 = w3.setCell ⟨r, 2, none⟩ (.int .i64 (hd2 : Nat)) := ⟨_, rfl⟩
  rw [← hw4] at HS3 HF3
  have HW4 := Lib.hid hw4; clear hw4
  go_wp2_with fail
  rw [← HW4.out]
  clear c2 f2 HW4
  refine (HLAY.out w4 HS3.out).mono ?_
  rintro e w5 ⟨rfl, hs5, hf5⟩
  have HS5 := Lib.hid hs5
  have HF5 := Lib.hid (Far.trans HF3.out hf5)
  have c3 := hs5.c3
  have f3 := hs5.fr 3
  have hrb : r ≠ b := fun e => by
    obtain ⟨_, cs, hb⟩ := hs5.sz.blk
    rw [← e] at hb
    exact ne3 _ _ _ _ (Option.some.inj (hb.symm.trans hs5.blk))
  have hd5 := hs5.grow (Below.drew (Grow.refl w5))
  have HFD := Lib.hid (show FarR base r g _ w5.drew from Far.trans HF5.out (Far.grow (Below.drew (Grow.refl w5)) hs5.base_le))
  have hnws : ∀ j u, (szVals (zr))[j]? = some u → w5.drew.cell? ⟨b, (off + 1) + j, none⟩ = some u := fun j u hu => by
    obtain ⟨b', off', e, _, hcc, _⟩ := hd5.sz.get (by simp)
    injection e with e; injection e with e e'
    subst e e'
    have hj : j < (zr).length := by rw [← szVals_len]; exact (List.getElem?_eq_some_iff.1 hu).1
    rw [szVals_at _ _ hj] at hu
    have := hcc (1 + j) (by simp only [List.length_cons]; omega)
    rw [Nat.add_assoc, this, ← hu]
    simp [Nat.add_comm]
  have hspare : ∀ j, j < (szVals (zr)).length → (w5.drew.cell? ⟨b, off + 0 * 1 + j, none⟩).isSome = true ∧ w5.drew.frozen? ⟨b, off + 0 * 1 + j, none⟩ = false := fun j hj => by
    rw [szVals_len] at hj
    obtain ⟨b', off', e, _, hcc, hff⟩ := hd5.sz.get (by simp)
    injection e with e; injection e with e e'
    subst e e'
    have := hcc (0 + j) (by simp only [List.length_cons]; omega)
    rw [Nat.zero_mul, Nat.add_zero]; rw [Nat.zero_add] at this; rw [this]
    exact ⟨rfl, hff _⟩
  have hcut := hd5.sz.cut 0 (by simp)
  rw [Nat.add_zero] at hcut
  simp only [List.take_succ_cons, List.take_zero, List.drop_succ_cons, List.drop_zero, List.cons_append, List.nil_append] at hcut
  have hoth : ∀ k, k ≠ b → (w5.drew.setCells b (off) (szVals (zr))).heap[k]? = w5.drew.heap[k]? := fun k hk => setCells_other hk _ _ _
  have hbk := (hoth r hrb).trans hd5.blk
  have hgb : g ≠ b := fun e => by
    obtain ⟨_, cs, hb⟩ := hd5.sz.blk
    rw [← e] at hb
    exact ne35 _ _ _ _ (Option.some.inj (hb.symm.trans hd5.room))
  have hrm := (hoth g hgb).trans hd5.room
  have HSET := Lib.hid (RW.set3 hd5.hr hd5.hg hbk hrm hcut)
  have HFAR := Lib.hid (show FarR base r g _ ((w5.drew.setCells b (off) (szVals (zr))).setCell ⟨r, 3, none⟩ (.slice (some ⟨b, off, none⟩) (zr).length c)) from by
    obtain ⟨hb0, cs, hb⟩ := hd5.sz.blk
    exact Far.set (setCells_far HFD.out hb hb0 _ _) (Or.inl rfl) hd5.hr 3 _)
  have cc3 : (w5.drew.setCells b (off) (szVals (zr))).cell? ⟨r, 3, none⟩ = some (.slice (some ⟨b, off, none⟩) nz c) := by rw [cell_block hbk, HNZ.out, ringC3]; rfl
  have ff3 : (w5.drew.setCells b (off) (szVals (zr))).frozen? ⟨r, 3, none⟩ = false := free_block hbk 3
  rw [show (z0 :: zr).length = nz from HNZ.out.symm] at c3
  have HNWS := Lib.hid hnws
  have HSPA := Lib.hid hspare
  clear hnws hspare hcut hoth hbk hrm hs5 hf5 hd5
  obtain ⟨i0, hi, hz0, hz1, hz2⟩ := info_parts info3
  have HI := Lib.hid hi; clear hi
  have HZ1 := Lib.hid hz1; clear hz1 hz0 hz2
  obtain ⟨m, hm⟩ : ∃ m, m = (zr).length := ⟨_, rfl⟩
  have hmz : nz - 1 = m := by have := HNZ.out; omega
  have hml : 0 + m + 1 = nz := by have := HNZ.out; omega
  have hzl : (zr).length = m := by (try simp only [List.length_cons]); omega
  rw [hzl] at HSET HFAR
  have HM := Lib.hid hm; clear hm hzl
  have hw1 : IntKind.i64.wrap 1 = 1 := by rw [IntKind.wrap_i64]; omega
  have hw2 : IntKind.i64.wrap 2 = 2 := by rw [IntKind.wrap_i64]; omega
  by_cases hcc : c = 1
  · subst hcc
    go_wp2_with fail
    go_region_law ((refine step_append_room rfl (.tmp 46) (.tmp 53) 46 rfl 3 i0 1 Try.underlying46 HI.out HZ1.out b off 0 1 (by simp [Act.eval, Act.put]) ⟨b, off, none⟩ m (0) (szVals (zr)) (by simp [Act.eval, Act.put]) (by rw [szVals_len, HM.out, Nat.mul_one]) (by rw [show zr = [] from List.eq_nil_of_length_eq_zero (by have := HM.out; omega)]; simp [szVals]) (one_szVals _) (by omega) HSPA.out ?_))
    all_goals (
      clear cc3 ff3 c3 f3 hw1 hw2
      have hs6 := HSET.out
      have hf6 := HFAR.out
      clear HSET HFAR
      generalize (w5.drew.setCells b (off) (szVals (zr))).setCell ⟨r, 3, none⟩ (.slice (some ⟨b, off, none⟩) (m) 1) = w6 at hs6 hf6 ⊢
      obtain ⟨u2, hu2⟩ : ∃ q, q = used - z0 := ⟨_, rfl⟩
      obtain ⟨l2, hl2⟩ : ∃ q, q = lost + 1 := ⟨_, rfl⟩
      have e5 : IntKind.i64.wrap ((used : Int) - (z0 : Int)) = (u2 : Int) := by rw [IntKind.wrap_i64]; omega
      have e6 : IntKind.u64.wrap ((lost : Int) + 1) = (l2 : Int) := by rw [IntKind.wrap_u64]; omega
      have c4 := hs6.c4
      have c6 := hs6.c6
      have f4 := hs6.fr 4
      have f6 := hs6.fr 6
      have HS7 := Lib.hid ((hs6.set4 u2).set6 l2)
      have HF7 := Lib.hid (show FarR base r g _ ((w6.setCell ⟨r, 4, none⟩ (.int .i64 (u2 : Nat))).setCell ⟨r, 6, none⟩ (.int .u64 (l2 : Nat))) from Far.set (Far.set hf6 (Or.inl rfl) hs6.hr 4 _) (Or.inl rfl) hs6.hr 6 _)
      have HU2 := Lib.hid hu2
      have HL2 := Lib.hid hl2
      clear hs6 hf6 hu2 hl2
      go_wp2
      go_end0
      refine ⟨rfl, ?_, HF7.out⟩
      rw [← HU2.out, ← HL2.out]
      exact HS7.out)
  · go_wp2_with fail
    go_region_law ((refine step_append_room rfl (.tmp 46) (.tmp 53) 46 rfl 3 i0 1 Try.underlying46 HI.out HZ1.out b off 0 c (by simp [Act.eval, Act.put]) ⟨b, off + 1, none⟩ m (c - 1) (szVals (zr)) (by simp [Act.eval, Act.put]) (by rw [szVals_len, HM.out, Nat.mul_one]) (news_at HNWS.out) (one_szVals _) (by omega) HSPA.out ?_))
    all_goals (
      clear cc3 ff3 c3 f3 hw1 hw2
      have hs6 := HSET.out
      have hf6 := HFAR.out
      clear HSET HFAR
      generalize (w5.drew.setCells b (off) (szVals (zr))).setCell ⟨r, 3, none⟩ (.slice (some ⟨b, off, none⟩) (m) c) = w6 at hs6 hf6 ⊢
      obtain ⟨u2, hu2⟩ : ∃ q, q = used - z0 := ⟨_, rfl⟩
      obtain ⟨l2, hl2⟩ : ∃ q, q = lost + 1 := ⟨_, rfl⟩
      have e5 : IntKind.i64.wrap ((used : Int) - (z0 : Int)) = (u2 : Int) := by rw [IntKind.wrap_i64]; omega
      have e6 : IntKind.u64.wrap ((lost : Int) + 1) = (l2 : Int) := by rw [IntKind.wrap_u64]; omega
      have c4 := hs6.c4
      have c6 := hs6.c6
      have f4 := hs6.fr 4
      have f6 := hs6.fr 6
      have HS7 := Lib.hid ((hs6.set4 u2).set6 l2)
      have HF7 := Lib.hid (show FarR base r g _ ((w6.setCell ⟨r, 4, none⟩ (.int .i64 (u2 : Nat))).setCell ⟨r, 6, none⟩ (.int .u64 (l2 : Nat))) from Far.set (Far.set hf6 (Or.inl rfl) hs6.hr 4 _) (Or.inl rfl) hs6.hr 6 _)
      have HU2 := Lib.hid hu2
      have HL2 := Lib.hid hl2
      clear hs6 hf6 hu2 hl2
      go_wp2
      go_end0
      refine ⟨rfl, ?_, HF7.out⟩
      rw [← HU2.out, ← HL2.out]
      exact HS7.out)
set_option maxHeartbeats 4000000 in
theorem lose_begun (h : RW w base r g cap pol head R A (z0 :: z1 :: zr) c used true lost) (hcap : (cap : Int) ≤ 1048576) (hh : head < cap) (hx : z0 ≤ cap) (hn : z1 ≤ used) (hu : used ≤ cap) (hl : lost < 4611686018427387904) :
    Calls Try.prog 22 #[.pointer (some ⟨r, 0, none⟩)] w fun e w' => e = .returned (.tuple #[]) ∧ RW w' base r g cap pol ((head + z1) % cap) (layR R cap ((head + z1) % cap) (peekR cap head R z0) z0) A (z0 :: zr) c (used - z1) true (lost + 1) ∧ FarR base r g w w' := by
  obtain ⟨b, off, rfl, hbb, hc, hcf⟩ := h.sz.get (by simp)
  have cz := hc 1 (by simp)
  simp only [List.getD_cons_zero, List.getD_cons_succ, Nat.add_zero] at cz
  have c3 := h.c3
  have c5 := h.c5
  have HREST := Lib.hid (rest_any h z0 (fun _ => by simp) (by rfl))
  have HPEEK := Lib.hid fun (w1 : World) (hw : RW w1 base r g cap pol head R (some ⟨b, off, none⟩) (z0 :: z1 :: zr) c used true lost) => peek_any hw 0 z0 0 rfl hcap hh (Nat.zero_le _) hx
  obtain ⟨kk, hkk⟩ : ∃ kk, kk = peekR cap head R z0 := ⟨_, rfl⟩
  have hkl : kk.length = z0 := by rw [hkk]; exact peekR_len _ _ _ _
  obtain ⟨hd2, hhd⟩ : ∃ q, q = (head + z1) % cap := ⟨_, rfl⟩
  have hhc : hd2 < cap := by rw [hhd]; exact Nat.mod_lt _ (by omega)
  have HLAY := Lib.hid fun (w1 : World) (hw : RW w1 base r g cap pol hd2 R (some ⟨b, off, none⟩) (z0 :: z1 :: zr) c used true lost) => lay_str hw 0 0 kk rfl hcap hhc (Nat.zero_le _) (by omega)
  simp only [Nat.add_zero, hkl] at HLAY
  simp only [Nat.add_zero, ← hkk] at HPEEK
  rw [← hkk, ← hhd]
  have HKK := Lib.hid hkk; clear hkk hkl
  have HS := Lib.hid h
  have HBL := Lib.hid h.base_le
  have hzc := h.sz.1
  have HSZ := Lib.hid h.sz
  clear h hc hcf hx
  obtain ⟨nz, hnz⟩ : ∃ q, q = (z0 :: z1 :: zr).length := ⟨_, rfl⟩
  rw [← hnz] at c3 hzc
  simp only [List.length_cons] at hnz
  have hati : (1 : Int) < (nz : Int) := by omega
  have hatc : (1 : Int) ≤ (c : Int) := by omega
  have hat1 : (2 : Int) ≤ (nz : Int) := by omega
  have hnc : (nz : Int) ≤ (c : Int) := by omega
  have HNZ := Lib.hid hnz; clear hnz
  go_enter Try.func22, Try.ntmps22
  go_wp2_with fail
  refine HREST.out.mono ?_
  rintro e w0 ⟨rfl, hw1⟩
  subst hw1
  go_wp2_with fail
  refine (HPEEK.out _ HS.out).mono ?_
  rintro e w2 ⟨rfl, hg⟩
  have hs2 := HS.out.grow hg
  have HF := Lib.hid (show FarR base r g _ w2 from Far.grow hg HBL.out)
  clear hg c3 c5 cz HREST HPEEK
  have HS2 := Lib.hid hs2
  have c0 := hs2.c0
  have c2 := hs2.c2
  clear hs2
  obtain ⟨q1, hq1⟩ : ∃ q, q = head + z1 := ⟨_, rfl⟩
  have e1 : IntKind.i64.wrap ((head : Int) + (z1 : Int)) = (q1 : Int) := by rw [IntKind.wrap_i64]; omega
  have e2 : (q1 : Int).tmod (cap : Int) = (hd2 : Int) := by rw [hhd, hq1]; rfl
  have e3 : ((cap : Int) == 0) = false := by simp; omega
  have e4 : ¬ cap = 0 := by omega
  have HHD := Lib.hid hhd; clear hhd
  have HQ1 := Lib.hid hq1; clear hq1
  go_wp2_with fail
  go_still_tail 15, (by kernel_rfl)
  change wpList _ _ _ _ _ w2.drew
  clear c0 c2 e1 e2 e3
  have hs3 := HS2.out.grow (Below.drew (Grow.refl w2))
  have hf3 : FarR base r g _ w2.drew := Far.trans HF.out (Far.grow (Below.drew (Grow.refl w2)) HS2.out.base_le)
  generalize w2.drew = w3 at hs3 hf3 ⊢
  have c2 := hs3.c2
  have f2 := hs3.fr 2
  have HS3 := Lib.hid (hs3.set2 hd2)
  have HF3 := Lib.hid (hf3.set (Or.inl rfl) hs3.hr 2 (.int .i64 (hd2 : Nat)))
  clear hs3 hf3
  obtain ⟨w4, hw4⟩ : ∃ w4, w4 = w3.setCell ⟨r, 2, none⟩ (.int .i64 (hd2 : Nat)) := ⟨_, rfl⟩
  rw [← hw4] at HS3 HF3
  have HW4 := Lib.hid hw4; clear hw4
  go_wp2_with fail
  rw [← HW4.out]
  clear c2 f2 HW4
  refine (HLAY.out w4 HS3.out).mono ?_
  rintro e w5 ⟨rfl, hs5, hf5⟩
  have HS5 := Lib.hid hs5
  have HF5 := Lib.hid (Far.trans HF3.out hf5)
  have c3 := hs5.c3
  have f3 := hs5.fr 3
  have hrb : r ≠ b := fun e => by
    obtain ⟨_, cs, hb⟩ := hs5.sz.blk
    rw [← e] at hb
    exact ne3 _ _ _ _ (Option.some.inj (hb.symm.trans hs5.blk))
  have hd5 := hs5.grow (Below.drew (Grow.refl w5))
  have HFD := Lib.hid (show FarR base r g _ w5.drew from Far.trans HF5.out (Far.grow (Below.drew (Grow.refl w5)) hs5.base_le))
  have hnws : ∀ j u, (szVals (zr))[j]? = some u → w5.drew.cell? ⟨b, (off + 2) + j, none⟩ = some u := fun j u hu => by
    obtain ⟨b', off', e, _, hcc, _⟩ := hd5.sz.get (by simp)
    injection e with e; injection e with e e'
    subst e e'
    have hj : j < (zr).length := by rw [← szVals_len]; exact (List.getElem?_eq_some_iff.1 hu).1
    rw [szVals_at _ _ hj] at hu
    have := hcc (2 + j) (by simp only [List.length_cons]; omega)
    rw [Nat.add_assoc, this, ← hu]
    simp [Nat.add_comm]
  have hspare : ∀ j, j < (szVals (zr)).length → (w5.drew.cell? ⟨b, off + 1 * 1 + j, none⟩).isSome = true ∧ w5.drew.frozen? ⟨b, off + 1 * 1 + j, none⟩ = false := fun j hj => by
    rw [szVals_len] at hj
    obtain ⟨b', off', e, _, hcc, hff⟩ := hd5.sz.get (by simp)
    injection e with e; injection e with e e'
    subst e e'
    have := hcc (1 + j) (by simp only [List.length_cons]; omega)
    rw [Nat.mul_one, Nat.add_assoc, this]
    exact ⟨rfl, hff _⟩
  have hcut := hd5.sz.cut 1 (by simp)
  skip
  simp only [List.take_succ_cons, List.take_zero, List.drop_succ_cons, List.drop_zero, List.cons_append, List.nil_append] at hcut
  have hoth : ∀ k, k ≠ b → (w5.drew.setCells b (off + 1) (szVals (zr))).heap[k]? = w5.drew.heap[k]? := fun k hk => setCells_other hk _ _ _
  have hbk := (hoth r hrb).trans hd5.blk
  have hgb : g ≠ b := fun e => by
    obtain ⟨_, cs, hb⟩ := hd5.sz.blk
    rw [← e] at hb
    exact ne35 _ _ _ _ (Option.some.inj (hb.symm.trans hd5.room))
  have hrm := (hoth g hgb).trans hd5.room
  have HSET := Lib.hid (RW.set3 hd5.hr hd5.hg hbk hrm hcut)
  have HFAR := Lib.hid (show FarR base r g _ ((w5.drew.setCells b (off + 1) (szVals (zr))).setCell ⟨r, 3, none⟩ (.slice (some ⟨b, off, none⟩) (z0 :: zr).length c)) from by
    obtain ⟨hb0, cs, hb⟩ := hd5.sz.blk
    exact Far.set (setCells_far HFD.out hb hb0 _ _) (Or.inl rfl) hd5.hr 3 _)
  have cc3 : (w5.drew.setCells b (off + 1) (szVals (zr))).cell? ⟨r, 3, none⟩ = some (.slice (some ⟨b, off, none⟩) nz c) := by rw [cell_block hbk, HNZ.out, ringC3]; rfl
  have ff3 : (w5.drew.setCells b (off + 1) (szVals (zr))).frozen? ⟨r, 3, none⟩ = false := free_block hbk 3
  rw [show (z0 :: z1 :: zr).length = nz from HNZ.out.symm] at c3
  have HNWS := Lib.hid hnws
  have HSPA := Lib.hid hspare
  clear hnws hspare hcut hoth hbk hrm hs5 hf5 hd5
  obtain ⟨i0, hi, hz0, hz1, hz2⟩ := info_parts info3
  have HI := Lib.hid hi; clear hi
  have HZ1 := Lib.hid hz1; clear hz1 hz0 hz2
  obtain ⟨m, hm⟩ : ∃ m, m = (zr).length := ⟨_, rfl⟩
  have hmz : nz - 2 = m := by have := HNZ.out; omega
  have hml : 1 + m + 1 = nz := by have := HNZ.out; omega
  have hzl : (z0 :: zr).length = 1 + m := by (try simp only [List.length_cons]); omega
  rw [hzl] at HSET HFAR
  have HM := Lib.hid hm; clear hm hzl
  have hw1 : IntKind.i64.wrap 1 = 1 := by rw [IntKind.wrap_i64]; omega
  have hw2 : IntKind.i64.wrap 2 = 2 := by rw [IntKind.wrap_i64]; omega
  by_cases hcc : c = 2
  · subst hcc
    go_wp2_with fail
    go_region_law ((refine step_append_room rfl (.tmp 46) (.tmp 53) 46 rfl 3 i0 1 Try.underlying46 HI.out HZ1.out b off 1 2 (by simp [Act.eval, Act.put]) ⟨b, off, none⟩ m (0) (szVals (zr)) (by simp [Act.eval, Act.put]) (by rw [szVals_len, HM.out, Nat.mul_one]) (by rw [show zr = [] from List.eq_nil_of_length_eq_zero (by have := HM.out; omega)]; simp [szVals]) (one_szVals _) (by omega) HSPA.out ?_))
    all_goals (
      clear cc3 ff3 c3 f3 hw1 hw2
      have hs6 := HSET.out
      have hf6 := HFAR.out
      clear HSET HFAR
      generalize (w5.drew.setCells b (off + 1) (szVals (zr))).setCell ⟨r, 3, none⟩ (.slice (some ⟨b, off, none⟩) (1 + m) 2) = w6 at hs6 hf6 ⊢
      obtain ⟨u2, hu2⟩ : ∃ q, q = used - z1 := ⟨_, rfl⟩
      obtain ⟨l2, hl2⟩ : ∃ q, q = lost + 1 := ⟨_, rfl⟩
      have e5 : IntKind.i64.wrap ((used : Int) - (z1 : Int)) = (u2 : Int) := by rw [IntKind.wrap_i64]; omega
      have e6 : IntKind.u64.wrap ((lost : Int) + 1) = (l2 : Int) := by rw [IntKind.wrap_u64]; omega
      have c4 := hs6.c4
      have c6 := hs6.c6
      have f4 := hs6.fr 4
      have f6 := hs6.fr 6
      have HS7 := Lib.hid ((hs6.set4 u2).set6 l2)
      have HF7 := Lib.hid (show FarR base r g _ ((w6.setCell ⟨r, 4, none⟩ (.int .i64 (u2 : Nat))).setCell ⟨r, 6, none⟩ (.int .u64 (l2 : Nat))) from Far.set (Far.set hf6 (Or.inl rfl) hs6.hr 4 _) (Or.inl rfl) hs6.hr 6 _)
      have HU2 := Lib.hid hu2
      have HL2 := Lib.hid hl2
      clear hs6 hf6 hu2 hl2
      go_wp2
      go_end0
      refine ⟨rfl, ?_, HF7.out⟩
      rw [← HU2.out, ← HL2.out]
      exact HS7.out)
  · go_wp2_with fail
    go_region_law ((refine step_append_room rfl (.tmp 46) (.tmp 53) 46 rfl 3 i0 1 Try.underlying46 HI.out HZ1.out b off 1 c (by simp [Act.eval, Act.put]) ⟨b, off + 2, none⟩ m (c - 2) (szVals (zr)) (by simp [Act.eval, Act.put]) (by rw [szVals_len, HM.out, Nat.mul_one]) (news_at HNWS.out) (one_szVals _) (by omega) HSPA.out ?_))
    all_goals (
      clear cc3 ff3 c3 f3 hw1 hw2
      have hs6 := HSET.out
      have hf6 := HFAR.out
      clear HSET HFAR
      generalize (w5.drew.setCells b (off + 1) (szVals (zr))).setCell ⟨r, 3, none⟩ (.slice (some ⟨b, off, none⟩) (1 + m) c) = w6 at hs6 hf6 ⊢
      obtain ⟨u2, hu2⟩ : ∃ q, q = used - z1 := ⟨_, rfl⟩
      obtain ⟨l2, hl2⟩ : ∃ q, q = lost + 1 := ⟨_, rfl⟩
      have e5 : IntKind.i64.wrap ((used : Int) - (z1 : Int)) = (u2 : Int) := by rw [IntKind.wrap_i64]; omega
      have e6 : IntKind.u64.wrap ((lost : Int) + 1) = (l2 : Int) := by rw [IntKind.wrap_u64]; omega
      have c4 := hs6.c4
      have c6 := hs6.c6
      have f4 := hs6.fr 4
      have f6 := hs6.fr 6
      have HS7 := Lib.hid ((hs6.set4 u2).set6 l2)
      have HF7 := Lib.hid (show FarR base r g _ ((w6.setCell ⟨r, 4, none⟩ (.int .i64 (u2 : Nat))).setCell ⟨r, 6, none⟩ (.int .u64 (l2 : Nat))) from Far.set (Far.set hf6 (Or.inl rfl) hs6.hr 4 _) (Or.inl rfl) hs6.hr 6 _)
      have HU2 := Lib.hid hu2
      have HL2 := Lib.hid hl2
      clear hs6 hf6 hu2 hl2
      go_wp2
      go_end0
      refine ⟨rfl, ?_, HF7.out⟩
      rw [← HU2.out, ← HL2.out]
      exact HS7.out)
end
end Go.Proofs.Ytdicgpbdfnlniaa
