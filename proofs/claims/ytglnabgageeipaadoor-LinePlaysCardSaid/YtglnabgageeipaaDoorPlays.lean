/- The walk of LinePlays. -/
import Derived.Test.YtglnabgageeipaaDoorRef2
namespace Go.Proofs.YtglnabgageeipaaDoor
open Go.RowKit
attribute [local irreducible] up ctz bitsArr refCells mixed lows

/-- The lines lie at b, the reference's at g, both made since. -/
def S2 (w0 : World) (b g c : Nat) (A P M : BitVec 32) (act : Int) (P' M' : BitVec 32) (act' : Int) (w : World) : Prop := St w0 b A P M act w ∧ w0.heap.size ≤ g ∧ g ≠ b ∧ RefAt w g c P' M' act'
section
variable {w0 w w' : World} {b g c : Nat} {A P M P' M' P1 M1 : BitVec 32} {act act' act1 : Int}
theorem S2.onB (h : S2 w0 b g c A P M act P' M' act' w) (ho : Only b w w') (hl : LineAt w' b A P1 M1 act1) : S2 w0 b g c A P1 M1 act1 P' M' act' w' :=
  ⟨h.1.only ho hl, h.2.1, h.2.2.1, ho.at h.2.2.1 h.2.2.2⟩
theorem S2.onG (h : S2 w0 b g c A P M act P' M' act' w) (ho : Only g w w') (hr : RefAt w' g c P1 M1 act1) : S2 w0 b g c A P M act P1 M1 act1 w' :=
  ⟨⟨⟨h.1.1.1, h.1.1.2.trans (ho.below h.2.1 h.1.1.2.size)⟩, h.1.2.1, ho.at (Ne.symm h.2.2.1) h.1.2.2⟩, h.2.1, h.2.2.1, hr⟩
theorem S2.grow (h : S2 w0 b g c A P M act P' M' act' w) (hg : Grow w w') : S2 w0 b g c A P M act P' M' act' w' :=
  ⟨h.1.below hg, h.2.1, h.2.2.1, heapAt_below hg (heapAt_lt h.2.2.2) h.2.2.2⟩
theorem S2.drew (h : S2 w0 b g c A P M act P' M' act' w) : S2 w0 b g c A P M act P' M' act' w.drew := h.grow (Grow.drewN w 1)
theorem S2.line (h : S2 w0 b g c A P M act P' M' act' w) : LineAt w b A P M act := h.1.2.2
theorem S2.ref (h : S2 w0 b g c A P M act P' M' act' w) : RefAt w g c P' M' act' := h.2.2.2
theorem S2.bl (h : S2 w0 b g c A P M act P' M' act' w) : Bl w0 w := h.1.1
theorem S2.tab (h : S2 w0 b g c A P M act P' M' act' w) : TabAt w := h.1.1.tab
end
/-- Words without bits from c on. -/
theorem sub_lt {P A : BitVec 32} {c : Nat} (hc : c ≤ 16) (hA : A = BitVec.ofNat 32 (2 ^ c - 1)) (h : P &&& A = P) : P.toNat < 65536 := by
  rw [← h, hA]; exact low_lt16 P c hc
theorem shr_sub {m A : BitVec 32} {c : Nat} (hc : c ≤ 16) (hA : A = BitVec.ofNat 32 (2 ^ c - 1)) (h : ∀ j, c ≤ j → j < 32 → m.getLsbD j = false) : m &&& A = m := by
  apply BitVec.eq_of_getLsbD_eq
  intro j hj
  rw [hA, low_and m c j hc]
  by_cases hjc : j < c
  · simp [hjc]
  · rw [h j (by omega) hj]; simp
theorem shr_bits {m : BitVec 32} {c : Nat} (h : m >>> c = 0#32) : ∀ j, c ≤ j → j < 32 → m.getLsbD j = false := fun j h1 h2 => by
  have := congrArg (·.getLsbD (j - c)) h
  simp only [BitVec.getLsbD_ushiftRight] at this
  rw [show c + (j - c) = j by omega] at this
  simpa using this
theorem shr_low {m : BitVec 32} {c : Nat} (h : m >>> c ≠ 0#32) : ∃ q, c ≤ q ∧ q < 32 ∧ m.getLsbD q = true ∧ ∀ j, c ≤ j → j < q → m.getLsbD j = false := by
  obtain ⟨h1, h2⟩ := ctz_spec h
  refine ⟨c + ctz (m >>> c), by omega, ?_, ?_, ?_⟩
  · rw [BitVec.getLsbD_ushiftRight] at h1
    exact BitVec.lt_of_getLsbD h1
  · rw [BitVec.getLsbD_ushiftRight] at h1; exact h1
  · intro j hj1 hj2
    have := h2 (j - c) (by omega)
    rw [BitVec.getLsbD_ushiftRight, show c + (j - c) = j by omega] at this
    exact this
theorem mixed_mask {X M A : BitVec 32} {c : Nat} (hc : c ≤ 16) (hA : A = BitVec.ofNat 32 (2 ^ c - 1)) (hM : M &&& A = M) : mixed X M c = X &&& A := by
  apply BitVec.eq_of_getLsbD_eq
  intro j hj
  rw [mixed_bit X M c j hc hj, hA, low_and X c j hc]
  have h2 := congrArg (·.getLsbD j) hM
  simp only [hA, low_and M c j hc] at h2
  by_cases h : j < c
  · simp [h]
  · rw [if_neg h, ← h2]; simp [h]

set_option maxRecDepth 100000 in
theorem linePlays_bad (n : Int) (m : BitVec 32) (v : Value) (w : World) (hT : TabAt w) (hbad : n < 0 ∨ 16 < n ∨ (0 ≤ n ∧ n ≤ 16 ∧ m >>> n.toNat ≠ 0#32)) :
    Calls Tryd.prog 4 #[.int .i64 n, .int .u32 m.toNat, v] w fun e w' => e = .returned (.bool true) ∧ Bl w w' := by
  have h := Bl.refl hT
  have hn : ∀ w, Calls Tryd.prog 7 #[.int .i64 n, .int .u32 m.toNat] w fun e w' => e = .returned (.tuple #[.pointer none, .int .i64 1]) ∧ w' = w := fun w => by
    rcases hbad with hb | hb | ⟨h0, h1, h2⟩
    · exact new_bad w n m (.inl hb)
    · exact new_bad w n m (.inr hb)
    · obtain ⟨k, rfl⟩ := Int.eq_ofNat_of_zero_le h0
      exact new_over w k (by omega) m (by simpa using h2)
  have hr : ∀ w, Calls Tryd.prog 15 #[.int .i64 n, .int .u32 m.toNat] w fun e w' => e = .returned (.tuple #[.pointer none, .bool false]) ∧ Grow w w' := fun w => by
    rcases hbad with hb | hb | ⟨h0, h1, h2⟩
    · exact (new_ref_bad w n m (.inl hb)).mono fun _ _ ⟨he, hw⟩ => ⟨he, by rw [hw]; exact Grow.refl _⟩
    · exact (new_ref_bad w n m (.inr hb)).mono fun _ _ ⟨he, hw⟩ => ⟨he, by rw [hw]; exact Grow.refl _⟩
    · obtain ⟨k, rfl⟩ := Int.eq_ofNat_of_zero_le h0
      obtain ⟨q, q1, q2, q3, q4⟩ := shr_low h2
      exact new_ref_over w k m (by omega) q (by simpa using q1) q2 q3 (fun j hj => q4 j (by simpa using hj))
  clear hbad
  have HN := Lib.hid hn; clear hn
  have HR := Lib.hid hr; clear hr
  go_enter Tryd.func4, Tryd.ntmps4
  go_wp2_with fail
  refine (HN.out _).mono ?_
  rintro e w' ⟨rfl, rfl⟩
  go_wp2_with fail
  refine (HR.out _).mono ?_
  rintro e w1 ⟨rfl, h1⟩
  go_wp2_with fail
  refine (awake_bl _ (h.below h1)).mono ?_
  rintro e w2 ⟨rfl, h2⟩
  go_wp2
  go_ret
  exact ⟨rfl, h2⟩
theorem leave_r (w : World) (b : Nat) (A P M : BitVec 32) (act : Int) (r : Bool) (hr : r = decide (act ≠ 255)) (h : LineAt w b A P M act) :
    Calls Tryd.prog 13 #[.pointer (some ⟨b, 0, none⟩)] w fun e w' => e = .returned (.bool r) ∧ LineAt w' b A P M 255 ∧ Only b w w' := by
  rw [hr]; exact leave_any w b A P M act h
theorem bit_off (M : BitVec 32) (l : Nat) (hl : l < 16) : ∀ j, j < 16 → (M &&& ~~~(1#32 <<< l)).getLsbD j = if j = l then false else M.getLsbD j := fun j hj => by
  rw [BitVec.getLsbD_and, BitVec.getLsbD_not, BitVec.getLsbD_shiftLeft]
  by_cases e : j = l
  · subst e; simp
  · rw [if_neg e]
    by_cases hjk : j < l
    · simp [hjk]; omega
    · simp [show j < 32 by omega, hjk]; omega
theorem off_none (M A : BitVec 32) (c l : Nat) (hc : c ≤ 16) (hA : A = BitVec.ofNat 32 (2 ^ c - 1)) (hM : M &&& A = M) (hl : c ≤ l) : M &&& ~~~(1#32 <<< l) = M := by
  apply BitVec.eq_of_getLsbD_eq
  intro j hj
  have h2 := congrArg (·.getLsbD j) hM
  simp only [hA, low_and M c j hc] at h2
  rw [BitVec.getLsbD_and, BitVec.getLsbD_not, BitVec.getLsbD_shiftLeft]
  by_cases h : j < c
  · simp [show j < l by omega]; omega
  · have hf : M.getLsbD j = false := by rw [← h2]; simp [h]
    rw [hf]; simp
theorem awake_s2 {w0 : World} {b g c : Nat} {A P M P' M' : BitVec 32} {act act' : Int} (w : World) (h : S2 w0 b g c A P M act P' M' act' w) :
    Calls Tryd.prog 8 #[] w fun e w' => e = .returned (.bool true) ∧ S2 w0 b g c A P M act P' M' act' w' :=
  (awake_bl w (Bl.refl h.tab)).mono fun _ _ ⟨he, hb⟩ => ⟨he, h.grow hb.2⟩
set_option maxRecDepth 100000 in
theorem linePlays_long (c : Nat) (hc : c ≤ 16) (m : BitVec 32) (hm : m >>> c = 0#32) (a : Addr) (len cap : Nat) (hlen : (400 : Int) < (len : Int)) (w : World) (hT : TabAt w) :
    Calls Tryd.prog 4 #[.int .i64 c, .int .u32 m.toNat, .slice (some a) len cap] w fun e w' => e = .returned (.bool true) ∧ Bl w w' := by
  have h := Bl.refl hT
  obtain ⟨A, hA⟩ : ∃ A, A = BitVec.ofNat 32 (2 ^ c - 1) := ⟨_, rfl⟩
  have HA := Lib.hid hA; clear hA
  have HM := Lib.hid hm; clear hm
  go_enter Tryd.func4, Tryd.ntmps4
  go_wp2_with fail
  refine (new_st _ c hc m A HA.out HM.out h).mono ?_
  rintro e w1 ⟨b, rfl, h1⟩
  clear h
  go_wp2_with fail
  refine (new_ref_ok _ c m hc (shr_bits HM.out)).mono ?_
  rintro e w2 ⟨g, rfl, hr, hg, hgr⟩
  have h2 : S2 w b g c A 0#32 m 255 0#32 m 255 w2 := ⟨h1.below hgr, Nat.le_trans h1.1.2.size hg, by have := heapAt_lt h1.2.2; omega, hr⟩
  clear h1 hr hg hgr
  go_wp2_with fail
  refine (awake_s2 _ h2).mono ?_
  rintro e w3 ⟨rfl, h3⟩
  go_wp2
  go_ret
  exact ⟨rfl, h3.bl⟩

set_option maxHeartbeats 1000000 in
set_option maxRecDepth 100000 in
theorem linePlays_in (c : Nat) (hc : c ≤ 16) (m : BitVec 32) (hm : m >>> c = 0#32) (a : Addr) (len cap : Nat) (hlen : (len : Int) ≤ 400) (K L : Nat → Int) (B : Nat → BitVec 32) (w : World) (hT : TabAt w) (hS : Script w a len K L B) :
    Calls Tryd.prog 4 #[.int .i64 c, .int .u32 m.toNat, .slice (some a) len cap] w fun e w' => e = .returned (.bool true) ∧ Bl w w' := by
  have h := Bl.refl hT
  have hci : (c : Int) ≤ 16 := by omega
  obtain ⟨A, hA⟩ : ∃ A, A = BitVec.ofNat 32 (2 ^ c - 1) := ⟨_, rfl⟩
  have HA := Lib.hid hA; clear hA
  have HM := Lib.hid hm; clear hm
  have HS := Lib.hid hS; clear hS
  go_enter Tryd.func4, Tryd.ntmps4
  go_wp2_with fail
  refine (new_st _ c hc m A HA.out HM.out h).mono ?_
  rintro e w1 ⟨b, rfl, h1⟩
  clear h
  go_wp2_with fail
  refine (new_ref_ok _ c m hc (shr_bits HM.out)).mono ?_
  rintro e w2 ⟨g, rfl, hr, hg, hgr⟩
  have h2 : S2 w b g c A 0#32 m 255 0#32 m 255 w2 := ⟨h1.below hgr, Nat.le_trans h1.1.2.size hg, by have := heapAt_lt h1.2.2; omega, hr⟩
  clear h1 hr hg hgr
  go_wp2_with fail
  refine (awake_s2 _ h2).mono ?_
  rintro e w3 ⟨rfl, h3⟩
  clear h2
  have H3 := Lib.hid h3; clear h3
  go_wp2_with fail
  go_loopw [63] (fun i wr => ∃ k : Nat, k ≤ len ∧ i = .int .i64 k ∧ ∃ P M act, S2 w b g c A P M act P M act wr ∧ P &&& A = P ∧ M &&& A = M) (fun i _ => len - (intOf i).toNat)
  case atStart => exact ⟨0, by omega, rfl, 0#32, m, 255, H3.out, by simp, shr_sub hc HA.out (shr_bits HM.out)⟩
  case round =>
    clear H3
    obtain ⟨k, hk, rfl, P, M, act, hst, hP, hM⟩ := hrel
    have Hst := Lib.hid hst; clear hst
    have HP := Lib.hid hP; clear hP
    have HMA := Lib.hid hM; clear hM
    by_cases hlt : k < len
    · obtain ⟨c0, c1, c2⟩ := (HS.out.below Hst.out.bl.2) k hlt
      generalize hKk : K k = kk at *
      generalize hLk : L k = ll at *
      generalize hBk : B k = bb at *
      clear hKk hLk hBk
      have hst1 := Hst.out.grow (Grow.alloc wr (.cells #[.int .i64 kk, .int .i64 ll, .int .u32 bb.toNat] 41))
      have hO := heapAt_alloc_new wr (.cells #[.int .i64 kk, .int .i64 ll, .int .u32 bb.toNat] 41)
      have nb : wr.heap.size ≠ b := by have := heapAt_lt Hst.out.line; omega
      have ng : wr.heap.size ≠ g := by have := heapAt_lt Hst.out.ref; omega
      by_cases k1 : kk = 1
      · subst k1
        go_wp2_with fail
        generalize wr.alloc (.cells #[.int .i64 1, .int .i64 ll, .int .u32 bb.toNat] 41) = w3 at hst1 hO ⊢
        generalize wr.heap.size = ob at hO nb ng ⊢
        clear c0 c1 c2
        have d2 := cell_block hO 2
        simp at d2
        have Hst1 := Lib.hid hst1; clear hst1
        obtain ⟨C, hC⟩ : ∃ C, C = bb &&& A := ⟨_, rfl⟩
        have HC := Lib.hid hC; clear hC
        go_wp2_with fail
        refine (raise_any _ b A P M bb C (C &&& P) (P ||| C) act HC.out rfl rfl Hst1.out.line).mono ?_
        rintro e w4 ⟨rfl, hl4, ho4⟩
        have H4 := Lib.hid (Hst1.out.onB ho4 hl4)
        have hO4 := ho4.at nb hO
        clear hl4 ho4 hO d2 Hst1
        have d2 := cell_block hO4 2
        simp at d2
        go_wp2_with fail
        refine (raise_ref _ g c P M bb C (C &&& P) (P ||| C) act hc (by rw [HC.out, HA.out]) rfl rfl H4.out.ref).mono ?_
        rintro e w5 ⟨rfl, hr5, ho5⟩
        have H5 := Lib.hid (H4.out.onG ho5 hr5)
        clear hr5 ho5 hO4 d2 H4
        have HP2 : Hid ((P ||| C) &&& A = P ||| C) := Lib.hid (by rw [HC.out]; exact sub_or P bb A HP.out)
        go_wp2_with fail
        refine (alike_any _ b g c A (P ||| C) M act (sub_lt hc HA.out HP2.out) (sub_lt hc HA.out HMA.out) H5.out.line H5.out.ref).mono ?_
        rintro e w6 ⟨rfl, hg6⟩
        have H6 := Lib.hid (H5.out.grow hg6)
        clear hg6
        go_wp2_with fail
        exact ⟨⟨k + 1, by omega, by go_num, _, _, _, H6.out, HP2.out, HMA.out⟩, by simp [intOf]; omega⟩
      by_cases k2 : kk = 2
      · subst k2
        go_wp2_with fail
        generalize wr.alloc (.cells #[.int .i64 2, .int .i64 ll, .int .u32 bb.toNat] 41) = w3 at hst1 hO ⊢
        generalize wr.heap.size = ob at hO nb ng ⊢
        clear c0 c1 c2
        have Hst1 := Lib.hid hst1; clear hst1
        by_cases hact : act = 255
        · subst hact
          by_cases hq : P &&& M = 0#32
          · have hno : ∀ j, j < c → (P.getLsbD j && M.getLsbD j) = false := fun j _ => by rw [← BitVec.getLsbD_and, hq]; simp
            refine (enter_none _ b A P M 255 rfl hq Hst1.out.line).mono ?_
            rintro e w4 ⟨rfl, hl4, ho4⟩
            have H4 := Lib.hid (Hst1.out.onB ho4 hl4)
            clear hl4 ho4 hO Hst1
            have HNO := Lib.hid hno; clear hno hq
            go_wp2_with fail
            refine (enter_ref_none _ g c P M hc HNO.out H4.out.ref).mono ?_
            rintro e w' ⟨rfl, rfl⟩
            go_wp2_with fail
            refine (alike_any _ b g c A P M 255 (sub_lt hc HA.out HP.out) (sub_lt hc HA.out HMA.out) H4.out.line H4.out.ref).mono ?_
            rintro e w6 ⟨rfl, hg6⟩
            have H6 := Lib.hid (H4.out.grow hg6)
            clear hg6
            go_wp2_with fail
            exact ⟨⟨k + 1, by omega, by go_num, _, _, _, H6.out, HP.out, HMA.out⟩, by simp [intOf]; omega⟩
          · obtain ⟨q, hq2⟩ : ∃ q, ctz (P &&& M) = q := ⟨_, rfl⟩
            have hb := ctz_spec hq
            rw [hq2] at hb
            have hqc : q < c := low_lt P M A (P &&& M) c q hc HA.out HP.out rfl hb.1
            have hPM := hb.1
            rw [BitVec.getLsbD_and, Bool.and_eq_true] at hPM
            have hno : ∀ j, j < q → (P.getLsbD j && M.getLsbD j) = false := fun j hj => by rw [← BitVec.getLsbD_and]; exact hb.2 j hj
            have hqn : ¬ ((q : Int) < 0) := by omega
            refine (enter_one _ b A P M (P &&& M) (P &&& ~~~(1#32 <<< q)) 255 q rfl rfl hq hq2 rfl Hst1.out.tab Hst1.out.line).mono ?_
            rintro e w4 ⟨rfl, hl4, ho4⟩
            have H4 := Lib.hid (Hst1.out.onB ho4 hl4)
            clear hl4 ho4 hO Hst1
            have HNO := Lib.hid hno
            have HPM := Lib.hid hPM
            clear hno hq hb hPM hq2
            go_wp2_with fail
            refine (enter_ref_one _ g c q P M hc hqc HPM.out.1 HPM.out.2 HNO.out H4.out.ref).mono ?_
            rintro e w5 ⟨rfl, hr5, ho5⟩
            have H5 := Lib.hid (H4.out.onG ho5 hr5)
            clear hr5 ho5 H4
            have HP2 : Hid ((P &&& ~~~(1#32 <<< q)) &&& A = P &&& ~~~(1#32 <<< q)) := Lib.hid (sub_off P A _ HP.out)
            go_wp2_with fail
            refine (alike_any _ b g c A (P &&& ~~~(1#32 <<< q)) M q (sub_lt hc HA.out HP2.out) (sub_lt hc HA.out HMA.out) H5.out.line H5.out.ref).mono ?_
            rintro e w6 ⟨rfl, hg6⟩
            have H6 := Lib.hid (H5.out.grow hg6)
            clear hg6
            go_wp2_with fail
            exact ⟨⟨k + 1, by omega, by go_num, _, _, _, H6.out, HP2.out, HMA.out⟩, by simp [intOf]; omega⟩
        · have ha1 : (act != 255) = true := by simp [hact]
          refine (enter_no _ b A P M act hact Hst1.out.line).mono ?_
          rintro e w4 ⟨rfl, hl4, ho4⟩
          have H4 := Lib.hid (Hst1.out.onB ho4 hl4)
          clear hl4 ho4 hO Hst1
          have HA1 := Lib.hid ha1; clear ha1 hact
          go_wp2_with fail
          refine (enter_ref_no _ g c P M act HA1.out H4.out.ref).mono ?_
          rintro e w' ⟨rfl, rfl⟩
          go_wp2_with fail
          refine (alike_any _ b g c A P M act (sub_lt hc HA.out HP.out) (sub_lt hc HA.out HMA.out) H4.out.line H4.out.ref).mono ?_
          rintro e w6 ⟨rfl, hg6⟩
          have H6 := Lib.hid (H4.out.grow hg6)
          clear hg6
          go_wp2_with fail
          exact ⟨⟨k + 1, by omega, by go_num, _, _, _, H6.out, HP.out, HMA.out⟩, by simp [intOf]; omega⟩
      by_cases k3 : kk = 3
      · subst k3
        go_wp2_with fail
        generalize wr.alloc (.cells #[.int .i64 3, .int .i64 ll, .int .u32 bb.toNat] 41) = w3 at hst1 hO ⊢
        generalize wr.heap.size = ob at hO nb ng ⊢
        clear c0 c1 c2
        have Hst1 := Lib.hid hst1; clear hst1
        clear hO
        have c3 := Hst1.out.ref.act_
        obtain ⟨r, hr⟩ : ∃ r, r = decide (act ≠ 255) := ⟨_, rfl⟩
        have her : (act != 255) = r := by
          rw [hr]
          by_cases h : act = 255 <;> simp [h]
        have Hr := Lib.hid hr; clear hr
        go_region_with (go_at_call 13; refine (leave_r _ b A P M act r Hr.out (by first | exact Hst1.out.line | exact Hst1.out.drew.line)).mono ?_; rintro e w4 ⟨rfl, hl4, ho4⟩; have H4 : Hid (S2 w b g c A P M 255 P M act w4) := Lib.hid (by first | exact Hst1.out.onB ho4 hl4 | exact Hst1.out.drew.onB ho4 hl4); have c4 := H4.out.ref.act_; clear ho4 hl4)
        all_goals
          clear c3
          have f4 := H4.out.ref.free 33
          have H5 := Lib.hid (H4.out.onG ((Only.refl g w4).setCell 33 (.int .i64 255)) (H4.out.ref.setA 255))
          go_wp2_with fail
          generalize w4.setCell ⟨g, 33, none⟩ (.int .i64 255) = w5 at H5 ⊢
          refine (alike_any _ b g c A P M 255 (sub_lt hc HA.out HP.out) (sub_lt hc HA.out HMA.out) H5.out.line H5.out.ref).mono ?_
          rintro e w6 ⟨rfl, hg6⟩
          have H6 := Lib.hid (H5.out.grow hg6)
          clear hg6
          go_wp2_with fail
          exact ⟨⟨k + 1, by omega, by go_num, _, _, _, H6.out, HP.out, HMA.out⟩, by simp [intOf]; omega⟩
      by_cases k4 : kk = 4
      · subst k4
        go_wp2_with fail
        generalize wr.alloc (.cells #[.int .i64 4, .int .i64 ll, .int .u32 bb.toNat] 41) = w3 at hst1 hO ⊢
        generalize wr.heap.size = ob at hO nb ng ⊢
        clear c0 c1 c2
        have Hst1 := Lib.hid hst1; clear hst1
        have d2 := cell_block hO 2
        simp at d2
        go_wp2_with fail
        refine (let_any _ b A P M bb (bb &&& A) act rfl Hst1.out.line).mono ?_
        rintro e w4 ⟨rfl, hl4, ho4⟩
        have H4 := Lib.hid (Hst1.out.onB ho4 hl4)
        have hO4 := ho4.at nb hO
        clear hl4 ho4 hO d2 Hst1
        have d2 := cell_block hO4 2
        simp at d2
        go_wp2_with fail
        refine (mask_ref _ g c P M bb act hc H4.out.ref).mono ?_
        rintro e w5 ⟨rfl, hr5, ho5⟩
        rw [mixed_mask hc HA.out HMA.out] at hr5
        have H5 := Lib.hid (H4.out.onG ho5 hr5)
        clear hr5 ho5 hO4 d2 H4
        have HM2 : Hid ((bb &&& A) &&& A = bb &&& A) := Lib.hid (by rw [BitVec.and_assoc, BitVec.and_self])
        go_wp2_with fail
        refine (alike_any _ b g c A P (bb &&& A) act (sub_lt hc HA.out HP.out) (sub_lt hc HA.out HM2.out) H5.out.line H5.out.ref).mono ?_
        rintro e w6 ⟨rfl, hg6⟩
        have H6 := Lib.hid (H5.out.grow hg6)
        clear hg6
        go_wp2_with fail
        exact ⟨⟨k + 1, by omega, by go_num, _, _, _, H6.out, HP.out, HM2.out⟩, by simp [intOf]; omega⟩
      by_cases k5 : kk = 5
      · subst k5
        go_wp2_with fail
        generalize wr.alloc (.cells #[.int .i64 5, .int .i64 ll, .int .u32 bb.toNat] 41) = w3 at hst1 hO ⊢
        generalize wr.heap.size = ob at hO nb ng ⊢
        clear c0 c1 c2
        have Hst1 := Lib.hid hst1; clear hst1
        have d1 := cell_block hO 1
        simp at d1
        go_wp2_with fail
        by_cases h0 : 0 ≤ ll ∧ ll < 16
        · obtain ⟨h01, h02⟩ := h0
          obtain ⟨l, rfl⟩ := Int.eq_ofNat_of_zero_le h01
          refine (bar_yes _ b l A P M (M &&& ~~~(1#32 <<< l)) act (by omega) rfl Hst1.out.line).mono ?_
          rintro e w4 ⟨rfl, hl4, ho4⟩
          have H4 := Lib.hid (Hst1.out.onB ho4 hl4)
          have hO4 := ho4.at nb hO
          clear hl4 ho4 hO d1 Hst1
          have d1 := cell_block hO4 1
          simp at d1
          have c0 := H4.out.ref.count
          have HM2 : Hid ((M &&& ~~~(1#32 <<< l)) &&& A = M &&& ~~~(1#32 <<< l)) := Lib.hid (sub_off M A _ HMA.out)
          by_cases hlc : l < c
          · have hlc2 : (l : Int) < (c : Int) := by omega
            have hdl : decide (l < c) = true := by simp [hlc]
            go_wp2_with fail
            go_quiet (fail)
            go_wp2_with fail
            have H5 : Hid (S2 w b g c A P (M &&& ~~~(1#32 <<< l)) act P M act (w4.drewN nq)) := Lib.hid (H4.out.grow (Grow.drewN _ _))
            have hO5 : (w4.drewN nq).heap[ob]? = some (.cells #[.int .i64 5, .int .i64 l, .int .u32 bb.toNat] 41) := hO4
            generalize w4.drewN nq = w5 at H5 hO5 ⊢
            clear d1 c0 hO4 H4
            have d1 := cell_block hO5 1
            simp at d1
            have cM := H5.out.ref.let_ l (by omega)
            have fM := H5.out.ref.free (17 + l)
            have h02i : (l : Int) < 16 := by omega
            go_still_tail 6, (by kernel_rfl)
            change wpList _ _ _ _ _ w5.drew
            have H6 : Hid (S2 w b g c A P (M &&& ~~~(1#32 <<< l)) act P M act w5.drew) := Lib.hid (H5.out.drew)
            generalize w5.drew = w6 at H6 ⊢
            clear d1 cM fM hO5 H5
            have cM := H6.out.ref.let_ l (by omega)
            have fM := H6.out.ref.free (17 + l)
            have H7 := Lib.hid (H6.out.onG ((Only.refl g w6).setCell (17 + l) (.bool false)) (H6.out.ref.setM (M &&& ~~~(1#32 <<< l)) l false (by omega) (bit_off M l (by omega))))
            go_wp2_with fail
            generalize w6.setCell ⟨g, 17 + l, none⟩ (.bool false) = w7 at H7 ⊢
            refine (alike_any _ b g c A P (M &&& ~~~(1#32 <<< l)) act (sub_lt hc HA.out HP.out) (sub_lt hc HA.out HM2.out) H7.out.line H7.out.ref).mono ?_
            rintro e w6 ⟨rfl, hg6⟩
            have H6 := Lib.hid (H7.out.grow hg6)
            clear hg6
            go_wp2_with fail
            exact ⟨⟨k + 1, by omega, by go_num, _, _, _, H6.out, HP.out, HM2.out⟩, by simp [intOf]; omega⟩
          · have hdl : decide (l < c) = false := by simp [hlc]
            have HE : Hid (M &&& ~~~(1#32 <<< l) = M) := Lib.hid (off_none M A c l hc HA.out HMA.out (by omega))
            have H5 : Hid (S2 w b g c A P M act P M act w4) := Lib.hid (by have := H4.out; rw [HE.out] at this; exact this)
            go_wp2_with fail
            go_quiet (fail)
            go_wp2_with fail
            have H6 : Hid (S2 w b g c A P M act P M act (w4.drewN nq)) := Lib.hid (H5.out.grow (Grow.drewN _ _))
            generalize w4.drewN nq = w5 at H6 ⊢
            refine (alike_any _ b g c A P M act (sub_lt hc HA.out HP.out) (sub_lt hc HA.out HMA.out) H6.out.line H6.out.ref).mono ?_
            rintro e w6 ⟨rfl, hg6⟩
            have H6 := Lib.hid (H6.out.grow hg6)
            clear hg6
            go_wp2_with fail
            exact ⟨⟨k + 1, by omega, by go_num, _, _, _, H6.out, HP.out, HMA.out⟩, by simp [intOf]; omega⟩
        · refine (bar_no _ b A P M act ll (by omega) Hst1.out.line).mono ?_
          rintro e w4 ⟨rfl, hl4, ho4⟩
          have H4 := Lib.hid (Hst1.out.onB ho4 hl4)
          have hO4 := ho4.at nb hO
          clear hl4 ho4 hO d1 Hst1
          have d1 := cell_block hO4 1
          simp at d1
          have c0 := H4.out.ref.count
          by_cases hl0 : 0 ≤ ll
          · have hlc : ¬ (ll < (c : Int)) := by omega
            have hlc' : decide (ll < (c : Int)) = false := by simp; omega
            have hl0' : decide (0 ≤ ll) = true := by simp; omega
            go_wp2_with fail
            go_quiet (fail)
            go_wp2_with fail
            have H6 : Hid (S2 w b g c A P M act P M act (w4.drewN nq)) := Lib.hid (H4.out.grow (Grow.drewN _ _))
            generalize w4.drewN nq = w5 at H6 ⊢
            refine (alike_any _ b g c A P M act (sub_lt hc HA.out HP.out) (sub_lt hc HA.out HMA.out) H6.out.line H6.out.ref).mono ?_
            rintro e w6 ⟨rfl, hg6⟩
            have H6 := Lib.hid (H6.out.grow hg6)
            clear hg6
            go_wp2_with fail
            exact ⟨⟨k + 1, by omega, by go_num, _, _, _, H6.out, HP.out, HMA.out⟩, by simp [intOf]; omega⟩
          · have hl0' : decide (0 ≤ ll) = false := by simp; omega
            go_wp2_with fail
            go_quiet (fail)
            go_wp2_with fail
            have H6 : Hid (S2 w b g c A P M act P M act (w4.drewN nq)) := Lib.hid (H4.out.grow (Grow.drewN _ _))
            generalize w4.drewN nq = w5 at H6 ⊢
            refine (alike_any _ b g c A P M act (sub_lt hc HA.out HP.out) (sub_lt hc HA.out HMA.out) H6.out.line H6.out.ref).mono ?_
            rintro e w6 ⟨rfl, hg6⟩
            have H6 := Lib.hid (H6.out.grow hg6)
            clear hg6
            go_wp2_with fail
            exact ⟨⟨k + 1, by omega, by go_num, _, _, _, H6.out, HP.out, HMA.out⟩, by simp [intOf]; omega⟩
      have e1 : (kk == 1) = false := by simp [k1]
      have e2 : (kk == 2) = false := by simp [k2]
      have e3 : (kk == 3) = false := by simp [k3]
      have e4 : (kk == 4) = false := by simp [k4]
      have e5 : (kk == 5) = false := by simp [k5]
      have HST := Lib.hid hst1; clear hst1 hO
      go_wp2_with fail
      generalize wr.alloc (.cells #[.int .i64 kk, .int .i64 ll, .int .u32 bb.toNat] 41) = w3 at HST ⊢
      refine (alike_any _ b g c A P M act (sub_lt hc HA.out HP.out) (sub_lt hc HA.out HMA.out) HST.out.line HST.out.ref).mono ?_
      rintro e w6 ⟨rfl, hg6⟩
      have H6 := Lib.hid (HST.out.grow hg6)
      clear hg6
      go_wp2_with fail
      exact ⟨⟨k + 1, by omega, by go_num, _, _, _, H6.out, HP.out, HMA.out⟩, by simp [intOf]; omega⟩
    · go_wp2_with fail
      go_ret
      exact ⟨rfl, Hst.out.bl⟩

set_option maxRecDepth 100000 in
theorem linePlays_nil (c : Nat) (hc : c ≤ 16) (m : BitVec 32) (hm : m >>> c = 0#32) (w : World) (hT : TabAt w) :
    Calls Tryd.prog 4 #[.int .i64 c, .int .u32 m.toNat, .slice none 0 0] w fun e w' => e = .returned (.bool true) ∧ Bl w w' := by
  have h := Bl.refl hT
  obtain ⟨A, hA⟩ : ∃ A, A = BitVec.ofNat 32 (2 ^ c - 1) := ⟨_, rfl⟩
  have HA := Lib.hid hA; clear hA
  have HM := Lib.hid hm; clear hm
  go_enter Tryd.func4, Tryd.ntmps4
  go_wp2_with fail
  refine (new_st _ c hc m A HA.out HM.out h).mono ?_
  rintro e w1 ⟨b, rfl, h1⟩
  clear h
  go_wp2_with fail
  refine (new_ref_ok _ c m hc (shr_bits HM.out)).mono ?_
  rintro e w2 ⟨g, rfl, hr, hg, hgr⟩
  have h2 : S2 w b g c A 0#32 m 255 0#32 m 255 w2 := ⟨h1.below hgr, Nat.le_trans h1.1.2.size hg, by have := heapAt_lt h1.2.2; omega, hr⟩
  clear h1 hr hg hgr
  go_wp2_with fail
  refine (awake_s2 _ h2).mono ?_
  rintro e w3 ⟨rfl, h3⟩
  clear h2
  go_wp2_with fail
  go_loopw [63] (fun i wr => i = .int .i64 0 ∧ wr = w3) (fun i _ => 0)
  case atStart => exact ⟨rfl, rfl⟩
  case round =>
    obtain ⟨rfl, rfl⟩ := hrel
    go_wp2_with fail
    go_ret
    exact ⟨rfl, h3.bl⟩
theorem linePlays_walk (n : Int) (m : BitVec 32) (a : Addr) (len cap : Nat) (K L : Nat → Int) (B : Nat → BitVec 32) (w : World) (hT : TabAt w) (hS : Script w a len K L B) :
    Calls Tryd.prog 4 #[.int .i64 n, .int .u32 m.toNat, .slice (some a) len cap] w fun e w' => e = .returned (.bool true) ∧ Bl w w' := by
  by_cases hbad : n < 0 ∨ 16 < n ∨ (0 ≤ n ∧ n ≤ 16 ∧ m >>> n.toNat ≠ 0#32)
  · exact linePlays_bad n m _ w hT hbad
  · obtain ⟨k, rfl⟩ := Int.eq_ofNat_of_zero_le (show 0 ≤ n by omega)
    have hm : m >>> k = 0#32 := by
      refine Classical.byContradiction fun hne => hbad (.inr (.inr ⟨by omega, by omega, ?_⟩))
      simpa using hne
    by_cases hl : (400 : Int) < (len : Int)
    · exact linePlays_long k (by omega) m hm a len cap hl w hT
    · exact linePlays_in k (by omega) m hm a len cap (by omega) K L B w hT hS
theorem linePlays_none (n : Int) (m : BitVec 32) (w : World) (hT : TabAt w) :
    Calls Tryd.prog 4 #[.int .i64 n, .int .u32 m.toNat, .slice none 0 0] w fun e w' => e = .returned (.bool true) ∧ Bl w w' := by
  by_cases hbad : n < 0 ∨ 16 < n ∨ (0 ≤ n ∧ n ≤ 16 ∧ m >>> n.toNat ≠ 0#32)
  · exact linePlays_bad n m _ w hT hbad
  · obtain ⟨k, rfl⟩ := Int.eq_ofNat_of_zero_le (show 0 ≤ n by omega)
    have hm : m >>> k = 0#32 := by
      refine Classical.byContradiction fun hne => hbad (.inr (.inr ⟨by omega, by omega, ?_⟩))
      simpa using hne
    exact linePlays_nil k (by omega) m hm w hT
end Go.Proofs.YtglnabgageeipaaDoor
