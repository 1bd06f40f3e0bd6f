/- The reference's Raise, alike, and the walk of LinePlays. -/
import Derived.Test.YtglnabgageeipaaDoorRef
import Derived.Laws.Rows
import Derived.Deep.MidRow
namespace Go.Proofs.YtglnabgageeipaaDoor
open Go.RowKit
attribute [local irreducible] up ctz bitsArr refCells mixed lows
attribute [local simp] RelKnown Is

theorem info43 : (Tryd.prog.info? 43).map (·.size) = some 16 := by kernel_rfl
theorem info43b (X : BitVec 32) : (Tryd.prog.info? 43).map (·.size) = some (bitsArr X).size := by rw [bitsArr_size]; exact info43
theorem zero_bits : (#[Value.bool false, .bool false, .bool false, .bool false, .bool false, .bool false, .bool false, .bool false, .bool false, .bool false, .bool false, .bool false, .bool false, .bool false, .bool false, .bool false] : Array Value) = bitsArr 0#32 := by
  unfold bitsArr
  simp
theorem Only.setNew {w w1 : World} {g : Nat} (h : Only g w w1) {d : Nat} (hd : w.heap.size ≤ d) (j : Nat) (v : Value) : Only g w (w1.setCell ⟨d, j, none⟩ v) :=
  ⟨h.1, h.2.1, h.2.2.1, by have := h.2.2.2.1; simpa [World.setCell] using this, fun k hk hne => (set_block_other (by omega) j v).trans (h.2.2.2.2 k hk hne)⟩
theorem ArrAt.grow {w w' : World} {b : Nat} {X : BitVec 32} (h : ArrAt w b X) (hg : Grow w w') : ArrAt w' b X := heapAt_below hg (heapAt_lt h) h
theorem Grow.trans {w0 w w' : World} (h : Grow w0 w) (hg : Grow w w') : Grow w0 w' := Below.trans h (hg.mono h.size)
theorem mixed_skip (X Y : BitVec 32) (k : Nat) (hk : k < 16) (h : X.getLsbD k = Y.getLsbD k) : mixed X Y (k + 1) = mixed X Y k := by
  apply BitVec.eq_of_getLsbD_eq
  intro j hj
  rw [mixed_bit _ _ (k + 1) j (by omega) hj, mixed_bit _ _ k j (by omega) hj]
  by_cases e : j = k
  · subst e; rw [if_pos (by omega), if_neg (by omega), h]
  · by_cases h2 : j < k
    · rw [if_pos (by omega), if_pos h2]
    · rw [if_neg (by omega), if_neg h2]
theorem mixed_low (X : BitVec 32) (c : Nat) (hc : c ≤ 16) : mixed X 0#32 c = X &&& BitVec.ofNat 32 (2 ^ c - 1) := by
  apply BitVec.eq_of_getLsbD_eq
  intro j hj
  rw [mixed_bit _ _ c j hc hj, low_and X c j hc]
  by_cases h : j < c <;> simp [h]
theorem mixed_and (X P : BitVec 32) (c : Nat) (hc : c ≤ 16) : mixed (X &&& P) 0#32 c = (X &&& BitVec.ofNat 32 (2 ^ c - 1)) &&& P := by
  apply BitVec.eq_of_getLsbD_eq
  intro j hj
  rw [mixed_bit _ _ c j hc hj, BitVec.getLsbD_and, BitVec.getLsbD_and, low_and X c j hc]
  by_cases h : j < c <;> simp [h]
theorem mixed_or (X P : BitVec 32) (c : Nat) (hc : c ≤ 16) : mixed (P ||| X) P c = P ||| (X &&& BitVec.ofNat 32 (2 ^ c - 1)) := by
  apply BitVec.eq_of_getLsbD_eq
  intro j hj
  rw [mixed_bit _ _ c j hc hj, BitVec.getLsbD_or, BitVec.getLsbD_or, low_and X c j hc]
  by_cases h : j < c <;> simp [h]
theorem low_lt16 (X : BitVec 32) (c : Nat) (hc : c ≤ 16) : (X &&& BitVec.ofNat 32 (2 ^ c - 1)).toNat < 65536 := by
  rw [BitVec.toNat_and, BitVec.toNat_ofNat]
  have h1 : (2 : Nat) ^ c ≤ 2 ^ 16 := Nat.pow_le_pow_right (by omega) hc
  have h2 : (2 ^ c - 1) % 2 ^ 32 ≤ 2 ^ c - 1 := Nat.mod_le _ _
  have h3 := Nat.and_le_right (n := X.toNat) (m := (2 ^ c - 1) % 2 ^ 32)
  omega
theorem and_lt16 (X Y : BitVec 32) (h : X.toNat < 65536) : (X &&& Y).toNat < 65536 := by
  rw [BitVec.toNat_and]
  have := Nat.and_le_left (n := X.toNat) (m := Y.toNat)
  omega

set_option maxRecDepth 100000 in
theorem raise_ref (w : World) (g c : Nat) (P M X C D E : BitVec 32) (act : Int) (hc : c ≤ 16) (hC : C = X &&& BitVec.ofNat 32 (2 ^ c - 1)) (hD : D = C &&& P) (hE : E = P ||| C) (h : RefAt w g c P M act) : Calls Tryd.prog 16 #[.pointer (some ⟨g, 0, none⟩), .int .u32 X.toNat] w fun e w' =>
    e = .returned (.tuple #[.int .u32 C.toNat, .int .u32 D.toNat]) ∧ RefAt w' g c E M act ∧ Only g w w' := by
  have HC := Lib.hid hC; clear hC
  have HD := Lib.hid hD; clear hD
  have HE := Lib.hid hE; clear hE
  have hgl := heapAt_lt h
  have hci : (c : Int) ≤ 16 := by omega
  go_enter Tryd.func16, Tryd.ntmps16
  go_wp2_with fail
  rw [zero_bits]
  have hA1 : ArrAt ((w.alloc (.cells (bitsArr 0#32) 43)).alloc (.cells (bitsArr 0#32) 43)) w.heap.size 0#32 := heap_alloc2_old w _ _
  have hA2 : ArrAt ((w.alloc (.cells (bitsArr 0#32) 43)).alloc (.cells (bitsArr 0#32) 43)) (w.heap.size + 1) 0#32 := heap_alloc2_new w _ _
  have hO : Only g w ((w.alloc (.cells (bitsArr 0#32) 43)).alloc (.cells (bitsArr 0#32) 43)) := ((Only.refl g w).alloc _).alloc _
  have hR : RefAt ((w.alloc (.cells (bitsArr 0#32) 43)).alloc (.cells (bitsArr 0#32) 43)) g c P M act := by
    unfold RefAt
    rw [heapAt_alloc_old _ _ (by show g < (w.heap.push _).size; simp; omega), heapAt_alloc_old _ _ hgl]; exact h
  clear h
  generalize (w.alloc (.cells (bitsArr 0#32) 43)).alloc (.cells (bitsArr 0#32) 43) = w1 at hA1 hA2 hO hR ⊢
  obtain ⟨d1, hd1⟩ : ∃ d, d = w.heap.size := ⟨_, rfl⟩
  obtain ⟨d2, hd2⟩ : ∃ d, d = w.heap.size + 1 := ⟨_, rfl⟩
  rw [← hd1] at hA1 ⊢
  have hd2' : d2 = d1 + 1 := by omega
  rw [← hd2'] at ⊢
  rw [← hd2] at hA2
  have n1 : g ≠ d1 := by omega
  have n2 : g ≠ d2 := by omega
  have n3 : d1 ≠ d2 := by omega
  have g1 : w.heap.size ≤ d1 := by omega
  have g2 : w.heap.size ≤ d2 := by omega
  clear hd1 hd2 hd2' hgl
  have HA1 := Lib.hid hA1; clear hA1
  have HA2 := Lib.hid hA2; clear hA2
  have HR := Lib.hid hR; clear hR
  have HO := Lib.hid hO; clear hO
  go_loopw [8] (fun i wr => ∃ k : Nat, k ≤ c ∧ i = .int .i64 k ∧ RefAt wr g c (mixed (P ||| X) P k) M act ∧ ArrAt wr d1 (mixed X 0#32 k) ∧ ArrAt wr d2 (mixed (X &&& P) 0#32 k) ∧ Only g w wr) (fun i _ => c - (intOf i).toNat)
  case atStart => exact ⟨0, by omega, rfl, by rw [mixed_zero]; exact HR.out, by rw [mixed_zero]; exact HA1.out, by rw [mixed_zero]; exact HA2.out, HO.out⟩
  case round =>
    clear HA1 HA2 HR HO
    obtain ⟨k, hk, rfl, hR, hA1, hA2, hO⟩ := hrel
    have HR := Lib.hid hR; clear hR
    have HA1 := Lib.hid hA1; clear hA1
    have HA2 := Lib.hid hA2; clear hA2
    have HO := Lib.hid hO; clear hO
    have c0 := HR.out.count
    by_cases hlt : k < c
    · have hlti : (k : Int) < 16 := by omega
      by_cases hb : X.getLsbD k = true
      · have cP := HR.out.wait k (by omega)
        rw [mixed_bit _ _ k k (by omega) (by omega), if_neg (by omega)] at cP
        have c1 := HA1.out.cell k (by omega)
        have f1 := HA1.out.free k
        have c2 := HA2.out.cell k (by omega)
        have f2 := HA2.out.free k
        have fP := HR.out.free (1 + k)
        have n1' := n1.symm
        have n2' := n2.symm
        have n3' := n3.symm
        have HA3 := Lib.hid (((HA1.out.set (mixed X 0#32 (k + 1)) k true (by omega) (fun j hj => by rw [mixed_step X 0#32 k (by omega) j hj, hb])).far n3 k (.bool (P.getLsbD k))).far n1' (1 + k) (.bool true))
        have HA4 := Lib.hid (((HA2.out.far n3' k (.bool true)).set (mixed (X &&& P) 0#32 (k + 1)) k (P.getLsbD k) (by omega) (fun j hj => by rw [mixed_step (X &&& P) 0#32 k (by omega) j hj, BitVec.getLsbD_and, hb, Bool.true_and])).far n2' (1 + k) (.bool true))
        have HR3 := Lib.hid (((HR.out.far n1 k (.bool true)).far n2 k (.bool (P.getLsbD k))).setP (mixed (P ||| X) P (k + 1)) k true (by omega) (fun j hj => by rw [mixed_step (P ||| X) P k (by omega) j hj, BitVec.getLsbD_or, hb, Bool.or_true]))
        have HO3 := Lib.hid (((HO.out.setNew g1 k (.bool true)).setNew g2 k (.bool (P.getLsbD k))).setCell (1 + k) (.bool true))
        have HB := Lib.hid hb
        clear hb HA1 HA2 HR HO
        go_wp2_with fail
        refine (bit_any _ X k (by omega) true HB.out.symm).mono ?_
        rintro e w' ⟨rfl, rfl⟩
        go_wp2_with fail
        go_roundw
        case rel => exact ⟨k + 1, by omega, by go_num, HR3.out, HA3.out, HA4.out, HO3.out⟩
        case measure => simp [intOf]; omega
      · have hbf : X.getLsbD k = false := by simpa using hb
        have HR1 : Hid (RefAt wr g c (mixed (P ||| X) P (k + 1)) M act) := Lib.hid (by rw [mixed_skip _ _ k (by omega) (by rw [BitVec.getLsbD_or, hbf, Bool.or_false])]; exact HR.out)
        have HA3 : Hid (ArrAt wr d1 (mixed X 0#32 (k + 1))) := Lib.hid (by rw [mixed_skip _ _ k (by omega) (by rw [hbf]; simp)]; exact HA1.out)
        have HA4 : Hid (ArrAt wr d2 (mixed (X &&& P) 0#32 (k + 1))) := Lib.hid (by rw [mixed_skip _ _ k (by omega) (by rw [BitVec.getLsbD_and, hbf]; simp)]; exact HA2.out)
        clear hb
        have HB := Lib.hid hbf; clear hbf
        go_wp2_with fail
        refine (bit_any _ X k (by omega) false HB.out.symm).mono ?_
        rintro e w' ⟨rfl, rfl⟩
        go_wp2_with fail
        go_roundw
        case rel => exact ⟨k + 1, by omega, by go_num, HR1.out, HA3.out, HA4.out, HO.out⟩
        case measure => simp [intOf]; omega
    · obtain rfl : k = c := by omega
      go_wp2
      rw [mixed_or X P k hc, ← HC.out, ← HE.out] at HR
      rw [mixed_low X k hc, ← HC.out] at HA1
      rw [mixed_and X P k hc, ← HC.out, ← HD.out] at HA2
      have hCs : C.toNat < 65536 := by rw [HC.out]; exact low_lt16 X k hc
      have hDs : D.toNat < 65536 := by rw [HD.out]; exact and_lt16 _ P hCs
      refine wp_region_rel _ Grow (fun w' => ArrAt w' d1 C ∧ ArrAt w' d2 D ∧ Grow wr w') [([(6, none)], none), ([(35, some 0)], none), ([(7, none)], none), ([(37, some 0)], none), ([(36, some 2)], none), ([(38, some 1)], none)] (by kernel_rfl) (by kernel_rfl) (⟨HA1.out, HA2.out, Grow.drewN wr 1⟩) ?_
      (refine rel_pure ?_; apply Exists.intro; refine ⟨fun a w hF hk => ?_, ?_⟩; focus (refine rel_none fun K hK => ?_; refine wp_load_row 43 (.tmp 6) (by rfl) d1 (by exact hk.1) 43 _ (0, 0) _ (hF.1) Tryd.underlying43 rfl (info43b _) (hK _ _ (Grow.refl _) hF rfl)))
      (refine rel_pure ?_; apply Exists.intro; refine ⟨fun a w hF hk => ?_, ?_⟩; focus (refine rel_none fun K hK => ?_; (try simp at hk); go_simp; refine (word_any _ C hCs).mono ?_; rintro e w' ⟨rfl, hg⟩; exact hK _ _ hg (⟨hF.1.grow hg, hF.2.1.grow hg, hF.2.2.trans hg⟩) rfl))
      (refine rel_pure ?_; apply Exists.intro; refine ⟨fun a w hF hk => ?_, ?_⟩; focus (refine rel_none fun K hK => ?_; refine wp_load_row 43 (.tmp 7) (by rfl) d2 (by exact hk.1) 43 _ (0, 0) _ (hF.2.1) Tryd.underlying43 rfl (info43b _) (hK _ _ (Grow.refl _) hF rfl)))
      (refine rel_pure ?_; apply Exists.intro; refine ⟨fun a w hF hk => ?_, ?_⟩; focus (refine rel_none fun K hK => ?_; (try simp at hk); go_simp; refine (word_any _ D hDs).mono ?_; rintro e w' ⟨rfl, hg⟩; exact hK _ _ hg (⟨hF.1.grow hg, hF.2.1.grow hg, hF.2.2.trans hg⟩) rfl))
      (refine rel_pure ?_; apply Exists.intro; refine ⟨fun a w hF hk => ?_, ?_⟩; focus (first | exact rel_no hk.1 rfl rfl | ((first | (refine rel_none fun K hK => ?_) | (refine rel_yes hk.1 fun K hK => ?_)); (try simp at hk); go_simp; exact hK _ _ (Grow.refl _) hF rfl)))
      (refine rel_pure ?_; apply Exists.intro; refine ⟨fun a w hF hk => ?_, ?_⟩; focus (first | exact rel_no hk.1 rfl rfl | ((first | (refine rel_none fun K hK => ?_) | (refine rel_yes hk.1 fun K hK => ?_)); (try simp at hk); go_simp; exact hK _ _ (Grow.refl _) hF rfl)))
      refine rel_done fun wR hF => ?_
      repeat (first | (refine fun v hv => ?_; obtain rfl : v = _ := hv) | (refine fun v hv => ?_))
      simp only [Act.put, List.setIfInBounds_toArray, List.set_cons_zero, List.set_cons_succ]
      refine rel_nil ?_
      go_wp2
      go_ret2
      exact ⟨rfl, heapAt_below hF.2.2 (heapAt_lt HR.out) HR.out, HO.out.of_below hF.2.2⟩
theorem RefAt.rangeP {w : World} {g c : Nat} {P M : BitVec 32} {act : Int} (h : RefAt w g c P M act) : w.rangeAt g 1 (bitsArr P).toList := fun j v hv => by
  have hj : j < 16 := by
    have := (List.getElem?_eq_some_iff.1 hv).1
    simpa [bitsArr_size] using this
  rw [Array.getElem?_toList, bitsArr_at P j hj] at hv
  rw [h.wait j hj, hv]
theorem RefAt.rangeM {w : World} {g c : Nat} {P M : BitVec 32} {act : Int} (h : RefAt w g c P M act) : w.rangeAt g 17 (bitsArr M).toList := fun j v hv => by
  have hj : j < 16 := by
    have := (List.getElem?_eq_some_iff.1 hv).1
    simpa [bitsArr_size] using this
  rw [Array.getElem?_toList, bitsArr_at M j hj] at hv
  rw [h.let_ j hj, hv]
theorem info43c (X : BitVec 32) : (Tryd.prog.info? 43).map (·.size) = some (bitsArr X).toList.length := by rw [Array.length_toList, bitsArr_size]; exact info43
set_option maxRecDepth 100000 in
theorem alike_any (w : World) (b g c : Nat) (A P M : BitVec 32) (act : Int) (hP : P.toNat < 65536) (hM : M.toNat < 65536) (hl : LineAt w b A P M act) (hr : RefAt w g c P M act) :
    Calls Tryd.prog 20 #[.pointer (some ⟨b, 0, none⟩), .pointer (some ⟨g, 0, none⟩)] w fun e w' => e = .returned (.bool true) ∧ Grow w w' := by
  have HL := Lib.hid hl; clear hl
  have HR := Lib.hid hr; clear hr
  go_enter Tryd.func20, Tryd.ntmps20
  go_wp2_with fail
  refine wp_region_rel _ Grow (fun w' => LineAt w' b A P M act ∧ RefAt w' g c P M act ∧ Grow w w') [([(0, none)], none), ([(5, some 0)], none), ([(1, none)], none), ([(7, some 0)], none), ([(8, some 0)], none), ([(9, some 0)], none), ([(6, some 4), (10, some 0)], none), ([(11, some 0)], none), ([(12, some 0), (0, none)], some (12, true)), ([(12, some 1), (13, some 0)], some (12, true)), ([(12, some 2), (1, none)], some (12, true)), ([(12, some 3), (15, some 0)], some (12, true)), ([(12, some 4), (16, some 0)], some (12, true)), ([(12, some 5), (17, some 0)], some (12, true)), ([(12, some 6), (18, some 0)], some (12, true)), ([(12, some 7), (14, some 5), (19, some 0)], some (12, true)), ([(12, some 8), (20, some 0)], none), ([(21, some 0)], none), ([(22, some 0), (0, none)], some (22, true)), ([(22, some 1), (23, some 0)], some (22, true)), ([(22, some 2), (1, none)], some (22, true)), ([(22, some 3), (25, some 0)], some (22, true)), ([(22, some 4), (26, some 0)], some (22, true)), ([(22, some 5), (27, some 0)], some (22, true)), ([(22, some 6), (28, some 0)], some (22, true)), ([(22, some 7), (24, some 5), (29, some 0)], some (22, true)), ([(22, some 8), (30, some 0)], none), ([(31, some 0)], none)] (by kernel_rfl) (by kernel_rfl) (⟨HL.out, HR.out, Grow.drewN w 1⟩) ?_
  (refine rel_pure ?_; apply Exists.intro; refine ⟨fun a w hF hk => ?_, ?_⟩; focus (first | exact rel_no hk.1 rfl rfl | ((first | (refine rel_none fun K hK => ?_) | (refine rel_yes hk.1 fun K hK => ?_)); (try simp at hk); go_simp; exact hK _ _ (Grow.refl _) hF rfl)))
  (refine rel_pure ?_; apply Exists.intro; refine ⟨fun a w hF hk => ?_, ?_⟩; focus (refine rel_none fun K hK => ?_; (try simp at hk); go_simp; refine (active_any _ b A P M act hF.1).mono ?_; rintro e w' ⟨rfl, rfl⟩; exact hK _ _ (Grow.refl _) hF rfl))
  (refine rel_pure ?_; apply Exists.intro; refine ⟨fun a w hF hk => ?_, ?_⟩; focus (first | exact rel_no hk.1 rfl rfl | ((first | (refine rel_none fun K hK => ?_) | (refine rel_yes hk.1 fun K hK => ?_)); (try simp at hk); go_simp; exact hK _ _ (Grow.refl _) hF rfl)))
  (refine rel_pure ?_; apply Exists.intro; refine ⟨fun a w hF hk => ?_, ?_⟩; focus (first | exact rel_no hk.1 rfl rfl | ((first | (refine rel_none fun K hK => ?_) | (refine rel_yes hk.1 fun K hK => ?_)); (try simp at hk); go_simp; exact hK _ _ (Grow.refl _) hF rfl)))
  (refine rel_pure ?_; apply Exists.intro; refine ⟨fun a w hF hk => ?_, ?_⟩; focus (first | exact rel_no hk.1 rfl rfl | ((first | (refine rel_none fun K hK => ?_) | (refine rel_yes hk.1 fun K hK => ?_)); (try simp at hk); go_simp; exact hK _ _ (Grow.refl _) hF rfl)))
  (refine rel_pure ?_; apply Exists.intro; refine ⟨fun a w hF hk => ?_, ?_⟩; focus (refine rel_none fun K hK => ?_; (try simp at hk); have c3 := hF.2.1.act_; go_simp; exact hK _ _ (Grow.refl _) hF rfl))
  (refine rel_pure ?_; apply Exists.intro; refine ⟨fun a w hF hk => ?_, ?_⟩; focus (first | exact rel_no hk.1 rfl rfl | ((first | (refine rel_none fun K hK => ?_) | (refine rel_yes hk.1 fun K hK => ?_)); (try simp at hk); go_simp; exact hK _ _ (Grow.refl _) hF rfl)))
  (refine rel_pure ?_; apply Exists.intro; refine ⟨fun a w hF hk => ?_, ?_⟩; focus (first | exact rel_no hk.1 rfl rfl | ((first | (refine rel_none fun K hK => ?_) | (refine rel_yes hk.1 fun K hK => ?_)); (try simp at hk); go_simp; exact hK _ _ (Grow.refl _) hF rfl)))
  (refine rel_pure ?_; apply Exists.intro; refine ⟨fun a w hF hk => ?_, ?_⟩; focus (first | exact rel_no hk.1 rfl rfl | ((first | (refine rel_none fun K hK => ?_) | (refine rel_yes hk.1 fun K hK => ?_)); (try simp at hk); go_simp; exact hK _ _ (Grow.refl _) hF rfl)))
  (refine rel_pure ?_; apply Exists.intro; refine ⟨fun a w hF hk => ?_, ?_⟩; focus (refine rel_yes hk.1 fun K hK => ?_; (try simp at hk); go_simp; refine (pending_any _ b A P M act hF.1).mono ?_; rintro e w' ⟨rfl, rfl⟩; exact hK _ _ (Grow.refl _) hF rfl))
  (refine rel_pure ?_; apply Exists.intro; refine ⟨fun a w hF hk => ?_, ?_⟩; focus (first | exact rel_no hk.1 rfl rfl | ((first | (refine rel_none fun K hK => ?_) | (refine rel_yes hk.1 fun K hK => ?_)); (try simp at hk); go_simp; exact hK _ _ (Grow.refl _) hF rfl)))
  (refine rel_pure ?_; apply Exists.intro; refine ⟨fun a w hF hk => ?_, ?_⟩; focus (first | exact rel_no hk.1 rfl rfl | ((first | (refine rel_none fun K hK => ?_) | (refine rel_yes hk.1 fun K hK => ?_)); (try simp at hk); go_simp; exact hK _ _ (Grow.refl _) hF rfl)))
  (refine rel_pure ?_; apply Exists.intro; refine ⟨fun a w hF hk => ?_, ?_⟩; focus (first | exact rel_no hk.1 rfl rfl | ((first | (refine rel_none fun K hK => ?_) | (refine rel_yes hk.1 fun K hK => ?_)); (try simp at hk); go_simp; exact hK _ _ (Grow.refl _) hF rfl)))
  (refine rel_pure ?_; apply Exists.intro; refine ⟨fun a w hF hk => ?_, ?_⟩; focus (refine rel_yes hk.1 fun K hK => ?_; refine wp_load_mid 43 (.tmp 17) (by rfl) g 1 (by exact hk.2.1) (bitsArr P).toList _ (hF.2.1.rangeP) Tryd.underlying43 rfl (info43c P) ?_; rw [Array.toArray_toList]; exact hK _ _ (Grow.refl _) hF rfl))
  (refine rel_pure ?_; apply Exists.intro; refine ⟨fun a w hF hk => ?_, ?_⟩; focus (refine rel_yes hk.1 fun K hK => ?_; (try simp at hk); go_simp; refine (word_any _ P hP).mono ?_; rintro e w' ⟨rfl, hg⟩; exact hK _ _ hg (⟨heapAt_below hg (heapAt_lt hF.1) hF.1, heapAt_below hg (heapAt_lt hF.2.1) hF.2.1, hF.2.2.trans hg⟩) rfl))
  (refine rel_pure ?_; apply Exists.intro; refine ⟨fun a w hF hk => ?_, ?_⟩; focus (first | exact rel_no hk.1 rfl rfl | ((first | (refine rel_none fun K hK => ?_) | (refine rel_yes hk.1 fun K hK => ?_)); (try simp at hk); go_simp; exact hK _ _ (Grow.refl _) hF rfl)))
  (refine rel_pure ?_; apply Exists.intro; refine ⟨fun a w hF hk => ?_, ?_⟩; focus (first | exact rel_no hk.1 rfl rfl | ((first | (refine rel_none fun K hK => ?_) | (refine rel_yes hk.1 fun K hK => ?_)); (try simp at hk); go_simp; exact hK _ _ (Grow.refl _) hF rfl)))
  (refine rel_pure ?_; apply Exists.intro; refine ⟨fun a w hF hk => ?_, ?_⟩; focus (first | exact rel_no hk.1 rfl rfl | ((first | (refine rel_none fun K hK => ?_) | (refine rel_yes hk.1 fun K hK => ?_)); (try simp at hk); go_simp; exact hK _ _ (Grow.refl _) hF rfl)))
  (refine rel_pure ?_; apply Exists.intro; refine ⟨fun a w hF hk => ?_, ?_⟩; focus (first | exact rel_no hk.1 rfl rfl | ((first | (refine rel_none fun K hK => ?_) | (refine rel_yes hk.1 fun K hK => ?_)); (try simp at hk); go_simp; exact hK _ _ (Grow.refl _) hF rfl)))
  (refine rel_pure ?_; apply Exists.intro; refine ⟨fun a w hF hk => ?_, ?_⟩; focus (refine rel_yes hk.1 fun K hK => ?_; (try simp at hk); go_simp; refine (mask_any _ b A P M act hF.1).mono ?_; rintro e w' ⟨rfl, rfl⟩; exact hK _ _ (Grow.refl _) hF rfl))
  (refine rel_pure ?_; apply Exists.intro; refine ⟨fun a w hF hk => ?_, ?_⟩; focus (first | exact rel_no hk.1 rfl rfl | ((first | (refine rel_none fun K hK => ?_) | (refine rel_yes hk.1 fun K hK => ?_)); (try simp at hk); go_simp; exact hK _ _ (Grow.refl _) hF rfl)))
  (refine rel_pure ?_; apply Exists.intro; refine ⟨fun a w hF hk => ?_, ?_⟩; focus (first | exact rel_no hk.1 rfl rfl | ((first | (refine rel_none fun K hK => ?_) | (refine rel_yes hk.1 fun K hK => ?_)); (try simp at hk); go_simp; exact hK _ _ (Grow.refl _) hF rfl)))
  (refine rel_pure ?_; apply Exists.intro; refine ⟨fun a w hF hk => ?_, ?_⟩; focus (first | exact rel_no hk.1 rfl rfl | ((first | (refine rel_none fun K hK => ?_) | (refine rel_yes hk.1 fun K hK => ?_)); (try simp at hk); go_simp; exact hK _ _ (Grow.refl _) hF rfl)))
  (refine rel_pure ?_; apply Exists.intro; refine ⟨fun a w hF hk => ?_, ?_⟩; focus (refine rel_yes hk.1 fun K hK => ?_; refine wp_load_mid 43 (.tmp 27) (by rfl) g 17 (by exact hk.2.1) (bitsArr M).toList _ (hF.2.1.rangeM) Tryd.underlying43 rfl (info43c M) ?_; rw [Array.toArray_toList]; exact hK _ _ (Grow.refl _) hF rfl))
  (refine rel_pure ?_; apply Exists.intro; refine ⟨fun a w hF hk => ?_, ?_⟩; focus (refine rel_yes hk.1 fun K hK => ?_; (try simp at hk); go_simp; refine (word_any _ M hM).mono ?_; rintro e w' ⟨rfl, hg⟩; exact hK _ _ hg (⟨heapAt_below hg (heapAt_lt hF.1) hF.1, heapAt_below hg (heapAt_lt hF.2.1) hF.2.1, hF.2.2.trans hg⟩) rfl))
  (refine rel_pure ?_; apply Exists.intro; refine ⟨fun a w hF hk => ?_, ?_⟩; focus (first | exact rel_no hk.1 rfl rfl | ((first | (refine rel_none fun K hK => ?_) | (refine rel_yes hk.1 fun K hK => ?_)); (try simp at hk); go_simp; exact hK _ _ (Grow.refl _) hF rfl)))
  (refine rel_pure ?_; apply Exists.intro; refine ⟨fun a w hF hk => ?_, ?_⟩; focus (first | exact rel_no hk.1 rfl rfl | ((first | (refine rel_none fun K hK => ?_) | (refine rel_yes hk.1 fun K hK => ?_)); (try simp at hk); go_simp; exact hK _ _ (Grow.refl _) hF rfl)))
  (refine rel_pure ?_; apply Exists.intro; refine ⟨fun a w hF hk => ?_, ?_⟩; focus (first | exact rel_no hk.1 rfl rfl | ((first | (refine rel_none fun K hK => ?_) | (refine rel_yes hk.1 fun K hK => ?_)); (try simp at hk); go_simp; exact hK _ _ (Grow.refl _) hF rfl)))
  refine rel_done fun wR hF => ?_
  repeat (first | (refine fun v hv => ?_; obtain rfl : v = _ := hv) | (refine fun v hv => ?_))
  simp only [Act.put, List.setIfInBounds_toArray, List.set_cons_zero, List.set_cons_succ]
  refine rel_nil ?_
  go_wp2
  go_ret
  exact ⟨rfl, hF.2.2⟩
end Go.Proofs.YtglnabgageeipaaDoor
