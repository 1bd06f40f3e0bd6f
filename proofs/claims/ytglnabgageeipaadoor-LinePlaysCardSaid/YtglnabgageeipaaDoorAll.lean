/- The walk of LineAll. -/
import Derived.Test.YtglnabgageeipaaDoorBit
namespace Go.Proofs.YtglnabgageeipaaDoor
open Go.RowKit

/-- The bits from place i on. -/
def up (C : BitVec 32) (i : Nat) : BitVec 32 := (C >>> i) <<< i
theorem up_bit (C : BitVec 32) (i j : Nat) : (up C i).getLsbD j = (decide (i ≤ j) && C.getLsbD j) := by
  unfold up
  rw [BitVec.getLsbD_shiftLeft, BitVec.getLsbD_ushiftRight]
  by_cases h : i ≤ j
  · rw [show i + (j - i) = j by omega]
    by_cases h2 : j < 32
    · simp [h, h2]
    · rw [BitVec.getLsbD_of_ge C j (by omega)]; simp
  · simp [h]
theorem up_zero (C : BitVec 32) : up C 0 = C := by unfold up; simp
theorem up_skip (C : BitVec 32) (i : Nat) (h : C.getLsbD i = false) : up C (i + 1) = up C i := by
  apply BitVec.eq_of_getLsbD_eq
  intro j hj
  rw [up_bit, up_bit]
  by_cases e : j = i
  · subst e; rw [h]; simp
  · have : decide (i + 1 ≤ j) = decide (i ≤ j) := by rw [decide_eq_decide]; omega
    rw [this]
theorem up_take (C : BitVec 32) (i : Nat) (h : i < 32) : up C (i + 1) = up C i &&& ~~~(1#32 <<< i) := by
  apply BitVec.eq_of_getLsbD_eq
  intro j hj
  rw [BitVec.getLsbD_and, BitVec.getLsbD_not, BitVec.getLsbD_shiftLeft, up_bit, up_bit]
  by_cases e : j = i
  · subst e; simp [hj]; intro h'; omega
  · by_cases l : i ≤ j
    · have : (1#32).getLsbD (j - i) = false := by
        rw [BitVec.getLsbD_one]; simp; omega
      rw [this]
      have : decide (i + 1 ≤ j) = true := by simp; omega
      simp [this, l, hj]
    · have : decide (i + 1 ≤ j) = false := by simp; omega
      simp [this, l]
theorem up_ctz (C : BitVec 32) (i : Nat) (h : C.getLsbD i = true) : ctz (up C i) = i :=
  ctz_eq (by rw [up_bit]; simp [h]) (fun j hj => by rw [up_bit]; simp; omega)
theorem up_ne (C : BitVec 32) (i : Nat) (h : C.getLsbD i = true) : up C i ≠ 0#32 := fun e => by
  have : (up C i).getLsbD i = true := by rw [up_bit]; simp [h]
  rw [e] at this; simp at this
theorem all_bit (c j : Nat) (hc : c ≤ 16) : (BitVec.ofNat 32 (2 ^ c - 1)).getLsbD j = decide (j < c) := by
  rw [BitVec.getLsbD_ofNat, Nat.testBit_two_pow_sub_one]
  by_cases h : j < c
  · simp [h]; omega
  · simp [h]
theorem up_and (X A : BitVec 32) (i : Nat) : up (X &&& A) i &&& A = up (X &&& A) i := by
  apply BitVec.eq_of_getLsbD_eq
  intro j hj
  rw [BitVec.getLsbD_and, up_bit, BitVec.getLsbD_and]
  cases A.getLsbD j <;> simp
theorem up_end (X A : BitVec 32) (c : Nat) (hc : c ≤ 16) (hA : A = BitVec.ofNat 32 (2 ^ c - 1)) : up (X &&& A) c = 0#32 := by
  apply BitVec.eq_of_getLsbD_eq
  intro j hj
  rw [up_bit, BitVec.getLsbD_and, hA, all_bit c j hc]
  by_cases h : c ≤ j
  · have : ¬ j < c := by omega
    simp [this]
  · simp [h]
attribute [local irreducible] up ctz

theorem awake_st {w0 : World} {b : Nat} {A P M : BitVec 32} {act : Int} (w : World) (h : St w0 b A P M act w) : Calls Tryd.prog 8 #[] w fun e w' => e = .returned (.bool true) ∧ St w0 b A P M act w' :=
  (awake_bl (w0 := w) w (Bl.refl h.1.tab)).mono fun _ _ ⟨he, hb⟩ => ⟨he, h.below hb.2⟩

set_option maxRecDepth 100000 in
theorem lineAll_out (c : Int) (X : BitVec 32) (w : World) (hT : TabAt w) (hc : c < 0 ∨ 16 < c) : Calls Tryd.prog 3 #[.int .i64 c, .int .u32 X.toNat] w fun e w' => e = .returned (.bool true) ∧ Bl w w' := by
  have h := Bl.refl hT
  go_enter Tryd.func3, Tryd.ntmps3
  go_wp2_with fail
  refine (new_bad _ c 0#32 hc).mono ?_
  rintro e w' ⟨rfl, rfl⟩
  go_wp2_with fail
  refine (awake_bl _ h).mono ?_
  rintro e w1 ⟨rfl, h1⟩
  go_wp2_with fail
  refine (awake_bl _ h1).mono ?_
  rintro e w2 ⟨rfl, h2⟩
  go_wp2
  go_ret
  exact ⟨rfl, h2⟩

set_option maxRecDepth 100000 in
theorem lineAll_in (c : Nat) (hc : c ≤ 16) (X : BitVec 32) (w : World) (hT : TabAt w) : Calls Tryd.prog 3 #[.int .i64 c, .int .u32 X.toNat] w fun e w' => e = .returned (.bool true) ∧ Bl w w' := by
  have h := Bl.refl hT
  have hci : (c : Int) ≤ 16 := by omega
  obtain ⟨A, hA⟩ : ∃ A, A = BitVec.ofNat 32 (2 ^ c - 1) := ⟨_, rfl⟩
  obtain ⟨C, hC⟩ : ∃ C, C = X &&& A := ⟨_, rfl⟩
  have HA := Lib.hid hA; clear hA
  have HC := Lib.hid hC; clear hC
  go_enter Tryd.func3, Tryd.ntmps3
  go_wp2_with fail
  refine (new_st _ c hc 0#32 A HA.out (by simp) h).mono ?_
  rintro e w1 ⟨b, rfl, h1⟩
  clear h
  go_wp2_with fail
  refine (awake_st _ h1).mono ?_
  rintro e w2 ⟨rfl, h2⟩
  go_wp2_with fail
  refine (raise_st _ A 0#32 0#32 X C 0#32 C 255 HC.out (by simp) (by simp) h2).mono ?_
  rintro e w3 ⟨rfl, h3⟩
  go_wp2_with fail
  refine (enter_none_st _ _ _ _ _ rfl (by simp) h3).mono ?_
  rintro e w4 ⟨rfl, h4⟩
  go_wp2_with fail
  refine (let_st _ A C 0#32 4294967295#32 A 255 (by rw [show (4294967295#32) = BitVec.allOnes 32 by decide, BitVec.allOnes_and]) h4).mono ?_
  rintro e w5 ⟨rfl, h5⟩
  clear h1 h2 h3 h4
  go_wp2_with fail
  go_loopw [11] (fun i wr => ∃ k : Nat, k ≤ c ∧ i = .int .i64 k ∧ St w b A (up C k) A 255 wr) (fun i _ => c - (intOf i).toNat)
  case atStart => exact ⟨0, by omega, rfl, by rw [up_zero]; exact h5⟩
  case round =>
    obtain ⟨k, hk, rfl, hst⟩ := hrel
    have Hst := Lib.hid hst; clear hst
    by_cases hlt : k < c
    · cases hbit : C.getLsbD k with
      | false =>
        have HB := Lib.hid hbit; clear hbit
        go_wp2_with fail
        refine (bit_any _ C k (by omega) false HB.out.symm).mono ?_
        rintro e w' ⟨rfl, rfl⟩
        go_wp2_with fail
        go_roundw
        case rel => exact ⟨k + 1, by omega, by go_num, by rw [up_skip C k HB.out]; exact Hst.out⟩
        case measure => simp [intOf]; omega
      | true =>
        have HB := Lib.hid hbit; clear hbit
        go_wp2_with fail
        refine (bit_any _ C k (by omega) true HB.out.symm).mono ?_
        rintro e w' ⟨rfl, rfl⟩
        go_wp2_with fail
        refine (enter_one_st _ A (up C k) A (up C k) (up C (k + 1)) 255 k rfl (by rw [HC.out]; exact up_and X A k) (up_ne C k HB.out) (up_ctz C k HB.out) (up_take C k (by omega)) Hst.out).mono ?_
        rintro e w7 ⟨rfl, h7⟩
        go_wp2_with fail
        refine (leave_st _ _ _ _ _ true (by simp; omega) h7).mono ?_
        rintro e w8 ⟨rfl, h8⟩
        go_wp2_with fail
        go_roundw
        case rel => exact ⟨k + 1, by omega, by go_num, h8⟩
        case measure => simp [intOf]; omega
    · have HK := Lib.hid (show k = c by omega)
      have HE := Lib.hid (show up C k = 0#32 by rw [HK.out, HC.out]; exact up_end X A c hc HA.out)
      have h6 : St w b A 0#32 A 255 wr := by have := Hst.out; rw [HE.out] at this; exact this
      go_wp2_with fail
      refine (enter_none_st _ _ _ _ _ rfl (by simp) h6).mono ?_
      rintro e w9 ⟨rfl, h9⟩
      go_wp2_with fail
      refine (pending_st _ _ _ _ _ h9).mono ?_
      rintro e w' ⟨rfl, rfl⟩
      go_wp2
      go_ret
      exact ⟨rfl, h9.1⟩

theorem lineAll_walk (c : Int) (X : BitVec 32) (w : World) (hT : TabAt w) : Calls Tryd.prog 3 #[.int .i64 c, .int .u32 X.toNat] w fun e w' => e = .returned (.bool true) ∧ Bl w w' := by
  by_cases h : c < 0 ∨ 16 < c
  · exact lineAll_out c X w hT h
  · obtain ⟨n, rfl⟩ := Int.eq_ofNat_of_zero_le (show 0 ≤ c by omega)
    exact lineAll_in n (by omega) X w hT
end Go.Proofs.YtglnabgageeipaaDoor
