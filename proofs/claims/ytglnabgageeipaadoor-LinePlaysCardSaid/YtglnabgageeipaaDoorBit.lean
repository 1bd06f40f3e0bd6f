/- The reference's Bit, and words by their bits. -/
import Derived.Test.YtglnabgageeipaaDoorAwake
namespace Go.Proofs.YtglnabgageeipaaDoor
open Go.RowKit

/-! ### The lowest one bit -/
theorem ctz_spec {x : BitVec 32} (h : x ≠ 0#32) : x.getLsbD (ctz x) = true ∧ ∀ j, j < ctz x → x.getLsbD j = false := by
  have h0 : 0 < x.toNat := by
    refine Nat.pos_of_ne_zero fun e => h (BitVec.eq_of_toNat_eq (by simpa using e))
  obtain ⟨m, hm, _⟩ := Lib.ctzFrom_spec 32 x.toNat h0 x.isLt
  have he : ctz x = Lib.ctzFrom 32 x.toNat := by
    unfold ctz Lib.ctz
    rw [if_neg (by omega)]
  rw [← he] at hm
  refine ⟨?_, fun j hj => ?_⟩
  · rw [← BitVec.testBit_toNat, hm, Nat.testBit_two_pow_mul]; simp
  · rw [← BitVec.testBit_toNat, hm, Nat.testBit_two_pow_mul]; simp; omega
theorem ctz_eq {x : BitVec 32} {k : Nat} (hk : x.getLsbD k = true) (hlow : ∀ j, j < k → x.getLsbD j = false) : ctz x = k := by
  have hx : x ≠ 0#32 := fun e => by rw [e] at hk; simp at hk
  obtain ⟨h1, h2⟩ := ctz_spec hx
  rcases Nat.lt_trichotomy (ctz x) k with h | h | h
  · rw [hlow _ h] at h1; cases h1
  · exact h
  · rw [h2 _ h] at hk; cases hk

theorem half_word (X : BitVec 32) (j : Nat) : ((X.toNat / 2 ^ j : Nat) : Int) / 2 = ((X.toNat / 2 ^ (j + 1) : Nat) : Int) := by
  rw [Nat.pow_succ, ← Nat.div_div_eq_div_mul]; omega
theorem last_bit (X : BitVec 32) (k : Nat) : (((X.toNat / 2 ^ k : Nat) : Int) % 2 == 1) = X.getLsbD k := by
  rw [← BitVec.testBit_toNat, Nat.testBit_eq_decide_div_mod_eq]
  by_cases h : X.toNat / 2 ^ k % 2 = 1
  · rw [decide_eq_true h]
    simp only [beq_iff_eq]; omega
  · rw [decide_eq_false h]
    simp only [beq_eq_false_iff_ne, ne_eq]; omega

set_option maxRecDepth 100000 in
theorem bit_any (w : World) (X : BitVec 32) (k : Nat) (hk : (k : Int) ≤ 1000) (r : Bool) (hr : r = X.getLsbD k) : Calls Tryd.prog 12 #[.int .u32 X.toNat, .int .i64 k] w fun e w' => e = .returned (.bool r) ∧ w' = w := by
  have HR := Lib.hid hr; clear hr
  have hX := X.isLt
  go_enter Tryd.func12, Tryd.ntmps12
  go_wp2
  go_loopw [5, 0] (fun i x wr => ∃ j : Nat, j ≤ k ∧ i = .int .i64 j ∧ x = .int .u32 ((X.toNat / 2 ^ j : Nat) : Int) ∧ wr = w) (fun i _ _ => k - (intOf i).toNat)
  case atStart => exact ⟨0, by omega, rfl, by simp, rfl⟩
  case round =>
    obtain ⟨j, hj, rfl, rfl, rfl⟩ := hrel
    have hb : X.toNat / 2 ^ j ≤ X.toNat := Nat.div_le_self _ _
    have HH := Lib.hid (half_word X j)
    have HL := Lib.hid (last_bit X j)
    generalize X.toNat / 2 ^ j = q at *
    by_cases hlt : j < k
    · go_wp2
      go_roundw
      case rel => exact ⟨j + 1, by omega, by go_num, by rw [← HH.out], trivial⟩
      case measure => simp [intOf]; omega
    · have HJ := Lib.hid (show j = k by omega)
      go_wp2
      go_ret
      exact ⟨by rw [HL.out, HJ.out, HR.out]; rfl, rfl⟩
end Go.Proofs.YtglnabgageeipaaDoor
