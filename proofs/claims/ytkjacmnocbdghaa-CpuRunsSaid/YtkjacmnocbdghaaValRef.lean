/- What two words come to, by the reference: the walk of value. -/
import Derived.Test.YtkjacmnocbdghaaVal
namespace Go.Proofs.Ytkjacmnocbdghaa
open Go.RowKit
set_option linter.unusedVariables false
theorem u64_in (x : Int) (h0 : 0 ≤ x) (h1 : x < 18446744073709551616) : IntKind.u64.wrap x = x := by
  rw [IntKind.wrap_u64]; omega
theorem shl_small (b : BitVec 32) (q : Nat) (hq : q < 32) : (b.toNat : Int) * 2 ^ q < 18446744073709551616 := by
  have h1 : 2 ^ q ≤ 2 ^ 31 := Nat.pow_le_pow_right (by omega) (by omega)
  have h2 := b.isLt
  have h3 : b.toNat * 2 ^ q ≤ b.toNat * 2 ^ 31 := Nat.mul_le_mul_left _ h1
  have : (b.toNat : Int) * 2 ^ q = ((b.toNat * 2 ^ q : Nat) : Int) := by rw [Int.natCast_mul, Int.natCast_pow]; rfl
  rw [this]; omega
theorem w_shl2 (b : BitVec 32) (q : Nat) (hq : q < 32) : (IntKind.u64.wrap ((b.toNat : Int) * 2 ^ q)).tmod 4294967296 % 4294967296 = ((b <<< q).toNat : Int) := by
  rw [← w_shl b q]
  have h0 : 0 ≤ (b.toNat : Int) * 2 ^ q := by
    have : (b.toNat : Int) * 2 ^ q = ((b.toNat * 2 ^ q : Nat) : Int) := by rw [Int.natCast_mul, Int.natCast_pow]; rfl
    rw [this]; omega
  have hx := shl_small b q hq
  generalize (b.toNat : Int) * 2 ^ q = x at *
  have h1 : x < 18446744073709551616 := hx
  rw [u64_in x h0 h1, Int.tmod_eq_emod_of_nonneg h0]
  omega
theorem w_shr2 (b : BitVec 32) (q : Nat) : IntKind.u64.wrap ((b.toNat : Int) / 2 ^ q) % 4294967296 = ((b >>> q).toNat : Int) := by
  rw [w_shr b q]
  have := (b >>> q).isLt
  generalize (b >>> q).toNat = x at *
  rw [u64_in (x : Int) (by omega) (by omega)]
  omega
theorem w_mod2 (b c : BitVec 32) (h : c ≠ 0#32) : ((b.toNat : Int) - (b.toNat : Int) / c.toNat % 4294967296 * c.toNat % 4294967296) % 4294967296 = ((b % c).toNat : Int) := by
  have hb := b.isLt
  rw [BitVec.toNat_umod, ← Int.natCast_ediv]
  have h1 : b.toNat / c.toNat ≤ b.toNat := Nat.div_le_self _ _
  have h2 : b.toNat / c.toNat * c.toNat ≤ b.toNat := Nat.div_mul_le_self _ _
  have h3 := Nat.mod_add_div b.toNat c.toNat
  rw [Nat.mul_comm] at h3
  have h4 : b.toNat % c.toNat ≤ b.toNat := Nat.mod_le _ _
  generalize b.toNat % c.toNat = r at *
  have e : ((b.toNat / c.toNat : Nat) : Int) % 4294967296 = ((b.toNat / c.toNat : Nat) : Int) := by
    generalize b.toNat / c.toNat = q at *
    omega
  rw [e, ← Int.natCast_mul]
  generalize b.toNat / c.toNat * c.toNat = p at *
  omega
set_option maxRecDepth 100000 in
theorem value_sh (b c : BitVec 32) (w : World) : (Calls Try.prog 19 #[.int .i64 11, .int .u32 b.toNat, .int .u32 c.toNat] w fun e w' => e = .returned (.tuple #[.int .u32 (valW 11 b c).toNat, .int .i64 (valE 11 c)]) ∧ w' = w) ∧
    (Calls Try.prog 19 #[.int .i64 12, .int .u32 b.toNat, .int .u32 c.toNat] w fun e w' => e = .returned (.tuple #[.int .u32 (valW 12 b c).toNat, .int .i64 (valE 12 c)]) ∧ w' = w) := by
  have hlt : c.toNat % 32 < 32 := Nat.mod_lt _ (by omega)
  have h31 : (c.toNat : Int) % 32 = ((c.toNat % 32 : Nat) : Int) := by omega
  have hb := b.isLt
  have hl := w_shl b (c.toNat % 32)
  have hr := w_shr b (c.toNat % 32)
  have HL : Hid (valW 11 b c = b <<< (c.toNat % 32)) := Lib.hid (by unfold valW; rfl)
  have HR : Hid (valW 12 b c = b >>> (c.toNat % 32)) := Lib.hid (by unfold valW; rfl)
  have HB := Lib.hid hl
  have HS := Lib.hid hr
  clear hl hr
  generalize c.toNat % 32 = q at *
  have h2 : 2 ^ q ≤ 2 ^ 31 := Nat.pow_le_pow_right (by omega) (by omega)
  have h3 : ((2 ^ q : Nat) : Int) ≤ 2147483648 := by omega
  have h4 : (1 : Int) ≤ ((2 ^ q : Nat) : Int) := by have := Nat.two_pow_pos q; omega
  have e2 : ((2 ^ q : Nat) : Int) = 2 ^ q := by rw [Int.natCast_pow]; rfl
  rw [e2] at h3 h4
  have h5 : ((2 : Int) ^ q == 0) = false := by rw [beq_eq_false_iff_ne]; omega
  have hp := fun w => power_any q hlt w
  have HE := Lib.hid e2
  clear e2
  have HP := Lib.hid hp
  clear hp h2
  constructor
  · go_enter Try.func19, Try.ntmps19
    go_wp2_with fail
    refine (HP.out _).mono ?_
    rintro e w' ⟨rfl, rfl⟩
    go_wp2
    go_ret2
    exact ⟨ret_pair (by rw [HL.out]; exact w_shl2 b q hlt) rfl, rfl⟩
  · go_enter Try.func19, Try.ntmps19
    go_wp2_with fail
    refine (HP.out _).mono ?_
    rintro e w' ⟨rfl, rfl⟩
    go_wp2
    go_ret2
    exact ⟨ret_pair (by rw [HR.out]; exact w_shr2 b q) rfl, rfl⟩
set_option maxRecDepth 100000 in
theorem value_any (op : Int) (b c : BitVec 32) (w : World) (h3 : 3 ≤ op) (h14 : op ≤ 14) : Calls Try.prog 19 #[.int .i64 op, .int .u32 b.toNat, .int .u32 c.toNat] w fun e w' => e = .returned (.tuple #[.int .u32 (valW op b c).toNat, .int .i64 (valE op c)]) ∧ w' = w := by
  by_cases h11 : op = 11
  · subst h11; exact (value_sh b c w).1
  by_cases h12 : op = 12
  · subst h12; exact (value_sh b c w).2
  have hb := b.isLt
  have hc := c.isLt
  by_cases h67 : op = 6 ∨ op = 7
  · by_cases hc0 : c = 0#32
    · have hcb : ((c.toNat : Int) == 0) = true := by rw [hc0]; rfl
      have HV : Hid (∀ op, op = 6 ∨ op = 7 → (0 : Int) = ((valW op b c).toNat : Int) ∧ (13 : Int) = valE op c) := Lib.hid (by
        rintro op (rfl | rfl)
        · rw [hc0]; exact ⟨by unfold valW; simp, by unfold valE; simp⟩
        · rw [hc0]; exact ⟨by unfold valW; simp, by unfold valE; simp⟩)
      clear hc0
      rcases h67 with rfl | rfl
      all_goals
        go_enter Try.func19, Try.ntmps19
        go_wp2
        go_ret2
        exact ⟨ret_pair (HV.out _ (by simp)).1 (HV.out _ (by simp)).2, rfl⟩
    · have hcn : ¬ (c.toNat : Int) = 0 := fun h => hc0 (zero_of c h)
      have hcb : ((c.toNat : Int) == 0) = false := by simpa using hcn
      have H6 := Lib.hid (valE_0 6 c hcn)
      have H7 := Lib.hid (valE_0 7 c hcn)
      have HM : Hid (((b.toNat : Int) - (b.toNat : Int) / c.toNat % 4294967296 * c.toNat % 4294967296) % 4294967296 = ((valW 7 b c).toNat : Int)) := Lib.hid ((w_mod2 b c hc0).trans (by unfold valW; simp [hc0]))
      clear hc0
      rcases h67 with rfl | rfl
      · go_enter Try.func19, Try.ntmps19
        go_wp2
        go_ret2
        exact ⟨ret_pair (w_div b c) H6.out.symm, rfl⟩
      · go_enter Try.func19, Try.ntmps19
        go_wp2
        go_ret2
        exact ⟨ret_pair HM.out H7.out.symm, rfl⟩
  · by_cases hlt : (b.toNat : Int) < c.toNat
    · by_cases heq : (b.toNat : Int) = c.toNat
      · omega
      · obtain rfl | rfl | rfl | rfl | rfl | rfl | rfl | rfl : op = 3 ∨ op = 4 ∨ op = 5 ∨ op = 8 ∨ op = 9 ∨ op = 10 ∨ op = 13 ∨ op = 14 := by omega
        all_goals
          have HNE := Lib.hid heq
          have HBE : ((b.toNat : Int) == c.toNat) = false := by simpa using heq
          clear heq
          go_enter Try.func19, Try.ntmps19
          go_wp2
          go_ret2
          first | exact ⟨ret_pair (w_add b c) rfl, rfl⟩ | exact ⟨ret_pair (w_sub b c) rfl, rfl⟩ | exact ⟨ret_pair (w_mul b c) rfl, rfl⟩ | exact ⟨ret_pair (bits_and32 b c) rfl, rfl⟩ | exact ⟨ret_pair (bits_or32 b c) rfl, rfl⟩ | exact ⟨ret_pair (bits_xor32 b c) rfl, rfl⟩ | exact ⟨ret_pair (valW_lt b c hlt) rfl, rfl⟩ | exact ⟨ret_pair (valW_ne b c HNE.out) rfl, rfl⟩
    · by_cases heq : (b.toNat : Int) = c.toNat
      · obtain rfl | rfl | rfl | rfl | rfl | rfl | rfl | rfl : op = 3 ∨ op = 4 ∨ op = 5 ∨ op = 8 ∨ op = 9 ∨ op = 10 ∨ op = 13 ∨ op = 14 := by omega
        all_goals
          have HEQ := Lib.hid heq
          have HBE : ((b.toNat : Int) == c.toNat) = true := by simpa using heq
          clear heq
          have HLT := Lib.hid (show (c.toNat : Int) ≤ b.toNat by omega)
          go_enter Try.func19, Try.ntmps19
          go_wp2
          go_ret2
          first | exact ⟨ret_pair (w_add b c) rfl, rfl⟩ | exact ⟨ret_pair (w_sub b c) rfl, rfl⟩ | exact ⟨ret_pair (w_sub_ge b c HLT.out) rfl, rfl⟩ | exact ⟨ret_pair (w_mul b c) rfl, rfl⟩ | exact ⟨ret_pair (bits_and32 b c) rfl, rfl⟩ | exact ⟨ret_pair (bits_or32 b c) rfl, rfl⟩ | exact ⟨ret_pair (bits_xor32 b c) rfl, rfl⟩ | exact ⟨ret_pair (valW_ge b c HLT.out) rfl, rfl⟩ | exact ⟨ret_pair (valW_eq b c HEQ.out) rfl, rfl⟩
      · obtain rfl | rfl | rfl | rfl | rfl | rfl | rfl | rfl : op = 3 ∨ op = 4 ∨ op = 5 ∨ op = 8 ∨ op = 9 ∨ op = 10 ∨ op = 13 ∨ op = 14 := by omega
        all_goals
          have HNE := Lib.hid heq
          have HBE : ((b.toNat : Int) == c.toNat) = false := by simpa using heq
          clear heq
          have HLT := Lib.hid (show (c.toNat : Int) ≤ b.toNat by omega)
          go_enter Try.func19, Try.ntmps19
          go_wp2
          go_ret2
          first | exact ⟨ret_pair (w_add b c) rfl, rfl⟩ | exact ⟨ret_pair (w_sub b c) rfl, rfl⟩ | exact ⟨ret_pair (w_sub_ge b c HLT.out) rfl, rfl⟩ | exact ⟨ret_pair (w_mul b c) rfl, rfl⟩ | exact ⟨ret_pair (bits_and32 b c) rfl, rfl⟩ | exact ⟨ret_pair (bits_or32 b c) rfl, rfl⟩ | exact ⟨ret_pair (bits_xor32 b c) rfl, rfl⟩ | exact ⟨ret_pair (valW_ge b c HLT.out) rfl, rfl⟩ | exact ⟨ret_pair (valW_ne b c HNE.out) rfl, rfl⟩
end Go.Proofs.Ytkjacmnocbdghaa
