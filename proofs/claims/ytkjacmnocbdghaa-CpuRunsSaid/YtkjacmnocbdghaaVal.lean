/- What two words come to: the walks of reckon, flag, value, power. -/
import Derived.Test.YtkjacmnocbdghaaRows
import Derived.Test.YtkjacmnocbdghaaStore
namespace Go.Proofs.Ytkjacmnocbdghaa
open Go.RowKit
set_option linter.unusedVariables false

/-- What two words come to, and an error. -/
def valW (op : Int) (b c : BitVec 32) : BitVec 32 :=
  if op = 3 then b + c else if op = 4 then b - c else if op = 5 then b * c else if op = 6 then b / c else if op = 7 then (if c = 0#32 then 0#32 else b % c) else if op = 8 then b &&& c else if op = 9 then b ||| c else if op = 10 then b ^^^ c
  else if op = 11 then b <<< (c.toNat % 32) else if op = 12 then b >>> (c.toNat % 32) else if op = 13 then (if b.toNat < c.toNat then 1#32 else 0#32) else if b = c then 1#32 else 0#32
def valE (op : Int) (c : BitVec 32) : Int := if (op = 6 ∨ op = 7) ∧ c = 0#32 then 13 else 0
theorem flag_any (r : Bool) (w : World) : Calls Try.prog 23 #[.bool r] w fun e w' => e = .returned (.int .u32 (if r then 1 else 0)) ∧ w' = w := by
  cases r
  · go_enter Try.func23, Try.ntmps23
    go_wp2
    go_ret
    exact ⟨rfl, rfl⟩
  · go_enter Try.func23, Try.ntmps23
    go_wp2
    go_ret
    exact ⟨rfl, rfl⟩
theorem and31 (c : BitVec 32) : bits .and .u32 (c.toNat : Int) 31 = ((c.toNat % 32 : Nat) : Int) := by
  have h := bits_and32 c 31#32
  have e : (c &&& 31#32).toNat = c.toNat % 32 := by
    rw [BitVec.toNat_and]
    exact Nat.and_two_pow_sub_one_eq_mod c.toNat 5
  rw [e] at h
  exact h
theorem ret_pair {a b c d : Int} (h1 : a = b) (h2 : c = d) : Ending.returned (.tuple #[.int .u32 a, .int .i64 c]) = .returned (.tuple #[.int .u32 b, .int .i64 d]) := by rw [h1, h2]
theorem w_add (b c : BitVec 32) : ((b.toNat : Int) + c.toNat) % 4294967296 = ((b + c).toNat : Int) := by rw [BitVec.toNat_add]; omega
theorem w_sub (b c : BitVec 32) : ((b.toNat : Int) - c.toNat) % 4294967296 = ((b - c).toNat : Int) := by
  have := b.isLt; have := c.isLt
  rw [BitVec.toNat_sub]; omega
theorem w_sub_ge (b c : BitVec 32) (h : (c.toNat : Int) ≤ b.toNat) : (b.toNat : Int) - c.toNat = ((b - c).toNat : Int) := by
  have := b.isLt; have := c.isLt
  rw [BitVec.toNat_sub]; omega
theorem w_mul (b c : BitVec 32) : ((b.toNat : Int) * c.toNat) % 4294967296 = ((b * c).toNat : Int) := by
  rw [BitVec.toNat_mul, ← Int.natCast_mul, Int.natCast_emod]; rfl
theorem w_div (b c : BitVec 32) : (b.toNat : Int) / c.toNat % 4294967296 = ((b / c).toNat : Int) := by
  have h := (b / c).isLt
  rw [BitVec.toNat_udiv] at h ⊢
  rw [← Int.natCast_ediv]
  generalize b.toNat / c.toNat = q at *
  omega
theorem w_mod (b c : BitVec 32) : (b.toNat : Int) % c.toNat = ((b % c).toNat : Int) := by rw [BitVec.toNat_umod]; simp
theorem w_shl (b : BitVec 32) (q : Nat) : (b.toNat : Int) * 2 ^ q % 4294967296 = ((b <<< q).toNat : Int) := by
  rw [BitVec.toNat_shiftLeft, Nat.shiftLeft_eq, Int.natCast_emod, Int.natCast_mul, Int.natCast_pow]; rfl
theorem w_shr (b : BitVec 32) (q : Nat) : (b.toNat : Int) / 2 ^ q = ((b >>> q).toNat : Int) := by
  rw [BitVec.toNat_ushiftRight, Nat.shiftRight_eq_div_pow, Int.natCast_ediv, Int.natCast_pow]; rfl
theorem zero_of (c : BitVec 32) (h : (c.toNat : Int) = 0) : c = 0#32 := BitVec.eq_of_toNat_eq (by simp; omega)
theorem lt_word (b c : BitVec 32) : (b.toNat < c.toNat) = (b.toNat < c.toNat) := rfl
set_option maxRecDepth 100000 in
theorem reckon_sh (b c : BitVec 32) (w : World) : (Calls Try.prog 17 #[.int .i64 11, .int .u32 b.toNat, .int .u32 c.toNat] w fun e w' => e = .returned (.tuple #[.int .u32 (valW 11 b c).toNat, .int .i64 (valE 11 c)]) ∧ w' = w) ∧
    (Calls Try.prog 17 #[.int .i64 12, .int .u32 b.toNat, .int .u32 c.toNat] w fun e w' => e = .returned (.tuple #[.int .u32 (valW 12 b c).toNat, .int .i64 (valE 12 c)]) ∧ w' = w) := by
  have h31 := and31 c
  have hlt : c.toNat % 32 < 32 := Nat.mod_lt _ (by omega)
  have hl := w_shl b (c.toNat % 32)
  have hr := w_shr b (c.toNat % 32)
  have HL : Hid (valW 11 b c = b <<< (c.toNat % 32)) := Lib.hid (by unfold valW; rfl)
  have HR : Hid (valW 12 b c = b >>> (c.toNat % 32)) := Lib.hid (by unfold valW; rfl)
  have HB := Lib.hid hl
  have HS := Lib.hid hr
  clear hl hr
  generalize c.toNat % 32 = q at *
  constructor
  · go_enter Try.func17, Try.ntmps17
    go_wp2
    go_ret2
    exact ⟨ret_pair (by rw [HL.out]; exact HB.out) rfl, rfl⟩
  · go_enter Try.func17, Try.ntmps17
    go_wp2
    go_ret2
    exact ⟨ret_pair (by rw [HR.out]; exact HS.out) rfl, rfl⟩
theorem valE_0 (op : Int) (c : BitVec 32) (h : ¬ (c.toNat : Int) = 0) : valE op c = 0 := by
  unfold valE
  rw [if_neg]
  rintro ⟨_, rfl⟩
  exact h rfl
theorem valW_lt (b c : BitVec 32) (h : (b.toNat : Int) < c.toNat) : ((1 : Int)) = ((valW 13 b c).toNat : Int) := by
  unfold valW
  have : b.toNat < c.toNat := by omega
  simp [this]
theorem valW_ge (b c : BitVec 32) (h : (c.toNat : Int) ≤ b.toNat) : ((0 : Int)) = ((valW 13 b c).toNat : Int) := by
  unfold valW
  have : ¬ b.toNat < c.toNat := by omega
  simp [this]
theorem valW_eq (b c : BitVec 32) (h : (b.toNat : Int) = c.toNat) : ((1 : Int)) = ((valW 14 b c).toNat : Int) := by
  have : b = c := BitVec.eq_of_toNat_eq (by omega)
  unfold valW
  simp [this]
theorem valW_ne (b c : BitVec 32) (h : ¬ (b.toNat : Int) = c.toNat) : ((0 : Int)) = ((valW 14 b c).toNat : Int) := by
  have : ¬ b = c := fun e => h (by rw [e])
  unfold valW
  simp [this]
set_option maxRecDepth 100000 in
theorem reckon_any (op : Int) (b c : BitVec 32) (w : World) (h3 : 3 ≤ op) (h14 : op ≤ 14) : Calls Try.prog 17 #[.int .i64 op, .int .u32 b.toNat, .int .u32 c.toNat] w fun e w' => e = .returned (.tuple #[.int .u32 (valW op b c).toNat, .int .i64 (valE op c)]) ∧ w' = w := by
  by_cases h11 : op = 11
  · subst h11; exact (reckon_sh b c w).1
  by_cases h12 : op = 12
  · subst h12; exact (reckon_sh b c w).2
  have hb := b.isLt
  have hc := c.isLt
  by_cases h67 : op = 6 ∨ op = 7
  · by_cases hc0 : c = 0#32
    · have hcb : ((c.toNat : Int) == 0) = true := by rw [hc0]; rfl
      have HV : Hid (∀ op, op = 6 ∨ op = 7 → (0 : Int) = ((valW op b c).toNat : Int) ∧ (13 : Int) = valE op c) := Lib.hid (by
        rintro op (rfl | rfl)
        · rw [hc0]; exact ⟨by unfold valW; simp, by unfold valE; simp⟩
        · rw [hc0]; exact ⟨by unfold valW; simp, by unfold valE; simp⟩)
      clear hc0
      rcases h67 with rfl | rfl
      all_goals
        go_enter Try.func17, Try.ntmps17
        go_wp2
        go_ret2
        exact ⟨ret_pair (HV.out _ (by simp)).1 (HV.out _ (by simp)).2, rfl⟩
    · have hcn : ¬ (c.toNat : Int) = 0 := fun h => hc0 (zero_of c h)
      have hcb : ((c.toNat : Int) == 0) = false := by simpa using hcn
      have H6 := Lib.hid (valE_0 6 c hcn)
      have H7 := Lib.hid (valE_0 7 c hcn)
      have HM : Hid ((b.toNat : Int) % c.toNat = ((valW 7 b c).toNat : Int)) := Lib.hid ((w_mod b c).trans (by unfold valW; simp [hc0]))
      clear hc0
      rcases h67 with rfl | rfl
      · go_enter Try.func17, Try.ntmps17
        go_wp2
        go_ret2
        exact ⟨ret_pair (w_div b c) H6.out.symm, rfl⟩
      · go_enter Try.func17, Try.ntmps17
        go_wp2
        go_ret2
        exact ⟨ret_pair HM.out H7.out.symm, rfl⟩
  · by_cases hlt : (b.toNat : Int) < c.toNat
    · by_cases heq : (b.toNat : Int) = c.toNat
      · omega
      · obtain rfl | rfl | rfl | rfl | rfl | rfl | rfl | rfl : op = 3 ∨ op = 4 ∨ op = 5 ∨ op = 8 ∨ op = 9 ∨ op = 10 ∨ op = 13 ∨ op = 14 := by omega
        all_goals
          have HNE := Lib.hid heq
          have HBE : ((b.toNat : Int) == c.toNat) = false := by simpa using heq
          clear heq
          go_enter Try.func17, Try.ntmps17
          go_wp2_with (go_at_call 23; refine (flag_any _ _).mono ?_; rintro e w' ⟨rfl, rfl⟩)
          go_ret2
          first | exact ⟨ret_pair (w_add b c) rfl, rfl⟩ | exact ⟨ret_pair (w_sub b c) rfl, rfl⟩ | exact ⟨ret_pair (w_mul b c) rfl, rfl⟩ | exact ⟨ret_pair (bits_and32 b c) rfl, rfl⟩ | exact ⟨ret_pair (bits_or32 b c) rfl, rfl⟩ | exact ⟨ret_pair (bits_xor32 b c) rfl, rfl⟩ | exact ⟨ret_pair (valW_lt b c hlt) rfl, rfl⟩ | exact ⟨ret_pair (valW_ne b c HNE.out) rfl, rfl⟩
    · by_cases heq : (b.toNat : Int) = c.toNat
      · obtain rfl | rfl | rfl | rfl | rfl | rfl | rfl | rfl : op = 3 ∨ op = 4 ∨ op = 5 ∨ op = 8 ∨ op = 9 ∨ op = 10 ∨ op = 13 ∨ op = 14 := by omega
        all_goals
          have HEQ := Lib.hid heq
          have HBE : ((b.toNat : Int) == c.toNat) = true := by simpa using heq
          clear heq
          have HLT := Lib.hid (show (c.toNat : Int) ≤ b.toNat by omega)
          go_enter Try.func17, Try.ntmps17
          go_wp2_with (go_at_call 23; refine (flag_any _ _).mono ?_; rintro e w' ⟨rfl, rfl⟩)
          go_ret2
          first | exact ⟨ret_pair (w_add b c) rfl, rfl⟩ | exact ⟨ret_pair (w_sub b c) rfl, rfl⟩ | exact ⟨ret_pair (w_sub_ge b c HLT.out) rfl, rfl⟩ | exact ⟨ret_pair (w_mul b c) rfl, rfl⟩ | exact ⟨ret_pair (bits_and32 b c) rfl, rfl⟩ | exact ⟨ret_pair (bits_or32 b c) rfl, rfl⟩ | exact ⟨ret_pair (bits_xor32 b c) rfl, rfl⟩ | exact ⟨ret_pair (valW_ge b c HLT.out) rfl, rfl⟩ | exact ⟨ret_pair (valW_eq b c HEQ.out) rfl, rfl⟩
      · obtain rfl | rfl | rfl | rfl | rfl | rfl | rfl | rfl : op = 3 ∨ op = 4 ∨ op = 5 ∨ op = 8 ∨ op = 9 ∨ op = 10 ∨ op = 13 ∨ op = 14 := by omega
        all_goals
          have HNE := Lib.hid heq
          have HBE : ((b.toNat : Int) == c.toNat) = false := by simpa using heq
          clear heq
          have HLT := Lib.hid (show (c.toNat : Int) ≤ b.toNat by omega)
          go_enter Try.func17, Try.ntmps17
          go_wp2_with (go_at_call 23; refine (flag_any _ _).mono ?_; rintro e w' ⟨rfl, rfl⟩)
          go_ret2
          first | exact ⟨ret_pair (w_add b c) rfl, rfl⟩ | exact ⟨ret_pair (w_sub b c) rfl, rfl⟩ | exact ⟨ret_pair (w_sub_ge b c HLT.out) rfl, rfl⟩ | exact ⟨ret_pair (w_mul b c) rfl, rfl⟩ | exact ⟨ret_pair (bits_and32 b c) rfl, rfl⟩ | exact ⟨ret_pair (bits_or32 b c) rfl, rfl⟩ | exact ⟨ret_pair (bits_xor32 b c) rfl, rfl⟩ | exact ⟨ret_pair (valW_ge b c HLT.out) rfl, rfl⟩ | exact ⟨ret_pair (valW_ne b c HNE.out) rfl, rfl⟩
set_option maxRecDepth 100000 in
theorem power_any (n : Nat) (hn : n < 32) (w : World) : Calls Try.prog 26 #[.int .u32 n] w fun e w' => e = .returned (.int .u64 ((2 ^ n : Nat) : Int)) ∧ w' = w := by
  have hn2 : (n : Int) < 32 := by omega
  go_enter Try.func26, Try.ntmps26
  go_wp2_with fail
  go_loopw [4, 3] (fun i p wr => wr = w ∧ ∃ k : Nat, k ≤ n ∧ i = .int .u32 k ∧ p = .int .u64 ((2 ^ k : Nat) : Int)) (fun i _ _ => n - (intOf i).toNat)
  case atStart => exact ⟨rfl, 0, by omega, rfl, rfl⟩
  case round =>
    obtain ⟨rfl, k, hk, rfl, rfl⟩ := hrel
    have h2 : 2 ^ k ≤ 2 ^ 32 := Nat.pow_le_pow_right (by omega) (by omega)
    have h3 : ((2 ^ k : Nat) : Int) ≤ 4294967296 := by omega
    have HS : Hid (2 ^ (k + 1) = 2 ^ k * 2) := Lib.hid (Nat.pow_succ 2 k)
    clear h2
    by_cases hlt : k < n
    · generalize 2 ^ k = p at *
      go_wp2
      go_roundw
      case rel => exact ⟨trivial, k + 1, by omega, by go_num, by rw [HS.out]; go_num⟩
      case measure => simp [intOf]; omega
    · have HK := Lib.hid (show k = n by omega)
      generalize hp : 2 ^ k = p at *
      have HP := Lib.hid hp
      clear hp
      go_wp2
      go_ret
      exact ⟨by rw [← HK.out, HP.out]; rfl, rfl⟩
end Go.Proofs.Ytkjacmnocbdghaa
