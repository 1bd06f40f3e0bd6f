/- The walk of crc.Join: two sums joined, as the law of so many noughts says. -/
import Derived.Test.YtnnmghhafjbioaaSmall
namespace Go.Proofs.Ytnnmghhafjbioaa
open Go.RowKit
attribute [local irreducible] CrcP.shN tab zeros tw mat

theorem isMat_alloc (w : World) (f : BitVec 32 → BitVec 32) (n : Nat) : IsMat ((w.alloc (.cells (mat f 32) 49)).drewN n) w.heap.size f := fun i hi => by
  rw [World.cell?_drewN, World.cell?_alloc_mark]; exact mat_get' f i hi
theorem twice_fun (k : Nat) : (fun x => CrcP.shN k (CrcP.shN k x)) = CrcP.shN (2 * k) := funext fun x => CrcP.pow_twice k x
theorem below_alloc_drewN {B : Nat} {w wr : World} (h : Below B w wr) (hB : B ≤ wr.heap.size) (o : Obj) (n : Nat) : Below B w ((wr.alloc o).drewN n) :=
  below_drewN (h.alloc hB o) n
theorem sh_row (k : Nat) (h0 : 1 ≤ k) (h : k < 32) : (Value.int IntKind.u32 ((2 : Int) ^ (k - 1) % 4294967296)) = .int .u32 (CrcP.shN 1 (1#32 <<< k)).toNat := by
  obtain ⟨j, rfl⟩ : ∃ j, k = j + 1 := ⟨k - 1, by omega⟩
  have e : CrcP.shN 1 (1#32 <<< (j + 1)) = 1#32 <<< j := by
    have h0 : (1#32 <<< (j + 1)).getLsbD 0 = false := by simp
    have : CrcP.shN 1 (1#32 <<< (j + 1)) = CrcP.sh (1#32 <<< (j + 1)) := by unfold CrcP.shN CrcP.shN; rfl
    rw [this]
    unfold CrcP.sh
    rw [h0]
    apply BitVec.eq_of_getLsbD_eq
    intro i hi
    simp only [Bool.false_eq_true, if_false, BitVec.getLsbD_ushiftRight]
    by_cases hb : 1 + i < 32
    · rw [CrcP.one_bit _ _ h hb, CrcP.one_bit _ _ (by omega) hi, decide_eq_decide]; omega
    · rw [CrcP.one_bit _ _ (by omega) hi, BitVec.getLsbD_of_ge _ _ (by omega)]
      symm; rw [decide_eq_false_iff_not]; omega
  rw [e, Nat.add_sub_cancel]
  congr 1
  rw [BitVec.toNat_shiftLeft]
  simp [Nat.shiftLeft_eq]
theorem zero_row : (zeros 32).setIfInBounds 0 (.int .u32 3988292384) = mat (CrcP.shN 1) 1 := by
  rw [mat_zero (CrcP.shN 1), ← mat_set (CrcP.shN 1) 0 (by omega)]
  have e : CrcP.shN 1 (1#32 <<< 0) = CrcP.P := by unfold CrcP.shN CrcP.shN; decide
  rw [e]; rfl

/-- The last bit of a number. -/
theorem last_bit (m : Nat) : (bits .and .i64 (m : Int) 1 == 1) = (m % 2 == 1) := by
  have hb : bits .and .i64 (m : Int) 1 = ((m % 2 : Nat) : Int) := by
    show IntKind.i64.wrap ((BitVec.ofInt 64 (m : Int) &&& BitVec.ofInt 64 (1 : Int)).toNat : Int) = _
    have e : (BitVec.ofInt 64 (m : Int) &&& BitVec.ofInt 64 (1 : Int)).toNat = m % 2 := by
      rw [BitVec.toNat_and, BitVec.ofInt_natCast, BitVec.toNat_ofNat]
      have : (BitVec.ofInt 64 (1 : Int)).toNat = 2 ^ 1 - 1 := by decide
      rw [this, Nat.and_two_pow_sub_one_eq_mod]
      omega
    rw [e]
    exact IntWalk.i64_in _ (by omega)
  rw [hb, Bool.eq_iff_iff]
  simp only [beq_iff_eq]
  omega
/-- What the squarings keep. -/
theorem pow_odd (j m : Nat) (a a0 : BitVec 32) (K : Nat) (hodd : (m % 2 == 1) = true) (h : CrcP.shN (8 * 2 ^ j * m) a = CrcP.shN K a0) : CrcP.shN (8 * 2 ^ (j + 1) * (m / 2)) (CrcP.shN (8 * 2 ^ j) a) = CrcP.shN K a0 := by
  rw [← h, ← CrcP.shN_add]
  congr 1
  have hm : m % 2 = 1 := by simpa using hodd
  have : m = 2 * (m / 2) + 1 := by omega
  conv => rhs; rw [this]
  rw [Nat.mul_add, Nat.mul_one, Nat.add_comm, Nat.pow_succ]
  congr 1
  simp only [Nat.mul_assoc]
theorem pow_even (j m : Nat) (a a0 : BitVec 32) (K : Nat) (heven : (m % 2 == 1) = false) (h : CrcP.shN (8 * 2 ^ j * m) a = CrcP.shN K a0) : CrcP.shN (8 * 2 ^ (j + 1) * (m / 2)) a = CrcP.shN K a0 := by
  rw [← h]
  congr 1
  have hm : ¬ m % 2 = 1 := by simpa using heven
  have : m = 2 * (m / 2) := by omega
  conv => rhs; rw [this]
  rw [Nat.pow_succ, ← Nat.mul_assoc, ← Nat.mul_assoc]
theorem pow_next (j : Nat) : 2 * (8 * 2 ^ j) = 8 * 2 ^ (j + 1) := by rw [Nat.pow_succ]; omega

set_option maxRecDepth 100000 in
theorem join_any (w : World) (a b : BitVec 32) (n : Int) (h1 : -9223372036854775808 ≤ n) (h2 : n ≤ 9223372036854775807) :
    Calls Try.prog 18 #[.int .u32 a.toNat, .int .u32 b.toNat, .int .i64 n] w fun e w' => e = .returned (.int .u32 (CrcP.shN (8 * n.toNat) a ^^^ b).toNat) ∧ Below w.heap.size w w' := by
  have z := zero49
  have g0 : (zeros 32)[0]? = some (.int .u32 0) := by rw [mat_zero (CrcP.shN 1)]; exact mat_get _ 0 (by omega)
  go_enter Try.func18, Try.ntmps18
  go_wp2
  go_loopw [8] (fun i wr => ∃ k : Nat, 1 ≤ k ∧ k ≤ 32 ∧ i = .int .i64 k ∧ ∃ n, wr = (w.alloc (.cells (mat (CrcP.shN 1) k) 49)).drewN n) (fun i _ => 32 - (intOf i).toNat)
  case atStart => exact ⟨1, by omega, by omega, rfl, 0, by rw [zero_row]; rfl⟩
  case round =>
    obtain ⟨k, hk0, hk, rfl, m, rfl⟩ := hrel
    by_cases hlt : k < 32
    · have hg := mat_get (CrcP.shN 1) k hlt
      have HR := Lib.hid (sh_row k hk0 hlt)
      go_wp2
      go_region
      rw [HR.out, setCell_alloc_drewN, mat_set (CrcP.shN 1) k hlt]
      go_wp2
      go_roundw
      case rel => exact ⟨k + 1, by omega, by omega, by go_num, _, rfl⟩
      case measure => simp [intOf]; omega
    · have HK := Lib.hid (show k = 32 by omega)
      go_wp2
      go_loopw [25, 7] (fun i p wr => ∃ (k bm : Nat), k ≤ 3 ∧ i = .int .i64 k ∧ p = .pointer (some ⟨bm, 0, none⟩) ∧ IsMat wr bm (CrcP.shN (2 ^ k)) ∧ bm < wr.heap.size ∧ Below w.heap.size w wr) (fun i _ _ => 3 - (intOf i).toNat)
      case atStart => exact ⟨0, _, by omega, rfl, rfl, by rw [HK.out]; exact isMat_alloc w _ m, by simp, below_alloc_drewN (Below.refl _ _) (Nat.le_refl _) _ _⟩
      case round =>
        obtain ⟨k1, bm, hk3, rfl, rfl, hM, hbm, hbel⟩ := hrel
        have HM := Lib.hid hM; clear hM
        by_cases hlt3 : k1 < 3
        · go_wp2_with fail
          refine (twice_any wr bm _ (CrcP.Lin.shN _) hbm HM.out).mono ?_
          rintro e w1 ⟨rfl, n1, rfl⟩
          go_wp2
          go_roundw
          case rel => exact ⟨k1 + 1, _, by omega, by go_num, rfl, by rw [twice_fun, show 2 * 2 ^ k1 = 2 ^ (k1 + 1) from by omega]; exact isMat_alloc wr _ _, by simp, below_alloc_drewN hbel hbel.size _ _⟩
          case measure => simp [intOf]; omega
        · have HK3 := Lib.hid (show k1 = 3 by omega)
          go_wp2
          all_goals
            go_loopw [2, 0, 7] (fun i x p wr => ∃ (m j bm : Nat) (a' : BitVec 32), (m : Int) ≤ 9223372036854775807 ∧ i = .int .i64 m ∧ x = .int .u32 a'.toNat ∧ CrcP.shN (8 * 2 ^ j * m) a' = CrcP.shN (8 * n.toNat) a ∧ p = .pointer (some ⟨bm, 0, none⟩) ∧ IsMat wr bm (CrcP.shN (8 * 2 ^ j)) ∧ bm < wr.heap.size ∧ Below w.heap.size w wr) (fun i _ _ _ => (intOf i).toNat)
            case atStart => exact ⟨n.toNat, 0, bm, a, by omega, congrArg (Value.int .i64) (by omega), rfl, by simp, rfl, by have := HM.out; rw [HK3.out] at this; exact this, hbm, hbel⟩
            case round =>
              obtain ⟨m, j, bm2, a', hm, rfl, rfl, hinv, rfl, hM2, hbm2, hbel2⟩ := hrel
              have HM2 := Lib.hid hM2; clear hM2
              have HI := Lib.hid hinv; clear hinv
              have HB := Lib.hid (last_bit m)
              by_cases hpos : 0 < m
              · cases hod : (m % 2 == 1)
                · have hbit := HB.out.trans hod
                  have HN := Lib.hid (pow_even j m a' a _ hod HI.out)
                  go_wp2_with fail
                  refine (twice_any wr bm2 _ (CrcP.Lin.shN _) hbm2 HM2.out).mono ?_
                  rintro e w1 ⟨rfl, n1, rfl⟩
                  go_wp2
                  go_roundw
                  case rel => exact ⟨m / 2, j + 1, _, a', by omega, by go_num, rfl, HN.out, rfl, by rw [twice_fun, pow_next]; exact isMat_alloc wr _ _, by simp, below_alloc_drewN hbel2 hbel2.size _ _⟩
                  case measure => simp [intOf]; omega
                · have hbit := HB.out.trans hod
                  have HN := Lib.hid (pow_odd j m a' a _ hod HI.out)
                  go_wp2_with fail
                  refine (of_any wr bm2 _ (CrcP.Lin.shN _) HM2.out a').mono ?_
                  rintro e w1 ⟨rfl, rfl⟩
                  go_wp2_with fail
                  refine (twice_any wr bm2 _ (CrcP.Lin.shN _) hbm2 HM2.out).mono ?_
                  rintro e w1 ⟨rfl, n1, rfl⟩
                  go_wp2
                  go_roundw
                  case rel => exact ⟨m / 2, j + 1, _, _, by omega, by go_num, rfl, HN.out, rfl, by rw [twice_fun, pow_next]; exact isMat_alloc wr _ _, by simp, below_alloc_drewN hbel2 hbel2.size _ _⟩
                  case measure => simp [intOf]; omega
              · have HK0 := Lib.hid (show m = 0 by omega)
                go_wp2
                go_ret
                refine ⟨?_, hbel2⟩
                have e : a' = CrcP.shN (8 * n.toNat) a := by
                  have := HI.out
                  rw [HK0.out, Nat.mul_zero] at this
                  rw [← this]; unfold CrcP.shN; rfl
                rw [← e]
                exact congrArg Ending.returned (congrArg (Value.int .u32) (bits_xor a' b))
end Go.Proofs.Ytnnmghhafjbioaa
