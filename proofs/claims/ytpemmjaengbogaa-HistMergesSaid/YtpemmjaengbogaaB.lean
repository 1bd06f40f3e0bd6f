/- The walks of the lists' functions. -/
import Derived.Test.YtpemmjaengbogaaA
namespace Go.Proofs.Ytpemmjaengbogaa
open Go.RowKit
set_option linter.unusedVariables false
attribute [local irreducible] whereP
set_option maxHeartbeats 1000000 in
/-- Two lists that are the same. -/
theorem equal_same (w : World) (A1 A2 : Option Addr) (n c1 c2 : Nat) (M : Nat → Nat) (hn : (n : Int) ≤ 1000) (hc1 : (n : Int) ≤ c1) (hc2 : (n : Int) ≤ c2) (hM1 : MemAt w A1 n M) (hM2 : MemAt w A2 n M) :
    Calls Try.prog 30 #[.slice A1 n c1, .slice A2 n c2] w fun e w' => e = .returned (.bool true) ∧ Grow w w' := by
  have H1 := Lib.hid hM1; clear hM1
  have H2 := Lib.hid hM2; clear hM2
  go_enter Try.func30, Try.ntmps30
  go_wp2_with fail
  go_loopw [13] (fun i wr => ∃ k : Nat, k ≤ n ∧ i = .int .i64 k ∧ Grow w wr) (fun i _ => n - (intOf i).toNat)
  case atStart => exact ⟨0, by omega, rfl, Grow.refl _⟩
  case round =>
    obtain ⟨k, hk, rfl, hg⟩ := hrel
    have HGr := Lib.hid hg; clear hg
    by_cases hlt : k < n
    · obtain ⟨a1, hA1, hm1⟩ := (H1.out.grow HGr.out) (by omega)
      obtain ⟨a2, hA2, hm2⟩ := (H2.out.grow HGr.out) (by omega)
      have m1 := hm1 k hlt
      have m2 := hm2 k hlt
      rw [hA1, hA2]
      clear hm1 hm2 hA1 hA2
      have k0 : (0 : Int) ≤ (k : Int) := by omega
      have kn : (k : Int) < (n : Int) := by omega
      go_wp2_with fail
      go_quiet (fail)
      have HG2 := Lib.hid (HGr.out.trans (Grow.drewN wr nq))
      go_wp2_with fail
      go_roundw
      case rel => exact ⟨k + 1, by omega, by go_num, HG2.out⟩
      case measure => simp [intOf]; omega
    · have kn : ¬ (k : Int) < (n : Int) := by omega
      go_wp2
      go_ret
      exact ⟨rfl, HGr.out⟩
set_option maxHeartbeats 1000000 in
/-- Two lists that are the same. -/
theorem same_any (w : World) (A1 A2 : Option Addr) (n c1 c2 : Nat) (M : Nat → Nat) (hn : (n : Int) ≤ 1000) (hc1 : (n : Int) ≤ c1) (hc2 : (n : Int) ≤ c2) (hM1 : MemAt w A1 n M) (hM2 : MemAt w A2 n M) :
    Calls Try.prog 15 #[.slice A1 n c1, .slice A2 n c2] w fun e w' => e = .returned (.bool true) ∧ Grow w w' := by
  have H1 := Lib.hid hM1; clear hM1
  have H2 := Lib.hid hM2; clear hM2
  go_enter Try.func15, Try.ntmps15
  go_wp2_with fail
  go_loopw [5] (fun i wr => ∃ k : Nat, k ≤ n ∧ i = .int .i64 k ∧ Grow w wr) (fun i _ => n - (intOf i).toNat)
  case atStart => exact ⟨0, by omega, rfl, Grow.refl _⟩
  case round =>
    obtain ⟨k, hk, rfl, hg⟩ := hrel
    have HGr := Lib.hid hg; clear hg
    by_cases hlt : k < n
    · obtain ⟨a1, hA1, hm1⟩ := (H1.out.grow HGr.out) (by omega)
      obtain ⟨a2, hA2, hm2⟩ := (H2.out.grow HGr.out) (by omega)
      have m1 := hm1 k hlt
      have m2 := hm2 k hlt
      rw [hA1, hA2]
      clear hm1 hm2 hA1 hA2
      have k0 : (0 : Int) ≤ (k : Int) := by omega
      have kn : (k : Int) < (n : Int) := by omega
      go_wp2_with fail
      go_quiet (fail)
      have HG2 := Lib.hid (HGr.out.trans (Grow.drewN wr nq))
      go_wp2_with fail
      go_roundw
      case rel => exact ⟨k + 1, by omega, by go_num, HG2.out⟩
      case measure => simp [intOf]; omega
    · have kn : ¬ (k : Int) < (n : Int) := by omega
      go_wp2
      go_ret
      exact ⟨rfl, HGr.out⟩
theorem equal_len (w : World) (A1 A2 : Option Addr) (n1 n2 c1 c2 : Nat) (hne : (n1 : Int) ≠ n2) :
    Calls Try.prog 30 #[.slice A1 n1 c1, .slice A2 n2 c2] w fun e w' => e = .returned (.bool false) ∧ w' = w := by
  have hb : ((n1 : Int) != (n2 : Int)) = true := by rw [bne_iff_ne]; exact hne
  go_enter Try.func30, Try.ntmps30
  go_wp2
  go_ret
  exact ⟨rfl, rfl⟩
/-- The reference's Where. -/
theorem whereRef_any (w : World) (A : Option Addr) (n cap v : Nat) (Bd : Nat → Nat) (hn : (n : Int) ≤ 1000) (hcap : (n : Int) ≤ cap) (hM : MemAt w A n Bd) :
    Calls Try.prog 22 #[.slice A n cap, .int .u64 v] w fun e w' => e = .returned (.int .i64 (whereP Bd v n : Nat)) ∧ w' = w := by
  have HM := Lib.hid hM; clear hM
  go_enter Try.func22, Try.ntmps22
  go_wp2_with fail
  go_loopw [5, 6] (fun c i wr => ∃ k : Nat, k ≤ n ∧ c = .int .i64 (whereP Bd v k : Nat) ∧ i = .int .i64 k ∧ wr = w) (fun _ i _ => n - (intOf i).toNat)
  case atStart => exact ⟨0, by omega, by simp [whereP_zero], rfl, rfl⟩
  case round =>
    obtain ⟨k, hk, rfl, rfl, rfl⟩ := hrel
    have hs := whereP_step Bd v k
    have hl := whereP_le Bd v k
    obtain ⟨p, hp⟩ : ∃ p, p = whereP Bd v k := ⟨_, rfl⟩
    rw [← hp] at hs hl ⊢
    have pk : (p : Int) ≤ 1000 := by omega
    have p0 : (0 : Int) ≤ p := by omega
    by_cases hlt : k < n
    · obtain ⟨a, hA, hc⟩ := HM.out (by omega)
      have m := hc k hlt
      rw [hA]
      clear hc hA hp hl
      have k0 : (0 : Int) ≤ (k : Int) := by omega
      have kn : (k : Int) < (n : Int) := by omega
      by_cases hb : Bd k < v
      · rw [if_pos hb] at hs
        have HS := Lib.hid hs; clear hs
        go_wp2_with fail
        go_roundw
        case rel => exact ⟨k + 1, by omega, by rw [HS.out]; go_num, by go_num, trivial⟩
        case measure => simp [intOf]; omega
      · rw [if_neg hb] at hs
        have hb2 : v ≤ Bd k := by omega
        have HS := Lib.hid hs; clear hs
        go_wp2_with fail
        go_roundw
        case rel => exact ⟨k + 1, by omega, by rw [HS.out]; go_num, by go_num, trivial⟩
        case measure => simp [intOf]; omega
    · have kn : ¬ (k : Int) < (n : Int) := by omega
      have hkn : k = n := by omega
      rw [hkn] at hp
      have HP := Lib.hid hp; clear hp hs hl hkn
      go_wp2
      go_ret
      rw [← HP.out]
      exact ⟨rfl, rfl⟩
/-- What they are together. -/
def sumP (V : Nat → Nat) : Nat → Nat
  | 0 => 0
  | k + 1 => satP (sumP V k) (V k)
theorem satP_lt (a b : Nat) (h : b < 18446744073709551616) : satP a b < 18446744073709551616 := by unfold satP; split <;> omega
theorem sumP_lt (V : Nat → Nat) : ∀ k, sumP V k < 18446744073709551616
  | 0 => by simp [sumP]
  | k + 1 => by unfold sumP satP; split <;> omega
theorem sumP_step (V : Nat → Nat) (k : Nat) : sumP V (k + 1) = satP (sumP V k) (V k) := rfl
theorem sumP_top (V : Nat → Nat) (k : Nat) (h : 18446744073709551616 ≤ sumP V k + V k) : ∀ n, k < n → sumP V n = 18446744073709551615
  | 0, h0 => absurd h0 (Nat.not_lt_zero _)
  | n + 1, hn => by
    rw [sumP_step]
    by_cases e : k = n
    · subst e; unfold satP; rw [if_neg (by omega)]
    · rw [sumP_top V k h n (by omega)]; unfold satP
      split
      · omega
      · rfl
attribute [local irreducible] sumP satP
/-- The reference's Sum. -/
theorem sumRef_any (w : World) (A : Option Addr) (n cap : Nat) (V : Nat → Nat) (hn : (n : Int) ≤ 1000) (hcap : (n : Int) ≤ cap) (hV : ∀ i, V i < 18446744073709551616) (hM : MemAt w A n V) :
    Calls Try.prog 20 #[.slice A n cap] w fun e w' => e = .returned (.int .u64 (sumP V n : Nat)) ∧ w' = w := by
  have HM := Lib.hid hM; clear hM
  have HV := Lib.hid hV; clear hV
  go_enter Try.func20, Try.ntmps20
  go_wp2_with fail
  go_loopw [3, 4] (fun c i wr => ∃ k : Nat, k ≤ n ∧ c = .int .u64 (sumP V k : Nat) ∧ i = .int .i64 k ∧ wr = w) (fun _ i _ => n - (intOf i).toNat)
  case atStart => exact ⟨0, by omega, by unfold sumP; rfl, rfl, rfl⟩
  case round =>
    obtain ⟨k, hk, rfl, rfl, rfl⟩ := hrel
    have hl := sumP_lt V k
    have hs := sumP_step V k
    have HT := Lib.hid (sumP_top V k)
    obtain ⟨p, hp⟩ : ∃ p, p = sumP V k := ⟨_, rfl⟩
    rw [← hp] at hl hs HT ⊢
    have pk : (p : Int) < 18446744073709551616 := by omega
    have p0 : (0 : Int) ≤ p := by omega
    by_cases hlt : k < n
    · obtain ⟨a, hA, hc⟩ := HM.out (by omega)
      have m := hc k hlt
      rw [hA]
      have hx := HV.out k
      clear hc hA hp
      have HS := Lib.hid hs; clear hs
      have k0 : (0 : Int) ≤ (k : Int) := by omega
      have kn : (k : Int) < (n : Int) := by omega
      have x0 : (0 : Int) ≤ (V k : Int) := by omega
      have x1 : (V k : Int) < 18446744073709551616 := by omega
      by_cases hb : p + V k < 18446744073709551616
      · have hb2 : (p : Int) + (V k : Int) < 18446744073709551616 := by omega
        have hb3 : ¬ (18446744073709551615 - (p : Int) < (V k : Int)) := by omega
        go_wp2_with fail
        go_roundw
        case rel => exact ⟨k + 1, by omega, by rw [HS.out]; unfold satP; rw [if_pos hb]; go_num, by go_num, trivial⟩
        case measure => simp [intOf]; omega
      · have hb3 : (18446744073709551615 - (p : Int) < (V k : Int)) := by omega
        have hT := HT.out (by omega) n hlt
        have HTT := Lib.hid hT; clear hT
        go_wp2
        go_ret
        rw [HTT.out]
        exact ⟨rfl, rfl⟩
    · have kn : ¬ (k : Int) < (n : Int) := by omega
      have hkn : k = n := by omega
      rw [hkn] at hp
      have HP := Lib.hid hp; clear hp hs hl hkn HT
      go_wp2
      go_ret
      rw [← HP.out]
      exact ⟨rfl, rfl⟩
end Go.Proofs.Ytpemmjaengbogaa
