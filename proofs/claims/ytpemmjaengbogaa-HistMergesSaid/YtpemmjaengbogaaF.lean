/- The walks of Part and of the reference's Counts and Part. -/
import Derived.Test.YtpemmjaengbogaaE
namespace Go.Proofs.Ytpemmjaengbogaa
open Go.RowKit
set_option linter.unusedVariables false
attribute [local irreducible] whereP sumP satP cntArr leastN topN cntP leastP topP
def cumP (K : Nat → Nat) : Nat → Nat
  | 0 => 0
  | k + 1 => cumP K k + K k
theorem cumP_step (K : Nat → Nat) (k : Nat) : cumP K (k + 1) = cumP K k + K k := rfl
theorem cumP_mono (K : Nat → Nat) {i j : Nat} (h : i ≤ j) : cumP K i ≤ cumP K j := by
  induction h with
  | refl => exact Nat.le_refl _
  | step _ ih => exact Nat.le_trans ih (by rw [cumP_step]; omega)
/-- The part that is told. -/
def PartR (ok : Nat → Prop) (Bd : Nat → Nat) (nb tp r : Nat) : Prop := (∃ i, i < nb ∧ ok i ∧ (∀ j, j < i → ¬ ok j) ∧ r = Bd i) ∨ ((∀ j, j < nb → ¬ ok j) ∧ r = tp)
theorem PartR.unique {ok ok' : Nat → Prop} {Bd : Nat → Nat} {nb tp r r' : Nat} (h : PartR ok Bd nb tp r) (h' : PartR ok' Bd nb tp r') (he : ∀ i, i < nb → (ok i ↔ ok' i)) : r = r' := by
  rcases h with ⟨i, hi, h1, h2, rfl⟩ | ⟨h1, rfl⟩ <;> rcases h' with ⟨j, hj, g1, g2, rfl⟩ | ⟨g1, rfl⟩
  · have : i = j := by
      rcases Nat.lt_trichotomy i j with h | h | h
      · exact absurd ((he i hi).1 h1) (g2 i h)
      · exact h
      · exact absurd ((he j hj).2 g1) (h2 j h)
    rw [this]
  · exact absurd ((he i hi).1 h1) (g1 i hi)
  · exact absurd ((he j hj).2 g1) (h1 j hj)
  · rfl
def Parted (ok : Nat → Prop) (Bd : Nat → Nat) (nb tp : Nat) (w : World) (e : Ending) (w' : World) : Prop := ∃ r : Nat, e = .returned (.tuple #[.int .u64 (r : Int), .bool true]) ∧ PartR ok Bd nb tp r ∧ w' = w
theorem part_nil (w : World) (num of : Nat) : Calls Try.prog 11 #[.pointer none, .int .u64 num, .int .u64 of] w fun e w' => e = .returned (.tuple #[.int .u64 0, .bool false]) ∧ w' = w := by
  go_enter Try.func11, Try.ntmps11
  go_wp2
  go_ret2
  exact ⟨rfl, rfl⟩
theorem part_no (w : World) (B h : Nat) (A : Option Addr) (nb bcap : Nat) (Bd : Nat → Nat) (c : Nat) (K : Nat → Nat) (al sm lt tp : Nat) (num of : Nat) (H : HSt w B h A nb bcap Bd c K al sm lt tp) (hno : al = 0 ∨ num = 0 ∨ of < num) :
    Calls Try.prog 11 #[.pointer (some ⟨h, 0, none⟩), .int .u64 num, .int .u64 of] w fun e w' => e = .returned (.tuple #[.int .u64 0, .bool false]) ∧ w' = w := by
  have c2 := H.c2
  clear H
  go_enter Try.func11, Try.ntmps11
  by_cases h0 : al = 0
  · subst h0
    clear hno
    go_wp2
    go_ret2
    exact ⟨rfl, rfl⟩
  have hb : ((al : Int) == 0) = false := by simp; omega
  by_cases h1 : num = 0
  · subst h1
    clear hno
    go_wp2
    go_ret2
    exact ⟨rfl, rfl⟩
  · have hb2 : ((num : Int) == 0) = false := by simp; omega
    have h2 : of < num := by omega
    clear hno
    go_wp2
    go_ret2
    exact ⟨rfl, rfl⟩
set_option maxHeartbeats 1000000 in
theorem part_any (w : World) (B h : Nat) (A : Option Addr) (nb bcap : Nat) (Bd : Nat → Nat) (c : Nat) (K : Nat → Nat) (al sm lt tp : Nat) (num of : Nat) (H : HSt w B h A nb bcap Bd c K al sm lt tp) (hal : al ≠ 0) (hnum : num ≠ 0) (hle : num ≤ of) (hof : of < 18446744073709551616) (hal2 : al < 1000000) (hnb : (nb : Int) ≤ 1000) (hcum : ∀ k, k ≤ nb → cumP K k < 1000000) :
    Calls Try.prog 11 #[.pointer (some ⟨h, 0, none⟩), .int .u64 num, .int .u64 of] w (Parted (fun i => al * num ≤ cumP K (i + 1) * of) Bd nb tp w) := by
  have c2 := H.c2
  have hb : ((al : Int) == 0) = false := by simp; omega
  have hb2 : ((num : Int) == 0) = false := by simp; omega
  have hle2 : ¬ of < num := by omega
  have hbc := H.hcap
  have HQ := Lib.hid H; clear H
  have HAL := Lib.hid hal; clear hal
  have HNUM := Lib.hid hnum; clear hnum
  go_enter Try.func11, Try.ntmps11
  go_wp2_with fail
  refine (mul64_any al num (by omega) (by omega) _).mono ?_
  rintro e w' ⟨rfl, rfl⟩
  obtain ⟨Y, hY⟩ : ∃ Y, Y = al * num := ⟨_, rfl⟩
  rw [← hY]
  obtain ⟨yh, hyh⟩ : ∃ yh, yh = Y / 18446744073709551616 := ⟨_, rfl⟩
  obtain ⟨yl, hyl⟩ : ∃ yl, yl = Y % 18446744073709551616 := ⟨_, rfl⟩
  rw [← hyh, ← hyl]
  have HYY := Lib.hid (And.intro hY (And.intro hyh hyl)); clear hY hyh hyl
  clear c2
  have c0 := HQ.out.c0
  go_wp2_with fail
  clear c0
  go_loopw [10, 47] (fun nn i wr => ∃ k : Nat, k ≤ nb ∧ nn = .int .u64 (cumP K k : Nat) ∧ i = .int .i64 k ∧ wr = w' ∧ ∀ j, j < k → ¬ (al * num ≤ cumP K (j + 1) * of)) (fun _ i _ => nb - (intOf i).toNat)
  case atStart => exact ⟨0, by omega, rfl, rfl, rfl, fun j hj => absurd hj (Nat.not_lt_zero _)⟩
  case round =>
    obtain ⟨k, hk, rfl, rfl, rfl, hno⟩ := hrel
    have HNO := Lib.hid hno; clear hno
    by_cases hlt : k < nb
    · obtain ⟨a, hA, hc⟩ := HQ.out.bnd.at (by omega)
      have m := hc k hlt
      have c1 := HQ.out.c1
      have xk := HQ.out.k k (by omega)
      rw [hA]
      clear hc hA
      have hcs := cumP_step K k
      have hc1 := hcum k (by omega)
      have hc2 := hcum (k + 1) (by omega)
      obtain ⟨s, hs⟩ : ∃ s, s = cumP K k := ⟨_, rfl⟩
      rw [← hs] at hcs hc1 ⊢
      obtain ⟨t, ht⟩ : ∃ t, t = cumP K (k + 1) := ⟨_, rfl⟩
      rw [← ht] at hcs hc2
      have HT := Lib.hid ht; clear ht hs
      have e1 : (s : Int) + (K k : Int) = (t : Int) := by omega
      have k0 : (0 : Int) ≤ (k : Int) := by omega
      have kn : (k : Int) < (nb : Int) := by omega
      have kn1 : (k : Int) < (nb : Int) + 1 := by omega
      have t0 : (0 : Int) ≤ (t : Int) := by omega
      have t1 : (t : Int) < 1000000 := by omega
      clear hcs
      go_wp2_with fail
      clear c1 xk
      refine (mul64_any t of (by omega) hof _).mono ?_
      rintro e w2 ⟨rfl, rfl⟩
      obtain ⟨X, hX⟩ : ∃ X, X = t * of := ⟨_, rfl⟩
      rw [← hX]
      obtain ⟨xh, hxh⟩ : ∃ xh, xh = X / 18446744073709551616 := ⟨_, rfl⟩
      obtain ⟨xl, hxl⟩ : ∃ xl, xl = X % 18446744073709551616 := ⟨_, rfl⟩
      rw [← hxh, ← hxl]
      obtain ⟨hY, hyh, hyl⟩ := HYY.out
      by_cases hok : Y ≤ X
      · have HOK := Lib.hid (show al * num ≤ cumP K (k + 1) * of from by rw [← HT.out, ← hX, ← hY]; exact hok)
        by_cases hgt : yh < xh
        · clear hX hxh hxl hY hyh hyl hok
          go_wp2
          go_ret2
          exact ⟨Bd k, rfl, .inl ⟨k, hlt, HOK.out, HNO.out, rfl⟩, rfl⟩
        · have heq : ((xh : Int) == (yh : Int)) = true := by simp; omega
          have hge : yl ≤ xl := by omega
          clear hX hxh hxl hY hyh hyl hok
          go_wp2
          go_ret2
          exact ⟨Bd k, rfl, .inl ⟨k, hlt, HOK.out, HNO.out, rfl⟩, rfl⟩
      · have HNO2 := Lib.hid (show ∀ j, j < k + 1 → ¬ (al * num ≤ cumP K (j + 1) * of) from fun j hj => by
          by_cases e : j = k
          · rw [e, ← HT.out, ← hX, ← hY]; exact hok
          · exact HNO.out j (by omega))
        have hgt : ¬ yh < xh := by omega
        by_cases hne : xh = yh
        · have heq : ((xh : Int) == (yh : Int)) = true := by simp [hne]
          have hge : ¬ yl ≤ xl := by omega
          clear hX hxh hxl hY hyh hyl hok hne
          go_wp2_with fail
          go_roundw
          case rel => exact ⟨k + 1, by omega, by rw [← HT.out], by go_num, trivial, HNO2.out⟩
          case measure => simp [intOf]; omega
        · have heq : ((xh : Int) == (yh : Int)) = false := by simp; omega
          clear hX hxh hxl hY hyh hyl hok hne
          go_wp2_with fail
          go_roundw
          case rel => exact ⟨k + 1, by omega, by rw [← HT.out], by go_num, trivial, HNO2.out⟩
          case measure => simp [intOf]; omega
    · have kn : ¬ (k : Int) < (nb : Int) := by omega
      have c5 := HQ.out.c5
      have HNO2 := Lib.hid (show ∀ j, j < nb → ¬ (al * num ≤ cumP K (j + 1) * of) from fun j hj => HNO.out j (by omega))
      go_wp2
      go_ret2
      exact ⟨tp, rfl, .inr ⟨HNO2.out, rfl⟩, rfl⟩
end Go.Proofs.Ytpemmjaengbogaa
