/- In which order numbers come plays no part; the walk of alike. -/
import Derived.Test.YtpemmjaengbogaaL
namespace Go.Proofs.Ytpemmjaengbogaa
open Go.RowKit
set_option linter.unusedVariables false
attribute [local irreducible] whereP sumP satP cntArr leastN topN cntP leastP topP cumP cntLe
def toL (V : Nat → Nat) (n : Nat) : List Nat := (List.range n).map V
theorem toL_succ (V : Nat → Nat) (n : Nat) : toL V (n + 1) = toL V n ++ [V n] := by unfold toL; rw [List.range_succ, List.map_append]; rfl
theorem toL_zero (V : Nat → Nat) : toL V 0 = [] := rfl
theorem toL_len (V : Nat → Nat) (n : Nat) : (toL V n).length = n := by simp [toL]
theorem toL_get (V : Nat → Nat) (n i : Nat) (h : i < n) : (toL V n)[i]? = some (V i) := by simp [toL, h]
theorem cntP_count (Bd : Nat → Nat) (nb : Nat) (V : Nat → Nat) (j : Nat) : ∀ k, cntP Bd nb V k j = ((toL V k).map fun v => whereP Bd v nb).count j
  | 0 => by unfold cntP; rfl
  | k + 1 => by
    rw [cntP_step, toL_succ, List.map_append, List.count_append, ← cntP_count Bd nb V j k]
    by_cases e : j = whereP Bd (V k) nb
    · rw [← e, upd_same]; simp [e]
    · rw [upd_other _ _ _ _ e]
      simp [List.count_singleton]
      intro h; exact e h.symm
theorem sumP_list (V : Nat → Nat) : ∀ k, sumP V k = min (toL V k).sum 18446744073709551615
  | 0 => by rw [sumP_zero]; simp [toL_zero]
  | k + 1 => by
    rw [sumP_step, sumP_list V k, toL_succ, List.sum_append]
    unfold satP
    simp only [List.sum_cons, List.sum_nil, Nat.add_zero]
    split <;> omega
theorem topP_le (V : Nat → Nat) (b : Nat) : ∀ k, topP V k ≤ b ↔ ∀ x ∈ toL V k, x ≤ b
  | 0 => by
    have : topP V 0 = 0 := by unfold topP; rfl
    rw [this]; simp [toL_zero]
  | k + 1 => by
    rw [topP_max, toL_succ]
    have := topP_le V b k
    simp only [List.mem_append, List.mem_singleton]
    constructor
    · intro h x hx
      rcases hx with hx | rfl
      · exact this.1 (by omega) x hx
      · omega
    · intro h
      have h1 := this.2 (fun x hx => h x (.inl hx))
      have h2 := h (V k) (.inr rfl)
      omega
theorem le_leastP (V : Nat → Nat) (b : Nat) : ∀ k, k ≠ 0 → (b ≤ leastP V k ↔ ∀ x ∈ toL V k, b ≤ x)
  | 0, h => absurd rfl h
  | k + 1, _ => by
    by_cases hk : k = 0
    · subst hk
      rw [leastP_step, toL_succ, toL_zero]
      unfold leastN
      simp
    · rw [leastP_min V k hk, toL_succ]
      have := le_leastP V b k hk
      simp only [List.mem_append, List.mem_singleton]
      constructor
      · intro h x hx
        rcases hx with hx | rfl
        · exact this.1 (by omega) x hx
        · omega
      · intro h
        have h1 := this.2 (fun x hx => h x (.inl hx))
        have h2 := h (V k) (.inr rfl)
        omega
theorem perm_same (Bd : Nat → Nat) (nb : Nat) (V W : Nat → Nat) (k : Nat) (h : (toL V k).Perm (toL W k)) :
    (∀ j, cntP Bd nb W k j = cntP Bd nb V k j) ∧ sumP W k = sumP V k ∧ leastP W k = leastP V k ∧ topP W k = topP V k := by
  refine ⟨fun j => ?_, ?_, ?_, ?_⟩
  · rw [cntP_count, cntP_count]; exact ((h.map _).count_eq j).symm
  · rw [sumP_list, sumP_list, h.sum_nat]
  · by_cases hk : k = 0
    · subst hk; unfold leastP; rfl
    · refine Nat.le_antisymm ?_ ?_
      · rw [le_leastP V _ k hk]; intro x hx; exact (le_leastP W _ k hk).1 (Nat.le_refl _) x (h.mem_iff.1 hx)
      · rw [le_leastP W _ k hk]; intro x hx; exact (le_leastP V _ k hk).1 (Nat.le_refl _) x (h.mem_iff.2 hx)
  · refine Nat.le_antisymm ?_ ?_
    · rw [topP_le]; intro x hx; exact (topP_le V _ k).1 (Nat.le_refl _) x (h.mem_iff.2 hx)
    · rw [topP_le]; intro x hx; exact (topP_le W _ k).1 (Nat.le_refl _) x (h.mem_iff.1 hx)
set_option maxHeartbeats 1000000 in
set_option maxRecDepth 100000 in
theorem alike_any (w : World) (B1 h1 : Nat) (A1 : Option Addr) (nb bc1 : Nat) (Bd1 : Nat → Nat) (c1 : Nat) (K1 : Nat → Nat) (B2 h2 : Nat) (A2 : Option Addr) (bc2 : Nat) (Bd2 : Nat → Nat) (c2 : Nat) (K2 : Nat → Nat) (al sm lt tp : Nat) (hnb : (nb : Int) ≤ 100)
    (H1 : HSt w B1 h1 A1 nb bc1 Bd1 c1 K1 al sm lt tp) (H2 : HSt w B2 h2 A2 nb bc2 Bd2 c2 K2 al sm lt tp) (hK : ∀ j, K2 j = K1 j) :
    Calls Try.prog 23 #[.pointer (some ⟨h1, 0, none⟩), .pointer (some ⟨h2, 0, none⟩)] w fun e w' => e = .returned (.bool true) ∧ Grow w w' := by
  have HH1 := Lib.hid H1; clear H1
  have HH2 := Lib.hid H2; clear H2
  obtain ⟨x, hx⟩ : ∃ x, x = if al = 0 then 0 else lt := ⟨_, rfl⟩
  obtain ⟨y, hy⟩ : ∃ y, y = if al = 0 then 0 else tp := ⟨_, rfl⟩
  obtain ⟨z, hz⟩ : ∃ z, z = decide (al ≠ 0) := ⟨_, rfl⟩
  have hE1 := fun (w' : World) (H : HSt w' B1 h1 A1 nb bc1 Bd1 c1 K1 al sm lt tp) => ends_any w' B1 h1 A1 nb bc1 Bd1 c1 K1 al sm lt tp H
  have hE2 := fun (w' : World) (H : HSt w' B2 h2 A2 nb bc2 Bd2 c2 K2 al sm lt tp) => ends_any w' B2 h2 A2 nb bc2 Bd2 c2 K2 al sm lt tp H
  rw [← hx, ← hy, ← hz] at hE1 hE2
  have HE1 := Lib.hid hE1; have HE2 := Lib.hid hE2
  clear hE1 hE2 hx hy hz
  go_enter Try.func23, Try.ntmps23
  go_wp2_with fail
  refine (HE1.out _ HH1.out).mono ?_
  rintro e w1 ⟨rfl, hg⟩
  have HG := Lib.hid hg
  replace HH1 := Lib.hid (HH1.out.grow hg)
  replace HH2 := Lib.hid (HH2.out.grow hg); clear hg
  go_wp2_with fail
  refine (HE2.out _ HH2.out).mono ?_
  rintro e w2 ⟨rfl, hg⟩
  replace HG := Lib.hid (HG.out.trans hg)
  replace HH1 := Lib.hid (HH1.out.grow hg)
  replace HH2 := Lib.hid (HH2.out.grow hg); clear hg
  go_wp2_with fail
  refine (counts_any w2 _ _ _ _ _ _ _ _ _ _ _ _ HH1.out hnb).mono ?_
  rintro e w3 ⟨A5, c5, rfl, hm5, hc5, hg⟩
  replace HG := Lib.hid (HG.out.trans hg)
  replace HH1 := Lib.hid (HH1.out.grow hg)
  replace HH2 := Lib.hid (HH2.out.grow hg); clear hg
  have M5 := Lib.hid hm5; clear hm5
  go_wp2_with fail
  refine (counts_any w3 _ _ _ _ _ _ _ _ _ _ _ _ HH2.out hnb).mono ?_
  rintro e w4 ⟨A6, c6, rfl, hm6, hc6, hg⟩
  replace HG := Lib.hid (HG.out.trans hg)
  replace HH1 := Lib.hid (HH1.out.grow hg)
  replace HH2 := Lib.hid (HH2.out.grow hg)
  replace M5 := Lib.hid (M5.out.grow hg); clear hg
  have M6 := Lib.hid hm6; clear hm6
  go_wp2_with fail
  refine (same_any w4 A5 A6 (nb + 1) c5 c6 K1 (by omega) hc5 hc6 M5.out.at (M6.out.at.congr (fun j _ => (hK j).symm))).mono ?_
  rintro e w5 ⟨rfl, hg⟩
  replace HG := Lib.hid (HG.out.trans hg)
  replace HH1 := Lib.hid (HH1.out.grow hg)
  replace HH2 := Lib.hid (HH2.out.grow hg)
  clear hg M5 M6 hc5 hc6
  go_wp2_with fail
  refine (all_any w5 _ _ _ _ _ _ _ _ _ _ _ _ HH1.out).mono ?_
  rintro e w6 ⟨rfl, rfl⟩
  go_wp2_with fail
  refine (all_any w6 _ _ _ _ _ _ _ _ _ _ _ _ HH2.out).mono ?_
  rintro e w7 ⟨rfl, rfl⟩
  go_wp2_with fail
  refine (sum_any w7 _ _ _ _ _ _ _ _ _ _ _ _ HH1.out).mono ?_
  rintro e w8 ⟨rfl, rfl⟩
  go_wp2_with fail
  refine (sum_any w8 _ _ _ _ _ _ _ _ _ _ _ _ HH2.out).mono ?_
  rintro e w9 ⟨rfl, rfl⟩
  go_wp2
  go_ret
  exact ⟨ret_bool (by simp), HG.out⟩
end Go.Proofs.Ytpemmjaengbogaa
