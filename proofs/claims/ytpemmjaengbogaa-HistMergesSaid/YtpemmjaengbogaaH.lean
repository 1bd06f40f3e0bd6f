/- The walk of the reference's Part; what is counted below a bound. -/
import Derived.Test.YtpemmjaengbogaaG
namespace Go.Proofs.Ytpemmjaengbogaa
open Go.RowKit
set_option linter.unusedVariables false
attribute [local irreducible] whereP sumP satP cntArr leastN topN cntP leastP topP cumP
def cntLe (V : Nat → Nat) (b : Nat) : Nat → Nat
  | 0 => 0
  | k + 1 => cntLe V b k + if V k ≤ b then 1 else 0
theorem cntLe_step (V : Nat → Nat) (b k : Nat) : cntLe V b (k + 1) = cntLe V b k + if V k ≤ b then 1 else 0 := rfl
theorem cntLe_le (V : Nat → Nat) (b : Nat) : ∀ k, cntLe V b k ≤ k
  | 0 => Nat.le_refl _
  | k + 1 => by have := cntLe_le V b k; rw [cntLe_step]; split <;> omega
theorem topP_max (V : Nat → Nat) (k : Nat) : topP V (k + 1) = max (topP V k) (V k) := by
  rw [topP_step]
  unfold topN
  split
  · rename_i h; subst h
    have : topP V 0 = 0 := by unfold topP; rfl
    rw [this]; omega
  · rfl
/-- Below a bound lie just those of the buckets ahead of it. -/
theorem where_le {Bd : Nat → Nat} {nb : Nat} (hs : Sorted Bd nb) (v i : Nat) (hi : i < nb) : whereP Bd v nb ≤ i ↔ v ≤ Bd i := by
  have mono : ∀ a b, a ≤ b → whereP Bd v a ≤ whereP Bd v b := by
    intro a b h
    induction h with
    | refl => exact Nat.le_refl _
    | step _ ih => exact Nat.le_trans ih (by rw [whereP_step]; omega)
  have full : ∀ a, a ≤ nb → (∀ t, t < a → Bd t < v) → whereP Bd v a = a := fun a ha h => whereP_cut Bd v a a (Nat.le_refl _) h (fun t h1 h2 => by omega)
  constructor
  · intro h
    refine Classical.byContradiction fun hn => ?_
    have h1 := full (i + 1) (by omega) (fun t ht => by
      by_cases e : t = i
      · subst e; omega
      · have := hs t i (by omega) hi; omega)
    have := mono (i + 1) nb (by omega)
    omega
  · intro h
    -- of the first i none more is below
    have cut : ∀ n, i ≤ n → n ≤ nb → whereP Bd v n ≤ i := by
      intro n h1 h2
      induction n with
      | zero => have := whereP_le Bd v 0; omega
      | succ n ih =>
        by_cases e : i = n + 1
        · have := whereP_le Bd v (n + 1); omega
        · rw [whereP_step, if_neg (by
            by_cases e2 : i = n
            · rw [← e2]; omega
            · have := hs i n (by omega) (by omega); omega)]
          have := ih (by omega) (by omega)
          omega
    exact cut nb (by omega) (Nat.le_refl _)
theorem cum_upd (K : Nat → Nat) (p : Nat) : ∀ i, cumP (upd K p (K p + 1)) i = cumP K i + if p < i then 1 else 0
  | 0 => by unfold cumP; simp
  | i + 1 => by
    rw [cumP_step, cumP_step, cum_upd K p i]
    by_cases e : i = p
    · subst e; rw [upd_same, if_neg (by omega), if_pos (by omega)]; omega
    · rw [upd_other _ _ _ _ e]
      by_cases h : p < i
      · rw [if_pos h, if_pos (by omega)]; omega
      · rw [if_neg h, if_neg (by omega)]; omega
theorem cum_cnt {Bd : Nat → Nat} {nb : Nat} (hs : Sorted Bd nb) (V : Nat → Nat) (i : Nat) (hi : i < nb) : ∀ k, cumP (cntP Bd nb V k) (i + 1) = cntLe V (Bd i) k
  | 0 => by
    have e : cntP Bd nb V 0 = fun _ => 0 := by unfold cntP; rfl
    rw [e]
    have : ∀ j, cumP (fun _ => 0) j = 0 := fun j => by
      induction j with
      | zero => unfold cumP; rfl
      | succ j ih => rw [cumP_step, ih]
    rw [this]; rfl
  | k + 1 => by
    rw [cntP_step, cum_upd, cum_cnt hs V i hi k, cntLe_step]
    have := where_le hs (V k) i hi
    by_cases h : V k ≤ Bd i
    · rw [if_pos h, if_pos (by have := this.2 h; omega)]
    · rw [if_neg h, if_neg (by intro h2; exact h (this.1 (by omega)))]
theorem cum_le (Bd : Nat → Nat) (nb : Nat) (V : Nat → Nat) : ∀ k j, cumP (cntP Bd nb V k) j ≤ k
  | 0, j => by
    have e : cntP Bd nb V 0 = fun _ => 0 := by unfold cntP; rfl
    rw [e]
    have : cumP (fun _ => 0) j = 0 := by
      induction j with
      | zero => unfold cumP; rfl
      | succ j ih => rw [cumP_step, ih]
    omega
  | k + 1, j => by
    rw [cntP_step, cum_upd]
    have := cum_le Bd nb V k j
    split <;> omega
attribute [local irreducible] cntLe
set_option maxHeartbeats 1000000 in
/-- The reference's Part. -/
theorem partRef_any (w : World) (A LA : Option Addr) (n cap ln lcap num of : Nat) (Bd V : Nat → Nat) (hn : (n : Int) ≤ 100) (hcap : (n : Int) ≤ cap) (hln : (ln : Int) ≤ 1000) (hlc : (ln : Int) ≤ lcap) (hnum : num < 4294967296) (hof : of < 4294967296) (hV : ∀ i, V i < 18446744073709551616) (hM : MemAt w A n Bd) (hL : MemAt w LA ln V) :
    Calls Try.prog 12 #[.slice A n cap, .slice LA ln lcap, .int .u64 num, .int .u64 of] w fun e w' => ∃ r : Nat, e = .returned (.int .u64 (r : Int)) ∧ PartR (fun i => ln * num ≤ cntLe V (Bd i) ln * of) Bd n (topP V ln) r ∧ Grow w w' := by
  have HM := Lib.hid hM; clear hM
  have HL := Lib.hid hL; clear hL
  have HV := Lib.hid hV; clear hV
  go_enter Try.func12, Try.ntmps12
  go_wp2_with fail
  go_loopw [9, 10] (fun t i wr => ∃ k : Nat, k ≤ ln ∧ t = .int .u64 (topP V k : Nat) ∧ i = .int .i64 k ∧ wr = w) (fun _ i _ => ln - (intOf i).toNat)
  case atStart => exact ⟨0, by omega, by unfold topP; rfl, rfl, rfl⟩
  case round =>
    obtain ⟨k, hk, rfl, rfl, rfl⟩ := hrel
    by_cases hlt : k < ln
    · obtain ⟨a, hA, hc⟩ := HL.out (by omega)
      have m := hc k hlt
      rw [hA]
      clear hc hA
      have hst := topP_max V k
      obtain ⟨s, hs⟩ : ∃ s, s = topP V k := ⟨_, rfl⟩
      rw [← hs] at hst ⊢
      clear hs
      obtain ⟨t, ht⟩ : ∃ t, t = topP V (k + 1) := ⟨_, rfl⟩
      rw [← ht] at hst
      have HT := Lib.hid ht; clear ht
      have hmx : (if s < V k then (V k : Int) else (s : Int)) = (t : Int) := by rw [hst]; split <;> omega
      clear hst
      have k0 : (0 : Int) ≤ (k : Int) := by omega
      have kn : (k : Int) < (ln : Int) := by omega
      go_wp2_with fail
      go_roundw
      case rel => exact ⟨k + 1, by omega, by rw [← HT.out], by go_num, trivial⟩
      case measure => simp [intOf]; omega
    · have kn : ¬ (k : Int) < (ln : Int) := by omega
      have hkl : k = ln := by omega
      subst hkl
      have htl := topP_lt V HV.out k
      obtain ⟨tp, htp⟩ : ∃ tp, tp = topP V k := ⟨_, rfl⟩
      rw [← htp] at htl ⊢
      have HTP := Lib.hid htp; clear htp
      obtain ⟨W0, rfl⟩ : ∃ W0, W0 = wr := ⟨wr, rfl⟩
      go_wp2_with fail
      go_loopw [11] (fun i wq => ∃ q : Nat, q ≤ n ∧ i = .int .i64 q ∧ Grow W0 wq ∧ ∀ j, j < q → ¬ (k * num ≤ cntLe V (Bd j) k * of)) (fun i _ => n - (intOf i).toNat)
      case atStart => exact ⟨0, by omega, rfl, Grow.refl _, fun j hj => absurd hj (Nat.not_lt_zero _)⟩
      case round =>
        obtain ⟨q, hq, rfl, hgq, hno⟩ := hrel
        have HGQ := Lib.hid hgq; clear hgq
        have HNO := Lib.hid hno; clear hno
        by_cases hql : q < n
        · have q0 : (0 : Int) ≤ (q : Int) := by omega
          have qn : (q : Int) < (n : Int) := by omega
          obtain ⟨a2, hA2, hc2⟩ := HM.out (by omega)
          subst hA2
          have HC2 := Lib.hid (hc2 q hql); clear hc2
          go_wp2_with fail
          go_loopw [12, 13] (fun c i wz => ∃ z : Nat, z ≤ k ∧ c = .int .u64 (cntLe V (Bd q) z : Nat) ∧ i = .int .i64 z ∧ Grow W0 wz) (fun _ i _ => k - (intOf i).toNat)
          case atStart => exact ⟨0, by omega, by unfold cntLe; rfl, rfl, HGQ.out⟩
          case round =>
            obtain ⟨z, hz, rfl, rfl, hgz⟩ := hrel
            have HGZ := Lib.hid hgz; clear hgz
            have m2 := (Below.cell HGZ.out (cell_lt HC2.out)).trans HC2.out
            have hst := cntLe_step V (Bd q) z
            have hle := cntLe_le V (Bd q) z
            by_cases hzk : z < k
            · obtain ⟨a, hA, hc⟩ := (HL.out.grow HGZ.out) (by omega)
              have m := hc z hzk
              rw [hA]
              clear hc hA
              obtain ⟨s, hs⟩ : ∃ s, s = cntLe V (Bd q) z := ⟨_, rfl⟩
              rw [← hs] at hst hle ⊢
              clear hs
              have s0 : (0 : Int) ≤ (s : Int) := by omega
              have s1 : (s : Int) ≤ 1000 := by omega
              have z0 : (0 : Int) ≤ (z : Int) := by omega
              have zn : (z : Int) < (k : Int) := by omega
              by_cases hb : V z ≤ Bd q
              · rw [if_pos hb] at hst
                have HST := Lib.hid hst; clear hst
                go_wp2_with fail
                go_quiet (fail)
                have HG3 := Lib.hid (HGZ.out.trans (Grow.drewN wr nq))
                go_wp2_with fail
                go_roundw
                case rel => exact ⟨z + 1, by omega, by rw [HST.out]; go_num, by go_num, HG3.out⟩
                case measure => simp [intOf]; omega
              · rw [if_neg hb] at hst
                have hb2 : Bd q < V z := by omega
                have HST := Lib.hid hst; clear hst
                go_wp2_with fail
                go_quiet (fail)
                have HG3 := Lib.hid (HGZ.out.trans (Grow.drewN wr nq))
                go_wp2_with fail
                go_roundw
                case rel => exact ⟨z + 1, by omega, by rw [HST.out]; go_num, by go_num, HG3.out⟩
                case measure => simp [intOf]; omega
            · have zn : ¬ (z : Int) < (k : Int) := by omega
              have hzk2 : z = k := by omega
              rw [hzk2] at hle ⊢
              clear hst
              obtain ⟨s, hs⟩ : ∃ s, s = cntLe V (Bd q) k := ⟨_, rfl⟩
              rw [← hs] at hle ⊢
              have HS := Lib.hid hs; clear hs
              have kk : ¬ (k : Int) < (k : Int) := by omega
              have p1 : s * of ≤ 1000 * 4294967296 := Nat.mul_le_mul (by omega) (by omega)
              have p2 : k * num ≤ 1000 * 4294967296 := Nat.mul_le_mul (by omega) (by omega)
              obtain ⟨X, hX⟩ : ∃ X, X = s * of := ⟨_, rfl⟩
              obtain ⟨Y, hY⟩ : ∃ Y, Y = k * num := ⟨_, rfl⟩
              rw [← hX] at p1
              rw [← hY] at p2
              have e1 : (s : Int) * (of : Int) = (X : Int) := by rw [hX]; exact (Int.natCast_mul s of).symm
              have e2 : (k : Int) * (num : Int) = (Y : Int) := by rw [hY]; exact (Int.natCast_mul k num).symm
              have x1 : (X : Int) ≤ 4294967296000 := by omega
              have y1 : (Y : Int) ≤ 4294967296000 := by omega
              have HX := Lib.hid hX; clear hX
              have HY := Lib.hid hY; clear hY
              by_cases hok : Y ≤ X
              · have HOK := Lib.hid (show k * num ≤ cntLe V (Bd q) k * of from by rw [← HS.out, ← HX.out, ← HY.out]; exact hok)
                go_wp2
                go_ret
                exact ⟨Bd q, rfl, .inl ⟨q, hql, HOK.out, HNO.out, rfl⟩, HGZ.out⟩
              · have HNO2 := Lib.hid (show ∀ j, j < q + 1 → ¬ (k * num ≤ cntLe V (Bd j) k * of) from fun j hj => by
                  by_cases e : j = q
                  · rw [e, ← HS.out, ← HX.out, ← HY.out]; exact hok
                  · exact HNO.out j (by omega))
                have hok2 : X < Y := by omega
                clear m2
                go_wp2_with fail
                go_roundw
                case rel => exact ⟨q + 1, by omega, by go_num, HGZ.out, HNO2.out⟩
                case measure => simp [intOf]; omega
        · have qn : ¬ (q : Int) < (n : Int) := by omega
          have HNO2 := Lib.hid (show ∀ j, j < n → ¬ (k * num ≤ cntLe V (Bd j) k * of) from fun j hj => HNO.out j (by omega))
          go_wp2
          go_ret
          exact ⟨tp, rfl, .inr ⟨HNO2.out, HTP.out⟩, HGQ.out⟩
end Go.Proofs.Ytpemmjaengbogaa
