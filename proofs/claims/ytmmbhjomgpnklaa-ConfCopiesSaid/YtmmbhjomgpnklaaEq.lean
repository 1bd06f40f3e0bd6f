/- Programs compared, both sides. -/
import Derived.Test.YtmmbhjomgpnklaaCode
namespace Go.Proofs.Ytmmbhjomgpnklaa
open Go.RowKit
set_option linter.unusedVariables false
set_option linter.unusedSimpArgs false
set_option maxRecDepth 100000
/-- Are two programs the same. -/
def SameC (n1 n2 : Nat) (C1 C2 : Nat → Ins) : Prop := n1 = n2 ∧ ∀ j, j < n1 → C1 j = C2 j
set_option maxHeartbeats 4000000 in
theorem refSame_any (w : World) (A1 A2 : Option Addr) (n1 n2 c1 c2 : Nat) (C1 C2 : Nat → Ins) (r : Bool) (hr : r = true ↔ SameC n1 n2 C1 C2) (hn : (n1 : Int) ≤ 1000000) (hM1 : CodeAt w A1 n1 C1) (hM2 : CodeAt w A2 n2 C2) :
    Calls Try.prog 27 #[.slice A1 n1 c1, .slice A2 n2 c2] w fun e w' => e = .returned (.bool r) ∧ Grow w w' := by
  by_cases hne : n1 = n2
  · subst hne
    have H1 := Lib.hid hM1; clear hM1
    have H2 := Lib.hid hM2; clear hM2
    have HR := Lib.hid hr; clear hr
    go_enter Try.func27, Try.ntmps27
    go_wp2_with fail
    go_loopw [5] (fun i  wr => ∃ k : Nat, k ≤ n1 ∧ i = .int .i64 k ∧ (∀ j, j < k → C1 j = C2 j) ∧ Grow w wr) (fun i  _ => n1 - (intOf i).toNat)
    case atStart => exact ⟨0, by omega, rfl, fun j hj => by omega, Grow.refl _⟩
    case round =>
      obtain ⟨k, hk, rfl, he, hg⟩ := hrel
      have HE := Lib.hid he; clear he
      have HGr := Lib.hid hg; clear hg
      by_cases hlt : k < n1
      · obtain ⟨a1, hA1, p0, p1, p2, p3, p4, p5⟩ := CodeAt.at (H1.out.grow HGr.out) k hlt
        obtain ⟨a2, hA2, q0, q1, q2, q3, q4, q5⟩ := CodeAt.at (H2.out.grow HGr.out) k hlt
        rw [hA1, hA2]
        clear hA1 hA2
        have k0 : (0 : Int) ≤ (k : Int) := by omega
        have kn : (k : Int) < (n1 : Int) := by omega
        have HC := Lib.hid (show C1 k = C2 k → ∀ j, j < k + 1 → C1 j = C2 j from fun hx j hj => by
            rcases Nat.lt_succ_iff_lt_or_eq.1 hj with h | h
            · exact HE.out j h
            · rw [h]; exact hx)
        have HN := Lib.hid (show C1 k ≠ C2 k → r = false from fun hx => by
            cases hq : r with
            | false => rfl
            | true => exact absurd ((HR.out.1 hq).2 k hlt) hx)
        generalize C1 k = x1 at *
        generalize C2 k = x2 at *
        by_cases hx : x1 = x2
        · have HE2 := Lib.hid (HC.out hx)
          clear HC HN
          subst hx
          go_wp2_with fail
          go_quiet (fail)
          have HG2 := Lib.hid (HGr.out.trans (Grow.drewN wr nq))
          go_wp2_with fail
          go_roundw
          case rel => exact ⟨k + 1, by omega, by go_num, HE2.out, HG2.out⟩
          case measure => simp [intOf]; omega
        · have hrf := HN.out hx
          subst hrf
          clear HC HN
          obtain ⟨o1, a1', b1, cc1, d1, k1⟩ := x1
          obtain ⟨o2, a2', b2, cc2, d2, k2⟩ := x2
          simp only [Ins.mk.injEq] at hx
          simp only at p0 p1 p2 p3 p4 p5 q0 q1 q2 q3 q4 q5
          by_cases h_o : o1 = o2
          case neg =>
            have hb : (o1 == o2) = false := by simpa using h_o
            have hb' : (o1 != o2) = true := by simpa using h_o
            clear hx
            go_wp2_with fail
            go_quiet (fail)
            have HG2 := Lib.hid (HGr.out.trans (Grow.drewN wr nq))
            go_wp2
            go_ret
            exact ⟨rfl, HG2.out⟩
          subst h_o
          by_cases h_a : a1' = a2'
          case neg =>
            have hb : (a1' == a2') = false := by simpa using h_a
            have hb' : (a1' != a2') = true := by simpa using h_a
            clear hx
            go_wp2_with fail
            go_quiet (fail)
            have HG2 := Lib.hid (HGr.out.trans (Grow.drewN wr nq))
            go_wp2
            go_ret
            exact ⟨rfl, HG2.out⟩
          subst h_a
          by_cases h_b : b1 = b2
          case neg =>
            have hb : (b1 == b2) = false := by simpa using h_b
            have hb' : (b1 != b2) = true := by simpa using h_b
            clear hx
            go_wp2_with fail
            go_quiet (fail)
            have HG2 := Lib.hid (HGr.out.trans (Grow.drewN wr nq))
            go_wp2
            go_ret
            exact ⟨rfl, HG2.out⟩
          subst h_b
          by_cases h_c : cc1 = cc2
          case neg =>
            have hb : (cc1 == cc2) = false := by simpa using h_c
            have hb' : (cc1 != cc2) = true := by simpa using h_c
            clear hx
            go_wp2_with fail
            go_quiet (fail)
            have HG2 := Lib.hid (HGr.out.trans (Grow.drewN wr nq))
            go_wp2
            go_ret
            exact ⟨rfl, HG2.out⟩
          subst h_c
          by_cases h_d : d1 = d2
          case neg =>
            have hb : (d1 == d2) = false := by simpa using h_d
            have hb' : (d1 != d2) = true := by simpa using h_d
            clear hx
            go_wp2_with fail
            go_quiet (fail)
            have HG2 := Lib.hid (HGr.out.trans (Grow.drewN wr nq))
            go_wp2
            go_ret
            exact ⟨rfl, HG2.out⟩
          subst h_d
          have hk' : ¬ (k1.toNat : Int) = (k2.toNat : Int) := fun h => hx ⟨rfl, rfl, rfl, rfl, rfl, BitVec.eq_of_toNat_eq (by omega)⟩
          have hb : ((k1.toNat : Int) == (k2.toNat : Int)) = false := by simpa using hk'
          clear hx
          go_wp2_with fail
          go_quiet (fail)
          have HG2 := Lib.hid (HGr.out.trans (Grow.drewN wr nq))
          go_wp2
          go_ret
          exact ⟨rfl, HG2.out⟩
      · have kn : ¬ (k : Int) < (n1 : Int) := by omega
        have hrt : r = true := HR.out.2 ⟨rfl, fun j hj => HE.out j (by omega)⟩
        subst hrt
        go_wp2
        go_ret
        exact ⟨rfl, HGr.out⟩
  · have hrf : r = false := by
      cases hq : r with
      | false => rfl
      | true => exact absurd (hr.1 hq).1 hne
    subst hrf
    have hb : ((n1 : Int) != (n2 : Int)) = true := by simp; omega
    have hb2 : ¬ ((n1 : Int) = (n2 : Int)) := by omega
    clear hr hM1 hM2
    go_enter Try.func27, Try.ntmps27
    go_wp2
    go_ret
    exact ⟨rfl, Grow.refl _⟩
set_option maxHeartbeats 4000000 in
theorem eqCode_any (w : World) (A1 A2 : Option Addr) (n1 n2 c1 c2 : Nat) (C1 C2 : Nat → Ins) (r : Bool) (hr : r = true ↔ SameC n1 n2 C1 C2) (hn : (n1 : Int) ≤ 1000000) (hM1 : CodeAt w A1 n1 C1) (hM2 : CodeAt w A2 n2 C2) :
    Calls Try.prog 29 #[.slice A1 n1 c1, .slice A2 n2 c2] w fun e w' => e = .returned (.bool r) ∧ Grow w w' := by
  by_cases hne : n1 = n2
  · subst hne
    have H1 := Lib.hid hM1; clear hM1
    have H2 := Lib.hid hM2; clear hM2
    have HR := Lib.hid hr; clear hr
    go_enter Try.func29, Try.ntmps29
    go_wp2_with fail
    go_loopw [13, 5] (fun i _ wr => ∃ k : Nat, k ≤ n1 ∧ i = .int .i64 k ∧ (∀ j, j < k → C1 j = C2 j) ∧ Grow w wr) (fun i _ _ => n1 - (intOf i).toNat)
    case atStart => exact ⟨0, by omega, rfl, fun j hj => by omega, Grow.refl _⟩
    case round =>
      obtain ⟨k, hk, rfl, he, hg⟩ := hrel
      have HE := Lib.hid he; clear he
      have HGr := Lib.hid hg; clear hg
      by_cases hlt : k < n1
      · obtain ⟨a1, hA1, p0, p1, p2, p3, p4, p5⟩ := CodeAt.at (H1.out.grow HGr.out) k hlt
        obtain ⟨a2, hA2, q0, q1, q2, q3, q4, q5⟩ := CodeAt.at (H2.out.grow HGr.out) k hlt
        rw [hA1, hA2]
        clear hA1 hA2
        have k0 : (0 : Int) ≤ (k : Int) := by omega
        have kn : (k : Int) < (n1 : Int) := by omega
        have HC := Lib.hid (show C1 k = C2 k → ∀ j, j < k + 1 → C1 j = C2 j from fun hx j hj => by
            rcases Nat.lt_succ_iff_lt_or_eq.1 hj with h | h
            · exact HE.out j h
            · rw [h]; exact hx)
        have HN := Lib.hid (show C1 k ≠ C2 k → r = false from fun hx => by
            cases hq : r with
            | false => rfl
            | true => exact absurd ((HR.out.1 hq).2 k hlt) hx)
        generalize C1 k = x1 at *
        generalize C2 k = x2 at *
        by_cases hx : x1 = x2
        · have HE2 := Lib.hid (HC.out hx)
          clear HC HN
          subst hx
          go_wp2_with fail
          go_quiet (fail)
          have HG2 := Lib.hid (HGr.out.trans (Grow.drewN wr nq))
          go_wp2_with fail
          go_roundw
          case rel => exact ⟨k + 1, by omega, by go_num, HE2.out, HG2.out⟩
          case measure => simp [intOf]; omega
        · have hrf := HN.out hx
          subst hrf
          clear HC HN
          obtain ⟨o1, a1', b1, cc1, d1, k1⟩ := x1
          obtain ⟨o2, a2', b2, cc2, d2, k2⟩ := x2
          simp only [Ins.mk.injEq] at hx
          simp only at p0 p1 p2 p3 p4 p5 q0 q1 q2 q3 q4 q5
          by_cases h_o : o1 = o2
          case neg =>
            have hb : (o1 == o2) = false := by simpa using h_o
            have hb' : (o1 != o2) = true := by simpa using h_o
            clear hx
            go_wp2_with fail
            go_quiet (fail)
            have HG2 := Lib.hid (HGr.out.trans (Grow.drewN wr nq))
            go_wp2
            go_ret
            exact ⟨rfl, HG2.out⟩
          subst h_o
          by_cases h_a : a1' = a2'
          case neg =>
            have hb : (a1' == a2') = false := by simpa using h_a
            have hb' : (a1' != a2') = true := by simpa using h_a
            clear hx
            go_wp2_with fail
            go_quiet (fail)
            have HG2 := Lib.hid (HGr.out.trans (Grow.drewN wr nq))
            go_wp2
            go_ret
            exact ⟨rfl, HG2.out⟩
          subst h_a
          by_cases h_b : b1 = b2
          case neg =>
            have hb : (b1 == b2) = false := by simpa using h_b
            have hb' : (b1 != b2) = true := by simpa using h_b
            clear hx
            go_wp2_with fail
            go_quiet (fail)
            have HG2 := Lib.hid (HGr.out.trans (Grow.drewN wr nq))
            go_wp2
            go_ret
            exact ⟨rfl, HG2.out⟩
          subst h_b
          by_cases h_c : cc1 = cc2
          case neg =>
            have hb : (cc1 == cc2) = false := by simpa using h_c
            have hb' : (cc1 != cc2) = true := by simpa using h_c
            clear hx
            go_wp2_with fail
            go_quiet (fail)
            have HG2 := Lib.hid (HGr.out.trans (Grow.drewN wr nq))
            go_wp2
            go_ret
            exact ⟨rfl, HG2.out⟩
          subst h_c
          by_cases h_d : d1 = d2
          case neg =>
            have hb : (d1 == d2) = false := by simpa using h_d
            have hb' : (d1 != d2) = true := by simpa using h_d
            clear hx
            go_wp2_with fail
            go_quiet (fail)
            have HG2 := Lib.hid (HGr.out.trans (Grow.drewN wr nq))
            go_wp2
            go_ret
            exact ⟨rfl, HG2.out⟩
          subst h_d
          have hk' : ¬ (k1.toNat : Int) = (k2.toNat : Int) := fun h => hx ⟨rfl, rfl, rfl, rfl, rfl, BitVec.eq_of_toNat_eq (by omega)⟩
          have hb : ((k1.toNat : Int) == (k2.toNat : Int)) = false := by simpa using hk'
          clear hx
          go_wp2_with fail
          go_quiet (fail)
          have HG2 := Lib.hid (HGr.out.trans (Grow.drewN wr nq))
          go_wp2
          go_ret
          exact ⟨rfl, HG2.out⟩
      · have kn : ¬ (k : Int) < (n1 : Int) := by omega
        have hrt : r = true := HR.out.2 ⟨rfl, fun j hj => HE.out j (by omega)⟩
        subst hrt
        go_wp2
        go_ret
        exact ⟨rfl, HGr.out⟩
  · have hrf : r = false := by
      cases hq : r with
      | false => rfl
      | true => exact absurd (hr.1 hq).1 hne
    subst hrf
    have hb : ((n1 : Int) != (n2 : Int)) = true := by simp; omega
    have hb2 : ¬ ((n1 : Int) = (n2 : Int)) := by omega
    clear hr hM1 hM2
    go_enter Try.func29, Try.ntmps29
    go_wp2
    go_ret
    exact ⟨rfl, Grow.refl _⟩
end Go.Proofs.Ytmmbhjomgpnklaa
