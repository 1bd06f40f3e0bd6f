/- Lists of numbers, read; the two that compare them. -/
import Derived.Test.YtmmbhjomgpnklaaRows
import Derived.Test.YtmmbhjomgpnklaaAppend
import Derived.Test.YtmmbhjomgpnklaaRelTail
namespace Go.Proofs.Ytmmbhjomgpnklaa
open Go.RowKit
set_option linter.unusedVariables false
set_option linter.unusedSimpArgs false
set_option maxRecDepth 100000
/-- A list of numbers that is read: n from A on. -/
def MemAt (w : World) (A : Option Addr) (n : Nat) (M : Nat → Int) : Prop := 0 < n → ∃ a, A = some a ∧ ∀ j, j < n → w.cell? (a.add j) = some (.int .i64 (M j))
theorem cell_lt {w : World} {a : Addr} {v : Value} (h : w.cell? a = some v) : a.block < w.heap.size := by
  refine Classical.byContradiction fun hn => ?_
  have : w.heap[a.block]? = none := Array.getElem?_eq_none (by omega)
  simp [World.cell?, this] at h
theorem MemAt.grow {w w' : World} {A : Option Addr} {n : Nat} {M : Nat → Int} (h : MemAt w A n M) (hg : Grow w w') : MemAt w' A n M := fun hn => by
  obtain ⟨a, hA, hc⟩ := h hn
  exact ⟨a, hA, fun j hj => (Below.cell hg (cell_lt (hc j hj))).trans (hc j hj)⟩
/-- Are two lists of numbers the same. -/
def SameM (n1 n2 : Nat) (M1 M2 : Nat → Int) : Prop := n1 = n2 ∧ ∀ j, j < n1 → M1 j = M2 j
set_option maxHeartbeats 2000000 in
theorem refInts_any (w : World) (A1 A2 : Option Addr) (n1 n2 c1 c2 : Nat) (M1 M2 : Nat → Int) (r : Bool) (hr : r = true ↔ SameM n1 n2 M1 M2) (hn : (n1 : Int) ≤ 1000000) (hM1 : MemAt w A1 n1 M1) (hM2 : MemAt w A2 n2 M2) :
    Calls Try.prog 28 #[.slice A1 n1 c1, .slice A2 n2 c2] w fun e w' => e = .returned (.bool r) ∧ Grow w w' := by
  by_cases hne : n1 = n2
  · subst hne
    have H1 := Lib.hid hM1; clear hM1
    have H2 := Lib.hid hM2; clear hM2
    have HR := Lib.hid hr; clear hr
    go_enter Try.func28, Try.ntmps28
    go_wp2_with fail
    go_loopw [5] (fun i wr => ∃ k : Nat, k ≤ n1 ∧ i = .int .i64 k ∧ (∀ j, j < k → M1 j = M2 j) ∧ Grow w wr) (fun i _ => n1 - (intOf i).toNat)
    case atStart => exact ⟨0, by omega, rfl, fun j hj => by omega, Grow.refl _⟩
    case round =>
      obtain ⟨k, hk, rfl, he, hg⟩ := hrel
      have HE := Lib.hid he; clear he
      have HGr := Lib.hid hg; clear hg
      by_cases hlt : k < n1
      · obtain ⟨a1, hA1, hm1⟩ := (H1.out.grow HGr.out) (by omega)
        obtain ⟨a2, hA2, hm2⟩ := (H2.out.grow HGr.out) (by omega)
        have m1 := hm1 k hlt
        have m2 := hm2 k hlt
        rw [hA1, hA2]
        clear hm1 hm2 hA1 hA2
        have k0 : (0 : Int) ≤ (k : Int) := by omega
        have kn : (k : Int) < (n1 : Int) := by omega
        by_cases hx : M1 k = M2 k
        · have HE2 := Lib.hid (show ∀ j, j < k + 1 → M1 j = M2 j from fun j hj => by
            rcases Nat.lt_succ_iff_lt_or_eq.1 hj with h | h
            · exact HE.out j h
            · rw [h]; exact hx)
          rw [hx] at m1
          generalize M2 k = x at m1 m2
          clear hx
          go_wp2_with fail
          go_quiet (fail)
          have HG2 := Lib.hid (HGr.out.trans (Grow.drewN wr nq))
          go_wp2_with fail
          go_roundw
          case rel => exact ⟨k + 1, by omega, by go_num, HE2.out, HG2.out⟩
          case measure => simp [intOf]; omega
        · have hrf : r = false := by
            cases hq : r with
            | false => rfl
            | true => exact absurd ((HR.out.1 hq).2 k hlt) hx
          have hbx : (M1 k != M2 k) = true := by simpa using hx
          subst hrf
          generalize M1 k = x1 at *
          generalize M2 k = x2 at *
          go_wp2_with fail
          go_quiet (fail)
          have HG2 := Lib.hid (HGr.out.trans (Grow.drewN wr nq))
          go_wp2
          go_ret
          exact ⟨rfl, HG2.out⟩
      · have kn : ¬ (k : Int) < (n1 : Int) := by omega
        have hrt : r = true := HR.out.2 ⟨rfl, fun j hj => HE.out j (by omega)⟩
        subst hrt
        go_wp2
        go_ret
        exact ⟨rfl, HGr.out⟩
  · have hrf : r = false := by
      cases hq : r with
      | false => rfl
      | true => exact absurd (hr.1 hq).1 hne
    subst hrf
    have hb : ((n1 : Int) != (n2 : Int)) = true := by simp; omega
    have hb2 : ¬ ((n1 : Int) = (n2 : Int)) := by omega
    clear hr hM1 hM2
    go_enter Try.func28, Try.ntmps28
    go_wp2
    go_ret
    exact ⟨rfl, Grow.refl _⟩
set_option maxHeartbeats 2000000 in
theorem eqInts_any (w : World) (A1 A2 : Option Addr) (n1 n2 c1 c2 : Nat) (M1 M2 : Nat → Int) (r : Bool) (hr : r = true ↔ SameM n1 n2 M1 M2) (hn : (n1 : Int) ≤ 1000000) (hM1 : MemAt w A1 n1 M1) (hM2 : MemAt w A2 n2 M2) :
    Calls Try.prog 30 #[.slice A1 n1 c1, .slice A2 n2 c2] w fun e w' => e = .returned (.bool r) ∧ Grow w w' := by
  by_cases hne : n1 = n2
  · subst hne
    have H1 := Lib.hid hM1; clear hM1
    have H2 := Lib.hid hM2; clear hM2
    have HR := Lib.hid hr; clear hr
    go_enter Try.func30, Try.ntmps30
    go_wp2_with fail
    go_loopw [13, 5] (fun i _ wr => ∃ k : Nat, k ≤ n1 ∧ i = .int .i64 k ∧ (∀ j, j < k → M1 j = M2 j) ∧ Grow w wr) (fun i _ _ => n1 - (intOf i).toNat)
    case atStart => exact ⟨0, by omega, rfl, fun j hj => by omega, Grow.refl _⟩
    case round =>
      obtain ⟨k, hk, rfl, he, hg⟩ := hrel
      have HE := Lib.hid he; clear he
      have HGr := Lib.hid hg; clear hg
      by_cases hlt : k < n1
      · obtain ⟨a1, hA1, hm1⟩ := (H1.out.grow HGr.out) (by omega)
        obtain ⟨a2, hA2, hm2⟩ := (H2.out.grow HGr.out) (by omega)
        have m1 := hm1 k hlt
        have m2 := hm2 k hlt
        rw [hA1, hA2]
        clear hm1 hm2 hA1 hA2
        have k0 : (0 : Int) ≤ (k : Int) := by omega
        have kn : (k : Int) < (n1 : Int) := by omega
        by_cases hx : M1 k = M2 k
        · have HE2 := Lib.hid (show ∀ j, j < k + 1 → M1 j = M2 j from fun j hj => by
            rcases Nat.lt_succ_iff_lt_or_eq.1 hj with h | h
            · exact HE.out j h
            · rw [h]; exact hx)
          rw [hx] at m1
          generalize M2 k = x at m1 m2
          clear hx
          go_wp2_with fail
          go_quiet (fail)
          have HG2 := Lib.hid (HGr.out.trans (Grow.drewN wr nq))
          go_wp2_with fail
          go_roundw
          case rel => exact ⟨k + 1, by omega, by go_num, HE2.out, HG2.out⟩
          case measure => simp [intOf]; omega
        · have hrf : r = false := by
            cases hq : r with
            | false => rfl
            | true => exact absurd ((HR.out.1 hq).2 k hlt) hx
          have hbx : (M1 k != M2 k) = true := by simpa using hx
          subst hrf
          generalize M1 k = x1 at *
          generalize M2 k = x2 at *
          go_wp2_with fail
          go_quiet (fail)
          have HG2 := Lib.hid (HGr.out.trans (Grow.drewN wr nq))
          go_wp2
          go_ret
          exact ⟨rfl, HG2.out⟩
      · have kn : ¬ (k : Int) < (n1 : Int) := by omega
        have hrt : r = true := HR.out.2 ⟨rfl, fun j hj => HE.out j (by omega)⟩
        subst hrt
        go_wp2
        go_ret
        exact ⟨rfl, HGr.out⟩
  · have hrf : r = false := by
      cases hq : r with
      | false => rfl
      | true => exact absurd (hr.1 hq).1 hne
    subst hrf
    have hb : ((n1 : Int) != (n2 : Int)) = true := by simp; omega
    have hb2 : ¬ ((n1 : Int) = (n2 : Int)) := by omega
    clear hr hM1 hM2
    go_enter Try.func30, Try.ntmps30
    go_wp2
    go_ret
    exact ⟨rfl, Grow.refl _⟩
end Go.Proofs.Ytmmbhjomgpnklaa
