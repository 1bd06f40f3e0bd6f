/- Great: the walk. -/
import Derived.Test.YtmmbhjomgpnklaaSys
namespace Go.Proofs.Ytmmbhjomgpnklaa
open Go.RowKit
set_option linter.unusedVariables false
set_option linter.unusedSimpArgs false
set_option maxRecDepth 100000
/-- Not too great. -/
structure Small (X : Cf) : Prop where
  t : X.tn ≤ 70
  l : X.ln ≤ 20
  s : X.sn ≤ 40
  q : X.qn ≤ 40
  m : X.mn ≤ 40
  tc : ∀ j, j < X.tn → (X.T j).cn ≤ 300
  lc : ∀ j, j < X.ln → (X.L j).cn ≤ 300
def GP (X : Cf) (e : Ending) : Prop := ∃ r : Bool, e = .returned (.bool r) ∧ (r = false → Small X)
theorem GP.yes (X : Cf) : GP X (.returned (.bool true)) := ⟨true, rfl, fun h => by cases h⟩
theorem GP.of {X : Cf} (b : Bool) (h : Small X) : GP X (.returned (.bool b)) := ⟨b, rfl, fun _ => h⟩
attribute [local irreducible] GP
set_option maxHeartbeats 8000000 in
theorem great_any (w : World) (TA LA SA QA MA : Option Addr) (tc lc sc qc mc : Nat) (tcv lcv : Nat → Value) (X : Cf)
    (hT : RowAt w TA X.tn 6 (fun j => tkL (X.T j) (tcv j))) (hTC : ∀ j, j < X.tn → CodeV w (tcv j) (X.T j).cn (X.T j).C) (hL : RowAt w LA X.ln 2 (fun j => lnL (X.L j) (lcv j))) (hLC : ∀ j, j < X.ln → CodeV w (lcv j) (X.L j).cn (X.L j).C) :
    Calls Try.prog 9 #[.agg (cfC (.slice TA X.tn tc) (.slice LA X.ln lc) (.slice SA X.sn sc) (.slice QA X.qn qc) (.slice MA X.mn mc) X)] w fun r w' => GP X r ∧ Grow w w' := by
  have HT := Lib.hid hT; clear hT
  have HTC := Lib.hid hTC; clear hTC
  have HL := Lib.hid hL; clear hL
  have HLC := Lib.hid hLC; clear hLC
  by_cases htn : 70 < X.tn
  · have htn2 : (70 : Int) < X.tn := by omega
    go_enter Try.func9, Try.ntmps9
    go_wp2
    go_ret
    exact ⟨GP.yes X, Grow.alloc _ _⟩
  have htn2 : ¬ (70 : Int) < X.tn := by omega
  by_cases hln : 20 < X.ln
  · have hln2 : (20 : Int) < X.ln := by omega
    go_enter Try.func9, Try.ntmps9
    go_wp2
    go_ret
    exact ⟨GP.yes X, Grow.alloc _ _⟩
  have hln2 : ¬ (20 : Int) < X.ln := by omega
  by_cases hsn : 40 < X.sn
  · have hsn2 : (40 : Int) < X.sn := by omega
    go_enter Try.func9, Try.ntmps9
    go_wp2
    go_ret
    exact ⟨GP.yes X, Grow.alloc _ _⟩
  have hsn2 : ¬ (40 : Int) < X.sn := by omega
  by_cases hqn : 40 < X.qn
  · have hqn2 : (40 : Int) < X.qn := by omega
    go_enter Try.func9, Try.ntmps9
    go_wp2
    go_ret
    exact ⟨GP.yes X, Grow.alloc _ _⟩
  have hqn2 : ¬ (40 : Int) < X.qn := by omega
  by_cases hmn : 40 < X.mn
  · have hmn2 : (40 : Int) < X.mn := by omega
    go_enter Try.func9, Try.ntmps9
    go_wp2
    go_ret
    exact ⟨GP.yes X, Grow.alloc _ _⟩
  have hmn2 : ¬ (40 : Int) < X.mn := by omega
  go_enter Try.func9, Try.ntmps9
  go_wp2_with fail
  have hX : (w.alloc (.cells (cfC (.slice TA X.tn tc) (.slice LA X.ln lc) (.slice SA X.sn sc) (.slice QA X.qn qc) (.slice MA X.mn mc) X) 28)).heap[w.heap.size]? = some (.cells (cfC (.slice TA X.tn tc) (.slice LA X.ln lc) (.slice SA X.sn sc) (.slice QA X.qn qc) (.slice MA X.mn mc) X) 28 (0, 0)) := heapAt_alloc_new w _
  have hG : Grow w (w.alloc (.cells (cfC (.slice TA X.tn tc) (.slice LA X.ln lc) (.slice SA X.sn sc) (.slice QA X.qn qc) (.slice MA X.mn mc) X) 28)) := Grow.alloc _ _
  generalize w.alloc (.cells (cfC (.slice TA X.tn tc) (.slice LA X.ln lc) (.slice SA X.sn sc) (.slice QA X.qn qc) (.slice MA X.mn mc) X) 28) = w1 at hX hG ⊢
  have x0 := cell_block hX 0
  have x1 := cell_block hX 1
  simp at x0 x1
  have HX := Lib.hid hX; clear hX
  have HG := Lib.hid hG; clear hG
  have HTw := Lib.hid (HT.out.grow HG.out)
  have HLw := Lib.hid (HL.out.grow HG.out)
  clear HT HL
  go_loopw [4, 3] (fun x m wr => ∃ k : Nat, ∃ z : Int, k ≤ X.tn ∧ x = .int .i64 k ∧ m = .int .i64 z ∧ 0 ≤ z ∧ z ≤ 300 * k ∧ (∀ j, j < k → (X.T j).cn ≤ 300) ∧ wr = w1) (fun x _ _ => X.tn - (intOf x).toNat)
  case atStart => exact ⟨0, 0, by omega, rfl, rfl, by omega, by omega, fun j hj => by omega, rfl⟩
  case round =>
    obtain ⟨k, z, hk, rfl, rfl, hz0, hz1, he, rfl⟩ := hrel
    have HK := Lib.hid he; clear he
    by_cases hlt : k < X.tn
    · obtain ⟨ta, hTA, c0, c1, c2, c3, c4, c5⟩ := tasks_at HTw.out k hlt
      obtain ⟨CA, ccap, hcv, hc1, hc2⟩ := HTC.out k hlt
      rw [hcv] at c5
      rw [hTA] at x0
      clear hcv hTA c0 c1 c2 c3 c4 hc1 hc2
      have k0 : (0 : Int) ≤ (k : Int) := by omega
      have kn : (k : Int) < (X.tn : Int) := by omega
      by_cases hb : 300 < (X.T k).cn
      · have hb2 : (300 : Int) < (X.T k).cn := by omega
        go_wp2
        go_ret
        exact ⟨GP.yes X, HG.out⟩
      · have hb2 : ¬ (300 : Int) < (X.T k).cn := by omega
        have HK2 := Lib.hid (show ∀ j, j < k + 1 → (X.T j).cn ≤ 300 from fun j hj => by
            rcases Nat.lt_succ_iff_lt_or_eq.1 hj with h | h
            · exact HK.out j h
            · rw [h]; omega)
        go_wp2_with fail
        go_roundw
        case rel => exact ⟨k + 1, z + (X.T k).cn, by omega, by go_num, by go_num, by omega, by omega, HK2.out, trivial⟩
        case measure => simp [intOf]; omega
    · have kn : ¬ (k : Int) < (X.tn : Int) := by omega
      have HTS := Lib.hid (show ∀ j, j < X.tn → (X.T j).cn ≤ 300 from fun j hj => HK.out j (by omega))
      have hz2 : z ≤ 30000 := by omega
      go_wp2_with fail
      go_loopw [5, 3] (fun x m wq => ∃ k : Nat, ∃ z : Int, k ≤ X.ln ∧ x = .int .i64 k ∧ m = .int .i64 z ∧ 0 ≤ z ∧ z ≤ 30000 + 300 * k ∧ (∀ j, j < k → (X.L j).cn ≤ 300) ∧ wq = wr) (fun x _ _ => X.ln - (intOf x).toNat)
      case atStart => exact ⟨0, z, by omega, rfl, rfl, by omega, by omega, fun j hj => by omega, rfl⟩
      case round =>
        obtain ⟨k2, z2, hk2, rfl, rfl, hz20, hz21, he, rfl⟩ := hrel
        have HK2 := Lib.hid he; clear he
        by_cases hlt : k2 < X.ln
        · obtain ⟨ta, hTA, c0, c1⟩ := lines_at HLw.out k2 hlt
          obtain ⟨CA, ccap, hcv, hc1, hc2⟩ := HLC.out k2 hlt
          rw [hcv] at c1
          rw [hTA] at x1
          clear hcv hTA c0 hc1 hc2
          have k0 : (0 : Int) ≤ (k2 : Int) := by omega
          have kn : (k2 : Int) < (X.ln : Int) := by omega
          by_cases hb : 300 < (X.L k2).cn
          · have hb2 : (300 : Int) < (X.L k2).cn := by omega
            go_wp2
            go_ret
            exact ⟨GP.yes X, HG.out⟩
          · have hb2 : ¬ (300 : Int) < (X.L k2).cn := by omega
            have HK3 := Lib.hid (show ∀ j, j < k2 + 1 → (X.L j).cn ≤ 300 from fun j hj => by
                rcases Nat.lt_succ_iff_lt_or_eq.1 hj with h | h
                · exact HK2.out j h
                · rw [h]; omega)
            go_wp2_with fail
            go_roundw
            case rel => exact ⟨k2 + 1, z2 + (X.L k2).cn, by omega, by go_num, by go_num, by omega, by omega, HK3.out, trivial⟩
            case measure => simp [intOf]; omega
        · have kn : ¬ (k2 : Int) < (X.ln : Int) := by omega
          have HS := Lib.hid (show Small X from ⟨by omega, by omega, by omega, by omega, by omega, HTS.out, fun j hj => HK2.out j (by omega)⟩)
          go_wp2
          go_ret
          exact ⟨GP.of _ HS.out, HG.out⟩
end Go.Proofs.Ytmmbhjomgpnklaa
