/- The walk of IsaNames. -/
import Derived.Test.YtfgbfdhpllcjhaaNames
namespace Go.Proofs.Ytfgbfdhpllcjhaa
open Go.RowKit
set_option linter.unusedVariables false
theorem nameAt_full (k : Nat) (h1 : 1 ≤ k) (h2 : k ≤ 38) : (nameAt k).toList.isEmpty = false := by
  rw [ByteArray.toList_eq]
  exact name_ne ⟨k, by omega⟩ (by show k ≠ 0; omega)
/-- What Op tells. -/
theorem opOf_facts (name : ByteArray) : ∃ q : Nat, opOf name 1 38 = (q : Int) ∧ q ≤ 38 ∧ (q ≠ 0 → nameAt q = name) ∧ ∀ i, 1 ≤ i → i ≤ 38 → nameAt i = name → q = i := by
  rcases opOf_spec name 38 1 with ⟨h1, h2⟩ | ⟨j, hj1, hj2, hj3, hj4⟩
  · exact ⟨0, h1, by omega, fun h => absurd rfl h, fun i hi1 hi2 he => absurd he (h2 i hi1 (by omega))⟩
  · refine ⟨j, hj3, by omega, fun _ => hj4, fun i hi1 hi2 he => ?_⟩
    have := opOf_name i hi1 hi2
    rw [he, hj3] at this
    omega
attribute [local irreducible] hasA hasB hasC hasD hasK bitsOf regP hasStr letter formP bad4 bad6 bad8 bad10 costR checkR mayP costP checkP nameP nameAt nameArr opOf
theorem name_of (op : Int) (s : ByteArray) (h : s = nameP op) (w : World) : Calls Try.prog 20 #[.int .i64 op] w fun e w' => e = .returned (.string s) ∧ Grow w w' := by
  rw [h]; exact name_any op w
theorem op_of (name : ByteArray) (q : Int) (h : opOf name 1 38 = q) (w : World) : Calls Try.prog 19 #[.string name] w fun e w' => e = .returned (.int .i64 q) ∧ Grow w w' := by
  rw [← h]; exact op_any name w

set_option maxRecDepth 100000 in
/-- Whatever is wanted: the walk behind it. -/
theorem isaNames_yes (p q : Nat) (name want : ByteArray) (hp1 : 1 ≤ p) (hp2 : p ≤ 38) (hwant : nameAt p = want) (hs : (name.size : Int) ≤ 9223372036854775807) (hq : opOf name 1 38 = (q : Int)) (hq2 : q ≤ 38) (hqn : q ≠ 0 → nameAt q = name) (hqi : ∀ i, 1 ≤ i → i ≤ 38 → nameAt i = name → q = i) (w : World) :
    Calls Try.prog 6 #[.int .i64 p, .string name] w fun e w' => e = .returned (.bool true) ∧ Grow w w' := by
  have hp3 : (1 : Int) ≤ (p : Int) := by omega
  have hp4 : (p : Int) ≤ 38 := by omega
  have hq3 : (q : Int) ≤ 38 := by omega
  have HQ := Lib.hid hq; clear hq
  have HQN := Lib.hid hqn; clear hqn
  have HQI := Lib.hid hqi; clear hqi
  have HW := Lib.hid hwant
  have hfull := nameAt_full p hp1 hp2
  rw [hwant] at hfull
  clear hwant
  have hfull2 : ¬ want.toList = [] := fun e => by rw [e] at hfull; cases hfull
  have HNP : Hid (want = nameP p) := Lib.hid (by rw [← HW.out]; unfold nameP; rw [if_pos ⟨hp3, hp4⟩]; rfl)
  go_enter Try.func6, Try.ntmps6
  go_wp2_with fail
  refine (names_any _).mono ?_
  rintro e w1 ⟨g, rfl, hb, hG⟩
  have hc : w1.cell? ⟨g, p, none⟩ = some (.string want) := by rw [cell_block hb, nameArr_at p (by omega), HW.out]
  clear hb
  have HG := Lib.hid hG; clear hG
  go_wp2_with fail
  clear hc
  refine (awake_any _).mono ?_
  rintro e w2 ⟨rfl, hg⟩
  have HG2 := Lib.hid (HG.out.trans hg); clear hg
  by_cases hl : (100 : Int) < (name.size : Int)
  · go_wp2_with fail
    refine (awake_any _).mono ?_
    rintro e w3 ⟨rfl, hg⟩
    have HG3 := Lib.hid (HG2.out.trans hg); clear hg
    go_wp2
    go_ret
    exact ⟨rfl, HG3.out⟩
  go_wp2_with fail
  refine (op_of name q HQ.out _).mono ?_
  rintro e w3 ⟨rfl, hg⟩
  have HG3 := Lib.hid (HG2.out.trans hg); clear hg
  go_wp2_with fail
  refine (name_of p want HNP.out _).mono ?_
  rintro e w4 ⟨rfl, hg⟩
  have HG4 := Lib.hid (HG3.out.trans hg); clear hg
  go_wp2_with fail
  refine (op_of want p (by rw [← HW.out]; exact opOf_name p hp1 hp2) _).mono ?_
  rintro e w5 ⟨rfl, hg⟩
  have HG5 := Lib.hid (HG4.out.trans hg); clear hg
  by_cases hq0 : q = 0
  · have hq5 : ((q : Int) != 0) = false := by simp [hq0]
    have hq6 : ¬ ((q : Int) < 0) := by omega
    have hq7 : ¬ ((38 : Int) < (q : Int)) := by omega
    clear hq0
    go_wp2_with fail
    go_loopw [7] (fun i wr => Grow w wr ∧ ∃ k : Nat, 1 ≤ k ∧ k ≤ 39 ∧ i = .int .i64 k) (fun i _ => 39 - (intOf i).toNat)
    case atStart => exact ⟨HG5.out, 1, by omega, by omega, rfl⟩
    case round =>
      obtain ⟨hg, k, hk1, hk2, rfl⟩ := hrel
      have HGr := Lib.hid hg; clear hg
      by_cases hlt : k < 39
      · have hlt2 : (k : Int) ≤ 38 := by omega
        go_wp2_with fail
        refine (names_any _).mono ?_
        rintro e w8 ⟨g2, rfl, hb, hG⟩
        have hc : w8.cell? ⟨g2, k, none⟩ = some (.string (nameAt k)) := by rw [cell_block hb, nameArr_at k (by omega)]
        have HGs := Lib.hid (HGr.out.trans hG); clear hG hb
        by_cases hn : nameAt k = name
        · have hqk : q = k := HQI.out k hk1 (by omega) hn
          have hn2 : ((nameAt k).toList == name.toList) = true := by rw [toList_iff]; simp [hn]
          have hqk2 : ((q : Int) != (k : Int)) = false := by simp [hqk]
          clear hn hqk
          go_wp2
          go_roundw
          case rel => exact ⟨HGs.out, k + 1, by omega, by omega, by go_num⟩
          case measure => simp [intOf]; omega
        · have hn2 : ((nameAt k).toList == name.toList) = false := by rw [toList_iff]; simp [hn]
          clear hn
          go_wp2
          go_roundw
          case rel => exact ⟨HGs.out, k + 1, by omega, by omega, by go_num⟩
          case measure => simp [intOf]; omega
      · go_wp2
        go_ret
        exact ⟨rfl, HGr.out⟩
  · have hq5 : ((q : Int) != 0) = true := by simp; omega
    have hq6 : ¬ ((q : Int) < 0) := by omega
    have hq7 : ¬ ((38 : Int) < (q : Int)) := by omega
    have HQN2 : Hid (nameAt q = name) := Lib.hid (HQN.out hq0)
    clear hq0
    go_wp2_with fail
    refine (names_any _).mono ?_
    rintro e w6 ⟨g1, rfl, hb, hG⟩
    have hc : w6.cell? ⟨g1, q, none⟩ = some (.string name) := by rw [cell_block hb, nameArr_at q (by omega), HQN2.out]
    have HG6 := Lib.hid (HG5.out.trans hG); clear hG hb
    go_wp2_with fail
    clear hc
    go_loopw [7] (fun i wr => Grow w wr ∧ ∃ k : Nat, 1 ≤ k ∧ k ≤ 39 ∧ i = .int .i64 k) (fun i _ => 39 - (intOf i).toNat)
    case atStart => exact ⟨HG6.out, 1, by omega, by omega, rfl⟩
    case round =>
      obtain ⟨hg, k, hk1, hk2, rfl⟩ := hrel
      have HGr := Lib.hid hg; clear hg
      by_cases hlt : k < 39
      · have hlt2 : (k : Int) ≤ 38 := by omega
        go_wp2_with fail
        refine (names_any _).mono ?_
        rintro e w8 ⟨g2, rfl, hb, hG⟩
        have hc : w8.cell? ⟨g2, k, none⟩ = some (.string (nameAt k)) := by rw [cell_block hb, nameArr_at k (by omega)]
        have HGs := Lib.hid (HGr.out.trans hG); clear hG hb
        by_cases hn : nameAt k = name
        · have hqk : q = k := HQI.out k hk1 (by omega) hn
          have hn2 : ((nameAt k).toList == name.toList) = true := by rw [toList_iff]; simp [hn]
          have hqk2 : ((q : Int) != (k : Int)) = false := by simp [hqk]
          clear hn hqk
          go_wp2
          go_roundw
          case rel => exact ⟨HGs.out, k + 1, by omega, by omega, by go_num⟩
          case measure => simp [intOf]; omega
        · have hn2 : ((nameAt k).toList == name.toList) = false := by rw [toList_iff]; simp [hn]
          clear hn
          go_wp2
          go_roundw
          case rel => exact ⟨HGs.out, k + 1, by omega, by omega, by go_num⟩
          case measure => simp [intOf]; omega
      · go_wp2
        go_ret
        exact ⟨rfl, HGr.out⟩

set_option maxRecDepth 100000 in
theorem isaNames_no (op : Int) (hop : ¬ (1 ≤ op ∧ op ≤ 38)) (q : Nat) (name : ByteArray) (hs : (name.size : Int) ≤ 9223372036854775807) (hq : opOf name 1 38 = (q : Int)) (hq2 : q ≤ 38) (hqn : q ≠ 0 → nameAt q = name) (hqi : ∀ i, 1 ≤ i → i ≤ 38 → nameAt i = name → q = i) (w : World) :
    Calls Try.prog 6 #[.int .i64 op, .string name] w fun e w' => e = .returned (.bool true) ∧ Grow w w' := by
  have hq3 : (q : Int) ≤ 38 := by omega
  have HQ := Lib.hid hq; clear hq
  have HQN := Lib.hid hqn; clear hqn
  have HQI := Lib.hid hqi; clear hqi
  have HNP : Hid ((⟨#[]⟩ : ByteArray) = nameP op) := Lib.hid (by unfold nameP; rw [if_neg hop])
  have HOP : Hid (op < 1 ∨ 38 < op) := Lib.hid (by omega)
  clear hop
  have hjoin : (decide (1 ≤ op) && decide (op ≤ 38)) = false := by have := HOP.out; simp; omega
  have HNP2 := HNP
  rcases HOP.out with h1 | h1
  all_goals
    go_enter Try.func6, Try.ntmps6
    go_wp2_with fail
    refine (awake_any _).mono ?_
    rintro e w2 ⟨rfl, hg⟩
    have HG2 := Lib.hid hg; clear hg
    by_cases hl : (100 : Int) < (name.size : Int)
    · go_wp2_with fail
      refine (awake_any _).mono ?_
      rintro e w3 ⟨rfl, hg⟩
      have HG3 := Lib.hid (HG2.out.trans hg); clear hg
      go_wp2
      go_ret
      exact ⟨rfl, HG3.out⟩
    go_wp2_with fail
    refine (op_of name q HQ.out _).mono ?_
    rintro e w3 ⟨rfl, hg⟩
    have HG3 := Lib.hid (HG2.out.trans hg); clear hg
    go_wp2_with fail
    refine (name_of op ⟨#[]⟩ HNP.out _).mono ?_
    rintro e w4 ⟨rfl, hg⟩
    have HG5 := Lib.hid (HG3.out.trans hg); clear hg
    by_cases hq0 : q = 0
    · have hq5 : ((q : Int) != 0) = false := by simp [hq0]
      have hq6 : ¬ ((q : Int) < 0) := by omega
      have hq7 : ¬ ((38 : Int) < (q : Int)) := by omega
      clear hq0
      go_wp2_with fail
      go_loopw [7] (fun i wr => Grow w wr ∧ ∃ k : Nat, 1 ≤ k ∧ k ≤ 39 ∧ i = .int .i64 k) (fun i _ => 39 - (intOf i).toNat)
      case atStart => exact ⟨HG5.out, 1, by omega, by omega, rfl⟩
      case round =>
        obtain ⟨hg, k, hk1, hk2, rfl⟩ := hrel
        have HGr := Lib.hid hg; clear hg
        by_cases hlt : k < 39
        · have hlt2 : (k : Int) ≤ 38 := by omega
          go_wp2_with fail
          refine (names_any _).mono ?_
          rintro e w8 ⟨g2, rfl, hb, hG⟩
          have hc : w8.cell? ⟨g2, k, none⟩ = some (.string (nameAt k)) := by rw [cell_block hb, nameArr_at k (by omega)]
          have HGs := Lib.hid (HGr.out.trans hG); clear hG hb
          by_cases hn : nameAt k = name
          · have hqk : q = k := HQI.out k hk1 (by omega) hn
            have hn2 : ((nameAt k).toList == name.toList) = true := by rw [toList_iff]; simp [hn]
            have hqk2 : ((q : Int) != (k : Int)) = false := by simp [hqk]
            clear hn hqk
            go_wp2
            go_roundw
            case rel => exact ⟨HGs.out, k + 1, by omega, by omega, by go_num⟩
            case measure => simp [intOf]; omega
          · have hn2 : ((nameAt k).toList == name.toList) = false := by rw [toList_iff]; simp [hn]
            clear hn
            go_wp2
            go_roundw
            case rel => exact ⟨HGs.out, k + 1, by omega, by omega, by go_num⟩
            case measure => simp [intOf]; omega
        · go_wp2
          go_ret
          exact ⟨rfl, HGr.out⟩
    · have hq5 : ((q : Int) != 0) = true := by simp; omega
      have hq6 : ¬ ((q : Int) < 0) := by omega
      have hq7 : ¬ ((38 : Int) < (q : Int)) := by omega
      have HQN2 : Hid (nameAt q = name) := Lib.hid (HQN.out hq0)
      clear hq0
      go_wp2_with fail
      refine (names_any _).mono ?_
      rintro e w6 ⟨g1, rfl, hb, hG⟩
      have hc : w6.cell? ⟨g1, q, none⟩ = some (.string name) := by rw [cell_block hb, nameArr_at q (by omega), HQN2.out]
      have HG6 := Lib.hid (HG5.out.trans hG); clear hG hb
      go_wp2_with fail
      clear hc
      go_loopw [7] (fun i wr => Grow w wr ∧ ∃ k : Nat, 1 ≤ k ∧ k ≤ 39 ∧ i = .int .i64 k) (fun i _ => 39 - (intOf i).toNat)
      case atStart => exact ⟨HG6.out, 1, by omega, by omega, rfl⟩
      case round =>
        obtain ⟨hg, k, hk1, hk2, rfl⟩ := hrel
        have HGr := Lib.hid hg; clear hg
        by_cases hlt : k < 39
        · have hlt2 : (k : Int) ≤ 38 := by omega
          go_wp2_with fail
          refine (names_any _).mono ?_
          rintro e w8 ⟨g2, rfl, hb, hG⟩
          have hc : w8.cell? ⟨g2, k, none⟩ = some (.string (nameAt k)) := by rw [cell_block hb, nameArr_at k (by omega)]
          have HGs := Lib.hid (HGr.out.trans hG); clear hG hb
          by_cases hn : nameAt k = name
          · have hqk : q = k := HQI.out k hk1 (by omega) hn
            have hn2 : ((nameAt k).toList == name.toList) = true := by rw [toList_iff]; simp [hn]
            have hqk2 : ((q : Int) != (k : Int)) = false := by simp [hqk]
            clear hn hqk
            go_wp2
            go_roundw
            case rel => exact ⟨HGs.out, k + 1, by omega, by omega, by go_num⟩
            case measure => simp [intOf]; omega
          · have hn2 : ((nameAt k).toList == name.toList) = false := by rw [toList_iff]; simp [hn]
            clear hn
            go_wp2
            go_roundw
            case rel => exact ⟨HGs.out, k + 1, by omega, by omega, by go_num⟩
            case measure => simp [intOf]; omega
        · go_wp2
          go_ret
          exact ⟨rfl, HGr.out⟩
theorem isaNames_walk (op : Int) (name : ByteArray) (hs : (name.size : Int) ≤ 9223372036854775807) (w : World) :
    Calls Try.prog 6 #[.int .i64 op, .string name] w fun e w' => e = .returned (.bool true) ∧ Below w.heap.size w w' := by
  obtain ⟨q, h1, h2, h3, h4⟩ := opOf_facts name
  by_cases h : 1 ≤ op ∧ op ≤ 38
  · obtain ⟨p, rfl⟩ := Int.eq_ofNat_of_zero_le (show 0 ≤ op by omega)
    exact isaNames_yes p q name _ (by omega) (by omega) rfl hs h1 h2 h3 h4 w
  · exact isaNames_no op h q name hs h1 h2 h3 h4 w
end Go.Proofs.Ytfgbfdhpllcjhaa
