/- The walk of HistParts. -/
import Derived.Test.YtpemmjaengbogaaJ
namespace Go.Proofs.Ytpemmjaengbogaa
open Go.RowKit
set_option linter.unusedVariables false
attribute [local irreducible] whereP sumP satP cntArr leastN topN cntP leastP topP cumP cntLe
set_option maxRecDepth 100000 in
theorem histParts_far (A LA : Option Addr) (n cap ln lcap : Nat) (Bd V : Nat → Nat) (num of : Nat) (w : World) (h : 32 < (n : Int) ∨ 500 < (ln : Int)) :
    Calls Try.prog 3 #[.slice A n cap, .slice LA ln lcap, .agg #[.int .u32 (num : Int), .int .u32 (of : Int)]] w fun e w' => e = .returned (.bool true) ∧ Below w.heap.size w w' := by
  have HH := Lib.hid h; clear h
  have hga := Grow.alloc w (.cells #[.int .u32 (num : Int), .int .u32 (of : Int)] 24)
  go_enter Try.func3, Try.ntmps3
  go_wp2_with fail
  generalize w.alloc (.cells #[.int .u32 (num : Int), .int .u32 (of : Int)] 24) = w0 at hga ⊢
  refine (awake_any _).mono ?_
  rintro e w1 ⟨rfl, hg⟩
  have HG := Lib.hid (hga.trans hg); clear hg
  by_cases h1 : 32 < (n : Int)
  · go_wp2_with fail
    refine (awake_any _).mono ?_
    rintro e w2 ⟨rfl, hg⟩
    have HG2 := Lib.hid (HG.out.trans hg); clear hg
    go_wp2
    go_ret
    exact ⟨rfl, HG2.out⟩
  · have h2 : 500 < (ln : Int) := by
      rcases HH.out with h | h
      · exact absurd h h1
      · exact h
    go_wp2_with fail
    refine (awake_any _).mono ?_
    rintro e w2 ⟨rfl, hg⟩
    have HG2 := Lib.hid (HG.out.trans hg); clear hg
    go_wp2
    go_ret
    exact ⟨rfl, HG2.out⟩
set_option maxHeartbeats 1000000 in
set_option maxRecDepth 100000 in
theorem histParts_walk (A LA : Option Addr) (n cap ln lcap : Nat) (Bd V : Nat → Nat) (num of : Nat) (w : World) (hn : (n : Int) ≤ 32) (hln : (ln : Int) ≤ 500) (hnum : num < 4294967296) (hof : of < 4294967296) (hcap : (n : Int) ≤ cap) (hlc : (ln : Int) ≤ lcap) (hV : ∀ i, V i < 18446744073709551616) (hM : MemAt w A n Bd) (hL : MemAt w LA ln V) :
    Calls Try.prog 3 #[.slice A n cap, .slice LA ln lcap, .agg #[.int .u32 (num : Int), .int .u32 (of : Int)]] w fun e w' => e = .returned (.bool true) ∧ Below w.heap.size w w' := by
  have HM := Lib.hid hM; clear hM
  have HL := Lib.hid hL; clear hL
  have HV := Lib.hid hV; clear hV
  have hn' : (n : Int) ≤ 1000 := by omega
  have hln' : (ln : Int) ≤ 1000 := by omega
  have hga := Grow.alloc w (.cells #[.int .u32 (num : Int), .int .u32 (of : Int)] 24)
  have hbx := heapAt_alloc_new w (.cells #[.int .u32 (num : Int), .int .u32 (of : Int)] 24)
  go_enter Try.func3, Try.ntmps3
  go_wp2_with fail
  generalize w.alloc (.cells #[.int .u32 (num : Int), .int .u32 (of : Int)] 24) = w0 at hga hbx ⊢
  refine (awake_any _).mono ?_
  rintro e w1 ⟨rfl, hg⟩
  have HG := Lib.hid (hga.trans hg)
  have HB := Lib.hid (hg.at hbx); clear hg hga hbx
  go_wp2_with fail
  refine (of_any w1 A LA n cap ln lcap Bd V hn' hcap hln' hlc (HM.out.grow HG.out) (HL.out.grow HG.out) HV.out).mono ?_
  rintro e w2 ⟨hg, ⟨hno, rfl⟩ | ⟨hyes, h, A2, cap2, c, rfl, hst⟩⟩
  · replace HG := Lib.hid (HG.out.trans hg); clear hg hno
    go_wp2
    go_ret
    exact ⟨rfl, HG.out⟩
  replace HG := Lib.hid (HG.out.trans hg)
  replace HB := Lib.hid (hg.at HB.out); clear hg
  have HYES := Lib.hid hyes; clear hyes
  have HH := Lib.hid hst; clear hst
  have b0 := cell_block HB.out 0
  have b1 := cell_block HB.out 1
  clear HB
  go_wp2_with fail
  go_quiet (fail)
  clear b0 b1
  replace HG := Lib.hid (HG.out.trans (Grow.drewN w2 nq))
  replace HH := Lib.hid (HSt.grow HH.out (Grow.drewN w2 nq))
  generalize w2.drewN nq = w3 at HG HH ⊢
  by_cases hno : ln = 0 ∨ num = 0 ∨ of < num
  · have HNO := Lib.hid hno
    go_wp2_with fail
    refine (part_no w3 _ h A2 n cap2 Bd c _ _ _ _ _ num of HH.out HNO.out).mono ?_
    rintro e w4 ⟨rfl, rfl⟩
    clear hno
    by_cases h1 : ln = 0
    · subst h1
      clear HNO
      go_wp2
      go_ret
      exact ⟨rfl, HG.out⟩
    have hb1 : ((ln : Int) == 0) = false := by simp; omega
    by_cases h2 : num = 0
    · subst h2
      clear HNO
      go_wp2
      go_ret
      exact ⟨rfl, HG.out⟩
    · have hb2 : ((num : Int) == 0) = false := by simp; omega
      have h3 : of < num := by rcases HNO.out with h | h | h; exact absurd h h1; exact absurd h h2; exact h
      clear HNO h1 h2
      go_wp2
      go_ret
      exact ⟨rfl, HG.out⟩
  · have h1 : ln ≠ 0 := fun h => hno (.inl h)
    have h2 : num ≠ 0 := fun h => hno (.inr (.inl h))
    have h3 : num ≤ of := by omega
    clear hno
    have HN1 := Lib.hid h1
    have HN2 := Lib.hid h2
    have hb1 : ((ln : Int) == 0) = false := by simp; omega
    have hb2 : ((num : Int) == 0) = false := by simp; omega
    clear h1 h2
    have h4 : ¬ of < num := by omega
    go_wp2_with fail
    refine (part_any w3 _ h A2 n cap2 Bd c _ _ _ _ _ num of HH.out HN1.out HN2.out h3 (by omega) (by omega) hn' (fun k _ => cnt_lt Bd n V ln (by omega) k)).mono ?_
    rintro e w4 ⟨r, rfl, hr, rfl⟩
    have HR := Lib.hid hr; clear hr
    go_wp2_with fail
    refine (partRef_any w4 A LA n cap ln lcap num of Bd V (by omega) hcap hln' hlc hnum hof HV.out (HM.out.grow HG.out) (HL.out.grow HG.out)).mono ?_
    rintro e w5 ⟨r', rfl, hr', hg⟩
    obtain rfl := HR.out.unique hr' (fun i hi => by rw [cum_cnt HYES.out.1.sorted V i hi ln])
    replace HG := Lib.hid (HG.out.trans hg)
    clear hg hr' HR
    go_wp2
    go_ret
    exact ⟨ret_bool (by simp), HG.out⟩
end Go.Proofs.Ytpemmjaengbogaa
