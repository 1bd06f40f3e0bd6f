/- Texts of the proof, merged: Sept, Event, EventB, Name, Fld. -/
import Derived.Test.YtnhmdinpfcoebaaGreatDoorM06
/-! === Sept -/
section
/- Numbers of so many bytes, read: the walk. -/
namespace Go.Proofs.YtnhmdinpfcoebaaGreatDoor
open Go.RowKit
set_option linter.unusedVariables false
set_option linter.unusedSimpArgs false
set_option maxRecDepth 100000

attribute [local irreducible] GotR
set_option maxHeartbeats 2000000 in
theorem sget_any (w : World) (b : Nat) (s : ByteArray) (p c : Nat) (h : RdAt w b s p) (hc1 : 1 ≤ c) (hc2 : c ≤ 10) : Calls Tryz.prog 103 #[.pointer (some ⟨b, 0, none⟩), .int .i64 c] w fun e w' =>
    GotR (Top.septP c (rest s p)) e w' (fun n k e w' => e = .returned (.tuple #[.int .u64 n, .int .i64 0]) ∧ RdAt w' b s (p + k)) (fun er e w' => e = .returned (.tuple #[.int .u64 0, .int .i64 er]) ∧ RdAt w' b s p) ∧ Only b w w' := by
  have H := Lib.hid h
  clear h
  have c1 : ¬ (c : Int) < 1 := by omega
  have c2 : ¬ (10 : Int) < c := by omega
  have c3 : (c : Int) ≤ 10 := by omega
  go_enter Tryz.func103, Tryz.ntmps103
  go_wp2_with fail
  refine (at_any _ b s p H.out).mono ?_
  rintro _ w1 ⟨rfl, hg⟩
  have HG := Lib.hid hg; clear hg
  go_wp2_with fail
  go_loopw [24, 7] (fun x y wr => ∃ (k f n : Nat), k + f = c ∧ x = .int .i64 k ∧ y = .int .u64 n ∧ n < 2 ^ (7 * k) ∧ RdAt wr b s (p + k) ∧ Only b w wr ∧ Top.septP c (rest s p) = Top.septL f (rest s (p + k)) k n) (fun x _ _ => c - (intOf x).toNat)
  case atStart => exact ⟨0, c, 0, by omega, rfl, rfl, by decide, H.out.grow HG.out, Only.of_grow HG.out b, rfl⟩
  case round =>
    obtain ⟨k, f, n, hk, rfl, rfl, hn, hr, ho, hq⟩ := hrel
    have HR := Lib.hid hr; clear hr
    have HO := Lib.hid ho; clear ho
    have HQ := Lib.hid hq; clear hq
    have HN := Lib.hid hn; clear hn
    have HK := Lib.hid hk; clear hk
    cases f with
    | zero =>
      have hlti : ¬ (k : Int) < c := by have := HK.out; omega
      go_wp2
      go_ret2
      exact ⟨GotR.mkY (HQ.out.trans rfl) ⟨rfl, HR.out⟩, HO.out⟩
    | succ f =>
      have hlti : (k : Int) < c := by have := HK.out; omega
      have k0 : (0 : Int) ≤ (k : Int) := by omega
      go_wp2_with fail
      by_cases hs : p + k < s.size
      · refine (byte_ok _ b s (p + k) HR.out hs).mono ?_
        rintro _ w1 ⟨rfl, h1, h2⟩
        have HR1 := Lib.hid h1; clear h1
        have HO1 := Lib.hid (HO.out.trans h2); clear h2
        have HC := Lib.hid (rest_lt s (p + k) hs)
        generalize s[p + k] = d at HC ⊢
        have HB := Lib.hid d.toNat_lt
        by_cases hz : 127 < d.toNat ∨ (k = 9 ∧ 1 < d.toNat)
        · have E := Lib.hid (HQ.out.trans (show Top.septL (f + 1) (rest s (p + k)) k n = .no 3 by rw [HC.out, Top.septL, if_pos hz]))
          by_cases h127 : 127 < d.toNat
          · have hi : (127 : Int) < d.toNat := by omega
            clear hz
            go_wp2_with fail
            refine (seek_any _ b s _ p HR1.out H.out.2.1).mono ?_
            rintro _ w3 ⟨rfl, h1, h2⟩
            have H1 := Lib.hid h1; clear h1
            have H2 := Lib.hid (HO1.out.trans h2); clear h2
            go_wp2_with fail
            go_ret2
            exact ⟨GotR.mkN E.out ⟨rfl, H1.out⟩, H2.out⟩
          · have hi : ¬ (127 : Int) < d.toNat := by omega
            have h9 : (k : Int) = 9 := by omega
            have h1i : (1 : Int) < d.toNat := by omega
            clear hz
            go_wp2_with fail
            refine (seek_any _ b s _ p HR1.out H.out.2.1).mono ?_
            rintro _ w3 ⟨rfl, h1, h2⟩
            have H1 := Lib.hid h1; clear h1
            have H2 := Lib.hid (HO1.out.trans h2); clear h2
            go_wp2_with fail
            go_ret2
            exact ⟨GotR.mkN E.out ⟨rfl, H1.out⟩, H2.out⟩
        · have hi : ¬ (127 : Int) < d.toNat := by omega
          have HE := Lib.hid (show Top.septL (f + 1) (rest s (p + k)) k n = Top.septL f (rest s (p + (k + 1))) (k + 1) (n + d.toNat * 2 ^ (7 * k)) by rw [HC.out, Top.septL, if_neg hz]; rfl)
          have HOR := Lib.hid (show bits BinOp.or IntKind.u64 (n : Int) (IntKind.u64.wrap ((d.toNat : Int) * 2 ^ (7 * k))) = ((n + d.toNat * 2 ^ (7 * k) : Nat) : Int) by
            have h1 := pow_le k (by have := HK.out; omega)
            have h2 : d.toNat * 2 ^ (7 * k) < 2 ^ 64 := by
              by_cases h9 : k = 9
              · have : d.toNat ≤ 1 := by omega
                calc d.toNat * 2 ^ (7 * k) ≤ 1 * 2 ^ 63 := Nat.mul_le_mul this h1
                  _ < 2 ^ 64 := by decide
              · have h3 : 2 ^ (7 * k) ≤ 2 ^ 56 := Nat.pow_le_pow_right (by decide) (by have := HK.out; omega)
                calc d.toNat * 2 ^ (7 * k) ≤ 127 * 2 ^ 56 := Nat.mul_le_mul (by omega) h3
                  _ < 2 ^ 64 := by decide
            rw [or_group _ _ _ HN.out h2 (by have := HN.out; omega)])
          by_cases h9 : k = 9
          · have h9i : (k : Int) = 9 := by omega
            have h1i : ¬ (1 : Int) < d.toNat := by omega
            have HZ := Lib.hid hz
            clear hz
            subst h9
            go_wp2_with fail
            go_roundw
            have HOS := Lib.hid (show bits BinOp.or IntKind.u64 (n : Int) ((d.toNat : Int) * 9223372036854775808) = ((n + d.toNat * 2 ^ (7 * 9) : Nat) : Int) by
              have h := HOR.out
              have e : (2 : Int) ^ (7 * 9) = 9223372036854775808 := by decide
              rw [e, wrap_u64n, Int.emod_eq_of_lt (by omega) (by omega)] at h
              exact h)
            case rel => exact ⟨9 + 1, f, _, by have := HK.out; omega, by go_num, by rw [HOS.out], group_lt _ _ _ HN.out (by omega), HR1.out, HO1.out, HQ.out.trans HE.out⟩
            case measure => simp [intOf]; omega
          · have h9i : ¬ (k : Int) = 9 := by omega
            have HZ := Lib.hid hz
            clear hz
            go_wp2_with fail
            go_roundw
            case rel => exact ⟨k + 1, f, _, by have := HK.out; omega, by go_num, by rw [HOR.out], group_lt _ _ _ HN.out (by omega), HR1.out, HO1.out, HQ.out.trans HE.out⟩
            case measure => simp [intOf]; omega
      · have HC := Lib.hid (rest_ge s (p + k) (by omega))
        refine (byte_no _ b s (p + k) HR.out (by omega)).mono ?_
        rintro _ w1 ⟨rfl, h1⟩
        have HG := Lib.hid h1; clear h1
        go_wp2_with fail
        refine (seek_any _ b s _ p (HR.out.grow HG.out) H.out.2.1).mono ?_
        rintro _ w3 ⟨rfl, h1, h2⟩
        have H1 := Lib.hid h1; clear h1
        have H2 := Lib.hid ((HO.out.after HG.out).trans h2); clear h2
        go_wp2_with fail
        go_ret2
        exact ⟨GotR.mkN (HQ.out.trans (by rw [HC.out, Top.septL])) ⟨rfl, H1.out⟩, H2.out⟩
end Go.Proofs.YtnhmdinpfcoebaaGreatDoor
end

/-! === Event -/
section
/- Events: which numbers a kind has, and whether they can be: the walks. -/
namespace Go.Proofs.YtnhmdinpfcoebaaGreatDoor
open Go.RowKit
set_option linter.unusedVariables false
set_option linter.unusedSimpArgs false
set_option maxRecDepth 100000

theorem info206 : (Tryz.prog.info? 206).map (·.size) = some 3 := by kernel_rfl
abbrev shC (s : Nat × Nat × Nat) : Array Value := #[.int .i64 s.1, .int .i64 s.2.1, .int .i64 s.2.2]
theorem info206s (s : Nat × Nat × Nat) : (Tryz.prog.info? 206).map (·.size) = some (shC s).size := info206
theorem ones206 (s : Nat × Nat × Nat) : (shC s).all (·.oneCell') = true := by simp [shC, Value.oneCell']
theorem size206 (s : Nat × Nat × Nat) : (#[.int .i64 0, .int .i64 0, .int .i64 0] : Array Value).size = (shC s).size := rfl
theorem s125_14 (w : World) : Calls Tryz.prog 125 #[.int .i64 14] w fun e w' => e = .returned (.agg #[.int .i64 7, .int .i64 4, .int .i64 11]) ∧ Grow w w' := by
  go_enter Tryz.func125, Tryz.ntmps125
  go_wp2
  refine bodyPost_ret (v := .agg #[.int .i64 7, .int .i64 4, .int .i64 11]) (results_cell_row rfl _ _ w.heap.size 206 _ (0, 0) _ (by rfl) (heapAt_alloc_new w _) Tryz.underlying206 rfl info206) rfl ⟨rfl, Grow.alloc _ _⟩
theorem s125_15 (w : World) : Calls Tryz.prog 125 #[.int .i64 15] w fun e w' => e = .returned (.agg #[.int .i64 5, .int .i64 4, .int .i64 11]) ∧ Grow w w' := by
  go_enter Tryz.func125, Tryz.ntmps125
  go_wp2
  refine bodyPost_ret (v := .agg #[.int .i64 5, .int .i64 4, .int .i64 11]) (results_cell_row rfl _ _ w.heap.size 206 _ (0, 0) _ (by rfl) (heapAt_alloc_new w _) Tryz.underlying206 rfl info206) rfl ⟨rfl, Grow.alloc _ _⟩
theorem s125_16 (w : World) : Calls Tryz.prog 125 #[.int .i64 16] w fun e w' => e = .returned (.agg #[.int .i64 6, .int .i64 4, .int .i64 1]) ∧ Grow w w' := by
  go_enter Tryz.func125, Tryz.ntmps125
  go_wp2
  refine bodyPost_ret (v := .agg #[.int .i64 6, .int .i64 4, .int .i64 1]) (results_cell_row rfl _ _ w.heap.size 206 _ (0, 0) _ (by rfl) (heapAt_alloc_new w _) Tryz.underlying206 rfl info206) rfl ⟨rfl, Grow.alloc _ _⟩
theorem s125_17 (w : World) : Calls Tryz.prog 125 #[.int .i64 17] w fun e w' => e = .returned (.agg #[.int .i64 6, .int .i64 4, .int .i64 1]) ∧ Grow w w' := by
  go_enter Tryz.func125, Tryz.ntmps125
  go_wp2
  refine bodyPost_ret (v := .agg #[.int .i64 6, .int .i64 4, .int .i64 1]) (results_cell_row rfl _ _ w.heap.size 206 _ (0, 0) _ (by rfl) (heapAt_alloc_new w _) Tryz.underlying206 rfl info206) rfl ⟨rfl, Grow.alloc _ _⟩
theorem s125_19 (w : World) : Calls Tryz.prog 125 #[.int .i64 19] w fun e w' => e = .returned (.agg #[.int .i64 6, .int .i64 4, .int .i64 1]) ∧ Grow w w' := by
  go_enter Tryz.func125, Tryz.ntmps125
  go_wp2
  refine bodyPost_ret (v := .agg #[.int .i64 6, .int .i64 4, .int .i64 1]) (results_cell_row rfl _ _ w.heap.size 206 _ (0, 0) _ (by rfl) (heapAt_alloc_new w _) Tryz.underlying206 rfl info206) rfl ⟨rfl, Grow.alloc _ _⟩
theorem s125_18 (w : World) : Calls Tryz.prog 125 #[.int .i64 18] w fun e w' => e = .returned (.agg #[.int .i64 4, .int .i64 0, .int .i64 0]) ∧ Grow w w' := by
  go_enter Tryz.func125, Tryz.ntmps125
  go_wp2
  refine bodyPost_ret (v := .agg #[.int .i64 4, .int .i64 0, .int .i64 0]) (results_cell_row rfl _ _ w.heap.size 206 _ (0, 0) _ (by rfl) (heapAt_alloc_new w _) Tryz.underlying206 rfl info206) rfl ⟨rfl, Grow.alloc _ _⟩
theorem s125_21 (w : World) : Calls Tryz.prog 125 #[.int .i64 21] w fun e w' => e = .returned (.agg #[.int .i64 6, .int .i64 13, .int .i64 0]) ∧ Grow w w' := by
  go_enter Tryz.func125, Tryz.ntmps125
  go_wp2
  refine bodyPost_ret (v := .agg #[.int .i64 6, .int .i64 13, .int .i64 0]) (results_cell_row rfl _ _ w.heap.size 206 _ (0, 0) _ (by rfl) (heapAt_alloc_new w _) Tryz.underlying206 rfl info206) rfl ⟨rfl, Grow.alloc _ _⟩
theorem s125_22 (w : World) : Calls Tryz.prog 125 #[.int .i64 22] w fun e w' => e = .returned (.agg #[.int .i64 5, .int .i64 0, .int .i64 0]) ∧ Grow w w' := by
  go_enter Tryz.func125, Tryz.ntmps125
  go_wp2
  refine bodyPost_ret (v := .agg #[.int .i64 5, .int .i64 0, .int .i64 0]) (results_cell_row rfl _ _ w.heap.size 206 _ (0, 0) _ (by rfl) (heapAt_alloc_new w _) Tryz.underlying206 rfl info206) rfl ⟨rfl, Grow.alloc _ _⟩
theorem s125_23 (w : World) : Calls Tryz.prog 125 #[.int .i64 23] w fun e w' => e = .returned (.agg #[.int .i64 7, .int .i64 13, .int .i64 14]) ∧ Grow w w' := by
  go_enter Tryz.func125, Tryz.ntmps125
  go_wp2
  refine bodyPost_ret (v := .agg #[.int .i64 7, .int .i64 13, .int .i64 14]) (results_cell_row rfl _ _ w.heap.size 206 _ (0, 0) _ (by rfl) (heapAt_alloc_new w _) Tryz.underlying206 rfl info206) rfl ⟨rfl, Grow.alloc _ _⟩
theorem s87_1 (w : World) : Calls Tryz.prog 87 #[.int .i64 1] w fun e w' => e = .returned (.agg #[.int .i64 3, .int .i64 2, .int .i64 0]) ∧ Grow w w' := by
  go_enter Tryz.func87, Tryz.ntmps87
  go_wp2
  refine bodyPost_ret (v := .agg #[.int .i64 3, .int .i64 2, .int .i64 0]) (results_cell_row rfl _ _ w.heap.size 206 _ (0, 0) _ (by rfl) (heapAt_alloc_new w _) Tryz.underlying206 rfl info206) rfl ⟨rfl, Grow.alloc _ _⟩
theorem s87_2 (w : World) : Calls Tryz.prog 87 #[.int .i64 2] w fun e w' => e = .returned (.agg #[.int .i64 3, .int .i64 6, .int .i64 1]) ∧ Grow w w' := by
  go_enter Tryz.func87, Tryz.ntmps87
  go_wp2
  refine bodyPost_ret (v := .agg #[.int .i64 3, .int .i64 6, .int .i64 1]) (results_cell_row rfl _ _ w.heap.size 206 _ (0, 0) _ (by rfl) (heapAt_alloc_new w _) Tryz.underlying206 rfl info206) rfl ⟨rfl, Grow.alloc _ _⟩
theorem s87_20 (w : World) : Calls Tryz.prog 87 #[.int .i64 20] w fun e w' => e = .returned (.agg #[.int .i64 3, .int .i64 6, .int .i64 1]) ∧ Grow w w' := by
  go_enter Tryz.func87, Tryz.ntmps87
  go_wp2
  refine bodyPost_ret (v := .agg #[.int .i64 3, .int .i64 6, .int .i64 1]) (results_cell_row rfl _ _ w.heap.size 206 _ (0, 0) _ (by rfl) (heapAt_alloc_new w _) Tryz.underlying206 rfl info206) rfl ⟨rfl, Grow.alloc _ _⟩
theorem s87_3 (w : World) : Calls Tryz.prog 87 #[.int .i64 3] w fun e w' => e = .returned (.agg #[.int .i64 3, .int .i64 0, .int .i64 0]) ∧ Grow w w' := by
  go_enter Tryz.func87, Tryz.ntmps87
  go_wp2
  refine bodyPost_ret (v := .agg #[.int .i64 3, .int .i64 0, .int .i64 0]) (results_cell_row rfl _ _ w.heap.size 206 _ (0, 0) _ (by rfl) (heapAt_alloc_new w _) Tryz.underlying206 rfl info206) rfl ⟨rfl, Grow.alloc _ _⟩
theorem s87_4 (w : World) : Calls Tryz.prog 87 #[.int .i64 4] w fun e w' => e = .returned (.agg #[.int .i64 3, .int .i64 0, .int .i64 0]) ∧ Grow w w' := by
  go_enter Tryz.func87, Tryz.ntmps87
  go_wp2
  refine bodyPost_ret (v := .agg #[.int .i64 3, .int .i64 0, .int .i64 0]) (results_cell_row rfl _ _ w.heap.size 206 _ (0, 0) _ (by rfl) (heapAt_alloc_new w _) Tryz.underlying206 rfl info206) rfl ⟨rfl, Grow.alloc _ _⟩
theorem s87_5 (w : World) : Calls Tryz.prog 87 #[.int .i64 5] w fun e w' => e = .returned (.agg #[.int .i64 8, .int .i64 8, .int .i64 0]) ∧ Grow w w' := by
  go_enter Tryz.func87, Tryz.ntmps87
  go_wp2
  refine bodyPost_ret (v := .agg #[.int .i64 8, .int .i64 8, .int .i64 0]) (results_cell_row rfl _ _ w.heap.size 206 _ (0, 0) _ (by rfl) (heapAt_alloc_new w _) Tryz.underlying206 rfl info206) rfl ⟨rfl, Grow.alloc _ _⟩
theorem s87_6 (w : World) : Calls Tryz.prog 87 #[.int .i64 6] w fun e w' => e = .returned (.agg #[.int .i64 5, .int .i64 0, .int .i64 1]) ∧ Grow w w' := by
  go_enter Tryz.func87, Tryz.ntmps87
  go_wp2
  refine bodyPost_ret (v := .agg #[.int .i64 5, .int .i64 0, .int .i64 1]) (results_cell_row rfl _ _ w.heap.size 206 _ (0, 0) _ (by rfl) (heapAt_alloc_new w _) Tryz.underlying206 rfl info206) rfl ⟨rfl, Grow.alloc _ _⟩
theorem s87_8 (w : World) : Calls Tryz.prog 87 #[.int .i64 8] w fun e w' => e = .returned (.agg #[.int .i64 5, .int .i64 0, .int .i64 1]) ∧ Grow w w' := by
  go_enter Tryz.func87, Tryz.ntmps87
  go_wp2
  refine bodyPost_ret (v := .agg #[.int .i64 5, .int .i64 0, .int .i64 1]) (results_cell_row rfl _ _ w.heap.size 206 _ (0, 0) _ (by rfl) (heapAt_alloc_new w _) Tryz.underlying206 rfl info206) rfl ⟨rfl, Grow.alloc _ _⟩
theorem s87_7 (w : World) : Calls Tryz.prog 87 #[.int .i64 7] w fun e w' => e = .returned (.agg #[.int .i64 5, .int .i64 0, .int .i64 12]) ∧ Grow w w' := by
  go_enter Tryz.func87, Tryz.ntmps87
  go_wp2
  refine bodyPost_ret (v := .agg #[.int .i64 5, .int .i64 0, .int .i64 12]) (results_cell_row rfl _ _ w.heap.size 206 _ (0, 0) _ (by rfl) (heapAt_alloc_new w _) Tryz.underlying206 rfl info206) rfl ⟨rfl, Grow.alloc _ _⟩
theorem s87_9 (w : World) : Calls Tryz.prog 87 #[.int .i64 9] w fun e w' => e = .returned (.agg #[.int .i64 5, .int .i64 9, .int .i64 0]) ∧ Grow w w' := by
  go_enter Tryz.func87, Tryz.ntmps87
  go_wp2
  refine bodyPost_ret (v := .agg #[.int .i64 5, .int .i64 9, .int .i64 0]) (results_cell_row rfl _ _ w.heap.size 206 _ (0, 0) _ (by rfl) (heapAt_alloc_new w _) Tryz.underlying206 rfl info206) rfl ⟨rfl, Grow.alloc _ _⟩
theorem s87_10 (w : World) : Calls Tryz.prog 87 #[.int .i64 10] w fun e w' => e = .returned (.agg #[.int .i64 5, .int .i64 2, .int .i64 0]) ∧ Grow w w' := by
  go_enter Tryz.func87, Tryz.ntmps87
  go_wp2
  refine bodyPost_ret (v := .agg #[.int .i64 5, .int .i64 2, .int .i64 0]) (results_cell_row rfl _ _ w.heap.size 206 _ (0, 0) _ (by rfl) (heapAt_alloc_new w _) Tryz.underlying206 rfl info206) rfl ⟨rfl, Grow.alloc _ _⟩
theorem s87_11 (w : World) : Calls Tryz.prog 87 #[.int .i64 11] w fun e w' => e = .returned (.agg #[.int .i64 5, .int .i64 10, .int .i64 0]) ∧ Grow w w' := by
  go_enter Tryz.func87, Tryz.ntmps87
  go_wp2
  refine bodyPost_ret (v := .agg #[.int .i64 5, .int .i64 10, .int .i64 0]) (results_cell_row rfl _ _ w.heap.size 206 _ (0, 0) _ (by rfl) (heapAt_alloc_new w _) Tryz.underlying206 rfl info206) rfl ⟨rfl, Grow.alloc _ _⟩
theorem s87_12 (w : World) : Calls Tryz.prog 87 #[.int .i64 12] w fun e w' => e = .returned (.agg #[.int .i64 5, .int .i64 4, .int .i64 0]) ∧ Grow w w' := by
  go_enter Tryz.func87, Tryz.ntmps87
  go_wp2
  refine bodyPost_ret (v := .agg #[.int .i64 5, .int .i64 4, .int .i64 0]) (results_cell_row rfl _ _ w.heap.size 206 _ (0, 0) _ (by rfl) (heapAt_alloc_new w _) Tryz.underlying206 rfl info206) rfl ⟨rfl, Grow.alloc _ _⟩
theorem s87_13 (w : World) : Calls Tryz.prog 87 #[.int .i64 13] w fun e w' => e = .returned (.agg #[.int .i64 5, .int .i64 4, .int .i64 0]) ∧ Grow w w' := by
  go_enter Tryz.func87, Tryz.ntmps87
  go_wp2
  refine bodyPost_ret (v := .agg #[.int .i64 5, .int .i64 4, .int .i64 0]) (results_cell_row rfl _ _ w.heap.size 206 _ (0, 0) _ (by rfl) (heapAt_alloc_new w _) Tryz.underlying206 rfl info206) rfl ⟨rfl, Grow.alloc _ _⟩
theorem s125_no (w : World) (k : Int) (h : ¬ (14 ≤ k ∧ k ≤ 23 ∧ k ≠ 20)) : Calls Tryz.prog 125 #[.int .i64 k] w fun e w' => e = .returned (.agg #[.int .i64 0, .int .i64 0, .int .i64 0]) ∧ Grow w w' := by
  have n14 : ¬ k = 14 := by omega
  have n15 : ¬ k = 15 := by omega
  have n16 : ¬ k = 16 := by omega
  have n17 : ¬ k = 17 := by omega
  have n19 : ¬ k = 19 := by omega
  have n18 : ¬ k = 18 := by omega
  have n21 : ¬ k = 21 := by omega
  have n22 : ¬ k = 22 := by omega
  have n23 : ¬ k = 23 := by omega
  clear h
  go_enter Tryz.func125, Tryz.ntmps125
  go_wp2
  refine bodyPost_ret (v := .agg #[.int .i64 0, .int .i64 0, .int .i64 0]) (results_cell_row rfl _ _ w.heap.size 206 _ (0, 0) _ (by rfl) (heapAt_alloc_new w _) Tryz.underlying206 rfl info206) rfl ⟨rfl, Grow.alloc _ _⟩
theorem shape_any (w : World) (k : Int) : Calls Tryz.prog 87 #[.int .i64 k] w fun e w' => e = .returned (.agg (shC (Top.shape k))) ∧ Grow w w' := by
  by_cases h1 : k = 1
  · subst h1; exact s87_1 w
  by_cases h2 : k = 2
  · subst h2; exact s87_2 w
  by_cases h20 : k = 20
  · subst h20; exact s87_20 w
  by_cases h3 : k = 3
  · subst h3; exact s87_3 w
  by_cases h4 : k = 4
  · subst h4; exact s87_4 w
  by_cases h5 : k = 5
  · subst h5; exact s87_5 w
  by_cases h6 : k = 6
  · subst h6; exact s87_6 w
  by_cases h8 : k = 8
  · subst h8; exact s87_8 w
  by_cases h7 : k = 7
  · subst h7; exact s87_7 w
  by_cases h9 : k = 9
  · subst h9; exact s87_9 w
  by_cases h10 : k = 10
  · subst h10; exact s87_10 w
  by_cases h11 : k = 11
  · subst h11; exact s87_11 w
  by_cases h12 : k = 12
  · subst h12; exact s87_12 w
  by_cases h13 : k = 13
  · subst h13; exact s87_13 w
  have hO : ∀ w, Calls Tryz.prog 125 #[.int .i64 k] w fun e w' => e = .returned (.agg (shC (Top.shape k))) ∧ Grow w w' := by
    intro w
    by_cases h14 : k = 14
    · subst h14; exact s125_14 w
    by_cases h15 : k = 15
    · subst h15; exact s125_15 w
    by_cases h16 : k = 16
    · subst h16; exact s125_16 w
    by_cases h17 : k = 17
    · subst h17; exact s125_17 w
    by_cases h19 : k = 19
    · subst h19; exact s125_19 w
    by_cases h18 : k = 18
    · subst h18; exact s125_18 w
    by_cases h21 : k = 21
    · subst h21; exact s125_21 w
    by_cases h22 : k = 22
    · subst h22; exact s125_22 w
    by_cases h23 : k = 23
    · subst h23; exact s125_23 w
    have e : Top.shape k = (0, 0, 0) := by unfold Top.shape; simp [h1, h2, h20, h3, h4, h5, h6, h8, h7, h9, h10, h11, h12, h13, h14, h15, h16, h17, h19, h18, h21, h22, h23]
    rw [e]
    exact s125_no w k (by omega)
  have HO := Lib.hid hO; clear hO
  go_enter Tryz.func87, Tryz.ntmps87
  go_wp2_with fail
  refine (HO.out _).mono ?_
  rintro _ w1 ⟨rfl, hg⟩
  have HB := Lib.hid (hg.at (heapAt_alloc_new w _))
  have HG := Lib.hid ((Grow.alloc w _).trans hg); clear hg
  go_wp2_with (first | ((with_reducible refine wpList_store_blk rfl 206 _ _ rfl w.heap.size 206 _ (shC (Top.shape k)) ?_ ?_ HB.out (size206 _) (info206s _) (ones206 _) ?_); (· rfl); (· rfl); intro w2 hb ho))
  refine bodyPost_ret (v := .agg (shC (Top.shape k))) (results_cell_row rfl _ _ w.heap.size 206 _ (0, 0) _ (by rfl) hb Tryz.underlying206 rfl info206) rfl ⟨rfl, HG.out.only ho (Nat.le_refl _)⟩
theorem is_any (w : World) (k : Int) (r : Bool) (hr : Top.isKind k = r) : Calls Tryz.prog 86 #[.int .i64 k] w fun e w' => e = .returned (.bool r) ∧ w' = w := by
  subst hr
  by_cases h1 : k ≥ 1
  · by_cases h2 : k ≤ 24
    · have e : Top.isKind k = true := by simp [Top.isKind]; omega
      rw [e]
      go_enter Tryz.func86, Tryz.ntmps86
      go_wp2
      go_ret
      exact ⟨rfl, rfl⟩
    · have e : Top.isKind k = false := by simp [Top.isKind]; omega
      rw [e]
      go_enter Tryz.func86, Tryz.ntmps86
      go_wp2
      go_ret
      exact ⟨rfl, rfl⟩
  · have e : Top.isKind k = false := by simp [Top.isKind]; omega
    rw [e]
    go_enter Tryz.func86, Tryz.ntmps86
    go_wp2
    go_ret
    exact ⟨rfl, rfl⟩
end Go.Proofs.YtnhmdinpfcoebaaGreatDoor
end

/-! === EventB -/
section
/- Events: fields, ranges, names: the walks. -/
namespace Go.Proofs.YtnhmdinpfcoebaaGreatDoor
open Go.RowKit
set_option linter.unusedVariables false
set_option linter.unusedSimpArgs false
set_option maxRecDepth 100000

attribute [local irreducible] Top.shape
theorem fields_any (w : World) (k : Int) : Calls Tryz.prog 129 #[.int .i64 k] w fun e w' => e = .returned (.tuple #[.bool (decide ((Top.shape k).1 ≠ 0)), .bool (decide ((Top.shape k).2.1 ≠ 0)), .bool (decide ((Top.shape k).2.2 ≠ 0))]) ∧ Grow w w' := by
  have HS := Lib.hid (fun w => shape_any w k)
  generalize Top.shape k = s at HS ⊢
  obtain ⟨s1, s2, s3⟩ := s
  have key : ∀ r1 r2 r3 : Bool, (((s1 : Int) != 0) = r1) → (((s2 : Int) != 0) = r2) → (((s3 : Int) != 0) = r3) → Calls Tryz.prog 129 #[.int .i64 k] w fun e w' => e = .returned (.tuple #[.bool r1, .bool r2, .bool r3]) ∧ Grow w w' := by
    intro r1 r2 r3 h1 h2 h3
    go_enter Tryz.func129, Tryz.ntmps129
    go_wp2_with fail
    refine (HS.out _).mono ?_
    rintro _ w1 ⟨rfl, hg⟩
    have HG := Lib.hid hg; clear hg
    dsimp only [shC]
    go_wp2_with fail
    have HB := Lib.hid (heapAt_alloc_new w1 (.cells #[.int .i64 s1, .int .i64 s2, .int .i64 s3] 206))
    have HG2 := Lib.hid (HG.out.trans (Grow.alloc w1 (.cells #[.int .i64 s1, .int .i64 s2, .int .i64 s3] 206)))
    generalize w1.heap.size = g at HB ⊢
    generalize w1.alloc (.cells #[.int .i64 s1, .int .i64 s2, .int .i64 s3] 206) = w2 at HB HG2 ⊢
    have c0 := cell_block HB.out 0
    have c1 := cell_block HB.out 1
    have c2 := cell_block HB.out 2
    simp at c0 c1 c2
    go_quiet (fail)
    go_wp2
    go_ret3
    exact ⟨rfl, HG2.out.trans (Grow.drewN w2 nq)⟩
  refine key _ _ _ ?_ ?_ ?_
  · by_cases h : s1 = 0 <;> simp [h]
  · by_cases h : s2 = 0 <;> simp [h]
  · by_cases h : s3 = 0 <;> simp [h]
theorem within_0 (w : World) (n : Nat) : Calls Tryz.prog 88 #[.int .u32 n, .int .i64 0] w fun e w' => e = .returned (.bool (decide (n ≤ 0))) ∧ w' = w := by
  by_cases h0 : n ≤ 0
  · have i0 : (n : Int) ≤ 0 := by omega
    go_enter Tryz.func88, Tryz.ntmps88
    go_wp2
    go_ret
    exact ⟨by simp; try omega, rfl⟩
  · have i0 : ¬ (n : Int) ≤ 0 := by omega
    go_enter Tryz.func88, Tryz.ntmps88
    go_wp2
    go_ret
    exact ⟨by simp; try omega, rfl⟩
theorem within_1 (w : World) (n : Nat) : Calls Tryz.prog 88 #[.int .u32 n, .int .i64 1] w fun e w' => e = .returned (.bool (true)) ∧ w' = w := by
  go_enter Tryz.func88, Tryz.ntmps88
  go_wp2
  go_ret
  exact ⟨rfl, rfl⟩
theorem within_2 (w : World) (n : Nat) : Calls Tryz.prog 88 #[.int .u32 n, .int .i64 2] w fun e w' => e = .returned (.bool (decide (n ≤ 1))) ∧ w' = w := by
  by_cases h0 : n ≤ 1
  · have i0 : (n : Int) ≤ 1 := by omega
    go_enter Tryz.func88, Tryz.ntmps88
    go_wp2
    go_ret
    exact ⟨by simp; try omega, rfl⟩
  · have i0 : ¬ (n : Int) ≤ 1 := by omega
    go_enter Tryz.func88, Tryz.ntmps88
    go_wp2
    go_ret
    exact ⟨by simp; try omega, rfl⟩
theorem within_3 (w : World) (n : Nat) : Calls Tryz.prog 88 #[.int .u32 n, .int .i64 3] w fun e w' => e = .returned (.bool (decide (n ≤ 15))) ∧ w' = w := by
  by_cases h0 : n ≤ 15
  · have i0 : (n : Int) ≤ 15 := by omega
    go_enter Tryz.func88, Tryz.ntmps88
    go_wp2
    go_ret
    exact ⟨by simp; try omega, rfl⟩
  · have i0 : ¬ (n : Int) ≤ 15 := by omega
    go_enter Tryz.func88, Tryz.ntmps88
    go_wp2
    go_ret
    exact ⟨by simp; try omega, rfl⟩
theorem within_4 (w : World) (n : Nat) : Calls Tryz.prog 88 #[.int .u32 n, .int .i64 4] w fun e w' => e = .returned (.bool (decide (n ≤ 31))) ∧ w' = w := by
  by_cases h0 : n ≤ 31
  · have i0 : (n : Int) ≤ 31 := by omega
    go_enter Tryz.func88, Tryz.ntmps88
    go_wp2
    go_ret
    exact ⟨by simp; try omega, rfl⟩
  · have i0 : ¬ (n : Int) ≤ 31 := by omega
    go_enter Tryz.func88, Tryz.ntmps88
    go_wp2
    go_ret
    exact ⟨by simp; try omega, rfl⟩
theorem within_5 (w : World) (n : Nat) : Calls Tryz.prog 88 #[.int .u32 n, .int .i64 5] w fun e w' => e = .returned (.bool (decide (n ≤ 63))) ∧ w' = w := by
  by_cases h0 : n ≤ 63
  · have i0 : (n : Int) ≤ 63 := by omega
    go_enter Tryz.func88, Tryz.ntmps88
    go_wp2
    go_ret
    exact ⟨by simp; try omega, rfl⟩
  · have i0 : ¬ (n : Int) ≤ 63 := by omega
    go_enter Tryz.func88, Tryz.ntmps88
    go_wp2
    go_ret
    exact ⟨by simp; try omega, rfl⟩
theorem within_6 (w : World) (n : Nat) : Calls Tryz.prog 88 #[.int .u32 n, .int .i64 6] w fun e w' => e = .returned (.bool (decide (n ≤ 79))) ∧ w' = w := by
  by_cases h0 : n ≤ 79
  · have i0 : (n : Int) ≤ 79 := by omega
    go_enter Tryz.func88, Tryz.ntmps88
    go_wp2
    go_ret
    exact ⟨by simp; try omega, rfl⟩
  · have i0 : ¬ (n : Int) ≤ 79 := by omega
    go_enter Tryz.func88, Tryz.ntmps88
    go_wp2
    go_ret
    exact ⟨by simp; try omega, rfl⟩
theorem within_7 (w : World) (n : Nat) : Calls Tryz.prog 88 #[.int .u32 n, .int .i64 7] w fun e w' => e = .returned (.bool (decide (n ≤ 80))) ∧ w' = w := by
  by_cases h0 : n ≤ 80
  · have i0 : (n : Int) ≤ 80 := by omega
    go_enter Tryz.func88, Tryz.ntmps88
    go_wp2
    go_ret
    exact ⟨by simp; try omega, rfl⟩
  · have i0 : ¬ (n : Int) ≤ 80 := by omega
    go_enter Tryz.func88, Tryz.ntmps88
    go_wp2
    go_ret
    exact ⟨by simp; try omega, rfl⟩
theorem within_8 (w : World) (n : Nat) : Calls Tryz.prog 88 #[.int .u32 n, .int .i64 8] w fun e w' => e = .returned (.bool (decide (n < 64 ∨ n = 255))) ∧ w' = w := by
  by_cases h0 : n < 64
  · have i0 : (n : Int) < 64 := by omega
    by_cases h1 : n = 255
    · have i1 : (n : Int) = 255 := by omega
      go_enter Tryz.func88, Tryz.ntmps88
      go_wp2
      go_ret
      exact ⟨by simp; try omega, rfl⟩
    · have i1 : ¬ (n : Int) = 255 := by omega
      go_enter Tryz.func88, Tryz.ntmps88
      go_wp2
      go_ret
      exact ⟨by simp; try omega, rfl⟩
  · have i0 : ¬ (n : Int) < 64 := by omega
    by_cases h1 : n = 255
    · have i1 : (n : Int) = 255 := by omega
      go_enter Tryz.func88, Tryz.ntmps88
      go_wp2
      go_ret
      exact ⟨by simp; try omega, rfl⟩
    · have i1 : ¬ (n : Int) = 255 := by omega
      go_enter Tryz.func88, Tryz.ntmps88
      go_wp2
      go_ret
      exact ⟨by simp; try omega, rfl⟩
theorem within_9 (w : World) (n : Nat) : Calls Tryz.prog 88 #[.int .u32 n, .int .i64 9] w fun e w' => e = .returned (.bool (decide (n = 0 ∨ (32 ≤ n ∧ n < 160)))) ∧ w' = w := by
  by_cases h0 : n = 0
  · have i0 : (n : Int) = 0 := by omega
    by_cases h1 : 32 ≤ n
    · have i1 : 32 ≤ (n : Int) := by omega
      by_cases h2 : n < 160
      · have i2 : (n : Int) < 160 := by omega
        go_enter Tryz.func88, Tryz.ntmps88
        go_wp2
        go_ret
        exact ⟨by simp; try omega, rfl⟩
      · have i2 : ¬ (n : Int) < 160 := by omega
        go_enter Tryz.func88, Tryz.ntmps88
        go_wp2
        go_ret
        exact ⟨by simp; try omega, rfl⟩
    · have i1 : ¬ 32 ≤ (n : Int) := by omega
      by_cases h2 : n < 160
      · have i2 : (n : Int) < 160 := by omega
        go_enter Tryz.func88, Tryz.ntmps88
        go_wp2
        go_ret
        exact ⟨by simp; try omega, rfl⟩
      · have i2 : ¬ (n : Int) < 160 := by omega
        go_enter Tryz.func88, Tryz.ntmps88
        go_wp2
        go_ret
        exact ⟨by simp; try omega, rfl⟩
  · have i0 : ¬ (n : Int) = 0 := by omega
    by_cases h1 : 32 ≤ n
    · have i1 : 32 ≤ (n : Int) := by omega
      by_cases h2 : n < 160
      · have i2 : (n : Int) < 160 := by omega
        go_enter Tryz.func88, Tryz.ntmps88
        go_wp2
        go_ret
        exact ⟨by simp; try omega, rfl⟩
      · have i2 : ¬ (n : Int) < 160 := by omega
        go_enter Tryz.func88, Tryz.ntmps88
        go_wp2
        go_ret
        exact ⟨by simp; try omega, rfl⟩
    · have i1 : ¬ 32 ≤ (n : Int) := by omega
      by_cases h2 : n < 160
      · have i2 : (n : Int) < 160 := by omega
        go_enter Tryz.func88, Tryz.ntmps88
        go_wp2
        go_ret
        exact ⟨by simp; try omega, rfl⟩
      · have i2 : ¬ (n : Int) < 160 := by omega
        go_enter Tryz.func88, Tryz.ntmps88
        go_wp2
        go_ret
        exact ⟨by simp; try omega, rfl⟩
theorem within_10 (w : World) (n : Nat) : Calls Tryz.prog 88 #[.int .u32 n, .int .i64 10] w fun e w' => e = .returned (.bool (decide (n ≤ 31))) ∧ w' = w := by
  by_cases h0 : n ≤ 31
  · have i0 : (n : Int) ≤ 31 := by omega
    go_enter Tryz.func88, Tryz.ntmps88
    go_wp2
    go_ret
    exact ⟨by simp; try omega, rfl⟩
  · have i0 : ¬ (n : Int) ≤ 31 := by omega
    go_enter Tryz.func88, Tryz.ntmps88
    go_wp2
    go_ret
    exact ⟨by simp; try omega, rfl⟩
theorem within_11 (w : World) (n : Nat) : Calls Tryz.prog 88 #[.int .u32 n, .int .i64 11] w fun e w' => e = .returned (.bool (decide (n ≤ 255))) ∧ w' = w := by
  by_cases h0 : n ≤ 255
  · have i0 : (n : Int) ≤ 255 := by omega
    go_enter Tryz.func88, Tryz.ntmps88
    go_wp2
    go_ret
    exact ⟨by simp; try omega, rfl⟩
  · have i0 : ¬ (n : Int) ≤ 255 := by omega
    go_enter Tryz.func88, Tryz.ntmps88
    go_wp2
    go_ret
    exact ⟨by simp; try omega, rfl⟩
theorem within_12 (w : World) (n : Nat) : Calls Tryz.prog 88 #[.int .u32 n, .int .i64 12] w fun e w' => e = .returned (.bool (decide (1 ≤ n ∧ n ≤ 255))) ∧ w' = w := by
  by_cases h0 : 1 ≤ n
  · have i0 : 1 ≤ (n : Int) := by omega
    by_cases h1 : n ≤ 255
    · have i1 : (n : Int) ≤ 255 := by omega
      go_enter Tryz.func88, Tryz.ntmps88
      go_wp2
      go_ret
      exact ⟨by simp; try omega, rfl⟩
    · have i1 : ¬ (n : Int) ≤ 255 := by omega
      go_enter Tryz.func88, Tryz.ntmps88
      go_wp2
      go_ret
      exact ⟨by simp; try omega, rfl⟩
  · have i0 : ¬ 1 ≤ (n : Int) := by omega
    by_cases h1 : n ≤ 255
    · have i1 : (n : Int) ≤ 255 := by omega
      go_enter Tryz.func88, Tryz.ntmps88
      go_wp2
      go_ret
      exact ⟨by simp; try omega, rfl⟩
    · have i1 : ¬ (n : Int) ≤ 255 := by omega
      go_enter Tryz.func88, Tryz.ntmps88
      go_wp2
      go_ret
      exact ⟨by simp; try omega, rfl⟩
theorem within_13 (w : World) (n : Nat) : Calls Tryz.prog 88 #[.int .u32 n, .int .i64 13] w fun e w' => e = .returned (.bool (decide (n ≤ 16))) ∧ w' = w := by
  by_cases h0 : n ≤ 16
  · have i0 : (n : Int) ≤ 16 := by omega
    go_enter Tryz.func88, Tryz.ntmps88
    go_wp2
    go_ret
    exact ⟨by simp; try omega, rfl⟩
  · have i0 : ¬ (n : Int) ≤ 16 := by omega
    go_enter Tryz.func88, Tryz.ntmps88
    go_wp2
    go_ret
    exact ⟨by simp; try omega, rfl⟩
theorem within_14 (w : World) (n : Nat) : Calls Tryz.prog 88 #[.int .u32 n, .int .i64 14] w fun e w' => e = .returned (.bool (decide (n ≤ 38))) ∧ w' = w := by
  by_cases h0 : n ≤ 38
  · have i0 : (n : Int) ≤ 38 := by omega
    go_enter Tryz.func88, Tryz.ntmps88
    go_wp2
    go_ret
    exact ⟨by simp; try omega, rfl⟩
  · have i0 : ¬ (n : Int) ≤ 38 := by omega
    go_enter Tryz.func88, Tryz.ntmps88
    go_wp2
    go_ret
    exact ⟨by simp; try omega, rfl⟩
theorem within_any (w : World) (n o : Nat) (ho : o ≤ 14) (r : Bool) (hr : Top.within n o = r) : Calls Tryz.prog 88 #[.int .u32 n, .int .i64 o] w fun e w' => e = .returned (.bool r) ∧ w' = w := by
  subst hr
  have h : o = 0 ∨ o = 1 ∨ o = 2 ∨ o = 3 ∨ o = 4 ∨ o = 5 ∨ o = 6 ∨ o = 7 ∨ o = 8 ∨ o = 9 ∨ o = 10 ∨ o = 11 ∨ o = 12 ∨ o = 13 ∨ o = 14 := by omega
  rcases h with rfl | rfl | rfl | rfl | rfl | rfl | rfl | rfl | rfl | rfl | rfl | rfl | rfl | rfl | rfl
  · exact within_0 w n
  · exact within_1 w n
  · exact within_2 w n
  · exact within_3 w n
  · exact within_4 w n
  · exact within_5 w n
  · exact within_6 w n
  · exact within_7 w n
  · exact within_8 w n
  · exact within_9 w n
  · exact within_10 w n
  · exact within_11 w n
  · exact within_12 w n
  · exact within_13 w n
  · exact within_14 w n
def shOk (p : Nat × Nat × Nat) : Bool := decide (p.1 ≤ 14 ∧ p.2.1 ≤ 14 ∧ p.2.2 ≤ 14)
theorem shape_ok (k : Int) : shOk (Top.shape k) = true := by
  unfold Top.shape
  simp only [apply_ite shOk]
  simp [shOk]
theorem shape_le (k : Int) : (Top.shape k).1 ≤ 14 ∧ (Top.shape k).2.1 ≤ 14 ∧ (Top.shape k).2.2 ≤ 14 := by
  have h := shape_ok k
  unfold shOk at h
  simpa using h
abbrev evC (e : Top.Ev) : Array Value := #[.int .i64 e.kind, .int .u64 e.cycle, .int .u64 e.count, .int .u32 e.a, .int .u32 e.b, .int .u32 e.v]
theorem info98 (e : Top.Ev) : (Tryz.prog.info? 98).map (·.size) = some (evC e).size := by
  have h : (Tryz.prog.info? 98).map (·.size) = some 6 := by kernel_rfl
  rw [h]; rfl
attribute [local irreducible] Top.within Top.isKind
theorem check_any (w : World) (ev : Top.Ev) : Calls Tryz.prog 59 #[.agg (evC ev)] w fun e w' => e = .returned (.int .i64 (Top.evCheck ev)) ∧ Grow w w' := by
  have HE := Lib.hid (show Top.evCheck ev = if Top.isKind ev.kind = false then 1 else if Top.within ev.a (Top.shape ev.kind).1 = false ∨ Top.within ev.b (Top.shape ev.kind).2.1 = false ∨ Top.within ev.v (Top.shape ev.kind).2.2 = false ∨ (ev.kind = 5 ∧ ev.a = ev.b) then 5 else 0 from rfl)
  have HS := Lib.hid (fun w => shape_any w ev.kind)
  have HL := Lib.hid (shape_le ev.kind)
  have HW1 := Lib.hid (fun w => within_any w ev.a (Top.shape ev.kind).1 HL.out.1 _ rfl)
  have HW2 := Lib.hid (fun w => within_any w ev.b (Top.shape ev.kind).2.1 HL.out.2.1 _ rfl)
  have HW3 := Lib.hid (fun w => within_any w ev.v (Top.shape ev.kind).2.2 HL.out.2.2 _ rfl)
  have HI := Lib.hid (fun w => is_any w ev.kind _ rfl)
  generalize Top.within ev.a (Top.shape ev.kind).1 = r1 at HE HW1
  generalize Top.within ev.b (Top.shape ev.kind).2.1 = r2 at HE HW2
  generalize Top.within ev.v (Top.shape ev.kind).2.2 = r3 at HE HW3
  generalize Top.isKind ev.kind = r0 at HE HI
  rw [HE.out]
  generalize Top.shape ev.kind = s at HS HW1 HW2 HW3
  obtain ⟨s1, s2, s3⟩ := s
  clear HL
  go_enter Tryz.func59, Tryz.ntmps59
  go_wp2_with fail
  refine (HI.out _).mono ?_
  rintro _ _ ⟨rfl, rfl⟩
  have HB := Lib.hid (heapAt_alloc_new w (.cells (evC ev) 98))
  have HG := Lib.hid (Grow.alloc w (.cells (evC ev) 98))
  generalize w.heap.size = g at HB ⊢
  generalize w.alloc (.cells (evC ev) 98) = w1 at HB HG ⊢
  have c0 := cell_block HB.out 0
  have c3 := cell_block HB.out 3
  have c4 := cell_block HB.out 4
  have c5 := cell_block HB.out 5
  simp at c0 c3 c4 c5
  cases r0
  · go_wp2
    go_ret
    exact ⟨rfl, HG.out⟩
  · go_wp2_with fail
    refine (HS.out _).mono ?_
    rintro _ w2 ⟨rfl, hg⟩
    have HB2 := Lib.hid (hg.at HB.out)
    have HG2 := Lib.hid (HG.out.trans hg); clear hg
    dsimp only [shC]
    clear c0 c3 c4 c5
    have HB3 := Lib.hid ((heapAt_alloc_old w2 (.cells #[.int .i64 s1, .int .i64 s2, .int .i64 s3] 206) (heapAt_lt HB2.out)).trans HB2.out)
    have HS3 := Lib.hid (heapAt_alloc_new w2 (.cells #[.int .i64 s1, .int .i64 s2, .int .i64 s3] 206))
    have HG3 := Lib.hid (HG2.out.trans (Grow.alloc w2 (.cells #[.int .i64 s1, .int .i64 s2, .int .i64 s3] 206)))
    have d0 := cell_block HB3.out 0
    have d3 := cell_block HB3.out 3
    have d4 := cell_block HB3.out 4
    have d5 := cell_block HB3.out 5
    have s0 := cell_block HS3.out 0
    have sb := cell_block HS3.out 1
    have sc := cell_block HS3.out 2
    simp at d0 d3 d4 d5 s0 sb sc
    go_wp2_with fail
    refine (HW1.out _).mono ?_
    rintro _ _ ⟨rfl, rfl⟩
    cases r1
    · go_wp2
      go_ret
      exact ⟨rfl, HG3.out⟩
    · go_wp2_with fail
      refine (HW2.out _).mono ?_
      rintro _ _ ⟨rfl, rfl⟩
      cases r2
      · go_wp2
        go_ret
        exact ⟨rfl, HG3.out⟩
      · go_wp2_with fail
        refine (HW3.out _).mono ?_
        rintro _ _ ⟨rfl, rfl⟩
        cases r3
        · go_wp2
          go_ret
          exact ⟨rfl, HG3.out⟩
        · by_cases h5 : ev.kind = 5
          · by_cases ha : ev.a = ev.b
            · have hai : ((ev.a : Int) == ev.b) = true := by simp [ha]
              have h5i : (ev.kind == 5) = true := by simp [h5]
              go_wp2
              go_ret
              exact ⟨by simp [h5, ha], HG3.out⟩
            · have hai : ((ev.a : Int) == ev.b) = false := by simp; omega
              have h5i : (ev.kind == 5) = true := by simp [h5]
              go_wp2
              go_ret
              exact ⟨by simp [h5, ha], HG3.out⟩
          · have h5i : (ev.kind == 5) = false := by simpa using h5
            go_wp2
            go_ret
            exact ⟨by simp [h5], HG3.out⟩
end Go.Proofs.YtnhmdinpfcoebaaGreatDoor
end

/-! === Name -/
section
/- A kind by its name: the walk. -/
namespace Go.Proofs.YtnhmdinpfcoebaaGreatDoor
open Go.RowKit
set_option linter.unusedVariables false
set_option linter.unusedSimpArgs false
set_option maxRecDepth 100000

def names25 : Array Value := #[.string ⟨#[]⟩, .string ⟨#[105, 114, 113]⟩, .string ⟨#[100, 101, 118]⟩, .string ⟨#[101, 110, 116, 101, 114]⟩, .string ⟨#[101, 120, 105, 116]⟩, .string ⟨#[115, 119, 105, 116, 99, 104]⟩, .string ⟨#[114, 101, 108, 101, 97, 115, 101]⟩, .string ⟨#[108, 97, 116, 101]⟩, .string ⟨#[101, 110, 100]⟩, .string ⟨#[98, 108, 111, 99, 107]⟩, .string ⟨#[119, 97, 107, 101]⟩, .string ⟨#[108, 101, 118, 101, 108]⟩, .string ⟨#[108, 111, 99, 107]⟩, .string ⟨#[117, 110, 108, 111, 99, 107]⟩, .string ⟨#[112, 111, 115, 116]⟩, .string ⟨#[116, 97, 107, 101]⟩, .string ⟨#[115, 101, 110, 100]⟩, .string ⟨#[114, 101, 99, 118]⟩, .string ⟨#[116, 105, 109, 101, 114]⟩, .string ⟨#[97, 114, 109]⟩, .string ⟨#[111, 117, 116]⟩, .string ⟨#[102, 97, 117, 108, 116]⟩, .string ⟨#[104, 97, 108, 116]⟩, .string ⟨#[114, 101, 102, 117, 115, 101]⟩, .string ⟨#[99, 108, 111, 115, 101]⟩]
theorem names_at (n : Nat) (h1 : 1 ≤ n) (h2 : n ≤ 24) : ∃ s : ByteArray, names25[n]? = some (.string s) ∧ s.size ≠ 0 := by
  have h : n = 1 ∨ n = 2 ∨ n = 3 ∨ n = 4 ∨ n = 5 ∨ n = 6 ∨ n = 7 ∨ n = 8 ∨ n = 9 ∨ n = 10 ∨ n = 11 ∨ n = 12 ∨ n = 13 ∨ n = 14 ∨ n = 15 ∨ n = 16 ∨ n = 17 ∨ n = 18 ∨ n = 19 ∨ n = 20 ∨ n = 21 ∨ n = 22 ∨ n = 23 ∨ n = 24 := by omega
  rcases h with rfl | rfl | rfl | rfl | rfl | rfl | rfl | rfl | rfl | rfl | rfl | rfl | rfl | rfl | rfl | rfl | rfl | rfl | rfl | rfl | rfl | rfl | rfl | rfl
  · exact ⟨⟨#[105, 114, 113]⟩, rfl, by decide⟩
  · exact ⟨⟨#[100, 101, 118]⟩, rfl, by decide⟩
  · exact ⟨⟨#[101, 110, 116, 101, 114]⟩, rfl, by decide⟩
  · exact ⟨⟨#[101, 120, 105, 116]⟩, rfl, by decide⟩
  · exact ⟨⟨#[115, 119, 105, 116, 99, 104]⟩, rfl, by decide⟩
  · exact ⟨⟨#[114, 101, 108, 101, 97, 115, 101]⟩, rfl, by decide⟩
  · exact ⟨⟨#[108, 97, 116, 101]⟩, rfl, by decide⟩
  · exact ⟨⟨#[101, 110, 100]⟩, rfl, by decide⟩
  · exact ⟨⟨#[98, 108, 111, 99, 107]⟩, rfl, by decide⟩
  · exact ⟨⟨#[119, 97, 107, 101]⟩, rfl, by decide⟩
  · exact ⟨⟨#[108, 101, 118, 101, 108]⟩, rfl, by decide⟩
  · exact ⟨⟨#[108, 111, 99, 107]⟩, rfl, by decide⟩
  · exact ⟨⟨#[117, 110, 108, 111, 99, 107]⟩, rfl, by decide⟩
  · exact ⟨⟨#[112, 111, 115, 116]⟩, rfl, by decide⟩
  · exact ⟨⟨#[116, 97, 107, 101]⟩, rfl, by decide⟩
  · exact ⟨⟨#[115, 101, 110, 100]⟩, rfl, by decide⟩
  · exact ⟨⟨#[114, 101, 99, 118]⟩, rfl, by decide⟩
  · exact ⟨⟨#[116, 105, 109, 101, 114]⟩, rfl, by decide⟩
  · exact ⟨⟨#[97, 114, 109]⟩, rfl, by decide⟩
  · exact ⟨⟨#[111, 117, 116]⟩, rfl, by decide⟩
  · exact ⟨⟨#[102, 97, 117, 108, 116]⟩, rfl, by decide⟩
  · exact ⟨⟨#[104, 97, 108, 116]⟩, rfl, by decide⟩
  · exact ⟨⟨#[114, 101, 102, 117, 115, 101]⟩, rfl, by decide⟩
  · exact ⟨⟨#[99, 108, 111, 115, 101]⟩, rfl, by decide⟩
theorem names25_lit : (#[.string ⟨#[]⟩, .string ⟨#[105, 114, 113]⟩, .string ⟨#[100, 101, 118]⟩, .string ⟨#[101, 110, 116, 101, 114]⟩, .string ⟨#[101, 120, 105, 116]⟩, .string ⟨#[115, 119, 105, 116, 99, 104]⟩, .string ⟨#[114, 101, 108, 101, 97, 115, 101]⟩, .string ⟨#[108, 97, 116, 101]⟩, .string ⟨#[101, 110, 100]⟩, .string ⟨#[98, 108, 111, 99, 107]⟩, .string ⟨#[119, 97, 107, 101]⟩, .string ⟨#[108, 101, 118, 101, 108]⟩, .string ⟨#[108, 111, 99, 107]⟩, .string ⟨#[117, 110, 108, 111, 99, 107]⟩, .string ⟨#[112, 111, 115, 116]⟩, .string ⟨#[116, 97, 107, 101]⟩, .string ⟨#[115, 101, 110, 100]⟩, .string ⟨#[114, 101, 99, 118]⟩, .string ⟨#[116, 105, 109, 101, 114]⟩, .string ⟨#[97, 114, 109]⟩, .string ⟨#[111, 117, 116]⟩, .string ⟨#[102, 97, 117, 108, 116]⟩, .string ⟨#[104, 97, 108, 116]⟩, .string ⟨#[114, 101, 102, 117, 115, 101]⟩, .string ⟨#[99, 108, 111, 115, 101]⟩] : Array Value) = names25 := rfl
theorem names25_size : names25.size = 25 := by unfold names25; rfl
theorem names25_one : names25.all (·.oneCell') = true := by unfold names25; simp [Value.oneCell']
theorem info305 : (Tryz.prog.info? 305).map (·.size) = some names25.size := by rw [names25_size]; kernel_rfl
attribute [local irreducible] names25
theorem name_no (w : World) (k : Int) (h : Top.isKind k = false) : Calls Tryz.prog 133 #[.int .i64 k] w fun e w' => e = .returned (.string ⟨#[]⟩) ∧ Grow w w' := by
  have HI := Lib.hid (fun w => is_any w k _ h)
  clear h
  go_enter Tryz.func133, Tryz.ntmps133
  go_wp2_with (with_reducible refine wpList_store_blk rfl 305 (.tmp 3) (.tmp 4) rfl w.heap.size 305 ?c0 names25 ?c1 ?c2 ?c3 ?c4 info305 ?c6 ?c7)
  case c1 => rfl
  case c2 => exact congrArg Value.agg names25_lit
  case c3 => exact heapAt_alloc_new w _
  case c4 => rw [names25_size]; rfl
  case c6 => exact names25_one
  case c7 =>
    intro w1 hb ho
    have hG := Lib.hid ((Grow.alloc w _).only ho (Nat.le_refl _))
    clear hb ho
    go_wp2_with fail
    refine (HI.out _).mono ?_
    rintro _ _ ⟨rfl, rfl⟩
    go_wp2
    go_ret
    exact ⟨rfl, hG.out⟩
theorem name_yes (w : World) (k : Int) (h : Top.isKind k = true) : Calls Tryz.prog 133 #[.int .i64 k] w fun e w' => (∃ s : ByteArray, e = .returned (.string s) ∧ s.size ≠ 0) ∧ Grow w w' := by
  have HI := Lib.hid (fun w => is_any w k _ h)
  have hk : 1 ≤ k ∧ k ≤ 24 := by simpa [Top.isKind] using h
  clear h
  obtain ⟨n, rfl⟩ := Int.eq_ofNat_of_zero_le (show 0 ≤ k by omega)
  obtain ⟨s, hs, hz⟩ := names_at n (by omega) (by omega)
  have HZ := Lib.hid hz; clear hz
  have HS := Lib.hid hs; clear hs
  have h0 : (0 : Int) ≤ (n : Int) := by omega
  have h1 : (n : Int) < 25 := by omega
  clear hk
  go_enter Tryz.func133, Tryz.ntmps133
  go_wp2_with (with_reducible refine wpList_store_blk rfl 305 (.tmp 3) (.tmp 4) rfl w.heap.size 305 ?c0 names25 ?c1 ?c2 ?c3 ?c4 info305 ?c6 ?c7)
  case c1 => rfl
  case c2 => exact congrArg Value.agg names25_lit
  case c3 => exact heapAt_alloc_new w _
  case c4 => rw [names25_size]; rfl
  case c6 => exact names25_one
  case c7 =>
    intro w1 hb ho
    have hG := Lib.hid ((Grow.alloc w _).only ho (Nat.le_refl _))
    have hc : w1.cell? ⟨w.heap.size, n, none⟩ = some (.string s) := by rw [cell_block hb]; exact HS.out
    clear hb ho
    go_wp2_with fail
    refine (HI.out _).mono ?_
    rintro _ _ ⟨rfl, rfl⟩
    go_wp2
    go_ret
    exact ⟨⟨s, rfl, HZ.out⟩, hG.out⟩
end Go.Proofs.YtnhmdinpfcoebaaGreatDoor
end

/-! === Fld -/
section
/- The three numbers of an event, read one by one. No program in sight. -/
namespace Go.Proofs.YtnhmdinpfcoebaaGreatDoor
namespace Top
set_option linter.unusedVariables false
set_option linter.unusedSimpArgs false
def Got.shift {α : Type} (x : Got α) (d : Nat) : Got α := match x with
  | .no e => .no e
  | .yes a k => .yes a (d + k)
def setF (i n : Nat) (t : Nat × Nat × Nat) : Nat × Nat × Nat := if i = 0 then (n, t.2.1, t.2.2) else if i = 1 then (t.1, n, t.2.2) else (t.1, t.2.1, n)
def fldL (h : Nat → Bool) : Nat → Nat → Nat × Nat × Nat → Bytes → Got (Nat × Nat × Nat)
  | 0, i, t, l => .yes t 0
  | f + 1, i, t, l => match optP (h i) l with
    | .no e => .no e
    | .yes n k => (fldL h f (i + 1) (setF i n t) (l.drop k)).shift k
def hasK (k : Nat) (i : Nat) : Bool := if i = 0 then decide ((shape k).1 ≠ 0) else if i = 1 then decide ((shape k).2.1 ≠ 0) else decide ((shape k).2.2 ≠ 0)
theorem fld_eq {β : Type} (h : Nat → Bool) (F : Nat → Nat → Nat → Nat ⊕ β) (l : Bytes) : (seqP (optP (h 0)) fun a => seqP (optP (h 1)) fun b2 => okP (F a b2) (optP (h 2))) l = okP (fun x : Nat × Nat × Nat => F x.1 x.2.1 x.2.2) (fldL h 3 0 (0, 0, 0)) l := by
  unfold seqP okP fldL fldL fldL fldL
  cases h1 : optP (h 0) l with
  | no e1 => rfl
  | yes n1 k1 =>
    simp only
    cases h2 : optP (h 1) (l.drop k1) with
    | no e1 => simp only [h2, Got.shift]
    | yes n2 k2 =>
      simp only [h2]
      cases h3 : optP (h 2) ((l.drop k1).drop k2) with
      | no e1 => simp only [h3, Got.shift]
      | yes n3 k3 =>
        simp only [h3, Got.shift, setF]
        cases h4 : F n1 n2 n3 with
        | inl e => simp [h4]
        | inr y => simp [h4]
theorem nextP_eq (cycle count : Nat) (b : UInt8) (t : Bytes) : nextP cycle count (b :: t) = if isKind (b.toNat : Int) = false then .no 1 else
    (seqP (mostP W32) (fun step => seqP (mostP W32) fun fold => okP (fun x => mkEv b.toNat cycle count step fold x.1 x.2.1 x.2.2) (fldL (hasK b.toNat) 3 0 (0, 0, 0))) t).shift 1 := by
  rw [nextP]
  split
  · rfl
  · have e : ∀ step fold, (seqP (optP (decide ((shape b.toNat).1 ≠ 0))) fun a => seqP (optP (decide ((shape b.toNat).2.1 ≠ 0))) fun b2 => okP (mkEv b.toNat cycle count step fold a b2) (optP (decide ((shape b.toNat).2.2 ≠ 0)))) = okP (fun x => mkEv b.toNat cycle count step fold x.1 x.2.1 x.2.2) (fldL (hasK b.toNat) 3 0 (0, 0, 0)) := by
      intro step fold
      funext l
      exact fld_eq (hasK b.toNat) (fun a b2 v => mkEv b.toNat cycle count step fold a b2 v) l
    simp only [e]
    cases h2 : seqP (mostP W32) (fun step => seqP (mostP W32) fun fold => okP (fun x => mkEv b.toNat cycle count step fold x.1 x.2.1 x.2.2) (fldL (hasK b.toNat) 3 0 (0, 0, 0))) t with
    | no e1 => rfl
    | yes a k => simp [Got.shift, Nat.add_comm]
theorem shift_shift {α : Type} (x : Got α) (a b : Nat) : (x.shift a).shift b = x.shift (b + a) := by
  cases x with
  | no e => rfl
  | yes y k => simp [Got.shift, Nat.add_assoc]
theorem shift_zero {α : Type} (x : Got α) : x.shift 0 = x := by
  cases x with
  | no e => rfl
  | yes y k => simp [Got.shift]
theorem fld_skip {h : Nat → Bool} {f i : Nat} {t : Nat × Nat × Nat} {l : Bytes} (hi : h i = false) (ht : setF i 0 t = t) : fldL h (f + 1) i t l = fldL h f (i + 1) t l := by
  rw [fldL, hi]
  simp only [optP, ht, List.drop_zero, shift_zero, Bool.false_eq_true, if_false]
theorem fld_no {h : Nat → Bool} {f i er : Nat} {t : Nat × Nat × Nat} {l : Bytes} (hi : h i = true) (hx : mostP W32 l = .no er) : fldL h (f + 1) i t l = .no er := by
  rw [fldL, hi]
  simp only [optP, if_true, hx]
theorem fld_yes {h : Nat → Bool} {f i n k : Nat} {t : Nat × Nat × Nat} {l : Bytes} (hi : h i = true) (hx : mostP W32 l = .yes n k) : fldL h (f + 1) i t l = (fldL h f (i + 1) (setF i n t) (l.drop k)).shift k := by
  rw [fldL, hi]
  simp only [optP, if_true, hx]
theorem seqP_yes {α β : Type} {p : Bytes → Got α} {f : α → Bytes → Got β} {l : Bytes} {b : β} {k : Nat} (h : seqP p f l = .yes b k) : ∃ a j q, p l = .yes a j ∧ f a (l.drop j) = .yes b q ∧ k = j + q := by
  unfold seqP at h
  cases h1 : p l with
  | no e => rw [h1] at h; cases h
  | yes a j =>
    rw [h1] at h
    simp only at h
    cases h3 : f a (l.drop j) with
    | no e => rw [h3] at h; cases h
    | yes c q => rw [h3] at h; injection h with h4 h; subst h4; exact ⟨a, j, q, rfl, h3, h.symm⟩
theorem seqP_no {α β : Type} {p : Bytes → Got α} {f : α → Bytes → Got β} {l : Bytes} {e : Nat} (h : seqP p f l = .no e) : p l = .no e ∨ ∃ a j, p l = .yes a j ∧ f a (l.drop j) = .no e := by
  unfold seqP at h
  cases h1 : p l with
  | no e1 => rw [h1] at h; injection h with h; subst h; exact .inl rfl
  | yes a j =>
    rw [h1] at h
    simp only at h
    cases h3 : f a (l.drop j) with
    | no e1 => rw [h3] at h; injection h with h; subst h; exact .inr ⟨a, j, rfl, h3⟩
    | yes c q => rw [h3] at h; cases h
theorem okP_yes {α β : Type} {f : α → Nat ⊕ β} {p : Bytes → Got α} {l : Bytes} {b : β} {k : Nat} (h : okP f p l = .yes b k) : ∃ a, p l = .yes a k ∧ f a = .inr b := by
  unfold okP at h
  cases h1 : p l with
  | no e => rw [h1] at h; cases h
  | yes a j =>
    rw [h1] at h
    simp only at h
    cases h3 : f a with
    | inl e => rw [h3] at h; cases h
    | inr c => rw [h3] at h; injection h with h4 h5; subst h4; subst h5; exact ⟨a, rfl, h3⟩
theorem okP_no {α β : Type} {f : α → Nat ⊕ β} {p : Bytes → Got α} {l : Bytes} {e : Nat} (h : okP f p l = .no e) : p l = .no e ∨ ∃ a k, p l = .yes a k ∧ f a = .inl e := by
  unfold okP at h
  cases h1 : p l with
  | no e1 => rw [h1] at h; injection h with h; subst h; exact .inl rfl
  | yes a j =>
    rw [h1] at h
    simp only at h
    cases h3 : f a with
    | inl e1 => rw [h3] at h; injection h with h; subst h; exact .inr ⟨a, j, rfl, h3⟩
    | inr c => rw [h3] at h; cases h
theorem shift_yes {α : Type} {x : Got α} {d : Nat} {a : α} {k : Nat} (h : x.shift d = .yes a k) : ∃ j, x = .yes a j ∧ k = d + j := by
  cases x with
  | no e => cases h
  | yes b j => injection h with h1 h2; subst h1; exact ⟨j, rfl, h2.symm⟩
theorem shift_no {α : Type} {x : Got α} {d e : Nat} (h : x.shift d = .no e) : x = .no e := by
  cases x with
  | no e1 => injection h with h; subst h; rfl
  | yes b j => cases h
theorem mostP_ok (m : Nat) : mostP m = okP (fun n => if m < n then .inl 5 else .inr n) lebP := by
  funext l
  unfold mostP okP
  cases lebP l with
  | no e => rfl
  | yes n k => simp only [Got.andThen]; split <;> rfl
theorem mostP_reads (m : Nat) : Reads1 (mostP m) := by rw [mostP_ok]; exact okP_reads lebP_reads
theorem fldL_len (h : Nat → Bool) : ∀ (f i : Nat) (t : Nat × Nat × Nat) (l : Bytes) (a : Nat × Nat × Nat) (k : Nat), fldL h f i t l = .yes a k → k ≤ l.length
  | 0, i, t, l, a, k, hh => by simp [fldL] at hh; omega
  | f + 1, i, t, l, a, k, hh => by
    rw [fldL] at hh
    cases h1 : optP (h i) l with
    | no e => rw [h1] at hh; cases hh
    | yes n j =>
      rw [h1] at hh
      obtain ⟨q, h2, h3⟩ := shift_yes hh
      have := fldL_len h f _ _ _ _ _ h2
      rw [List.length_drop] at this
      have hj : j ≤ l.length := by
        unfold optP at h1
        split at h1
        · exact (mostP_reads W32).len _ _ _ h1
        · injection h1 with _ h1; omega
      omega
end Top
end Go.Proofs.YtnhmdinpfcoebaaGreatDoor
end
