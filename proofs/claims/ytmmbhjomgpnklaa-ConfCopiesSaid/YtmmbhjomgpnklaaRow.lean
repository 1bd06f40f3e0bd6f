/- A number's range; what is told to be wrong; rows of numbers. -/
import Derived.Test.YtmmbhjomgpnklaaNum
namespace Go.Proofs.Ytmmbhjomgpnklaa
open Go.RowKit
set_option linter.unusedVariables false
set_option linter.unusedSimpArgs false
set_option maxRecDepth 100000
def inB (n lo hi : Int) : Bool := decide (lo ≤ n ∧ n ≤ hi)
theorem rng_any (w : World) (n lo hi : Int) (r : Bool) (hr : inB n lo hi = r) : Calls Try.prog 17 #[.int .i64 n, .int .i64 lo, .int .i64 hi] w fun e w' => e = .returned (.bool r) ∧ w' = w := by
  subst hr
  by_cases h1 : lo ≤ n
  · by_cases h2 : n ≤ hi
    · have hq : inB n lo hi = true := by simp [inB, h1, h2]
      rw [hq]
      have h1' : n ≥ lo := h1
      go_enter Try.func17, Try.ntmps17
      go_wp2
      go_ret
      exact ⟨rfl, rfl⟩
    · have hq : inB n lo hi = false := by simp [inB, h2]
      rw [hq]
      have h1' : n ≥ lo := h1
      go_enter Try.func17, Try.ntmps17
      go_wp2
      go_ret
      exact ⟨rfl, rfl⟩
  · have hq : inB n lo hi = false := by simp [inB, h1]
    rw [hq]
    go_enter Try.func17, Try.ntmps17
    go_wp2
    go_ret
    exact ⟨rfl, rfl⟩
theorem outr_any (w : World) (n lo hi : Int) (r : Bool) (hr : (!inB n lo hi) = r) : Calls Try.prog 20 #[.int .i64 n, .int .i64 lo, .int .i64 hi] w fun e w' => e = .returned (.bool r) ∧ w' = w := by
  subst hr
  by_cases h1 : n < lo
  · have hq : (!inB n lo hi) = true := by simp [inB]; omega
    rw [hq]
    go_enter Try.func20, Try.ntmps20
    go_wp2
    go_ret
    exact ⟨rfl, rfl⟩
  · by_cases h2 : hi < n
    · have hq : (!inB n lo hi) = true := by simp [inB]; omega
      rw [hq]
      go_enter Try.func20, Try.ntmps20
      go_wp2
      go_ret
      exact ⟨rfl, rfl⟩
    · have hq : (!inB n lo hi) = false := by simp [inB]; omega
      rw [hq]
      go_enter Try.func20, Try.ntmps20
      go_wp2
      go_ret
      exact ⟨rfl, rfl⟩
/-- What is told to be wrong. -/
structure Ft where
  e : Int
  p : Int
  i : Int
  a : Int
def okF : Ft := ⟨0, 0, 0, 0⟩
abbrev faultC (f : Ft) : Array Value := #[.int .i64 f.e, .int .i64 f.p, .int .i64 f.i, .int .i64 f.a]
theorem info33 : (Try.prog.info? 33).map (·.size) = some 4 := by kernel_rfl
theorem fault_eq {f : Ft} {e p i a : Int} (h : f = ⟨e, p, i, a⟩) : faultC f = #[.int .i64 e, .int .i64 p, .int .i64 i, .int .i64 a] := by rw [h]
/-- The first of so many that is wrong. -/
def firstF (f : Nat → Ft) : Nat → Ft
  | 0 => okF
  | n + 1 => if (firstF f n).e = 0 then f n else firstF f n
theorem first_none (f : Nat → Ft) : ∀ n, (∀ j, j < n → f j = okF) → firstF f n = okF
  | 0, _ => rfl
  | n + 1, h => by
    rw [firstF, first_none f n (fun j hj => h j (by omega)), if_pos (show okF.e = 0 from rfl)]
    exact h n (by omega)
theorem first_hit (f : Nat → Ft) (k : Nat) (h : ∀ j, j < k → f j = okF) (hk : (f k).e ≠ 0) : ∀ n, k < n → firstF f n = f k
  | 0, hn => by omega
  | n + 1, hn => by
    rw [firstF]
    by_cases e : k = n
    · subst e
      rw [first_none f k h, if_pos (show okF.e = 0 from rfl)]
    · rw [first_hit f k h hk n (by omega), if_neg hk]
theorem first_cases (f : Nat → Ft) (hf : ∀ j, (f j).e = 0 → f j = okF) : ∀ n, (firstF f n = okF ∧ ∀ j, j < n → f j = okF) ∨ (∃ k, k < n ∧ (f k).e ≠ 0 ∧ (∀ j, j < k → f j = okF) ∧ firstF f n = f k)
  | 0 => .inl ⟨rfl, fun j hj => by omega⟩
  | n + 1 => by
    rcases first_cases f hf n with ⟨h1, h2⟩ | ⟨k, hk, he, hj, h1⟩
    · rw [firstF, h1, if_pos (show okF.e = 0 from rfl)]
      by_cases hz : (f n).e = 0
      · refine .inl ⟨hf n hz, fun j hj => ?_⟩
        rcases Nat.lt_succ_iff_lt_or_eq.1 hj with h | h
        · exact h2 j h
        · rw [h]; exact hf n hz
      · exact .inr ⟨n, by omega, hz, h2, rfl⟩
    · rw [firstF, h1, if_neg he]
      exact .inr ⟨k, by omega, he, hj, rfl⟩
def numP (ok : Bool) (p : Int) : Ft := if ok then okF else ⟨5, p, 0, 0⟩
theorem number_any (w : World) (ok : Bool) (p : Int) : Calls Try.prog 16 #[.bool ok, .int .i64 p] w fun r w' => r = .returned (.agg (faultC (numP ok p))) ∧ Grow w w' := by
  cases ok
  · go_enter Try.func16, Try.ntmps16
    go_wp2
    refine bodyPost_ret (v := .agg (faultC (numP false p))) (results_cell_row rfl _ _ w.heap.size 33 _ (0, 0) _ (by rfl) (heapAt_alloc_new w _) Try.underlying33 rfl info33) rfl ⟨rfl, Grow.alloc _ _⟩
  · go_enter Try.func16, Try.ntmps16
    go_wp2
    refine bodyPost_ret (v := .agg (faultC (numP true p))) (results_cell_row rfl _ _ w.heap.size 33 _ (0, 0) _ (by rfl) (heapAt_alloc_new w _) Try.underlying33 rfl info33) rfl ⟨rfl, Grow.alloc _ _⟩
theorem fault_any (w : World) (e p i a : Int) : Calls Try.prog 19 #[.int .i64 e, .int .i64 p, .int .i64 i, .int .i64 a] w fun r w' => r = .returned (.agg #[.int .i64 e, .int .i64 p, .int .i64 i, .int .i64 a]) ∧ Grow w w' := by
  go_enter Try.func19, Try.ntmps19
  go_wp2
  refine bodyPost_ret (v := .agg #[.int .i64 e, .int .i64 p, .int .i64 i, .int .i64 a]) (results_cell_row rfl _ _ w.heap.size 33 _ (0, 0) _ (by rfl) (heapAt_alloc_new w _) Try.underlying33 rfl info33) rfl ⟨rfl, Grow.alloc _ _⟩
def rowF (M : Nat → Int) (part lo hi : Int) (i : Nat) : Ft := if inB (M i) lo hi then okF else ⟨5, part, i, 1⟩
def rowP (n : Nat) (M : Nat → Int) (part lo hi : Int) : Ft := if 32 < n then ⟨4, part, 0, 0⟩ else firstF (rowF M part lo hi) n
abbrev zeroF : Array Value := #[.int .i64 0, .int .i64 0, .int .i64 0, .int .i64 0]
theorem store33 {ops : Array Oper} {rest : List Oper} {op : Oper} {a : Act} {w : World} {Q : Exit → Act → World → Prop} (hgd : op.guard = none) (x y : Operand) (ho : op.op = .store 33 x y)
    (g : Nat) {e0 p0 i0 a0 : Int} (e p i j : Int) (hx : a.eval x = .pointer (some ⟨g, 0, none⟩)) (hy : a.eval y = .agg #[.int .i64 e, .int .i64 p, .int .i64 i, .int .i64 j]) (hold : w.heap[g]? = some (.cells #[.int .i64 e0, .int .i64 p0, .int .i64 i0, .int .i64 a0] 33 (0, 0)))
    (h : ∀ w', w'.heap[g]? = some (.cells #[.int .i64 e, .int .i64 p, .int .i64 i, .int .i64 j] 33 (0, 0)) → Only g w w' → wpList Try.prog ops Q rest (a.put op.dst undef) w') : wpList Try.prog ops Q (op :: rest) a w :=
  wpList_store_blk hgd 33 x y ho g 33 _ _ hx hy hold rfl info33 (by simp [Value.oneCell']) h
theorem load33 {ops : Array Oper} {rest : List Oper} {op : Oper} {a : Act} {w : World} {Q : Exit → Act → World → Prop} (hgd : op.guard = none) (x : Operand) (ho : op.op = .load 33 x)
    (g : Nat) {e p i j : Int} (hx : a.eval x = .pointer (some ⟨g, 0, none⟩)) (hold : w.heap[g]? = some (.cells #[.int .i64 e, .int .i64 p, .int .i64 i, .int .i64 j] 33 (0, 0)))
    (h : wpList Try.prog ops Q rest (a.put op.dst (.agg #[.int .i64 e, .int .i64 p, .int .i64 i, .int .i64 j])) w) : wpList Try.prog ops Q (op :: rest) a w :=
  wpList_load_blk hgd 33 x ho g 33 _ _ hx hold Try.underlying33 rfl info33 h
set_option maxHeartbeats 2000000 in
theorem row_any (w : World) (A : Option Addr) (n c : Nat) (M : Nat → Int) (part lo hi : Int) (hM : MemAt w A n M) :
    Calls Try.prog 18 #[.slice A n c, .int .i64 part, .int .i64 lo, .int .i64 hi] w fun r w' => r = .returned (.agg (faultC (rowP n M part lo hi))) ∧ Grow w w' := by
  by_cases hn : 32 < n
  · have hn' : (n : Int) > 32 := by omega
    have hn2 : (32 : Int) < n := by omega
    rw [fault_eq (show rowP n M part lo hi = ⟨4, part, 0, 0⟩ by simp [rowP, hn])]
    clear hM
    go_enter Try.func18, Try.ntmps18
    go_wp2
    refine bodyPost_ret (v := .agg #[.int .i64 4, .int .i64 part, .int .i64 0, .int .i64 0]) (results_cell_row rfl _ _ w.heap.size 33 _ (0, 0) _ (by rfl) (heapAt_alloc_new w _) Try.underlying33 rfl info33) rfl ⟨rfl, Grow.alloc _ _⟩
  · have hn' : ¬ (n : Int) > 32 := by omega
    have hn2 : ¬ (32 : Int) < n := by omega
    have HM := Lib.hid hM; clear hM
    have HE := Lib.hid (show rowP n M part lo hi = firstF (rowF M part lo hi) n by simp [rowP, hn])
    go_enter Try.func18, Try.ntmps18
    go_wp2_with fail
    go_loopw [18, 9, 10] (fun i _ _ wr => ∃ k : Nat, k ≤ n ∧ i = .int .i64 k ∧ (∀ j, j < k → rowF M part lo hi j = okF) ∧ wr = w.alloc (.cells zeroF 33)) (fun i _ _ _ => n - (intOf i).toNat)
    case atStart => exact ⟨0, by omega, rfl, fun j hj => by omega, rfl⟩
    case round =>
      obtain ⟨k, hk, rfl, he, rfl⟩ := hrel
      have HK := Lib.hid he; clear he
      by_cases hlt : k < n
      · obtain ⟨a1, hA1, hm1⟩ := (HM.out.grow (Grow.alloc w (.cells zeroF 33))) (by omega)
        have m1 := hm1 k hlt
        rw [hA1]
        clear hm1 hA1
        have k0 : (0 : Int) ≤ (k : Int) := by omega
        have kn : (k : Int) < (n : Int) := by omega
        cases hb : inB (M k) lo hi
        · have HX := Lib.hid ((HE.out.trans (first_hit _ k HK.out (by simp [rowF, hb]) n hlt)).trans (show rowF M part lo hi k = ⟨5, part, k, 1⟩ by simp [rowF, hb]))
          have HB := Lib.hid hb; clear hb
          generalize M k = x at m1 HB
          go_wp2_with fail
          refine (rng_any _ x lo hi _ HB.out).mono ?_
          rintro _ _ ⟨rfl, rfl⟩
          go_wp2
          rw [fault_eq HX.out]
          refine bodyPost_ret (v := .agg #[.int .i64 5, .int .i64 part, .int .i64 k, .int .i64 1]) (results_cell_row rfl _ _ w.heap.size 33 _ (0, 0) _ (by rfl) (heapAt_alloc_new w _) Try.underlying33 rfl info33) rfl ⟨rfl, Grow.alloc _ _⟩
        · have HX := Lib.hid (show ∀ j, j < k + 1 → rowF M part lo hi j = okF from fun j hj => by
            rcases Nat.lt_succ_iff_lt_or_eq.1 hj with h | h
            · exact HK.out j h
            · rw [h]; simp [rowF, hb])
          have HB := Lib.hid hb; clear hb
          generalize M k = x at m1 HB
          go_wp2_with fail
          refine (rng_any _ x lo hi _ HB.out).mono ?_
          rintro _ _ ⟨rfl, rfl⟩
          go_wp2_with fail
          go_roundw
          case rel => exact ⟨k + 1, by omega, by go_num, HX.out, trivial⟩
          case measure => simp [intOf]; omega
      · have kn : ¬ (k : Int) < (n : Int) := by omega
        have HX := Lib.hid (HE.out.trans (first_none _ n (fun j hj => HK.out j (by omega))))
        go_wp2
        rw [HX.out]
        refine bodyPost_ret (v := .agg (faultC okF)) (results_cell_row rfl _ _ w.heap.size 33 _ (0, 0) _ (by rfl) (heapAt_alloc_new w _) Try.underlying33 rfl info33) rfl ⟨rfl, Grow.alloc _ _⟩
set_option maxHeartbeats 2000000 in
theorem refRow_any (w : World) (A : Option Addr) (n c : Nat) (M : Nat → Int) (part lo hi : Int) (hM : MemAt w A n M) :
    Calls Try.prog 22 #[.slice A n c, .int .i64 part, .int .i64 lo, .int .i64 hi] w fun r w' => r = .returned (.agg (faultC (rowP n M part lo hi))) ∧ Grow w w' := by
  by_cases hn : 32 < n
  · have hn' : (n : Int) > 32 := by omega
    have hn2 : (32 : Int) < n := by omega
    rw [fault_eq (show rowP n M part lo hi = ⟨4, part, 0, 0⟩ by simp [rowP, hn])]
    clear hM
    have hG := Grow.alloc w (.cells zeroF 33)
    have hO := heapAt_alloc_new w (.cells zeroF 33)
    go_enter Try.func22, Try.ntmps22
    go_wp2_with fail
    generalize w.alloc (.cells zeroF 33) = w1 at hG hO ⊢
    refine (fault_any _ 4 part 0 0).mono ?_
    rintro _ w2 ⟨rfl, hg⟩
    have HG := Lib.hid (hG.trans hg)
    have HO := Lib.hid (hg.at hO)
    clear hG hO hg
    go_wp2_with (first
      | ((with_reducible refine store33 rfl _ _ rfl w.heap.size 4 part 0 0 ?_ ?_ HO.out ?_); (· rfl); (· rfl); intro w3 hb2 ho2))
    refine bodyPost_ret (v := .agg #[.int .i64 4, .int .i64 part, .int .i64 0, .int .i64 0]) (results_cell_row rfl _ _ w.heap.size 33 _ (0, 0) _ (by rfl) hb2 Try.underlying33 rfl info33) rfl ⟨rfl, HG.out.only ho2 (Nat.le_refl _)⟩
  · have hn' : ¬ (n : Int) > 32 := by omega
    have hn2 : ¬ (32 : Int) < n := by omega
    have HM := Lib.hid hM; clear hM
    have HE := Lib.hid (show rowP n M part lo hi = firstF (rowF M part lo hi) n by simp [rowP, hn])
    go_enter Try.func22, Try.ntmps22
    go_wp2_with fail
    go_loopw [9] (fun i wr => ∃ k : Nat, k ≤ n ∧ i = .int .i64 k ∧ (∀ j, j < k → rowF M part lo hi j = okF) ∧ wr = w.alloc (.cells zeroF 33)) (fun i _ => n - (intOf i).toNat)
    case atStart => exact ⟨0, by omega, rfl, fun j hj => by omega, rfl⟩
    case round =>
      obtain ⟨k, hk, rfl, he, rfl⟩ := hrel
      have HK := Lib.hid he; clear he
      by_cases hlt : k < n
      · obtain ⟨a1, hA1, hm1⟩ := (HM.out.grow (Grow.alloc w (.cells zeroF 33))) (by omega)
        have m1 := hm1 k hlt
        rw [hA1]
        clear hm1 hA1
        have k0 : (0 : Int) ≤ (k : Int) := by omega
        have kn : (k : Int) < (n : Int) := by omega
        cases hb : inB (M k) lo hi
        · have HX := Lib.hid ((HE.out.trans (first_hit _ k HK.out (by simp [rowF, hb]) n hlt)).trans (show rowF M part lo hi k = ⟨5, part, k, 1⟩ by simp [rowF, hb]))
          have HB := Lib.hid (show (!inB (M k) lo hi) = true by rw [hb]; rfl); clear hb
          generalize M k = x at m1 HB
          have hG := Grow.alloc w (.cells zeroF 33)
          have hO := heapAt_alloc_new w (.cells zeroF 33)
          go_wp2_with fail
          refine (outr_any _ x lo hi _ HB.out).mono ?_
          rintro _ _ ⟨rfl, rfl⟩
          clear m1
          generalize w.alloc (.cells zeroF 33) = w1 at hG hO ⊢
          go_wp2_with fail
          refine (fault_any _ 5 part k 1).mono ?_
          rintro _ w2 ⟨rfl, hg⟩
          have HG := Lib.hid (hG.trans hg)
          have HO := Lib.hid (hg.at hO)
          clear hG hO hg
          go_wp2_with (first
            | ((with_reducible refine store33 rfl _ _ rfl w.heap.size 5 part k 1 ?_ ?_ HO.out ?_); (· rfl); (· rfl); intro w3 hb2 ho2))
          rw [fault_eq HX.out]
          refine bodyPost_ret (v := .agg #[.int .i64 5, .int .i64 part, .int .i64 k, .int .i64 1]) (results_cell_row rfl _ _ w.heap.size 33 _ (0, 0) _ (by rfl) hb2 Try.underlying33 rfl info33) rfl ⟨rfl, HG.out.only ho2 (Nat.le_refl _)⟩
        · have HX := Lib.hid (show ∀ j, j < k + 1 → rowF M part lo hi j = okF from fun j hj => by
            rcases Nat.lt_succ_iff_lt_or_eq.1 hj with h | h
            · exact HK.out j h
            · rw [h]; simp [rowF, hb])
          have HB := Lib.hid (show (!inB (M k) lo hi) = false by rw [hb]; rfl); clear hb
          generalize M k = x at m1 HB
          go_wp2_with fail
          refine (outr_any _ x lo hi _ HB.out).mono ?_
          rintro _ _ ⟨rfl, rfl⟩
          go_wp2_with fail
          go_roundw
          case rel => exact ⟨k + 1, by omega, by go_num, HX.out, trivial⟩
          case measure => simp [intOf]; omega
      · have kn : ¬ (k : Int) < (n : Int) := by omega
        have HX := Lib.hid (HE.out.trans (first_none _ n (fun j hj => HK.out j (by omega))))
        go_wp2
        rw [HX.out]
        refine bodyPost_ret (v := .agg (faultC okF)) (results_cell_row rfl _ _ w.heap.size 33 _ (0, 0) _ (by rfl) (heapAt_alloc_new w _) Try.underlying33 rfl info33) rfl ⟨rfl, Grow.alloc _ _⟩
end Go.Proofs.Ytmmbhjomgpnklaa
