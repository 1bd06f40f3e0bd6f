/- The walk of CpuKeeps. -/
import Derived.Test.YtkjacmnocbdghaaLawA
namespace Go.Proofs.Ytkjacmnocbdghaa
open Go.RowKit
set_option linter.unusedVariables false
/-- How many differ. -/
def diff (f g : Nat → BitVec 32) : Nat → Nat
  | 0 => 0
  | k + 1 => diff f g k + if f k = g k then 0 else 1
theorem diff_step (f g : Nat → BitVec 32) (k : Nat) : diff f g (k + 1) = diff f g k + if f k = g k then 0 else 1 := rfl
theorem diff_le (f g : Nat → BitVec 32) : ∀ k, diff f g k ≤ k
  | 0 => Nat.le_refl _
  | k + 1 => by have := diff_le f g k; rw [diff]; split <;> omega
theorem diff_same (f g : Nat → BitVec 32) (h : ∀ j, f j = g j) : ∀ k, diff f g k = 0
  | 0 => rfl
  | k + 1 => by rw [diff, diff_same f g h k, if_pos (h k)]
theorem diff_one (f g : Nat → BitVec 32) (q : Nat) (h : ∀ j, j ≠ q → f j = g j) : ∀ k, diff f g k ≤ 1 ∧ (k ≤ q → diff f g k = 0)
  | 0 => ⟨by simp [diff], fun _ => rfl⟩
  | k + 1 => by
    have ih := diff_one f g q h k
    rw [diff]
    by_cases e : k = q
    · subst e
      have := ih.2 (Nat.le_refl _)
      refine ⟨by split <;> omega, fun h => by omega⟩
    · rw [if_pos (h k e)]
      exact ⟨ih.1, fun hk => ih.2 (by omega)⟩
section
attribute [local irreducible] hasA hasB hasC hasD hasK bitsOf regP hasStr letter formP bad4 bad6 bad8 bad10 valW valE words
theorem stepP_ways {at_ : Int} {R M : Nat → BitVec 32} {n : Nat} {op a b c d : Int} {k : BitVec 32} :
    ((stepP at_ R M n op a b c d k).M = M ∧ (stepP at_ R M n op a b c d k).R = R) ∨ (¬ (20 < op ∨ formP op a b c d k.toNat ≠ 0) ∧ (stepP at_ R M n op a b c d k).M = M ∧ ∃ v, (stepP at_ R M n op a b c d k).R = upd R a.toNat v) ∨ (op = 16 ∧ (stepP at_ R M n op a b c d k).R = R ∧ ∃ q v, (stepP at_ R M n op a b c d k).M = upd M q v) := by
  generalize hx : stepP at_ R M n op a b c d k = x
  unfold stepP at hx
  repeat' (split at hx)
  all_goals subst hx
  all_goals first
    | exact .inl ⟨rfl, rfl⟩
    | exact .inr (.inl ⟨by assumption, rfl, _, rfl⟩)
    | exact .inr (.inr ⟨by assumption, rfl, _, _, rfl⟩)
end
theorem stepP_keeps (at_ : Int) (R M : Nat → BitVec 32) (n : Nat) (op a b c d : Int) (k : BitVec 32) (s : CS) (hs : stepP at_ R M n op a b c d k = s) :
    (∀ j : Nat, j < 8 → s.R j ≠ R j → (j : Int) = a) ∧ diff s.R R 8 + diff s.M M n ≤ 1 ∧ (diff s.M M n = 0 ∨ op = 16) := by
  rcases stepP_ways (at_ := at_) (R := R) (M := M) (n := n) (op := op) (a := a) (b := b) (c := c) (d := d) (k := k) with ⟨h1, h2⟩ | ⟨hf, h1, v, h2⟩ | ⟨ho, h1, q, v, h2⟩ <;> rw [hs] at h1 h2
  · rw [h1, h2, diff_same R R (fun _ => rfl), diff_same M M (fun _ => rfl)]
    exact ⟨fun j _ h => absurd rfl h, by omega, .inl rfl⟩
  · obtain ⟨⟨ha0, ha⟩, _⟩ := form_regs op a b c d k.toNat (Classical.byContradiction fun h => hf (.inr h))
    obtain ⟨ia, rfl⟩ := Int.eq_ofNat_of_zero_le ha0
    have h3 : ∀ j, j ≠ ia → s.R j = R j := fun j hj => by rw [h2]; exact upd_other _ _ _ _ hj
    rw [h1, diff_same M M (fun _ => rfl)]
    refine ⟨fun j _ h => ?_, ?_, .inl rfl⟩
    · exact Classical.byContradiction fun hne => h (h3 j (by omega))
    · have := (diff_one s.R R ia h3 8).1; omega
  · have h3 : ∀ j, j ≠ q → s.M j = M j := fun j hj => by rw [h2]; exact upd_other _ _ _ _ hj
    rw [h1, diff_same R R (fun _ => rfl)]
    refine ⟨fun j _ h => absurd rfl h, ?_, .inr ho⟩
    have := (diff_one s.M M q h3 n).1; omega
attribute [local irreducible] hasA hasB hasC hasD hasK bitsOf regP hasStr letter formP bad4 bad6 bad8 bad10 ctxCells regArr valW valE words upd stepP goS runP diff
theorem word_ne (x y : BitVec 32) (h : x ≠ y) : ((x.toNat : Int) != (y.toNat : Int)) = true := by
  rw [bne_iff_ne]; intro e; exact h (BitVec.eq_of_toNat_eq (by omega))
set_option maxRecDepth 100000 in
set_option maxHeartbeats 1000000 in
theorem cpuKeeps_great (at_ : Int) (R : Nat → BitVec 32) (A : Option Addr) (n cap : Nat) (op a b c d : Int) (k : BitVec 32) (w : World) (hgr : 300 < (n : Int) ∨ at_ < 0 ∨ 1099511627776 < at_) :
    Calls Try.prog 4 #[.agg (ctxCells at_ R (.slice A n cap)), .agg #[.int .i64 op, .int .i64 a, .int .i64 b, .int .i64 c, .int .i64 d, .int .u32 k.toNat]] w fun e w' => e = .returned (.bool true) ∧ Below w.heap.size w w' := by
  have hX := heap_alloc2_old w (.cells (ctxCells at_ R (.slice A n cap)) 26) (.cells #[.int .i64 op, .int .i64 a, .int .i64 b, .int .i64 c, .int .i64 d, .int .u32 k.toNat] 28)
  have hG : Grow w ((w.alloc (.cells (ctxCells at_ R (.slice A n cap)) 26)).alloc (.cells #[.int .i64 op, .int .i64 a, .int .i64 b, .int .i64 c, .int .i64 d, .int .u32 k.toNat] 28)) := (Grow.alloc w _).trans (Grow.alloc _ _)
  go_enter Try.func4, Try.ntmps4
  go_wp2_with fail
  generalize (w.alloc (.cells (ctxCells at_ R (.slice A n cap)) 26)).alloc (.cells #[.int .i64 op, .int .i64 a, .int .i64 b, .int .i64 c, .int .i64 d, .int .u32 k.toNat] 28) = w1 at hX hG ⊢
  refine (awake_any _).mono ?_
  rintro e w2 ⟨rfl, hg⟩
  replace hX := hg.at hX
  replace hG := hG.trans hg
  have HG := Lib.hid hG; clear hg hG
  have HX := Lib.hid hX; clear hX
  have HINF := Lib.hid (info26c at_ R (.slice A n cap))
  have HGR := Lib.hid hgr; clear hgr
  go_wp2_with (first | ((with_reducible refine wpList_load_blk_if ?_ 26 (.tmp 2) rfl w.heap.size 26 (ctxCells at_ R (.slice A n cap)) _ ?_ HX.out Try.underlying26 ?_ HINF.out ?_); (· rfl); (· rfl); (· rfl)))
  refine (great_yes _ at_ R A n cap HGR.out).mono ?_
  rintro e w3 ⟨rfl, hg⟩
  replace HG := Lib.hid (HG.out.trans hg)
  clear hg
  go_wp2_with fail
  refine (awake_any _).mono ?_
  rintro e w4 ⟨rfl, hg⟩
  replace HG := Lib.hid (HG.out.trans hg)
  clear hg
  go_wp2
  go_ret
  exact ⟨rfl, HG.out⟩
set_option maxRecDepth 100000 in
set_option maxHeartbeats 1000000 in
theorem cpuKeeps_ok (at_ : Int) (R M : Nat → BitVec 32) (A : Option Addr) (n cap : Nat) (op a b c d : Int) (k : BitVec 32) (w : World) (hcap : (n : Int) ≤ cap) (hM : MemAt w A n M) (hn : (n : Int) ≤ 300) (h0 : 0 ≤ at_) (h1 : at_ ≤ 1099511627776) (hok : (stepP at_ R M n op a b c d k).err = 0) :
    Calls Try.prog 4 #[.agg (ctxCells at_ R (.slice A n cap)), .agg #[.int .i64 op, .int .i64 a, .int .i64 b, .int .i64 c, .int .i64 d, .int .u32 k.toNat]] w fun e w' => e = .returned (.bool true) ∧ Below w.heap.size w w' := by
  have hX := heap_alloc2_old w (.cells (ctxCells at_ R (.slice A n cap)) 26) (.cells #[.int .i64 op, .int .i64 a, .int .i64 b, .int .i64 c, .int .i64 d, .int .u32 k.toNat] 28)
  have hY := heap_alloc2_new w (.cells (ctxCells at_ R (.slice A n cap)) 26) (.cells #[.int .i64 op, .int .i64 a, .int .i64 b, .int .i64 c, .int .i64 d, .int .u32 k.toNat] 28)
  have hG : Grow w ((w.alloc (.cells (ctxCells at_ R (.slice A n cap)) 26)).alloc (.cells #[.int .i64 op, .int .i64 a, .int .i64 b, .int .i64 c, .int .i64 d, .int .u32 k.toNat] 28)) := (Grow.alloc w _).trans (Grow.alloc _ _)
  go_enter Try.func4, Try.ntmps4
  go_wp2_with fail
  generalize (w.alloc (.cells (ctxCells at_ R (.slice A n cap)) 26)).alloc (.cells #[.int .i64 op, .int .i64 a, .int .i64 b, .int .i64 c, .int .i64 d, .int .u32 k.toNat] 28) = w1 at hX hY hG ⊢
  refine (awake_any _).mono ?_
  rintro e w2 ⟨rfl, hg⟩
  replace hX := hg.at hX
  replace hY := hg.at hY
  replace hG := hG.trans hg
  have HG := Lib.hid hG; clear hg hG
  have HX := Lib.hid hX; clear hX
  have HY := Lib.hid hY; clear hY
  have HINF := Lib.hid (info26c at_ R (.slice A n cap))
  go_wp2_with (first | ((with_reducible refine wpList_load_blk_if ?_ 26 (.tmp 2) rfl w.heap.size 26 (ctxCells at_ R (.slice A n cap)) _ ?_ HX.out Try.underlying26 ?_ HINF.out ?_); (· rfl); (· rfl); (· rfl)))
  refine (great_no _ at_ R A n cap hn h0 h1).mono ?_
  rintro e w3 ⟨rfl, hg⟩
  replace HX := Lib.hid (hg.at HX.out)
  replace HY := Lib.hid (hg.at HY.out)
  replace HG := Lib.hid (HG.out.trans hg)
  clear hg
  go_wp2_with (first | ((with_reducible refine wpList_load_blk_if ?_ 26 (.tmp 2) rfl w.heap.size 26 (ctxCells at_ R (.slice A n cap)) _ ?_ HX.out Try.underlying26 ?_ HINF.out ?_); (· rfl); (· rfl); (· rfl)))
  refine (copy_new _ at_ R A n cap M hn hcap (hM.grow HG.out)).mono ?_
  rintro e w4 ⟨A1, cap1, rfl, hown, hcap1, hg, hold1⟩
  have HY0 := HY
  have HOLD1 := Lib.hid hold1; clear hold1
  have hs10_w4 : (#[.int .i64 0, .int .u32 0, .int .u32 0, .int .u32 0, .int .u32 0, .int .u32 0, .int .u32 0, .int .u32 0, .int .u32 0, .slice none 0 0] : Array Value).size = (ctxCells at_ R (.slice A1 n cap1)).size := by rw [ctxCells_size]; rfl
  have HN_w4 := Lib.hid (heapAt_alloc_new w4 (.cells #[.int .i64 0, .int .u32 0, .int .u32 0, .int .u32 0, .int .u32 0, .int .u32 0, .int .u32 0, .int .u32 0, .int .u32 0, .slice none 0 0] 26))
  have HS_w4 := Lib.hid hs10_w4
  have HI_w4 := Lib.hid (info26c at_ R (.slice A1 n cap1))
  have HO_w4 := Lib.hid (ctx_one at_ R (.slice A1 n cap1) rfl)
  clear hs10_w4
  go_wp2_with ((with_reducible refine wpList_store_blk rfl 26 (.tmp 5) (.tmp 19) rfl w4.heap.size 26 _ (ctxCells at_ R (.slice A1 n cap1)) ?kx ?ky HN_w4.out HS_w4.out HI_w4.out HO_w4.out ?kk))
  case kx => rfl
  case ky => rfl
  case kk =>
  intro w5 hb5 ho5
  clear HN_w4 HS_w4 HI_w4 HO_w4
  obtain ⟨hst5, hg2⟩ := st_made hown hg.size _ hb5 ho5

  replace HX := Lib.hid (hg2.at (hg.at HX.out))
  replace HY := Lib.hid (hg2.at (hg.at HY.out))
  replace HG := Lib.hid (HG.out.trans (hg.trans hg2))
  have HB := Lib.hid (show w.heap.size + 1 < w3.heap.size ∧ w3.heap.size ≤ w4.heap.size from ⟨heapAt_lt HY0.out, hg.size⟩)
  clear hg hg2 hb5 ho5 hown HY0
  have hS := hst5
  clear hst5
  have c0 := cell_block HY.out 0
  have c1 := cell_block HY.out 1
  have c2 := cell_block HY.out 2
  have c3 := cell_block HY.out 3
  have c4 := cell_block HY.out 4
  have c5 := cell_block HY.out 5
  go_wp2_with fail
  have h2e : at_ ≤ 2000000000000 := by omega
  refine (do_any _ w3.heap.size w4.heap.size n cap1 at_ R M A1 op a b c d k hn hcap1 h0 h2e hS).mono ?_
  generalize hs : stepP at_ R M n op a b c d k = s
  rintro e w6 ⟨rfl, hS6, hk⟩
  clear hS c0 c1 c2 c3 c4 c5
  have hX6 := hk.at (mine_old HB.out.2 HOLD1.out (by have := HB.out; omega)) HX.out
  have hY6 := hk.at (mine_old HB.out.2 HOLD1.out (by have := HB.out; omega)) HY.out
  have hG6 := kept_grow hk HG.out (Nat.le_of_lt (by have := HB.out; omega)) HB.out.2 HOLD1.out
  clear hk HX HY HG
  have HX := Lib.hid hX6; clear hX6
  have HY := Lib.hid hY6; clear hY6
  have HG := Lib.hid hG6; clear hG6
  have HS := Lib.hid hS6; clear hS6
  obtain ⟨hka, hkd, hko⟩ := stepP_keeps at_ R M n op a b c d k s hs
  have x9 := CtxAt.c9 HX.out
  have y9 := HS.out.1.c9
  rw [hs] at hok
  rw [hok]
  have HOK := Lib.hid hok; clear hok
  have HMX := Lib.hid (hM.grow HG.out)
  go_wp2_with fail
  generalize hw0 : w6 = wq at HX HY HG HS HMX ⊢
  clear x9 y9
  have HKA := Lib.hid hka; clear hka
  have HKD := Lib.hid hkd; clear hkd
  have HKO := Lib.hid hko; clear hko
  have HSE := Lib.hid hs; clear hs
  generalize hB1 : w.heap.size = xb at *
  generalize hB2 : w4.heap.size = yb at *
  have HBB := Lib.hid HB; clear HB
  go_loopw [39, 7] (fun i r wr => ∃ k : Nat, k ≤ 8 ∧ i = .int .i64 k ∧ r = .int .i64 (diff s.R R k) ∧ Grow wq wr) (fun i _ _ => 8 - (intOf i).toNat)
  case atStart => exact ⟨0, by omega, rfl, by simp [diff], Grow.refl _⟩
  case round =>
    obtain ⟨j, hj, rfl, rfl, hg⟩ := hrel
    have HGr := Lib.hid hg; clear hg
    by_cases hlt : j < 8
    · have k0 : (0 : Int) ≤ (j : Int) := by omega
      have k8 : (j : Int) < 8 := by omega
      have rx := CtxAt.reg (CtxAt.grow HX.out HGr.out) j hlt
      have ry := (HS.out.1.grow HGr.out).reg j hlt
      obtain ⟨e, he⟩ : ∃ e, e = diff s.R R j := ⟨_, rfl⟩
      have he8 : (e : Int) ≤ 8 := by have := diff_le s.R R j; omega
      by_cases hne : s.R j = R j
      · rw [hne] at ry
        have hd : diff s.R R (j + 1) = e := by rw [he, diff_step, if_pos hne]; rfl
        rw [← he]
        have HD := Lib.hid hd; clear hd he hne
        go_wp2_with fail
        go_quiet (fail)
        have HG2 := Lib.hid (HGr.out.trans (Grow.drewN wr nq))
        go_wp2_with fail
        go_roundw
        case rel => exact ⟨j + 1, by omega, by go_num, by rw [HD.out], HG2.out⟩
        case measure => simp [intOf]; omega
      · have hd : diff s.R R (j + 1) = e + 1 := by rw [he, diff_step, if_neg hne]
        have HJA := Lib.hid (HKA.out j hlt hne)
        rw [← he]
        have HD := Lib.hid hd; clear hd he
        have hb := word_ne _ _ hne
        have HNE := Lib.hid hne; clear hne
        generalize (s.R j).toNat = u at *
        generalize (R j).toNat = v at *
        go_wp2_with fail
        go_quiet (fail)
        have HG2 := Lib.hid (HGr.out.trans (Grow.drewN wr nq))
        have z1 := cell_block (Grow.at (HGr.out.trans (Grow.drewN wr nq)) HY.out) 1
        have hja2 : ((j : Int) != a) = false := by simp [HJA.out]
        go_wp2_with fail
        go_roundw
        case rel => exact ⟨j + 1, by omega, by go_num, by rw [HD.out]; go_num, HG2.out⟩
        case measure => simp [intOf]; omega
    · have hj8 : j = 8 := by omega
      have j8 : ¬ (j : Int) < 8 := by omega
      have HDJ := Lib.hid (show diff s.R R j + diff s.M M n ≤ 1 from by rw [hj8]; exact HKD.out)
      have HMX2 := Lib.hid (HMX.out.grow HGr.out)
      have HX2 := Lib.hid (show CtxAt wr xb at_ R (.slice A n cap) from CtxAt.grow HX.out HGr.out)
      have HS2 := Lib.hid (HS.out.grow HGr.out)
      have HY2 := Lib.hid (HGr.out.at HY.out)
      have HG2 := Lib.hid (HG.out.trans HGr.out)
      clear HX HY HS HMX HG HGr HKD HKA hj8
      obtain ⟨e, he⟩ : ∃ e, e = diff s.R R j := ⟨_, rfl⟩
      rw [← he] at HDJ ⊢
      have he8 : (e : Int) ≤ 1 := by have := HDJ.out; omega
      clear he
      have y9 := HS2.out.1.c9
      go_wp2_with fail
      clear y9
      go_loopw [61, 8] (fun i r wv => ∃ k : Nat, k ≤ n ∧ i = .int .i64 k ∧ r = .int .i64 (diff s.M M k) ∧ Grow wr wv) (fun i _ _ => n - (intOf i).toNat)
      case atStart => exact ⟨0, by omega, rfl, by simp [diff], Grow.refl _⟩
      case round =>
        obtain ⟨q, hq, rfl, rfl, hg⟩ := hrel
        have HGq := Lib.hid hg; clear hg
        by_cases hlt : q < n
        · have k0 : (0 : Int) ≤ (q : Int) := by omega
          have k8 : (q : Int) < n := by omega
          obtain ⟨a1, hA1, hm1⟩ := (HMX2.out.grow HGq.out) (by omega)
          obtain ⟨a2, hA2, hm2⟩ := (HS2.out.2.1.at.grow HGq.out) (by omega)
          have m1 := hm1 q hlt
          have m2 := hm2 q hlt
          have x9 := (HX2.out.grow HGq.out).c9
          have y9 := (HS2.out.1.grow HGq.out).c9
          rw [hA1] at x9
          rw [hA2] at y9
          clear hm1 hm2 hA1 hA2
          obtain ⟨f, hf⟩ : ∃ f, f = diff s.M M q := ⟨_, rfl⟩
          have hf8 : (f : Int) ≤ 300 := by have := diff_le s.M M q; omega
          by_cases hne : s.M q = M q
          · rw [hne] at m2
            have hd : diff s.M M (q + 1) = f := by rw [hf, diff_step, if_pos hne]; rfl
            rw [← hf]
            have HD := Lib.hid hd; clear hd hf hne
            go_wp2_with fail
            go_quiet (fail)
            have HG3 := Lib.hid (HGq.out.trans (Grow.drewN wr nq))
            go_wp2_with fail
            go_roundw
            case rel => exact ⟨q + 1, by omega, by go_num, by rw [HD.out], HG3.out⟩
            case measure => simp [intOf]; omega
          · have hd : diff s.M M (q + 1) = f + 1 := by rw [hf, diff_step, if_neg hne]
            rw [← hf]
            have HD := Lib.hid hd; clear hd hf
            have hb := word_ne _ _ hne
            clear hne
            generalize (s.M q).toNat = u at *
            generalize (M q).toNat = v at *
            go_wp2_with fail
            go_quiet (fail)
            have HG3 := Lib.hid (HGq.out.trans (Grow.drewN wr nq))
            go_wp2_with fail
            go_roundw
            case rel => exact ⟨q + 1, by omega, by go_num, by rw [HD.out]; go_num, HG3.out⟩
            case measure => simp [intOf]; omega
        · have hqn : q = n := by omega
          have j9 : ¬ (q : Int) < n := by omega
          rw [← hqn] at HDJ HKO
          obtain ⟨f, hf⟩ : ∃ f, f = diff s.M M q := ⟨_, rfl⟩
          rw [← hf] at HDJ HKO ⊢
          clear hf
          have hsum : (e : Int) + (f : Int) ≤ 1 := by have := HDJ.out; omega
          have f0 : (0 : Int) ≤ f := by omega
          have e0 : (0 : Int) ≤ e := by omega
          have f1 : (f : Int) ≤ 1 := by omega
          have z0 := cell_block (HGq.out.at HY2.out) 0
          by_cases hf0 : f = 0
          · subst hf0
            go_wp2
            go_ret
            exact ⟨ret_bool (by simp), by rw [← hB1]; exact HG2.out.trans HGq.out⟩
          · have hop : op = 16 := by rcases HKO.out with h | h; exact absurd h hf0; exact h
            rw [hop] at z0
            have hfb : ((f : Int) == 0) = false := by simp; omega
            go_wp2
            go_ret
            exact ⟨rfl, by rw [← hB1]; exact HG2.out.trans HGq.out⟩
set_option maxRecDepth 100000 in
set_option maxHeartbeats 1000000 in
theorem cpuKeeps_bad (at_ : Int) (R M : Nat → BitVec 32) (A : Option Addr) (n cap : Nat) (op a b c d : Int) (k : BitVec 32) (w : World) (hcap : (n : Int) ≤ cap) (hM : MemAt w A n M) (hn : (n : Int) ≤ 300) (h0 : 0 ≤ at_) (h1 : at_ ≤ 1099511627776) (hok : (stepP at_ R M n op a b c d k).err ≠ 0) :
    Calls Try.prog 4 #[.agg (ctxCells at_ R (.slice A n cap)), .agg #[.int .i64 op, .int .i64 a, .int .i64 b, .int .i64 c, .int .i64 d, .int .u32 k.toNat]] w fun e w' => e = .returned (.bool true) ∧ Below w.heap.size w w' := by
  have hX := heap_alloc2_old w (.cells (ctxCells at_ R (.slice A n cap)) 26) (.cells #[.int .i64 op, .int .i64 a, .int .i64 b, .int .i64 c, .int .i64 d, .int .u32 k.toNat] 28)
  have hY := heap_alloc2_new w (.cells (ctxCells at_ R (.slice A n cap)) 26) (.cells #[.int .i64 op, .int .i64 a, .int .i64 b, .int .i64 c, .int .i64 d, .int .u32 k.toNat] 28)
  have hG : Grow w ((w.alloc (.cells (ctxCells at_ R (.slice A n cap)) 26)).alloc (.cells #[.int .i64 op, .int .i64 a, .int .i64 b, .int .i64 c, .int .i64 d, .int .u32 k.toNat] 28)) := (Grow.alloc w _).trans (Grow.alloc _ _)
  go_enter Try.func4, Try.ntmps4
  go_wp2_with fail
  generalize (w.alloc (.cells (ctxCells at_ R (.slice A n cap)) 26)).alloc (.cells #[.int .i64 op, .int .i64 a, .int .i64 b, .int .i64 c, .int .i64 d, .int .u32 k.toNat] 28) = w1 at hX hY hG ⊢
  refine (awake_any _).mono ?_
  rintro e w2 ⟨rfl, hg⟩
  replace hX := hg.at hX
  replace hY := hg.at hY
  replace hG := hG.trans hg
  have HG := Lib.hid hG; clear hg hG
  have HX := Lib.hid hX; clear hX
  have HY := Lib.hid hY; clear hY
  have HINF := Lib.hid (info26c at_ R (.slice A n cap))
  go_wp2_with (first | ((with_reducible refine wpList_load_blk_if ?_ 26 (.tmp 2) rfl w.heap.size 26 (ctxCells at_ R (.slice A n cap)) _ ?_ HX.out Try.underlying26 ?_ HINF.out ?_); (· rfl); (· rfl); (· rfl)))
  refine (great_no _ at_ R A n cap hn h0 h1).mono ?_
  rintro e w3 ⟨rfl, hg⟩
  replace HX := Lib.hid (hg.at HX.out)
  replace HY := Lib.hid (hg.at HY.out)
  replace HG := Lib.hid (HG.out.trans hg)
  clear hg
  go_wp2_with (first | ((with_reducible refine wpList_load_blk_if ?_ 26 (.tmp 2) rfl w.heap.size 26 (ctxCells at_ R (.slice A n cap)) _ ?_ HX.out Try.underlying26 ?_ HINF.out ?_); (· rfl); (· rfl); (· rfl)))
  refine (copy_new _ at_ R A n cap M hn hcap (hM.grow HG.out)).mono ?_
  rintro e w4 ⟨A1, cap1, rfl, hown, hcap1, hg, hold1⟩
  have HY0 := HY
  have HOLD1 := Lib.hid hold1; clear hold1
  have hs10_w4 : (#[.int .i64 0, .int .u32 0, .int .u32 0, .int .u32 0, .int .u32 0, .int .u32 0, .int .u32 0, .int .u32 0, .int .u32 0, .slice none 0 0] : Array Value).size = (ctxCells at_ R (.slice A1 n cap1)).size := by rw [ctxCells_size]; rfl
  have HN_w4 := Lib.hid (heapAt_alloc_new w4 (.cells #[.int .i64 0, .int .u32 0, .int .u32 0, .int .u32 0, .int .u32 0, .int .u32 0, .int .u32 0, .int .u32 0, .int .u32 0, .slice none 0 0] 26))
  have HS_w4 := Lib.hid hs10_w4
  have HI_w4 := Lib.hid (info26c at_ R (.slice A1 n cap1))
  have HO_w4 := Lib.hid (ctx_one at_ R (.slice A1 n cap1) rfl)
  clear hs10_w4
  go_wp2_with ((with_reducible refine wpList_store_blk rfl 26 (.tmp 5) (.tmp 19) rfl w4.heap.size 26 _ (ctxCells at_ R (.slice A1 n cap1)) ?kx ?ky HN_w4.out HS_w4.out HI_w4.out HO_w4.out ?kk))
  case kx => rfl
  case ky => rfl
  case kk =>
  intro w5 hb5 ho5
  clear HN_w4 HS_w4 HI_w4 HO_w4
  obtain ⟨hst5, hg2⟩ := st_made hown hg.size _ hb5 ho5

  replace HX := Lib.hid (hg2.at (hg.at HX.out))
  replace HY := Lib.hid (hg2.at (hg.at HY.out))
  replace HG := Lib.hid (HG.out.trans (hg.trans hg2))
  have HB := Lib.hid (show w.heap.size + 1 < w3.heap.size ∧ w3.heap.size ≤ w4.heap.size from ⟨heapAt_lt HY0.out, hg.size⟩)
  clear hg hg2 hb5 ho5 hown HY0
  have hS := hst5
  clear hst5
  have c0 := cell_block HY.out 0
  have c1 := cell_block HY.out 1
  have c2 := cell_block HY.out 2
  have c3 := cell_block HY.out 3
  have c4 := cell_block HY.out 4
  have c5 := cell_block HY.out 5
  go_wp2_with fail
  have h2e : at_ ≤ 2000000000000 := by omega
  refine (do_any _ w3.heap.size w4.heap.size n cap1 at_ R M A1 op a b c d k hn hcap1 h0 h2e hS).mono ?_
  generalize hs : stepP at_ R M n op a b c d k = s
  rintro e w6 ⟨rfl, hS6, hk⟩
  clear hS c0 c1 c2 c3 c4 c5
  have hX6 := hk.at (mine_old HB.out.2 HOLD1.out (by have := HB.out; omega)) HX.out
  have hY6 := hk.at (mine_old HB.out.2 HOLD1.out (by have := HB.out; omega)) HY.out
  have hG6 := kept_grow hk HG.out (Nat.le_of_lt (by have := HB.out; omega)) HB.out.2 HOLD1.out
  clear hk HX HY HG
  have HX := Lib.hid hX6; clear hX6
  have HY := Lib.hid hY6; clear hY6
  have HG := Lib.hid hG6; clear hG6
  have HS := Lib.hid hS6; clear hS6
  obtain ⟨hka, hkd, hko⟩ := stepP_keeps at_ R M n op a b c d k s hs
  have x9 := CtxAt.c9 HX.out
  have y9 := HS.out.1.c9
  obtain ⟨q1, q2, q3⟩ := stepP_bad hok
  rw [hs] at q1 q2 q3 hok
  have HS3 := Lib.hid (show St w6 w3.heap.size w4.heap.size at_ R A1 n cap1 M from by have h := HS.out; rw [q1, q2, q3] at h; exact h)
  have HSY := Lib.hid (show w6.heap[w4.heap.size]? = some (.cells (ctxCells at_ R (.slice A1 n cap1)) 26 (0, 0)) from HS3.out.1)
  have HINF1 := Lib.hid (info26c at_ R (.slice A1 n cap1))
  have hnz : (s.err != 0) = true := by rw [bne_iff_ne]; exact hok
  clear q1 q2 q3 hok
  have HMX0 := Lib.hid (hM.grow HG.out)
  go_wp2_with (first
    | ((with_reducible refine wpList_load_blk_if ?_ 26 (.tmp 2) rfl w.heap.size 26 (ctxCells at_ R (.slice A n cap)) _ ?_ HX.out Try.underlying26 ?_ HINF.out ?_); (· rfl); (· rfl); (· rfl))
    | ((with_reducible refine wpList_load_blk_if ?_ 26 (.tmp 5) rfl w4.heap.size 26 (ctxCells at_ R (.slice A1 n cap1)) _ ?_ HSY.out Try.underlying26 ?_ HINF1.out ?_); (· rfl); (· rfl); (· rfl)))
  refine (same_yes _ at_ R A A1 n cap cap1 M hn hcap hcap1 HMX0.out HS3.out.2.1.at).mono ?_
  rintro e w7 ⟨rfl, hg⟩
  have HMX := Lib.hid (HMX0.out.grow hg)
  replace HX := Lib.hid (hg.at HX.out)
  replace HY := Lib.hid (hg.at HY.out)
  replace HS := Lib.hid (HS.out.grow hg)
  replace HG := Lib.hid (HG.out.trans hg)
  clear hg HS3 HSY HMX0
  go_wp2_with fail
  generalize hw0 : w7 = wq at HX HY HG HS HMX ⊢
  clear x9 y9
  have HKA := Lib.hid hka; clear hka
  have HKD := Lib.hid hkd; clear hkd
  have HKO := Lib.hid hko; clear hko
  have HSE := Lib.hid hs; clear hs
  generalize hB1 : w.heap.size = xb at *
  generalize hB2 : w4.heap.size = yb at *
  have HBB := Lib.hid HB; clear HB
  go_loopw [39, 7] (fun i r wr => ∃ k : Nat, k ≤ 8 ∧ i = .int .i64 k ∧ r = .int .i64 (diff s.R R k) ∧ Grow wq wr) (fun i _ _ => 8 - (intOf i).toNat)
  case atStart => exact ⟨0, by omega, rfl, by simp [diff], Grow.refl _⟩
  case round =>
    obtain ⟨j, hj, rfl, rfl, hg⟩ := hrel
    have HGr := Lib.hid hg; clear hg
    by_cases hlt : j < 8
    · have k0 : (0 : Int) ≤ (j : Int) := by omega
      have k8 : (j : Int) < 8 := by omega
      have rx := CtxAt.reg (CtxAt.grow HX.out HGr.out) j hlt
      have ry := (HS.out.1.grow HGr.out).reg j hlt
      obtain ⟨e, he⟩ : ∃ e, e = diff s.R R j := ⟨_, rfl⟩
      have he8 : (e : Int) ≤ 8 := by have := diff_le s.R R j; omega
      by_cases hne : s.R j = R j
      · rw [hne] at ry
        have hd : diff s.R R (j + 1) = e := by rw [he, diff_step, if_pos hne]; rfl
        rw [← he]
        have HD := Lib.hid hd; clear hd he hne
        go_wp2_with fail
        go_quiet (fail)
        have HG2 := Lib.hid (HGr.out.trans (Grow.drewN wr nq))
        go_wp2_with fail
        go_roundw
        case rel => exact ⟨j + 1, by omega, by go_num, by rw [HD.out], HG2.out⟩
        case measure => simp [intOf]; omega
      · have hd : diff s.R R (j + 1) = e + 1 := by rw [he, diff_step, if_neg hne]
        have HJA := Lib.hid (HKA.out j hlt hne)
        rw [← he]
        have HD := Lib.hid hd; clear hd he
        have hb := word_ne _ _ hne
        have HNE := Lib.hid hne; clear hne
        generalize (s.R j).toNat = u at *
        generalize (R j).toNat = v at *
        go_wp2_with fail
        go_quiet (fail)
        have HG2 := Lib.hid (HGr.out.trans (Grow.drewN wr nq))
        have z1 := cell_block (Grow.at (HGr.out.trans (Grow.drewN wr nq)) HY.out) 1
        have hja2 : ((j : Int) != a) = false := by simp [HJA.out]
        go_wp2_with fail
        go_roundw
        case rel => exact ⟨j + 1, by omega, by go_num, by rw [HD.out]; go_num, HG2.out⟩
        case measure => simp [intOf]; omega
    · have hj8 : j = 8 := by omega
      have j8 : ¬ (j : Int) < 8 := by omega
      have HDJ := Lib.hid (show diff s.R R j + diff s.M M n ≤ 1 from by rw [hj8]; exact HKD.out)
      have HMX2 := Lib.hid (HMX.out.grow HGr.out)
      have HX2 := Lib.hid (show CtxAt wr xb at_ R (.slice A n cap) from CtxAt.grow HX.out HGr.out)
      have HS2 := Lib.hid (HS.out.grow HGr.out)
      have HY2 := Lib.hid (HGr.out.at HY.out)
      have HG2 := Lib.hid (HG.out.trans HGr.out)
      clear HX HY HS HMX HG HGr HKD HKA hj8
      obtain ⟨e, he⟩ : ∃ e, e = diff s.R R j := ⟨_, rfl⟩
      rw [← he] at HDJ ⊢
      have he8 : (e : Int) ≤ 1 := by have := HDJ.out; omega
      clear he
      have y9 := HS2.out.1.c9
      go_wp2_with fail
      clear y9
      go_loopw [61, 8] (fun i r wv => ∃ k : Nat, k ≤ n ∧ i = .int .i64 k ∧ r = .int .i64 (diff s.M M k) ∧ Grow wr wv) (fun i _ _ => n - (intOf i).toNat)
      case atStart => exact ⟨0, by omega, rfl, by simp [diff], Grow.refl _⟩
      case round =>
        obtain ⟨q, hq, rfl, rfl, hg⟩ := hrel
        have HGq := Lib.hid hg; clear hg
        by_cases hlt : q < n
        · have k0 : (0 : Int) ≤ (q : Int) := by omega
          have k8 : (q : Int) < n := by omega
          obtain ⟨a1, hA1, hm1⟩ := (HMX2.out.grow HGq.out) (by omega)
          obtain ⟨a2, hA2, hm2⟩ := (HS2.out.2.1.at.grow HGq.out) (by omega)
          have m1 := hm1 q hlt
          have m2 := hm2 q hlt
          have x9 := (HX2.out.grow HGq.out).c9
          have y9 := (HS2.out.1.grow HGq.out).c9
          rw [hA1] at x9
          rw [hA2] at y9
          clear hm1 hm2 hA1 hA2
          obtain ⟨f, hf⟩ : ∃ f, f = diff s.M M q := ⟨_, rfl⟩
          have hf8 : (f : Int) ≤ 300 := by have := diff_le s.M M q; omega
          by_cases hne : s.M q = M q
          · rw [hne] at m2
            have hd : diff s.M M (q + 1) = f := by rw [hf, diff_step, if_pos hne]; rfl
            rw [← hf]
            have HD := Lib.hid hd; clear hd hf hne
            go_wp2_with fail
            go_quiet (fail)
            have HG3 := Lib.hid (HGq.out.trans (Grow.drewN wr nq))
            go_wp2_with fail
            go_roundw
            case rel => exact ⟨q + 1, by omega, by go_num, by rw [HD.out], HG3.out⟩
            case measure => simp [intOf]; omega
          · have hd : diff s.M M (q + 1) = f + 1 := by rw [hf, diff_step, if_neg hne]
            rw [← hf]
            have HD := Lib.hid hd; clear hd hf
            have hb := word_ne _ _ hne
            clear hne
            generalize (s.M q).toNat = u at *
            generalize (M q).toNat = v at *
            go_wp2_with fail
            go_quiet (fail)
            have HG3 := Lib.hid (HGq.out.trans (Grow.drewN wr nq))
            go_wp2_with fail
            go_roundw
            case rel => exact ⟨q + 1, by omega, by go_num, by rw [HD.out]; go_num, HG3.out⟩
            case measure => simp [intOf]; omega
        · have hqn : q = n := by omega
          have j9 : ¬ (q : Int) < n := by omega
          rw [← hqn] at HDJ HKO
          obtain ⟨f, hf⟩ : ∃ f, f = diff s.M M q := ⟨_, rfl⟩
          rw [← hf] at HDJ HKO ⊢
          clear hf
          have hsum : (e : Int) + (f : Int) ≤ 1 := by have := HDJ.out; omega
          have f0 : (0 : Int) ≤ f := by omega
          have e0 : (0 : Int) ≤ e := by omega
          have f1 : (f : Int) ≤ 1 := by omega
          have z0 := cell_block (HGq.out.at HY2.out) 0
          by_cases hf0 : f = 0
          · subst hf0
            go_wp2
            go_ret
            exact ⟨ret_bool (by simp), by rw [← hB1]; exact HG2.out.trans HGq.out⟩
          · have hop : op = 16 := by rcases HKO.out with h | h; exact absurd h hf0; exact h
            rw [hop] at z0
            have hfb : ((f : Int) == 0) = false := by simp; omega
            go_wp2
            go_ret
            exact ⟨rfl, by rw [← hB1]; exact HG2.out.trans HGq.out⟩

theorem cpuKeeps_walk (at_ : Int) (R M : Nat → BitVec 32) (A : Option Addr) (n cap : Nat) (op a b c d : Int) (k : BitVec 32) (w : World) (hcap : (n : Int) ≤ cap) (hM : MemAt w A n M) (hn : (n : Int) ≤ 300) (h0 : 0 ≤ at_) (h1 : at_ ≤ 1099511627776) :
    Calls Try.prog 4 #[.agg (ctxCells at_ R (.slice A n cap)), .agg #[.int .i64 op, .int .i64 a, .int .i64 b, .int .i64 c, .int .i64 d, .int .u32 k.toNat]] w fun e w' => e = .returned (.bool true) ∧ Below w.heap.size w w' := by
  by_cases h : (stepP at_ R M n op a b c d k).err = 0
  · exact cpuKeeps_ok at_ R M A n cap op a b c d k w hcap hM hn h0 h1 h
  · exact cpuKeeps_bad at_ R M A n cap op a b c d k w hcap hM hn h0 h1 h
end Go.Proofs.Ytkjacmnocbdghaa
