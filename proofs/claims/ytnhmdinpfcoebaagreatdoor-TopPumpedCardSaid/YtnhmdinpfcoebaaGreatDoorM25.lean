/- Texts of the proof, merged: Rec, Rec2, Rec3. -/
import Derived.Test.YtnhmdinpfcoebaaGreatDoorM24
import Derived.Test.YtnhmdinpfcoebaaGreatDoorM03
import Derived.Test.YtnhmdinpfcoebaaGreatDoorM20
import Derived.Deep.RegionHeld3
import Derived.Deep.DrawnRows
/-! === Rec -/
section
/- rec.Recorder: Put, Flush, Close. -/
namespace Go.Proofs.YtnhmdinpfcoebaaGreatDoor
open Go.RowKit
set_option linter.unusedVariables false
set_option linter.unusedSimpArgs false
set_option maxRecDepth 100000

open Go.Lib
attribute [local simp] RelKnown Is
abbrev recC (tb rg m : Nat) (op : Value) (sz : Nat) (la : Top.Ev) (fr : Nat) (cl : Bool) : Array Value := #[.pointer (some ⟨tb, 0, none⟩), .pointer (some ⟨rg, 0, none⟩), .int .i64 m, op, .int .i64 sz, .int .i64 la.kind, .int .u64 la.cycle, .int .u64 la.count, .int .u32 la.a, .int .u32 la.b, .int .u32 la.v, .int .i64 fr, .bool cl]
/-- A recorder lies at x; its open frame has the events L. -/
structure RecAt (w : World) (B x tb rg m : Nat) (op : Value) (L : List Top.Ev) (sz : Nat) (la : Top.Ev) (fr : Nat) (cl : Bool) : Prop where
  bk : w.heap[x]? = some (.cells (recC tb rg m op sz la fr cl) 142 (0, 0))
  o : w.ownsRow B 98 6 op L.length (evsC L)
/-- What Put leaves. -/
def PutOut (w0 : World) (B x tb rg m : Nat) (op : Value) (L : List Top.Ev) (sz : Nat) (la : Top.Ev) (fr : Nat) (w : World) : Prop :=
  ∃ op', RecAt w B x tb rg m op' L sz la fr false ∧ Kp (fun k => k ≠ x ∧ op.ownBlock ≠ some k) w0 w ∧ ∀ k, k < w0.heap.size → op'.ownBlock = some k → op.ownBlock = some k
set_option maxHeartbeats 4000000 in
theorem info41s : (Tryz.prog.info? 41).map (·.size) = some 1 := by kernel_rfl
theorem coilB_pos (e : Top.Ev) (d y : Nat) : 1 ≤ (coilB e d y).length := by
  unfold coilB
  simp only [List.length_append, List.length_singleton]
  omega
set_option maxHeartbeats 8000000 in
theorem rput_keep (w : World) (B x tb rg m sz fr : Nat) (op : Value) (L : List Top.Ev) (la e bef : Top.Ev) (d0 y0 d y : Nat) (h : RecAt w B x tb rg m op L sz la fr false) (hB : B ≤ w.heap.size) (h0 : Step1 la e d0 y0) (hbef : bef = if L.length = 0 then e else la) (h1 : Step1 bef e d y) (hm : m ≤ 120) (hL : L.length ≤ 1000) (hsz : sz + (coilB e d0 y0).length ≤ m) :
    Calls Tryz.prog 38 #[.pointer (some ⟨x, 0, none⟩), .agg (evC e)] w fun r w' => r = .returned (.int .i64 0) ∧ PutOut w B x tb rg m op (L ++ [e]) (sz + (coilB e d y).length) e fr w' := by
  have H0 := Lib.hid h0
  have H1 := Lib.hid h1
  have HB := Lib.hid hB
  obtain ⟨A, cap, rfl, _⟩ := own_slice h.o
  have HO := Lib.hid h.o
  have HX1 := Lib.hid ((Grow.alloc w (.cells (evC e) 98)).at h.bk)
  have HE1 := Lib.hid (heapAt_alloc_new w (.cells (evC e) 98))
  have HG1 := Lib.hid (Grow.alloc w (.cells (evC e) 98))
  have HBF := Lib.hid hbef; clear hbef
  have HM := Lib.hid hm
  have HSZ := Lib.hid hsz
  have HLN := Lib.hid hL
  have hcnt : decide (e.count < la.count) = false := by have := h0.h1; simp; omega
  have hcyc : decide (e.cycle < la.cycle) = false := by have := h0.h2; simp; omega
  have hp0 := coilB_pos e d0 y0
  have hs1 : ((coilB e d0 y0).length : Int) ≤ 120 := by omega
  have hs2 : (sz : Int) ≤ 120 := by omega
  have HS3 := Lib.hid (show IntKind.i64.wrap ((sz : Int) + ((coilB e d0 y0).length : Int)) = (sz : Int) + ((coilB e d0 y0).length : Int) by rw [IntKind.wrap_i64]; omega)
  have HS4 := Lib.hid (show decide ((m : Int) < (sz : Int) + ((coilB e d0 y0).length : Int)) = false by simp; omega)
  have hs4 : (((coilB e d0 y0).length : Int) == 0) = false := by
    have : ¬ ((coilB e d0 y0).length : Int) = 0 := by omega
    simpa using this
  have HS6 := Lib.hid (show IntKind.i64.wrap ((sz : Int) + ((coilB e d y).length : Int)) = (sz : Int) + ((coilB e d y).length : Int) by have := coilB_le e d y; rw [IntKind.wrap_i64]; omega)
  obtain ⟨i0, hi, hz0, hz1, hz2⟩ := info_parts info98z
  have HI0 := Lib.hid hi; clear hi
  have HZ0 := Lib.hid hz0; clear hz0
  have HZ1 := Lib.hid hz1; clear hz1
  have HZ2 := Lib.hid hz2; clear hz2
  clear h h0 h1 hB hm hsz hL hp0
  go_enter Tryz.func38, Tryz.ntmps38
  go_upto_region 1 with (fail)
  obtain ⟨g, hge⟩ : ∃ g, g = w.heap.size := ⟨_, rfl⟩
  have HGL := Lib.hid (show w.heap.size ≤ g by omega)
  rw [← hge] at HE1 ⊢
  clear hge
  generalize w.alloc (.cells (evC e) 98) = w1 at HX1 HE1 HG1 ⊢
  have x0 := cell_block HX1.out 0
  have x1 := cell_block HX1.out 1
  have x2 := cell_block HX1.out 2
  have x3 := cell_block HX1.out 3
  have x4 := cell_block HX1.out 4
  have x5 := cell_block HX1.out 5
  have x6 := cell_block HX1.out 6
  have x7 := cell_block HX1.out 7
  have x8 := cell_block HX1.out 8
  have x9 := cell_block HX1.out 9
  have x10 := cell_block HX1.out 10
  have x11 := cell_block HX1.out 11
  have x12 := cell_block HX1.out 12
  simp [recC, evC] at x0 x1 x2 x3 x4 x5 x6 x7 x8 x9 x10 x11 x12
  have v0 := cell_block HE1.out 0
  have v1 := cell_block HE1.out 1
  have v2 := cell_block HE1.out 2
  have v3 := cell_block HE1.out 3
  have v4 := cell_block HE1.out 4
  have v5 := cell_block HE1.out 5
  simp [recC, evC] at v0 v1 v2 v3 v4 v5
  go_wp2_with fail
  refine (check_any w1 e).mono ?_
  rw [H0.out.c]
  rintro _ w2 ⟨rfl, hg⟩
  have HX2 := Lib.hid (hg.at HX1.out)
  have HE2 := Lib.hid (hg.at HE1.out)
  have HG2 := Lib.hid (HG1.out.trans hg)
  clear hg HX1 HE1 HG1 x0 x1 x2 x3 x4 x5 x6 x7 x8 x9 x10 x11 x12 v0 v1 v2 v3 v4 v5
  have x0 := cell_block HX2.out 0
  have x1 := cell_block HX2.out 1
  have x2 := cell_block HX2.out 2
  have x3 := cell_block HX2.out 3
  have x4 := cell_block HX2.out 4
  have x5 := cell_block HX2.out 5
  have x6 := cell_block HX2.out 6
  have x7 := cell_block HX2.out 7
  have x8 := cell_block HX2.out 8
  have x9 := cell_block HX2.out 9
  have x10 := cell_block HX2.out 10
  have x11 := cell_block HX2.out 11
  have x12 := cell_block HX2.out 12
  simp [recC, evC] at x0 x1 x2 x3 x4 x5 x6 x7 x8 x9 x10 x11 x12
  have v0 := cell_block HE2.out 0
  have v1 := cell_block HE2.out 1
  have v2 := cell_block HE2.out 2
  have v3 := cell_block HE2.out 3
  have v4 := cell_block HE2.out 4
  have v5 := cell_block HE2.out 5
  simp [recC, evC] at v0 v1 v2 v3 v4 v5
  go_upto_region 7 with (fail)
  go_quiet (fail)
  have HG3 := Lib.hid (HG2.out.trans (Grow.drewN w2 nq))
  have HX3 := Lib.hid ((Grow.drewN w2 nq).at HX2.out)
  have HE3 := Lib.hid ((Grow.drewN w2 nq).at HE2.out)
  clear HX2 HE2 HG2 x0 x1 x2 x3 x4 x5 x6 x7 x8 x9 x10 x11 x12 v0 v1 v2 v3 v4 v5
  generalize w2.drewN nq = w3 at HG3 HX3 HE3 ⊢
  have x0 := cell_block HX3.out 0
  have x1 := cell_block HX3.out 1
  have x2 := cell_block HX3.out 2
  have x3 := cell_block HX3.out 3
  have x4 := cell_block HX3.out 4
  have x5 := cell_block HX3.out 5
  have x6 := cell_block HX3.out 6
  have x7 := cell_block HX3.out 7
  have x8 := cell_block HX3.out 8
  have x9 := cell_block HX3.out 9
  have x10 := cell_block HX3.out 10
  have x11 := cell_block HX3.out 11
  have x12 := cell_block HX3.out 12
  simp [recC, evC] at x0 x1 x2 x3 x4 x5 x6 x7 x8 x9 x10 x11 x12
  have v0 := cell_block HE3.out 0
  have v1 := cell_block HE3.out 1
  have v2 := cell_block HE3.out 2
  have v3 := cell_block HE3.out 3
  have v4 := cell_block HE3.out 4
  have v5 := cell_block HE3.out 5
  simp [recC, evC] at v0 v1 v2 v3 v4 v5
  go_upto_region 9 with (fail)
  refine wp_region_rel _ Grow (fun w' => Grow w3 w') [([(0, none)], none), ([(38, some 0)], none), ([(39, some 0)], none), ([(40, some 0)], none), ([(3, none)], none), ([(41, some 1), (42, some 0)], none), ([(43, some 0)], none)] (by kernel_rfl) (by kernel_rfl) (Grow.drewN w3 1) ?_
  (refine rel_pure ?_; apply Exists.intro; refine ⟨fun aR wQ hF hk => ?_, ?_⟩; focus (first | exact rel_no hk.1 rfl rfl | ((first | (refine rel_none fun K hK => ?_) | (refine rel_yes hk.1 fun K hK => ?_)); (try simp at hk); go_simp; exact hK _ _ (Grow.refl _) hF rfl)))
  (refine rel_pure ?_; apply Exists.intro; refine ⟨fun aR wQ hF hk => ?_, ?_⟩; focus (first | exact rel_no hk.1 rfl rfl | ((first | (refine rel_none fun K hK => ?_) | (refine rel_yes hk.1 fun K hK => ?_)); (try simp at hk); go_simp; exact hK _ _ (Grow.refl _) hF rfl)))
  (refine rel_pure ?_; apply Exists.intro; refine ⟨fun aR wQ hF hk => ?_, ?_⟩; focus (first | exact rel_no hk.1 rfl rfl | ((first | (refine rel_none fun K hK => ?_) | (refine rel_yes hk.1 fun K hK => ?_)); (try simp at hk); go_simp; exact hK _ _ (Grow.refl _) hF rfl)))
  (refine rel_pure ?_; apply Exists.intro; refine ⟨fun aR wQ hF hk => ?_, ?_⟩; focus (refine rel_none fun K hK => ?_; (try simp at hk); have x5 := cell_below hF (Nat.le_refl _) x5; have x6 := cell_below hF (Nat.le_refl _) x6; have x7 := cell_below hF (Nat.le_refl _) x7; have x8 := cell_below hF (Nat.le_refl _) x8; have x9 := cell_below hF (Nat.le_refl _) x9; have x10 := cell_below hF (Nat.le_refl _) x10; go_simp; exact hK _ _ (Grow.refl _) hF rfl))
  (refine rel_pure ?_; apply Exists.intro; refine ⟨fun aR wQ hF hk => ?_, ?_⟩; focus (refine rel_none fun K hK => ?_; (try simp at hk); have v0 := cell_below hF (Nat.le_refl _) v0; have v1 := cell_below hF (Nat.le_refl _) v1; have v2 := cell_below hF (Nat.le_refl _) v2; have v3 := cell_below hF (Nat.le_refl _) v3; have v4 := cell_below hF (Nat.le_refl _) v4; have v5 := cell_below hF (Nat.le_refl _) v5; go_simp; exact hK _ _ (Grow.refl _) hF rfl))
  (refine rel_pure ?_; apply Exists.intro; refine ⟨fun aR wQ hF hk => ?_, ?_⟩; focus (refine rel_none fun K hK => ?_; (try simp at hk); go_simp; refine (csize_w _ la e d0 y0 H0.out).mono ?_; rintro e w' ⟨rfl, hg⟩; exact hK _ _ hg (Grow.trans hF hg) rfl))
  (refine rel_pure ?_; apply Exists.intro; refine ⟨fun aR wQ hF hk => ?_, ?_⟩; focus (first | exact rel_no hk.1 rfl rfl | ((first | (refine rel_none fun K hK => ?_) | (refine rel_yes hk.1 fun K hK => ?_)); (try simp at hk); go_simp; exact hK _ _ (Grow.refl _) hF rfl)))
  refine rel_done fun wR hF => ?_
  repeat (first | (refine fun v hv => ?_; obtain rfl : v = _ := hv) | (refine fun v hv => ?_))
  simp only [Act.put, List.setIfInBounds_toArray, List.set_cons_zero, List.set_cons_succ]
  refine rel_nil ?_
  generalize hw4 : wR = w4 at *
  clear hw4
  have HG4 := Lib.hid (HG3.out.trans hF)
  have HX4 := Lib.hid (hF.at HX3.out)
  have HE4 := Lib.hid (hF.at HE3.out)
  clear hF HX3 HE3 HG3 x0 x1 x2 x3 x4 x5 x6 x7 x8 x9 x10 x11 x12 v0 v1 v2 v3 v4 v5
  have x0 := cell_block HX4.out 0
  have x1 := cell_block HX4.out 1
  have x2 := cell_block HX4.out 2
  have x3 := cell_block HX4.out 3
  have x4 := cell_block HX4.out 4
  have x5 := cell_block HX4.out 5
  have x6 := cell_block HX4.out 6
  have x7 := cell_block HX4.out 7
  have x8 := cell_block HX4.out 8
  have x9 := cell_block HX4.out 9
  have x10 := cell_block HX4.out 10
  have x11 := cell_block HX4.out 11
  have x12 := cell_block HX4.out 12
  simp [recC, evC] at x0 x1 x2 x3 x4 x5 x6 x7 x8 x9 x10 x11 x12
  have v0 := cell_block HE4.out 0
  have v1 := cell_block HE4.out 1
  have v2 := cell_block HE4.out 2
  have v3 := cell_block HE4.out 3
  have v4 := cell_block HE4.out 4
  have v5 := cell_block HE4.out 5
  simp [recC, evC] at v0 v1 v2 v3 v4 v5
  go_upto_region 10 with (fail)
  have hs3 := HS3.out
  have hs5 := HS4.out
  go_quiet (fail)
  have HG5 := Lib.hid (HG4.out.trans (Grow.drewN w4 nq))
  have HX5 := Lib.hid ((Grow.drewN w4 nq).at HX4.out)
  have HE5 := Lib.hid ((Grow.drewN w4 nq).at HE4.out)
  clear HX4 HE4 HG4 hs3 hs5 x0 x1 x2 x3 x4 x5 x6 x7 x8 x9 x10 x11 x12 v0 v1 v2 v3 v4 v5
  generalize w4.drewN nq = w5 at HG5 HX5 HE5 ⊢
  have x0 := cell_block HX5.out 0
  have x1 := cell_block HX5.out 1
  have x2 := cell_block HX5.out 2
  have x3 := cell_block HX5.out 3
  have x4 := cell_block HX5.out 4
  have x5 := cell_block HX5.out 5
  have x6 := cell_block HX5.out 6
  have x7 := cell_block HX5.out 7
  have x8 := cell_block HX5.out 8
  have x9 := cell_block HX5.out 9
  have x10 := cell_block HX5.out 10
  have x11 := cell_block HX5.out 11
  have x12 := cell_block HX5.out 12
  simp [recC, evC] at x0 x1 x2 x3 x4 x5 x6 x7 x8 x9 x10 x11 x12
  have v0 := cell_block HE5.out 0
  have v1 := cell_block HE5.out 1
  have v2 := cell_block HE5.out 2
  have v3 := cell_block HE5.out 3
  have v4 := cell_block HE5.out 4
  have v5 := cell_block HE5.out 5
  simp [recC, evC] at v0 v1 v2 v3 v4 v5
  have hbase : x ≠ w5.heap.size := by have := heapAt_lt HX5.out; omega
  go_upto_region 13 with (fail)
  by_cases hl0 : L.length = 0
  · have HL0 := Lib.hid hl0; clear hl0
    obtain ⟨b, hbe⟩ : ∃ b, b = w5.heap.size := ⟨_, rfl⟩
    rw [← hbe] at hbase ⊢
    have HX6 := Lib.hid ((Grow.alloc w5 (.cells (evC la) 98)).at HX5.out)
    have HE6 := Lib.hid ((Grow.alloc w5 (.cells (evC la) 98)).at HE5.out)
    have HB6 := Lib.hid (show (w5.alloc (.cells (evC la) 98)).heap[b]? = some (.cells (evC la) 98 (0, 0)) by rw [hbe]; exact heapAt_alloc_new _ _)
    have HG6 := Lib.hid (HG5.out.trans (Grow.alloc w5 (.cells (evC la) 98)))
    have HBB := Lib.hid (show w.heap.size ≤ b by rw [hbe]; exact HG5.out.size)
    have HGB := Lib.hid (show g ≠ b by have := heapAt_lt HE5.out; omega)
    clear hbe HX5 HE5 HG5 x0 x1 x2 x3 x4 x5 x6 x7 x8 x9 x10 x11 x12 v0 v1 v2 v3 v4 v5
    unfold evC at HB6 HX6 HE6 HG6
    generalize w5.alloc (.cells #[.int .i64 la.kind, .int .u64 la.cycle, .int .u64 la.count, .int .u32 la.a, .int .u32 la.b, .int .u32 la.v] 98) = w6 at HX6 HE6 HB6 HG6 ⊢
    have x0 := cell_block HX6.out 0
    have x1 := cell_block HX6.out 1
    have x2 := cell_block HX6.out 2
    have x3 := cell_block HX6.out 3
    have x4 := cell_block HX6.out 4
    have x5 := cell_block HX6.out 5
    have x6 := cell_block HX6.out 6
    have x7 := cell_block HX6.out 7
    have x8 := cell_block HX6.out 8
    have x9 := cell_block HX6.out 9
    have x10 := cell_block HX6.out 10
    have x11 := cell_block HX6.out 11
    have x12 := cell_block HX6.out 12
    simp [recC, evC] at x0 x1 x2 x3 x4 x5 x6 x7 x8 x9 x10 x11 x12
    have v0 := cell_block HE6.out 0
    have v1 := cell_block HE6.out 1
    have v2 := cell_block HE6.out 2
    have v3 := cell_block HE6.out 3
    have v4 := cell_block HE6.out 4
    have v5 := cell_block HE6.out 5
    simp [recC, evC] at v0 v1 v2 v3 v4 v5
    have hl1 : ((L.length : Int) == 0) = true := by rw [HL0.out]; rfl
    go_upto_region 15 with (first
      | ((with_reducible refine wpList_load_blk rfl 98 _ rfl g 98 (evC e) _ ?_ HE6.out Tryz.underlying98 rfl (info98 _) ?_); (· rfl))
      | ((with_reducible refine wpList_store_blk rfl 98 _ _ rfl b 98 _ (evC e) ?_ ?_ HB6.out rfl (info98 _) (ones98 _) ?_); (· rfl); (· rfl); intro w7 hb7 ho7))
    simp only [Act.put, List.setIfInBounds_toArray, List.set_cons_zero, List.set_cons_succ]
    have hbf : bef = e := by rw [HBF.out, if_pos HL0.out]
    have HX7 := Lib.hid (ho7.at hbase HX6.out)
    have HE7 := Lib.hid (ho7.at HGB.out HE6.out)
    have HB7 := Lib.hid (show w7.heap[b]? = some (.cells (evC bef) 98 (0, 0)) by rw [hbf]; exact hb7)
    have HG7 := Lib.hid (HG6.out.only ho7 HBB.out)
    clear hb7 ho7 hbf hl1 HX6 HE6 HB6 HG6 x0 x1 x2 x3 x4 x5 x6 x7 x8 x9 x10 x11 x12 v0 v1 v2 v3 v4 v5
    have x4 := cell_block HX7.out 4
    simp [recC, evC] at x4
    have v0 := cell_block HE7.out 0
    have v1 := cell_block HE7.out 1
    have v2 := cell_block HE7.out 2
    have v3 := cell_block HE7.out 3
    have v4 := cell_block HE7.out 4
    have v5 := cell_block HE7.out 5
    simp [recC, evC] at v0 v1 v2 v3 v4 v5
    have b0 := cell_block HB7.out 0
    have b1 := cell_block HB7.out 1
    have b2 := cell_block HB7.out 2
    have b3 := cell_block HB7.out 3
    have b4 := cell_block HB7.out 4
    have b5 := cell_block HB7.out 5
    simp [recC, evC] at b0 b1 b2 b3 b4 b5
    refine wp_region_rel_tail 8 _ Grow (fun _ wQ => Grow w7 wQ) [([(0, none)], none), ([(72, some 0)], none), ([(73, some 0)], none), ([(74, some 0)], none), ([(6, none)], none), ([(3, none)], none), ([(76, some 1), (77, some 0)], none), ([(75, some 3), (78, some 0)], none)] (by kernel_rfl) (by kernel_rfl) (by kernel_rfl) (Grow.drewN w7 1) ?_
    (refine relT_pure ?_; apply Exists.intro; refine ⟨fun aR wQ hF hk => relT_none fun K hK => ?_, ?_⟩; focus ((try simp at hk); go_simp; exact hK _ _ (Grow.refl _) hF rfl))
    (refine relT_pure ?_; apply Exists.intro; refine ⟨fun aR wQ hF hk => relT_none fun K hK => ?_, ?_⟩; focus ((try simp at hk); go_simp; exact hK _ _ (Grow.refl _) hF rfl))
    (refine relT_pure ?_; apply Exists.intro; refine ⟨fun aR wQ hF hk => relT_none fun K hK => ?_, ?_⟩; focus ((try simp at hk); go_simp; exact hK _ _ (Grow.refl _) hF rfl))
    (refine relT_pure ?_; apply Exists.intro; refine ⟨fun aR wQ hF hk => relT_none fun K hK => ?_, ?_⟩; focus ((try simp at hk); have x4 := cell_below hF (Nat.le_refl _) x4; go_simp; exact hK _ _ (Grow.refl _) hF rfl))
    (refine relT_pure ?_; apply Exists.intro; refine ⟨fun aR wQ hF hk => relT_none fun K hK => ?_, ?_⟩; focus ((try simp at hk); have b0 := cell_below hF (Nat.le_refl _) b0; have b1 := cell_below hF (Nat.le_refl _) b1; have b2 := cell_below hF (Nat.le_refl _) b2; have b3 := cell_below hF (Nat.le_refl _) b3; have b4 := cell_below hF (Nat.le_refl _) b4; have b5 := cell_below hF (Nat.le_refl _) b5; go_simp; exact hK _ _ (Grow.refl _) hF rfl))
    (refine relT_pure ?_; apply Exists.intro; refine ⟨fun aR wQ hF hk => relT_none fun K hK => ?_, ?_⟩; focus ((try simp at hk); have v0 := cell_below hF (Nat.le_refl _) v0; have v1 := cell_below hF (Nat.le_refl _) v1; have v2 := cell_below hF (Nat.le_refl _) v2; have v3 := cell_below hF (Nat.le_refl _) v3; have v4 := cell_below hF (Nat.le_refl _) v4; have v5 := cell_below hF (Nat.le_refl _) v5; go_simp; exact hK _ _ (Grow.refl _) hF rfl))
    (refine relT_pure ?_; apply Exists.intro; refine ⟨fun aR wQ hF hk => relT_none fun K hK => ?_, ?_⟩; focus ((try simp at hk); go_simp; refine (csize_w _ bef e d y H1.out).mono ?_; rintro e w' ⟨rfl, hg⟩; exact hK _ _ hg (Grow.trans hF hg) rfl))
    (refine relT_pure ?_; apply Exists.intro; refine ⟨fun aR wQ hF hk => relT_none fun K hK => ?_, ?_⟩; focus ((try simp at hk); have hs6 := HS6.out; go_simp; exact hK _ _ (Grow.refl _) hF rfl))
    refine relT_done fun wR => ?_
    refine fun v hv => ?_; obtain rfl : v = _ := hv
    refine fun v hv => ?_; obtain rfl : v = _ := hv
    refine fun v hv => ?_; obtain rfl : v = _ := hv
    refine fun v hv => ?_; obtain rfl : v = _ := hv
    refine fun v hv => ?_; obtain rfl : v = _ := hv
    refine fun v hv => ?_; obtain rfl : v = _ := hv
    refine fun v hv => ?_; obtain rfl : v = _ := hv
    refine fun v hv => ?_; obtain rfl : v = _ := hv
    simp only [Act.put, List.setIfInBounds_toArray, List.set_cons_zero, List.set_cons_succ]
    refine relT_nil fun hF => ?_
    simp only [List.drop_succ_cons, List.drop_zero]
    have HX8 := Lib.hid (hF.at HX7.out)
    have HE8 := Lib.hid (hF.at HE7.out)
    have HG8 := Lib.hid (HG7.out.trans hF)
    clear hF HX7 HE7 HB7 HG7 x4 v0 v1 v2 v3 v4 v5 b0 b1 b2 b3 b4 b5
    go_wp2_with (first
      | ((with_reducible refine store_in rfl 3 _ _ rfl x 4 142 _ (recC tb rg m (.slice A L.length cap) (sz + (coilB e d y).length) la fr false) (.int .i64 ((sz : Int) + ((coilB e d y).length : Int))) info3 HX8.out rfl ?_ ?_ ?_ ?_ ?_); (· rfl); (· rfl); (· simp); (· simp); intro w9 hw9 hb9 ho9; clear hw9))
    simp only [Act.put, List.setIfInBounds_toArray, List.set_cons_zero, List.set_cons_succ]
    have HX9 := Lib.hid hb9
    have HE9 := Lib.hid (ho9.at (ty_ne2 HE8.out HX8.out (by decide)) HE8.out)
    have HO9 := Lib.hid (own_only (own_grow HO.out HG8.out) ho9 HX8.out (by decide))
    have HK9 := Lib.hid ((Kp.of_grow (P := fun k => k ≠ x ∧ (Value.slice A L.length cap).ownBlock ≠ some k) HG8.out).trans (Kp.of_only ho9 (fun h => h.1 rfl)))
    clear hb9 ho9 HX8 HE8 HG8
    have x3 := cell_block HX9.out 3
    simp [recC, evC] at x3
    have v0 := cell_block HE9.out 0
    have v1 := cell_block HE9.out 1
    have v2 := cell_block HE9.out 2
    have v3 := cell_block HE9.out 3
    have v4 := cell_block HE9.out 4
    have v5 := cell_block HE9.out 5
    simp [recC, evC] at v0 v1 v2 v3 v4 v5
    refine wp_region_rel_float 7 0 (_) (_) _ Grow (fun _ wQ => Grow w9 wQ) [([(0, none)], none), ([(0, none)], none), ([(83, some 0)], none), ([(84, some 0)], none), ([(85, some 0)], none), ([(3, none)], none), ([(87, some 0)], none)] (by kernel_rfl) (by decide +kernel) rfl rfl (by kernel_rfl) (Grow.drewN w9 1) ?_
    (refine relF_pure ?_; apply Exists.intro; refine ⟨fun aR wQ hF hk => relT_none fun K hK => ?_, ?_⟩; focus ((try simp at hk); go_simp; exact hK _ _ (Grow.refl _) hF rfl))
    (refine relF_pure ?_; apply Exists.intro; refine ⟨fun aR wQ hF hk => relT_none fun K hK => ?_, ?_⟩; focus ((try simp at hk); go_simp; exact hK _ _ (Grow.refl _) hF rfl))
    (refine relF_pure ?_; apply Exists.intro; refine ⟨fun aR wQ hF hk => relT_none fun K hK => ?_, ?_⟩; focus ((try simp at hk); go_simp; exact hK _ _ (Grow.refl _) hF rfl))
    (refine relF_pure ?_; apply Exists.intro; refine ⟨fun aR wQ hF hk => relT_none fun K hK => ?_, ?_⟩; focus ((try simp at hk); go_simp; exact hK _ _ (Grow.refl _) hF rfl))
    (refine relF_pure ?_; apply Exists.intro; refine ⟨fun aR wQ hF hk => relT_none fun K hK => ?_, ?_⟩; focus ((try simp at hk); have x3 := cell_below hF (Nat.le_refl _) x3; go_simp; exact hK _ _ (Grow.refl _) hF rfl))
    (refine relF_pure ?_; apply Exists.intro; refine ⟨fun aR wQ hF hk => relT_none fun K hK => ?_, ?_⟩; focus ((try simp at hk); have v0 := cell_below hF (Nat.le_refl _) v0; have v1 := cell_below hF (Nat.le_refl _) v1; have v2 := cell_below hF (Nat.le_refl _) v2; have v3 := cell_below hF (Nat.le_refl _) v3; have v4 := cell_below hF (Nat.le_refl _) v4; have v5 := cell_below hF (Nat.le_refl _) v5; go_simp; exact hK _ _ (Grow.refl _) hF rfl))
    (refine relF_some (fun v wv => ∃ gb, v = .slice (some ⟨gb, 0, none⟩) 1 1 ∧ wv.heap[gb]? = some (.cells (evC e) 98 (0, 0))) (fun v w1 w2 hg ⟨gb, hv, hb⟩ => ⟨gb, hv, Grow.at hg hb⟩) (fun aR wQ hF hk => relT_none fun K hK => ?_) ?_; focus ((try simp at hk); go_simp; exact hK _ _ (Grow.alloc _ _) (Grow.trans hF (Grow.alloc _ _)) ⟨_, rfl, heapAt_alloc_new _ _⟩))
    refine relF_done (fun wR => ?_) (fun wR => ?_)
    · refine fun v hv => ?_; obtain rfl : v = _ := hv
      refine fun v hv => ?_; obtain rfl : v = _ := hv
      refine fun v hv => ?_; obtain rfl : v = _ := hv
      refine fun v hv => ?_; obtain rfl : v = _ := hv
      refine fun v hv => ?_; obtain rfl : v = _ := hv
      refine fun v hv => ?_; obtain rfl : v = _ := hv
      refine fun v1006 hv1006 => ?_
      obtain ⟨gb6, rfl, hgb6⟩ := hv1006
      simp only [Act.put, List.setIfInBounds_toArray, List.set_cons_zero, List.set_cons_succ]
      refine relT_nil fun hF => ?_
      simp only [List.drop_succ_cons, List.drop_zero]
      have HRX := Lib.hid (hF.at HX9.out)
      have HRE := Lib.hid (hF.at HE9.out)
      have HRO := Lib.hid (own_grow HO9.out hF)
      have HRK := Lib.hid (HK9.out.trans (Kp.of_grow hF))
      have HRR := Lib.hid (show Reads wR wR.heap.size 6 (some ⟨gb6, 0, none⟩) 1 (evL e) from reads_ev hgb6)
      have HRB := Lib.hid (show B ≤ wR.heap.size from Nat.le_trans HB.out HRK.out.size)
      clear hF hgb6 HX9 HE9 HO9 HK9 x3 v0 v1 v2 v3 v4 v5
      go_wp2_with (at_builtin; refine wpList_append_any _ rfl (.tmp 86) (.tmp 88) 41 rfl B 98 i0 _ 6 40 Tryz.underlying41 HI0.out HZ0.out HZ1.out HZ2.out rfl (by decide) _ L.length (evsC L) (by rfl) HRO.out _ (some ⟨gb6, 0, none⟩) 1 1 (evL e) (by rfl) HRR.out (evL_one e) ?c4Q ?c5Q ?c6Q ?c7Q)
      case c4Q => have := HLN.out; unfold maxLen; omega
      case c5Q => have := HLN.out; omega
      case c6Q => exact HRB.out
      case c7Q =>
        intro v' w10 hown hgr hblk
        have HX10 := Lib.hid (at_grown HRO.out hgr HRX.out (by decide))
        have HK10 := Lib.hid (HRK.out.trans (Kp.of_grown hgr (fun k h => h.2)))
        have HE10 := Lib.hid ((hgr.block g (heapAt_lt HRE.out) (fun h => by have := (HO.out.lt g h.symm).2; have := HGL.out; omega)).trans HRE.out)
        have HBLK := Lib.hid (show ∀ k, k < w.heap.size → v'.ownBlock = some k → (Value.slice A L.length cap).ownBlock = some k from fun k hk h => by
          rcases hblk with h2 | h2
          · rw [← h2]; exact h
          · rw [h2] at h; injection h with h; have := HRK.out.size; omega)
        have HW10 := Lib.hid hown
        have HV := Lib.hid (own_one hown)
        clear hown hgr hblk
        go_upto_region 17 with (first
          | ((with_reducible refine store_in rfl 41 _ _ rfl x 3 142 _ (recC tb rg m v' (sz + (coilB e d y).length) la fr false) v' info41s HX10.out HV.out ?_ ?_ ?_ ?_ ?_); (· rfl); (· rfl); (· simp); (· simp); intro w11 hw11 hb11 ho11; clear hw11))
        have HX11 := Lib.hid hb11
        have HE11 := Lib.hid (ho11.at (ty_ne2 HE10.out HX10.out (by decide)) HE10.out)
        have HW11 := Lib.hid (own_only HW10.out ho11 HX10.out (by decide))
        have HK11 := Lib.hid (HK10.out.trans (Kp.of_only ho11 (fun h => h.1 rfl)))
        clear hb11 ho11 HX10 HE10 HW10 HK10
        have v0 := cell_block HE11.out 0
        have v1 := cell_block HE11.out 1
        have v2 := cell_block HE11.out 2
        have v3 := cell_block HE11.out 3
        have v4 := cell_block HE11.out 4
        have v5 := cell_block HE11.out 5
        simp [recC, evC] at v0 v1 v2 v3 v4 v5
        go_wp2_with (first
          | ((with_reducible refine wpList_load_blk rfl 98 _ rfl g 98 (evC e) _ ?_ HE11.out Tryz.underlying98 rfl (info98 _) ?_); (· rfl))
          | ((with_reducible refine wpList_store_part rfl 98 _ _ rfl x 5 142 _ (evC e) (recC tb rg m v' (sz + (coilB e d y).length) e fr false) ?_ ?_ HX11.out ?_ (info98 _) (ones98 _) ?_ ?_); (· rfl); (· rfl); (· simp); (· rfl); intro w12 hb12 ho12))
        have HX12 := Lib.hid hb12
        have HW12 := Lib.hid (own_only HW11.out ho12 HX11.out (by decide))
        have HK12 := Lib.hid (HK11.out.trans (Kp.of_only ho12 (fun h => h.1 rfl)))
        clear hb12 ho12 HX11 HE11 HW11 HK11 v0 v1 v2 v3 v4 v5
        go_ret
        refine ⟨rfl, v', ⟨HX12.out, ?_⟩, HK12.out, HBLK.out⟩
        rw [List.length_append, evsC_append]
        show w12.ownsRow B 98 6 v' (L.length + 1) (evsC L ++ (evL e ++ []))
        rw [List.append_nil]
        exact HW12.out
    · refine fun v hv => ?_; obtain rfl : v = _ := hv
      refine fun v hv => ?_; obtain rfl : v = _ := hv
      refine fun v hv => ?_; obtain rfl : v = _ := hv
      refine fun v hv => ?_; obtain rfl : v = _ := hv
      refine fun v hv => ?_; obtain rfl : v = _ := hv
      refine fun v1006 hv1006 => ?_
      obtain ⟨gb6, rfl, hgb6⟩ := hv1006
      simp only [Act.put, List.setIfInBounds_toArray, List.set_cons_zero, List.set_cons_succ]
      refine relT_nil fun hF => ?_
      simp only [List.drop_succ_cons, List.drop_zero]
      have HRX := Lib.hid (hF.at HX9.out)
      have HRE := Lib.hid (hF.at HE9.out)
      have HRO := Lib.hid (own_grow HO9.out hF)
      have HRK := Lib.hid (HK9.out.trans (Kp.of_grow hF))
      have HRR := Lib.hid (show Reads wR wR.heap.size 6 (some ⟨gb6, 0, none⟩) 1 (evL e) from reads_ev hgb6)
      have HRB := Lib.hid (show B ≤ wR.heap.size from Nat.le_trans HB.out HRK.out.size)
      clear hF hgb6 HX9 HE9 HO9 HK9 x3 v0 v1 v2 v3 v4 v5
      go_wp2_with (at_builtin; refine wpList_append_any _ rfl (.tmp 86) (.tmp 88) 41 rfl B 98 i0 _ 6 40 Tryz.underlying41 HI0.out HZ0.out HZ1.out HZ2.out rfl (by decide) _ L.length (evsC L) (by rfl) HRO.out _ (some ⟨gb6, 0, none⟩) 1 1 (evL e) (by rfl) HRR.out (evL_one e) ?c4Q ?c5Q ?c6Q ?c7Q)
      case c4Q => have := HLN.out; unfold maxLen; omega
      case c5Q => have := HLN.out; omega
      case c6Q => exact HRB.out
      case c7Q =>
        intro v' w10 hown hgr hblk
        have HX10 := Lib.hid (at_grown HRO.out hgr HRX.out (by decide))
        have HK10 := Lib.hid (HRK.out.trans (Kp.of_grown hgr (fun k h => h.2)))
        have HE10 := Lib.hid ((hgr.block g (heapAt_lt HRE.out) (fun h => by have := (HO.out.lt g h.symm).2; have := HGL.out; omega)).trans HRE.out)
        have HBLK := Lib.hid (show ∀ k, k < w.heap.size → v'.ownBlock = some k → (Value.slice A L.length cap).ownBlock = some k from fun k hk h => by
          rcases hblk with h2 | h2
          · rw [← h2]; exact h
          · rw [h2] at h; injection h with h; have := HRK.out.size; omega)
        have HW10 := Lib.hid hown
        have HV := Lib.hid (own_one hown)
        clear hown hgr hblk
        go_upto_region 17 with (first
          | ((with_reducible refine store_in rfl 41 _ _ rfl x 3 142 _ (recC tb rg m v' (sz + (coilB e d y).length) la fr false) v' info41s HX10.out HV.out ?_ ?_ ?_ ?_ ?_); (· rfl); (· rfl); (· simp); (· simp); intro w11 hw11 hb11 ho11; clear hw11))
        have HX11 := Lib.hid hb11
        have HE11 := Lib.hid (ho11.at (ty_ne2 HE10.out HX10.out (by decide)) HE10.out)
        have HW11 := Lib.hid (own_only HW10.out ho11 HX10.out (by decide))
        have HK11 := Lib.hid (HK10.out.trans (Kp.of_only ho11 (fun h => h.1 rfl)))
        clear hb11 ho11 HX10 HE10 HW10 HK10
        have v0 := cell_block HE11.out 0
        have v1 := cell_block HE11.out 1
        have v2 := cell_block HE11.out 2
        have v3 := cell_block HE11.out 3
        have v4 := cell_block HE11.out 4
        have v5 := cell_block HE11.out 5
        simp [recC, evC] at v0 v1 v2 v3 v4 v5
        go_wp2_with (first
          | ((with_reducible refine wpList_load_blk rfl 98 _ rfl g 98 (evC e) _ ?_ HE11.out Tryz.underlying98 rfl (info98 _) ?_); (· rfl))
          | ((with_reducible refine wpList_store_part rfl 98 _ _ rfl x 5 142 _ (evC e) (recC tb rg m v' (sz + (coilB e d y).length) e fr false) ?_ ?_ HX11.out ?_ (info98 _) (ones98 _) ?_ ?_); (· rfl); (· rfl); (· simp); (· rfl); intro w12 hb12 ho12))
        have HX12 := Lib.hid hb12
        have HW12 := Lib.hid (own_only HW11.out ho12 HX11.out (by decide))
        have HK12 := Lib.hid (HK11.out.trans (Kp.of_only ho12 (fun h => h.1 rfl)))
        clear hb12 ho12 HX11 HE11 HW11 HK11 v0 v1 v2 v3 v4 v5
        go_ret
        refine ⟨rfl, v', ⟨HX12.out, ?_⟩, HK12.out, HBLK.out⟩
        rw [List.length_append, evsC_append]
        show w12.ownsRow B 98 6 v' (L.length + 1) (evsC L ++ (evL e ++ []))
        rw [List.append_nil]
        exact HW12.out
  · have HL0 := Lib.hid hl0; clear hl0
    obtain ⟨b, hbe⟩ : ∃ b, b = w5.heap.size := ⟨_, rfl⟩
    rw [← hbe] at hbase ⊢
    have HX6 := Lib.hid ((Grow.alloc w5 (.cells (evC la) 98)).at HX5.out)
    have HE6 := Lib.hid ((Grow.alloc w5 (.cells (evC la) 98)).at HE5.out)
    have HB6 := Lib.hid (show (w5.alloc (.cells (evC la) 98)).heap[b]? = some (.cells (evC la) 98 (0, 0)) by rw [hbe]; exact heapAt_alloc_new _ _)
    have HG6 := Lib.hid (HG5.out.trans (Grow.alloc w5 (.cells (evC la) 98)))
    have HBB := Lib.hid (show w.heap.size ≤ b by rw [hbe]; exact HG5.out.size)
    have HGB := Lib.hid (show g ≠ b by have := heapAt_lt HE5.out; omega)
    clear hbe HX5 HE5 HG5 x0 x1 x2 x3 x4 x5 x6 x7 x8 x9 x10 x11 x12 v0 v1 v2 v3 v4 v5
    unfold evC at HB6 HX6 HE6 HG6
    generalize w5.alloc (.cells #[.int .i64 la.kind, .int .u64 la.cycle, .int .u64 la.count, .int .u32 la.a, .int .u32 la.b, .int .u32 la.v] 98) = w6 at HX6 HE6 HB6 HG6 ⊢
    have x0 := cell_block HX6.out 0
    have x1 := cell_block HX6.out 1
    have x2 := cell_block HX6.out 2
    have x3 := cell_block HX6.out 3
    have x4 := cell_block HX6.out 4
    have x5 := cell_block HX6.out 5
    have x6 := cell_block HX6.out 6
    have x7 := cell_block HX6.out 7
    have x8 := cell_block HX6.out 8
    have x9 := cell_block HX6.out 9
    have x10 := cell_block HX6.out 10
    have x11 := cell_block HX6.out 11
    have x12 := cell_block HX6.out 12
    simp [recC, evC] at x0 x1 x2 x3 x4 x5 x6 x7 x8 x9 x10 x11 x12
    have v0 := cell_block HE6.out 0
    have v1 := cell_block HE6.out 1
    have v2 := cell_block HE6.out 2
    have v3 := cell_block HE6.out 3
    have v4 := cell_block HE6.out 4
    have v5 := cell_block HE6.out 5
    simp [recC, evC] at v0 v1 v2 v3 v4 v5
    have hl1 : ((L.length : Int) == 0) = false := by
      have h2 : ¬ (L.length : Int) = 0 := by have := HL0.out; omega
      simpa using h2
    go_upto_region 15 with (fail)
    have hbf : bef = la := by rw [HBF.out, if_neg HL0.out]
    have HX7 := HX6
    have HE7 := HE6
    have HB7 := Lib.hid (show w6.heap[b]? = some (.cells (evC bef) 98 (0, 0)) by rw [hbf]; exact HB6.out)
    have HG7 := HG6
    clear hbf hl1 HX6 HE6 HB6 HG6 x0 x1 x2 x3 x4 x5 x6 x7 x8 x9 x10 x11 x12 v0 v1 v2 v3 v4 v5
    generalize w6 = w7 at HX7 HE7 HB7 HG7 ⊢
    have x4 := cell_block HX7.out 4
    simp [recC, evC] at x4
    have v0 := cell_block HE7.out 0
    have v1 := cell_block HE7.out 1
    have v2 := cell_block HE7.out 2
    have v3 := cell_block HE7.out 3
    have v4 := cell_block HE7.out 4
    have v5 := cell_block HE7.out 5
    simp [recC, evC] at v0 v1 v2 v3 v4 v5
    have b0 := cell_block HB7.out 0
    have b1 := cell_block HB7.out 1
    have b2 := cell_block HB7.out 2
    have b3 := cell_block HB7.out 3
    have b4 := cell_block HB7.out 4
    have b5 := cell_block HB7.out 5
    simp [recC, evC] at b0 b1 b2 b3 b4 b5
    refine wp_region_rel_tail 8 _ Grow (fun _ wQ => Grow w7 wQ) [([(0, none)], none), ([(72, some 0)], none), ([(73, some 0)], none), ([(74, some 0)], none), ([(6, none)], none), ([(3, none)], none), ([(76, some 1), (77, some 0)], none), ([(75, some 3), (78, some 0)], none)] (by kernel_rfl) (by kernel_rfl) (by kernel_rfl) (Grow.drewN w7 1) ?_
    (refine relT_pure ?_; apply Exists.intro; refine ⟨fun aR wQ hF hk => relT_none fun K hK => ?_, ?_⟩; focus ((try simp at hk); go_simp; exact hK _ _ (Grow.refl _) hF rfl))
    (refine relT_pure ?_; apply Exists.intro; refine ⟨fun aR wQ hF hk => relT_none fun K hK => ?_, ?_⟩; focus ((try simp at hk); go_simp; exact hK _ _ (Grow.refl _) hF rfl))
    (refine relT_pure ?_; apply Exists.intro; refine ⟨fun aR wQ hF hk => relT_none fun K hK => ?_, ?_⟩; focus ((try simp at hk); go_simp; exact hK _ _ (Grow.refl _) hF rfl))
    (refine relT_pure ?_; apply Exists.intro; refine ⟨fun aR wQ hF hk => relT_none fun K hK => ?_, ?_⟩; focus ((try simp at hk); have x4 := cell_below hF (Nat.le_refl _) x4; go_simp; exact hK _ _ (Grow.refl _) hF rfl))
    (refine relT_pure ?_; apply Exists.intro; refine ⟨fun aR wQ hF hk => relT_none fun K hK => ?_, ?_⟩; focus ((try simp at hk); have b0 := cell_below hF (Nat.le_refl _) b0; have b1 := cell_below hF (Nat.le_refl _) b1; have b2 := cell_below hF (Nat.le_refl _) b2; have b3 := cell_below hF (Nat.le_refl _) b3; have b4 := cell_below hF (Nat.le_refl _) b4; have b5 := cell_below hF (Nat.le_refl _) b5; go_simp; exact hK _ _ (Grow.refl _) hF rfl))
    (refine relT_pure ?_; apply Exists.intro; refine ⟨fun aR wQ hF hk => relT_none fun K hK => ?_, ?_⟩; focus ((try simp at hk); have v0 := cell_below hF (Nat.le_refl _) v0; have v1 := cell_below hF (Nat.le_refl _) v1; have v2 := cell_below hF (Nat.le_refl _) v2; have v3 := cell_below hF (Nat.le_refl _) v3; have v4 := cell_below hF (Nat.le_refl _) v4; have v5 := cell_below hF (Nat.le_refl _) v5; go_simp; exact hK _ _ (Grow.refl _) hF rfl))
    (refine relT_pure ?_; apply Exists.intro; refine ⟨fun aR wQ hF hk => relT_none fun K hK => ?_, ?_⟩; focus ((try simp at hk); go_simp; refine (csize_w _ bef e d y H1.out).mono ?_; rintro e w' ⟨rfl, hg⟩; exact hK _ _ hg (Grow.trans hF hg) rfl))
    (refine relT_pure ?_; apply Exists.intro; refine ⟨fun aR wQ hF hk => relT_none fun K hK => ?_, ?_⟩; focus ((try simp at hk); have hs6 := HS6.out; go_simp; exact hK _ _ (Grow.refl _) hF rfl))
    refine relT_done fun wR => ?_
    refine fun v hv => ?_; obtain rfl : v = _ := hv
    refine fun v hv => ?_; obtain rfl : v = _ := hv
    refine fun v hv => ?_; obtain rfl : v = _ := hv
    refine fun v hv => ?_; obtain rfl : v = _ := hv
    refine fun v hv => ?_; obtain rfl : v = _ := hv
    refine fun v hv => ?_; obtain rfl : v = _ := hv
    refine fun v hv => ?_; obtain rfl : v = _ := hv
    refine fun v hv => ?_; obtain rfl : v = _ := hv
    simp only [Act.put, List.setIfInBounds_toArray, List.set_cons_zero, List.set_cons_succ]
    refine relT_nil fun hF => ?_
    simp only [List.drop_succ_cons, List.drop_zero]
    have HX8 := Lib.hid (hF.at HX7.out)
    have HE8 := Lib.hid (hF.at HE7.out)
    have HG8 := Lib.hid (HG7.out.trans hF)
    clear hF HX7 HE7 HB7 HG7 x4 v0 v1 v2 v3 v4 v5 b0 b1 b2 b3 b4 b5
    go_wp2_with (first
      | ((with_reducible refine store_in rfl 3 _ _ rfl x 4 142 _ (recC tb rg m (.slice A L.length cap) (sz + (coilB e d y).length) la fr false) (.int .i64 ((sz : Int) + ((coilB e d y).length : Int))) info3 HX8.out rfl ?_ ?_ ?_ ?_ ?_); (· rfl); (· rfl); (· simp); (· simp); intro w9 hw9 hb9 ho9; clear hw9))
    simp only [Act.put, List.setIfInBounds_toArray, List.set_cons_zero, List.set_cons_succ]
    have HX9 := Lib.hid hb9
    have HE9 := Lib.hid (ho9.at (ty_ne2 HE8.out HX8.out (by decide)) HE8.out)
    have HO9 := Lib.hid (own_only (own_grow HO.out HG8.out) ho9 HX8.out (by decide))
    have HK9 := Lib.hid ((Kp.of_grow (P := fun k => k ≠ x ∧ (Value.slice A L.length cap).ownBlock ≠ some k) HG8.out).trans (Kp.of_only ho9 (fun h => h.1 rfl)))
    clear hb9 ho9 HX8 HE8 HG8
    have x3 := cell_block HX9.out 3
    simp [recC, evC] at x3
    have v0 := cell_block HE9.out 0
    have v1 := cell_block HE9.out 1
    have v2 := cell_block HE9.out 2
    have v3 := cell_block HE9.out 3
    have v4 := cell_block HE9.out 4
    have v5 := cell_block HE9.out 5
    simp [recC, evC] at v0 v1 v2 v3 v4 v5
    refine wp_region_rel_float 7 0 (_) (_) _ Grow (fun _ wQ => Grow w9 wQ) [([(0, none)], none), ([(0, none)], none), ([(83, some 0)], none), ([(84, some 0)], none), ([(85, some 0)], none), ([(3, none)], none), ([(87, some 0)], none)] (by kernel_rfl) (by decide +kernel) rfl rfl (by kernel_rfl) (Grow.drewN w9 1) ?_
    (refine relF_pure ?_; apply Exists.intro; refine ⟨fun aR wQ hF hk => relT_none fun K hK => ?_, ?_⟩; focus ((try simp at hk); go_simp; exact hK _ _ (Grow.refl _) hF rfl))
    (refine relF_pure ?_; apply Exists.intro; refine ⟨fun aR wQ hF hk => relT_none fun K hK => ?_, ?_⟩; focus ((try simp at hk); go_simp; exact hK _ _ (Grow.refl _) hF rfl))
    (refine relF_pure ?_; apply Exists.intro; refine ⟨fun aR wQ hF hk => relT_none fun K hK => ?_, ?_⟩; focus ((try simp at hk); go_simp; exact hK _ _ (Grow.refl _) hF rfl))
    (refine relF_pure ?_; apply Exists.intro; refine ⟨fun aR wQ hF hk => relT_none fun K hK => ?_, ?_⟩; focus ((try simp at hk); go_simp; exact hK _ _ (Grow.refl _) hF rfl))
    (refine relF_pure ?_; apply Exists.intro; refine ⟨fun aR wQ hF hk => relT_none fun K hK => ?_, ?_⟩; focus ((try simp at hk); have x3 := cell_below hF (Nat.le_refl _) x3; go_simp; exact hK _ _ (Grow.refl _) hF rfl))
    (refine relF_pure ?_; apply Exists.intro; refine ⟨fun aR wQ hF hk => relT_none fun K hK => ?_, ?_⟩; focus ((try simp at hk); have v0 := cell_below hF (Nat.le_refl _) v0; have v1 := cell_below hF (Nat.le_refl _) v1; have v2 := cell_below hF (Nat.le_refl _) v2; have v3 := cell_below hF (Nat.le_refl _) v3; have v4 := cell_below hF (Nat.le_refl _) v4; have v5 := cell_below hF (Nat.le_refl _) v5; go_simp; exact hK _ _ (Grow.refl _) hF rfl))
    (refine relF_some (fun v wv => ∃ gb, v = .slice (some ⟨gb, 0, none⟩) 1 1 ∧ wv.heap[gb]? = some (.cells (evC e) 98 (0, 0))) (fun v w1 w2 hg ⟨gb, hv, hb⟩ => ⟨gb, hv, Grow.at hg hb⟩) (fun aR wQ hF hk => relT_none fun K hK => ?_) ?_; focus ((try simp at hk); go_simp; exact hK _ _ (Grow.alloc _ _) (Grow.trans hF (Grow.alloc _ _)) ⟨_, rfl, heapAt_alloc_new _ _⟩))
    refine relF_done (fun wR => ?_) (fun wR => ?_)
    · refine fun v hv => ?_; obtain rfl : v = _ := hv
      refine fun v hv => ?_; obtain rfl : v = _ := hv
      refine fun v hv => ?_; obtain rfl : v = _ := hv
      refine fun v hv => ?_; obtain rfl : v = _ := hv
      refine fun v hv => ?_; obtain rfl : v = _ := hv
      refine fun v hv => ?_; obtain rfl : v = _ := hv
      refine fun v1006 hv1006 => ?_
      obtain ⟨gb6, rfl, hgb6⟩ := hv1006
      simp only [Act.put, List.setIfInBounds_toArray, List.set_cons_zero, List.set_cons_succ]
      refine relT_nil fun hF => ?_
      simp only [List.drop_succ_cons, List.drop_zero]
      have HRX := Lib.hid (hF.at HX9.out)
      have HRE := Lib.hid (hF.at HE9.out)
      have HRO := Lib.hid (own_grow HO9.out hF)
      have HRK := Lib.hid (HK9.out.trans (Kp.of_grow hF))
      have HRR := Lib.hid (show Reads wR wR.heap.size 6 (some ⟨gb6, 0, none⟩) 1 (evL e) from reads_ev hgb6)
      have HRB := Lib.hid (show B ≤ wR.heap.size from Nat.le_trans HB.out HRK.out.size)
      clear hF hgb6 HX9 HE9 HO9 HK9 x3 v0 v1 v2 v3 v4 v5
      go_wp2_with (at_builtin; refine wpList_append_any _ rfl (.tmp 86) (.tmp 88) 41 rfl B 98 i0 _ 6 40 Tryz.underlying41 HI0.out HZ0.out HZ1.out HZ2.out rfl (by decide) _ L.length (evsC L) (by rfl) HRO.out _ (some ⟨gb6, 0, none⟩) 1 1 (evL e) (by rfl) HRR.out (evL_one e) ?c4Q ?c5Q ?c6Q ?c7Q)
      case c4Q => have := HLN.out; unfold maxLen; omega
      case c5Q => have := HLN.out; omega
      case c6Q => exact HRB.out
      case c7Q =>
        intro v' w10 hown hgr hblk
        have HX10 := Lib.hid (at_grown HRO.out hgr HRX.out (by decide))
        have HK10 := Lib.hid (HRK.out.trans (Kp.of_grown hgr (fun k h => h.2)))
        have HE10 := Lib.hid ((hgr.block g (heapAt_lt HRE.out) (fun h => by have := (HO.out.lt g h.symm).2; have := HGL.out; omega)).trans HRE.out)
        have HBLK := Lib.hid (show ∀ k, k < w.heap.size → v'.ownBlock = some k → (Value.slice A L.length cap).ownBlock = some k from fun k hk h => by
          rcases hblk with h2 | h2
          · rw [← h2]; exact h
          · rw [h2] at h; injection h with h; have := HRK.out.size; omega)
        have HW10 := Lib.hid hown
        have HV := Lib.hid (own_one hown)
        clear hown hgr hblk
        go_upto_region 17 with (first
          | ((with_reducible refine store_in rfl 41 _ _ rfl x 3 142 _ (recC tb rg m v' (sz + (coilB e d y).length) la fr false) v' info41s HX10.out HV.out ?_ ?_ ?_ ?_ ?_); (· rfl); (· rfl); (· simp); (· simp); intro w11 hw11 hb11 ho11; clear hw11))
        have HX11 := Lib.hid hb11
        have HE11 := Lib.hid (ho11.at (ty_ne2 HE10.out HX10.out (by decide)) HE10.out)
        have HW11 := Lib.hid (own_only HW10.out ho11 HX10.out (by decide))
        have HK11 := Lib.hid (HK10.out.trans (Kp.of_only ho11 (fun h => h.1 rfl)))
        clear hb11 ho11 HX10 HE10 HW10 HK10
        have v0 := cell_block HE11.out 0
        have v1 := cell_block HE11.out 1
        have v2 := cell_block HE11.out 2
        have v3 := cell_block HE11.out 3
        have v4 := cell_block HE11.out 4
        have v5 := cell_block HE11.out 5
        simp [recC, evC] at v0 v1 v2 v3 v4 v5
        go_wp2_with (first
          | ((with_reducible refine wpList_load_blk rfl 98 _ rfl g 98 (evC e) _ ?_ HE11.out Tryz.underlying98 rfl (info98 _) ?_); (· rfl))
          | ((with_reducible refine wpList_store_part rfl 98 _ _ rfl x 5 142 _ (evC e) (recC tb rg m v' (sz + (coilB e d y).length) e fr false) ?_ ?_ HX11.out ?_ (info98 _) (ones98 _) ?_ ?_); (· rfl); (· rfl); (· simp); (· rfl); intro w12 hb12 ho12))
        have HX12 := Lib.hid hb12
        have HW12 := Lib.hid (own_only HW11.out ho12 HX11.out (by decide))
        have HK12 := Lib.hid (HK11.out.trans (Kp.of_only ho12 (fun h => h.1 rfl)))
        clear hb12 ho12 HX11 HE11 HW11 HK11 v0 v1 v2 v3 v4 v5
        go_ret
        refine ⟨rfl, v', ⟨HX12.out, ?_⟩, HK12.out, HBLK.out⟩
        rw [List.length_append, evsC_append]
        show w12.ownsRow B 98 6 v' (L.length + 1) (evsC L ++ (evL e ++ []))
        rw [List.append_nil]
        exact HW12.out
    · refine fun v hv => ?_; obtain rfl : v = _ := hv
      refine fun v hv => ?_; obtain rfl : v = _ := hv
      refine fun v hv => ?_; obtain rfl : v = _ := hv
      refine fun v hv => ?_; obtain rfl : v = _ := hv
      refine fun v hv => ?_; obtain rfl : v = _ := hv
      refine fun v1006 hv1006 => ?_
      obtain ⟨gb6, rfl, hgb6⟩ := hv1006
      simp only [Act.put, List.setIfInBounds_toArray, List.set_cons_zero, List.set_cons_succ]
      refine relT_nil fun hF => ?_
      simp only [List.drop_succ_cons, List.drop_zero]
      have HRX := Lib.hid (hF.at HX9.out)
      have HRE := Lib.hid (hF.at HE9.out)
      have HRO := Lib.hid (own_grow HO9.out hF)
      have HRK := Lib.hid (HK9.out.trans (Kp.of_grow hF))
      have HRR := Lib.hid (show Reads wR wR.heap.size 6 (some ⟨gb6, 0, none⟩) 1 (evL e) from reads_ev hgb6)
      have HRB := Lib.hid (show B ≤ wR.heap.size from Nat.le_trans HB.out HRK.out.size)
      clear hF hgb6 HX9 HE9 HO9 HK9 x3 v0 v1 v2 v3 v4 v5
      go_wp2_with (at_builtin; refine wpList_append_any _ rfl (.tmp 86) (.tmp 88) 41 rfl B 98 i0 _ 6 40 Tryz.underlying41 HI0.out HZ0.out HZ1.out HZ2.out rfl (by decide) _ L.length (evsC L) (by rfl) HRO.out _ (some ⟨gb6, 0, none⟩) 1 1 (evL e) (by rfl) HRR.out (evL_one e) ?c4Q ?c5Q ?c6Q ?c7Q)
      case c4Q => have := HLN.out; unfold maxLen; omega
      case c5Q => have := HLN.out; omega
      case c6Q => exact HRB.out
      case c7Q =>
        intro v' w10 hown hgr hblk
        have HX10 := Lib.hid (at_grown HRO.out hgr HRX.out (by decide))
        have HK10 := Lib.hid (HRK.out.trans (Kp.of_grown hgr (fun k h => h.2)))
        have HE10 := Lib.hid ((hgr.block g (heapAt_lt HRE.out) (fun h => by have := (HO.out.lt g h.symm).2; have := HGL.out; omega)).trans HRE.out)
        have HBLK := Lib.hid (show ∀ k, k < w.heap.size → v'.ownBlock = some k → (Value.slice A L.length cap).ownBlock = some k from fun k hk h => by
          rcases hblk with h2 | h2
          · rw [← h2]; exact h
          · rw [h2] at h; injection h with h; have := HRK.out.size; omega)
        have HW10 := Lib.hid hown
        have HV := Lib.hid (own_one hown)
        clear hown hgr hblk
        go_upto_region 17 with (first
          | ((with_reducible refine store_in rfl 41 _ _ rfl x 3 142 _ (recC tb rg m v' (sz + (coilB e d y).length) la fr false) v' info41s HX10.out HV.out ?_ ?_ ?_ ?_ ?_); (· rfl); (· rfl); (· simp); (· simp); intro w11 hw11 hb11 ho11; clear hw11))
        have HX11 := Lib.hid hb11
        have HE11 := Lib.hid (ho11.at (ty_ne2 HE10.out HX10.out (by decide)) HE10.out)
        have HW11 := Lib.hid (own_only HW10.out ho11 HX10.out (by decide))
        have HK11 := Lib.hid (HK10.out.trans (Kp.of_only ho11 (fun h => h.1 rfl)))
        clear hb11 ho11 HX10 HE10 HW10 HK10
        have v0 := cell_block HE11.out 0
        have v1 := cell_block HE11.out 1
        have v2 := cell_block HE11.out 2
        have v3 := cell_block HE11.out 3
        have v4 := cell_block HE11.out 4
        have v5 := cell_block HE11.out 5
        simp [recC, evC] at v0 v1 v2 v3 v4 v5
        go_wp2_with (first
          | ((with_reducible refine wpList_load_blk rfl 98 _ rfl g 98 (evC e) _ ?_ HE11.out Tryz.underlying98 rfl (info98 _) ?_); (· rfl))
          | ((with_reducible refine wpList_store_part rfl 98 _ _ rfl x 5 142 _ (evC e) (recC tb rg m v' (sz + (coilB e d y).length) e fr false) ?_ ?_ HX11.out ?_ (info98 _) (ones98 _) ?_ ?_); (· rfl); (· rfl); (· simp); (· rfl); intro w12 hb12 ho12))
        have HX12 := Lib.hid hb12
        have HW12 := Lib.hid (own_only HW11.out ho12 HX11.out (by decide))
        have HK12 := Lib.hid (HK11.out.trans (Kp.of_only ho12 (fun h => h.1 rfl)))
        clear hb12 ho12 HX11 HE11 HW11 HK11 v0 v1 v2 v3 v4 v5
        go_ret
        refine ⟨rfl, v', ⟨HX12.out, ?_⟩, HK12.out, HBLK.out⟩
        rw [List.length_append, evsC_append]
        show w12.ownsRow B 98 6 v' (L.length + 1) (evsC L ++ (evL e ++ []))
        rw [List.append_nil]
        exact HW12.out
end Go.Proofs.YtnhmdinpfcoebaaGreatDoor
end

/-! === Rec2 -/
section
/- rec.Recorder: Flush, Close, Frames. -/
namespace Go.Proofs.YtnhmdinpfcoebaaGreatDoor
open Go.RowKit
set_option linter.unusedVariables false
set_option linter.unusedSimpArgs false
set_option maxRecDepth 100000

open Go.Lib
attribute [local simp] RelKnown Is
attribute [local go_sem ↓] Go.wp_at_zero Go.wp_at_succ
theorem ring_kp {P : Nat → Prop} {w w' : World} {base r g cap : Nat} {pol : Int} {s : Rg.RG} (h : Rg.RingAt w base r g cap pol s) (hk : Kp P w w') (hP : ∀ k cs t fr, w.heap[k]? = some (.cells cs t fr) → t = 62 ∨ t = 5 ∨ t = 3 → P k) : Rg.RingAt w' base r g cap pol s := by
  unfold Rg.RingAt at h ⊢
  obtain ⟨h1, h2, h3, hd, R, A, c, h4, h5, h6⟩ := h
  exact ⟨h1, h2, h3, hd, R, A, c, ⟨h4.hr, h4.hg, hk.at (hP _ _ _ _ h4.blk (.inl rfl)) h4.blk, hk.at (hP _ _ _ _ h4.room (.inr (.inl rfl))) h4.room, h4.sz.keep fun k cs hkk => hk.at (hP _ _ _ _ hkk (.inr (.inr rfl))) hkk⟩, h5, h6⟩
attribute [local irreducible] Rg.RingAt
set_option maxHeartbeats 8000000 in
theorem rflush_w (w : World) (B x tb rg g base cap' m sz fr : Nat) (pol : Int) (s s2 : Rg.RG) (op : Value) (L : List Top.Ev) (la : Top.Ev) (d y : Nat → Nat) (q : Int) (h : RecAt w B x tb rg m op L sz la fr false) (hT : TabAt w tb) (hR : Rg.RingAt w base rg g cap' pol s)
    (h1 : 1 ≤ L.length) (h2 : L.length ≤ 1000) (hfr : fr < 1000000) (hs : ∀ k, k < L.length → Step1 (L.getD (k - 1) default) (L.getD k default) (d k) (y k)) (hl : (runB (fun j => L.getD j default) d y L.length).length ≤ 120)
    (hp : Rg.putG cap' pol (frameB ⟨fr, none, L.length, 0, fun j => L.getD j default⟩ (runB (fun j => L.getD j default) d y L.length)) s.L.length s = (q, s2)) (hn : s.gone.length + s.L.length < 4611686018427387900) (hbx : base ≤ x) (hbs : base ≤ w.heap.size) (hnx : ¬ (x = rg ∨ x = g)) :
    Calls Tryz.prog 39 #[.pointer (some ⟨x, 0, none⟩)] w fun r w' => r = .returned (.tuple #[]) ∧ RecAt w' B x tb rg m (.slice none 0 0) [] 0 la (fr + 1) false ∧ Rg.RingAt w' base rg g cap' pol s2 ∧ Below base w w' := by
  obtain ⟨A, cap, rfl, he, hblk⟩ := own_evs h.o
  clear hblk
  have HX := Lib.hid h.bk
  have HT := Lib.hid hT; clear hT
  have HR := Lib.hid hR; clear hR
  have HE := Lib.hid he; clear he
  have HBX := Lib.hid hbx; clear hbx
  have HBS := Lib.hid hbs; clear hbs
  have HNX := Lib.hid hnx; clear hnx
  have HP := Lib.hid (fun w' hT' (hE' : EvRd w' A L.length (fun j => L.getD j default)) => fprint_w w' tb ⟨fr, A, L.length, cap, fun j => L.getD j default⟩ d y hT' hE' (by show fr < 2 ^ 32; omega) h1 h2 hs hl)
  have HLEN := Lib.hid hl
  have hfe : frameB ⟨fr, A, L.length, cap, fun j => L.getD j default⟩ (runB (fun j => L.getD j default) d y L.length) = frameB ⟨fr, none, L.length, 0, fun j => L.getD j default⟩ (runB (fun j => L.getD j default) d y L.length) := rfl
  dsimp only at HP hfe
  generalize frameB ⟨fr, none, L.length, 0, fun j => L.getD j default⟩ (runB (fun j => L.getD j default) d y L.length) = T at hp hfe
  have HFL := Lib.hid (show 1 ≤ T.length ∧ T.length ≤ 179 by
    rw [← hfe]
    unfold frameB headB
    simp only [List.length_append, mk_len, septB_len]
    omega)
  rw [hfe] at HP
  unfold frC at HP
  have HPT := Lib.hid (fun w' hr' => Rg.put_walk (w := w') (base := base) (r := rg) (g := g) (cap := cap') (pol := pol) (s := s) hr' T q s2 hp HFL.out.1 HFL.out.2 hn)
  have hl1 : ((L.length : Int) == 0) = false := by
    have h3 : ¬ (L.length : Int) = 0 := by omega
    simpa using h3
  have f1 : (fr : Int) < 1000000 := by omega
  have hwr : IntKind.u32.wrap (fr : Int) = (fr : Int) := by rw [IntKind.wrap_u32']; omega
  have f0 : (0 : Int) ≤ (fr : Int) := by omega
  clear h hfe hp hn hs hl h1 h2 hfr HLEN
  go_enter Tryz.func39, Tryz.ntmps39
  have x0 := cell_block HX.out 0
  have x1 := cell_block HX.out 1
  have x2 := cell_block HX.out 2
  have x3 := cell_block HX.out 3
  have x4 := cell_block HX.out 4
  have x5 := cell_block HX.out 5
  have x6 := cell_block HX.out 6
  have x7 := cell_block HX.out 7
  have x8 := cell_block HX.out 8
  have x9 := cell_block HX.out 9
  have x10 := cell_block HX.out 10
  have x11 := cell_block HX.out 11
  have x12 := cell_block HX.out 12
  simp [recC, evC] at x0 x1 x2 x3 x4 x5 x6 x7 x8 x9 x10 x11 x12
  go_upto_region 1 with (fail)
  have HTD := Lib.hid (show TabAt w.drew tb from HT.out.grow (Grow.drewN w 1))
  have HED := Lib.hid (show EvRd w.drew A L.length (fun j => L.getD j default) from HE.out.grow (Grow.drewN w 1))
  go_region_held3 (fun w' => w'.cell? ⟨x, 0, none⟩ = some (.pointer (some ⟨tb, 0, none⟩)) ∧ w'.cell? ⟨x, 11, none⟩ = some (.int .i64 (fr : Int)) ∧ w'.cell? ⟨x, 3, none⟩ = some (.slice A L.length cap)) (first | go_keep | exact ⟨cell_below (Grow.trans (show Grow w w.drew from Grow.drewN w 1) hg) (Nat.le_refl _) x0, cell_below (Grow.trans (show Grow w w.drew from Grow.drewN w 1) hg) (Nat.le_refl _) x11, cell_below (Grow.trans (show Grow w w.drew from Grow.drewN w 1) hg) (Nat.le_refl _) x3⟩) ((go_at_call 61; with_reducible refine (HP.out w.drew HTD.out HED.out).mono ?_; rintro _ w2 ⟨rfl, hg⟩))
  all_goals
    have HG2 := Lib.hid (Grow.trans (show Grow w w.drew from Grow.drewN w 1) hg)
    have HX2 := Lib.hid (HG2.out.at HX.out)
    have HR2 := Lib.hid (HR.out.grow HG2.out)
    clear hg x0 x1 x2 x3 x4 x5 x6 x7 x8 x9 x10 x11 x12
    have x0 := cell_block HX2.out 0
    have x1 := cell_block HX2.out 1
    have x2 := cell_block HX2.out 2
    have x3 := cell_block HX2.out 3
    have x4 := cell_block HX2.out 4
    have x5 := cell_block HX2.out 5
    have x6 := cell_block HX2.out 6
    have x7 := cell_block HX2.out 7
    have x8 := cell_block HX2.out 8
    have x9 := cell_block HX2.out 9
    have x10 := cell_block HX2.out 10
    have x11 := cell_block HX2.out 11
    have x12 := cell_block HX2.out 12
    simp [recC, evC] at x0 x1 x2 x3 x4 x5 x6 x7 x8 x9 x10 x11 x12
    go_wp2_with fail
    refine (HPT.out w2 HR2.out).mono ?_
    rintro _ w3 ⟨rfl, hr, hf⟩
    have HR3 := Lib.hid hr
    have HX3 := Lib.hid (hf.2 x _ HX2.out HNX.out (by intro cs f e; injection e with _ e _; cases e))
    have HF3 := Lib.hid (show Below base w w3 from Below.trans (Below.mono HG2.out HBS.out) hf.1)
    clear hr hf x0 x1 x2 x3 x4 x5 x6 x7 x8 x9 x10 x11 x12
    have x0 := cell_block HX3.out 0
    have x1 := cell_block HX3.out 1
    have x2 := cell_block HX3.out 2
    have x3 := cell_block HX3.out 3
    have x4 := cell_block HX3.out 4
    have x5 := cell_block HX3.out 5
    have x6 := cell_block HX3.out 6
    have x7 := cell_block HX3.out 7
    have x8 := cell_block HX3.out 8
    have x9 := cell_block HX3.out 9
    have x10 := cell_block HX3.out 10
    have x11 := cell_block HX3.out 11
    have x12 := cell_block HX3.out 12
    simp [recC, evC] at x0 x1 x2 x3 x4 x5 x6 x7 x8 x9 x10 x11 x12
    go_wp2_with (first
      | ((with_reducible refine store_in rfl 3 _ _ rfl x 11 142 _ (recC tb rg m (.slice A L.length cap) sz la (fr + 1) false) (.int .i64 ((fr : Int) + 1)) info3 HX3.out rfl ?_ ?_ ?_ ?_ ?_); (· rfl); (· rfl); (· simp); (· simp); intro w4 hw4 hb4 ho4; clear hw4)
      | ((with_reducible refine store_in rfl 41 _ _ rfl x 3 142 _ (recC tb rg m (.slice none 0 0) sz la (fr + 1) false) (.slice none 0 0) info41s hb4 rfl ?_ ?_ ?_ ?_ ?_); (· rfl); (· rfl); (· simp); (· simp); intro w5 hw5 hb5 ho5; clear hw5)
      | ((with_reducible refine store_in rfl 3 _ _ rfl x 4 142 _ (recC tb rg m (.slice none 0 0) 0 la (fr + 1) false) (.int .i64 0) info3 hb5 rfl ?_ ?_ ?_ ?_ ?_); (· rfl); (· rfl); (· simp); (· simp); intro w6 hw6 hb6 ho6; clear hw6))
    go_end0
    have ho := (ho4.trans ho5).trans ho6
    refine ⟨rfl, ⟨hb6, World.ownsRow_nil _ _ _ _⟩, ring_kp HR3.out (Kp.of_only (P := fun k => k ≠ x) ho (fun h => h rfl)) (fun k cs t fr hk ht e => ?_), HF3.out.trans (ho.below HBX.out (Nat.le_trans HBS.out HF3.out.size))⟩
    subst e
    rw [HX3.out] at hk
    injection hk with hk
    injection hk with _ hk _
    subst hk
    revert ht
    decide
end Go.Proofs.YtnhmdinpfcoebaaGreatDoor
end

/-! === Rec3 -/
section
/- rec.Recorder: Close, Frames. -/
namespace Go.Proofs.YtnhmdinpfcoebaaGreatDoor
open Go.RowKit
set_option linter.unusedVariables false
set_option linter.unusedSimpArgs false
set_option maxRecDepth 100000

open Go.Lib
attribute [local irreducible] Rg.RingAt
set_option maxHeartbeats 4000000 in
theorem info4s : (Tryz.prog.info? 4).map (·.size) = some 1 := by kernel_rfl
/-- What Put may touch is no block of another type. -/
theorem put_kept {w : World} {B x tb rg m sz fr : Nat} {op : Value} {L : List Top.Ev} {la : Top.Ev} {cl : Bool} (h : RecAt w B x tb rg m op L sz la fr cl) (k : Nat) (cs : Array Value) (t : TypeId) (fr2 : Nat × Nat) (hk : w.heap[k]? = some (.cells cs t fr2)) (h1 : t ≠ 98) (h2 : t ≠ 142) : k ≠ x ∧ op.ownBlock ≠ some k := by
  refine ⟨ty_ne2 hk h.bk h2, fun e => ?_⟩
  obtain ⟨cur, hc⟩ := own_blk h.o e
  exact ty_ne2 hk hc h1 rfl
set_option maxHeartbeats 8000000 in
theorem rclose_w (w : World) (e : Top.Ev) (B x tb rg g base cap' m sz fr cyc cnt : Nat) (he : e = ⟨24, cyc, cnt, 0, 0, 0⟩) (pol : Int) (s s2 : Rg.RG) (op : Value) (L : List Top.Ev) (la bef : Top.Ev) (d0 y0 dd yy : Nat) (d y : Nat → Nat) (q : Int) (h : RecAt w B x tb rg m op L sz la fr false) (hT : TabAt w tb) (hR : Rg.RingAt w base rg g cap' pol s)
    (hB : B ≤ w.heap.size) (h0 : Step1 la e d0 y0) (hbef : bef = if L.length = 0 then e else la) (h1 : Step1 bef e dd yy) (hm : m ≤ 120) (hL : L.length ≤ 900) (hsz : sz + (coilB e d0 y0).length ≤ m)
    (hfr : fr < 1000000) (hs : ∀ k, k < (L ++ [e]).length → Step1 ((L ++ [e]).getD (k - 1) default) ((L ++ [e]).getD k default) (d k) (y k)) (hl : (runB (fun j => (L ++ [e]).getD j default) d y (L ++ [e]).length).length ≤ 120)
    (hp : Rg.putG cap' pol (frameB ⟨fr, none, (L ++ [e]).length, 0, fun j => (L ++ [e]).getD j default⟩ (runB (fun j => (L ++ [e]).getD j default) d y (L ++ [e]).length)) s.L.length s = (q, s2)) (hn : s.gone.length + s.L.length < 4611686018427387900) (hbB : base ≤ B) (hbx : base ≤ x) (hnx : ¬ (x = rg ∨ x = g)) :
    Calls Tryz.prog 41 #[.pointer (some ⟨x, 0, none⟩), .int .u64 cyc, .int .u64 cnt] w fun r w' => r = .returned (.int .i64 0) ∧ RecAt w' B x tb rg m (.slice none 0 0) [] 0 e (fr + 1) true ∧ Rg.RingAt w' base rg g cap' pol s2 ∧ Below base w w' := by
  have hput := rput_keep w B x tb rg m sz fr op L la e bef d0 y0 dd yy h hB h0 hbef h1 hm (by omega) hsz
  rw [show evC e = #[.int .i64 24, .int .u64 cyc, .int .u64 cnt, .int .u32 0, .int .u32 0, .int .u32 0] by rw [he]; rfl] at hput
  have HPUT := Lib.hid hput
  have HFL := Lib.hid (fun w1 op' sz' (h' : RecAt w1 B x tb rg m op' (L ++ [e]) sz' e fr false) hT' hR' hbs' => rflush_w w1 B x tb rg g base cap' m sz' fr pol s s2 op' (L ++ [e]) e d y q h' hT' hR' (by simp) (by simp; omega) hfr hs hl hp hn hbx hbs' hnx)
  have HKEPT := Lib.hid (fun k cs t fr2 hk h1 h2 => put_kept h k cs t fr2 hk h1 h2)
  have HOB := Lib.hid (show ∀ k, k < base → k ≠ x ∧ op.ownBlock ≠ some k from fun k hk => ⟨by omega, fun e0 => by have := (h.o.lt k e0).1; omega⟩)
  have HT := Lib.hid hT; clear hT
  have HR := Lib.hid hR; clear hR
  have HBS := Lib.hid (Nat.le_trans hbB hB)
  have HBX := Lib.hid hbx
  clear hput he h hB h0 hbef h1 hm hL hsz hfr hs hl hp hn hbB hbx hnx
  go_enter Tryz.func41, Tryz.ntmps41
  go_wp2_with fail
  refine HPUT.out.mono ?_
  rintro _ w1 ⟨rfl, ho⟩
  unfold PutOut at ho
  obtain ⟨op', hr, hk, _⟩ := ho
  have HR1 := Lib.hid (ring_kp HR.out hk (fun k cs t fr2 hk2 ht => HKEPT.out k cs t fr2 hk2 (by rcases ht with rfl | rfl | rfl <;> decide) (by rcases ht with rfl | rfl | rfl <;> decide)))
  have HT1 := Lib.hid (show TabAt w1 tb from hk.at (HKEPT.out _ _ _ _ HT.out (by decide) (by decide)) HT.out)
  have HX1 := Lib.hid hr
  have HB1 := Lib.hid (hk.below HBS.out HOB.out)
  clear hr hk
  go_wp2_with fail
  refine (HFL.out w1 op' _ HX1.out HT1.out HR1.out (Nat.le_trans HBS.out HB1.out.size)).mono ?_
  rintro _ w2 ⟨rfl, hr, hg, hb⟩
  have HX2 := Lib.hid hr.bk
  have HR2 := Lib.hid hg
  have HB2 := Lib.hid (HB1.out.trans hb)
  clear hr hg hb
  go_wp2_with (first
    | ((with_reducible refine store_in rfl 4 _ _ rfl x 12 142 _ (recC tb rg m (.slice none 0 0) 0 e (fr + 1) true) (.bool true) info4s HX2.out rfl ?_ ?_ ?_ ?_ ?_); (· rfl); (· rfl); (· simp); (· simp); intro w3 hw3 hb3 ho3; clear hw3))
  go_ret
  refine ⟨rfl, ⟨hb3, World.ownsRow_nil _ _ _ _⟩, ring_kp HR2.out (Kp.of_only (P := fun k => k ≠ x) ho3 (fun h => h rfl)) (fun k cs t fr hk ht e0 => ?_), HB2.out.trans (ho3.below HBX.out (Nat.le_trans HBS.out HB2.out.size))⟩
  subst e0
  rw [HX2.out] at hk
  injection hk with hk
  injection hk with _ hk _
  subst hk
  revert ht
  decide
theorem rframes_w (w : World) (B x tb rg m sz fr : Nat) (op : Value) (L : List Top.Ev) (la : Top.Ev) (cl : Bool) (h : RecAt w B x tb rg m op L sz la fr cl) : Calls Tryz.prog 42 #[.pointer (some ⟨x, 0, none⟩)] w fun r w' => r = .returned (.int .i64 fr) ∧ w' = w := by
  have c := cell_block h.bk 11
  simp at c
  clear h
  go_enter Tryz.func42, Tryz.ntmps42
  go_wp2
  go_ret
  exact ⟨rfl, rfl⟩
end Go.Proofs.YtnhmdinpfcoebaaGreatDoor
end
