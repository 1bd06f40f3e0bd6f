/- The walk of CpuParts. -/
import Derived.Test.YtkjacmnocbdghaaLawA
import Derived.Test.YtkjacmnocbdghaaRelTail
import Derived.Test.YtkjacmnocbdghaaCopyC
namespace Go.Proofs.Ytkjacmnocbdghaa
open Go.RowKit
set_option linter.unusedVariables false
attribute [local irreducible] hasA hasB hasC hasD hasK bitsOf regP hasStr letter formP bad4 bad6 bad8 bad10 ctxCells regArr valW valE words upd stepP goS runP
attribute [local simp] RelKnown Is
/-- A block that a value owns. -/
def bl (v : Value) (g : Nat) : Prop := v = .pointer (some ⟨g, 0, none⟩) ∨ ∃ cs A n cap, v = .agg cs ∧ cs[9]? = some (.slice A n cap) ∧ A = some ⟨g, 0, none⟩
theorem bl_undef (g : Nat) : ¬ bl undef g := by
  rintro (h | ⟨cs, A, n, cap, h, _⟩) <;> simp [undef] at h
theorem bl_ptr (m g : Nat) (h : bl (.pointer (some ⟨m, 0, none⟩)) g) : g = m := by
  rcases h with h | ⟨cs, A, n, cap, h, _⟩
  · injection h with h; injection h with h; injection h with h; exact h.symm
  · cases h
theorem bl_ctx {at_ : Int} {R : Nat → BitVec 32} {A : Option Addr} {n cap g : Nat} (h : bl (.agg (ctxCells at_ R (.slice A n cap))) g) : A = some ⟨g, 0, none⟩ := by
  rcases h with h | ⟨cs, A', n', cap', h, h9, hA⟩
  · cases h
  · injection h with h
    rw [← h, ctx_9] at h9
    injection h9 with h9; injection h9 with h9
    rw [h9]; exact hA
theorem bl_of {at_ : Int} {R : Nat → BitVec 32} {A : Option Addr} {n cap g : Nat} (h : A = some ⟨g, 0, none⟩) : bl (.agg (ctxCells at_ R (.slice A n cap))) g :=
  .inr ⟨_, A, n, cap, rfl, ctx_9 _ _ _, h⟩
theorem bl_ptr_of (m : Nat) : bl (.pointer (some ⟨m, 0, none⟩)) m := .inl rfl
def FA (w0 : World) (xb : Nat) (at_ : Int) (R M : Nat → BitVec 32) (A : Option Addr) (n cap B : Nat) (a : Act) (w : World) : Prop := (w.heap[xb]? = some (.cells (ctxCells at_ R (.slice A n cap)) 26 (0, 0)) ∧ Grow w0 w) ∧ Apart bl B [38, 40, 9, 10] a w
def DC (at_ : Int) (R M : Nat → BitVec 32) (n B : Nat) (v : Value) (w : World) : Prop := ∃ A1 cap1, v = .agg (ctxCells at_ R (.slice A1 n cap1)) ∧ MemOwn w B A1 n M ∧ (n : Int) ≤ cap1 ∧ ∀ m, A1 = some ⟨m, 0, none⟩ → B ≤ m
def Zc : Array Value := #[.int .i64 0, .int .u32 0, .int .u32 0, .int .u32 0, .int .u32 0, .int .u32 0, .int .u32 0, .int .u32 0, .int .u32 0, .slice none 0 0]
def DA (B : Nat) (v : Value) (w : World) : Prop := ∃ g, v = .pointer (some ⟨g, 0, none⟩) ∧ w.heap[g]? = some (.cells Zc 26 (0, 0)) ∧ B ≤ g
theorem st_grow_only {w w' : World} {B g n cap : Nat} {at_ : Int} {R M : Nat → BitVec 32} {A : Option Addr} {S : Nat → Prop} (h : St w B g at_ R A n cap M) (hk : Kept S w w') (h1 : ¬ S g) (h2 : ∀ m, A = some ⟨m, 0, none⟩ → ¬ S m) : St w' B g at_ R A n cap M := by
  refine ⟨hk.at h1 h.1, fun hn => ?_, h.2.2.1, h.2.2.2⟩
  obtain ⟨m, hA, hB, hc, hf⟩ := h.2.1 hn
  have hlt := cell_lt (hc 0 hn)
  have hb := hk.2.2.2.2 m hlt (h2 m hA)
  exact ⟨m, hA, hB, fun j hj => (World.cell?_of_block (a := ⟨m, j, none⟩) hb).trans (hc j hj), fun j => by
    have := hf j
    unfold World.frozen? at this ⊢
    rw [hb]; exact this⟩
set_option maxRecDepth 100000 in
set_option maxHeartbeats 1000000 in
theorem cpuParts_great (at_ : Int) (R M : Nat → BitVec 32) (A : Option Addr) (n cap : Nat) (CA : Option Addr) (len ccap : Nat) (C : Nat → Ins) (pa pb : Int) (w : World) (hcap : (n : Int) ≤ cap) (hM : MemAt w A n M) (hgr : 300 < (n : Int) ∨ at_ < 0 ∨ 1099511627776 < at_) :
    Calls Try.prog 6 #[.agg (ctxCells at_ R (.slice A n cap)), .slice CA len ccap, .agg #[.int .i64 pa, .int .i64 pb]] w fun e w' => e = .returned (.bool true) ∧ Below w.heap.size w w' := by
  have hX := heap_alloc2_old w (.cells (ctxCells at_ R (.slice A n cap)) 26) (.cells #[.int .i64 pa, .int .i64 pb] 43)
  have hY := heap_alloc2_new w (.cells (ctxCells at_ R (.slice A n cap)) 26) (.cells #[.int .i64 pa, .int .i64 pb] 43)
  have hG : Grow w ((w.alloc (.cells (ctxCells at_ R (.slice A n cap)) 26)).alloc (.cells #[.int .i64 pa, .int .i64 pb] 43)) := (Grow.alloc w _).trans (Grow.alloc _ _)
  go_enter Try.func6, Try.ntmps6
  go_wp2_with fail
  generalize (w.alloc (.cells (ctxCells at_ R (.slice A n cap)) 26)).alloc (.cells #[.int .i64 pa, .int .i64 pb] 43) = w1 at hX hY hG ⊢
  refine (awake_any _).mono ?_
  rintro e w2 ⟨rfl, hg⟩
  replace hX := hg.at hX
  replace hY := hg.at hY
  replace hG := hG.trans hg
  have HG := Lib.hid hG; clear hg hG
  have HX := Lib.hid hX; clear hX
  have HY := Lib.hid hY; clear hY
  have HINF := Lib.hid (info26c at_ R (.slice A n cap))
  have HGR := Lib.hid hgr; clear hgr
  go_wp2_with (first | ((with_reducible refine wpList_load_blk_if ?_ 26 (.tmp 3) rfl w.heap.size 26 (ctxCells at_ R (.slice A n cap)) _ ?_ HX.out Try.underlying26 ?_ HINF.out ?_); (· rfl); (· rfl); (· rfl)))
  refine (great_yes _ at_ R A n cap HGR.out).mono ?_
  rintro e w3 ⟨rfl, hg⟩
  replace HG := Lib.hid (HG.out.trans hg)
  clear hg
  go_wp2_with fail
  refine (awake_any _).mono ?_
  rintro e w4 ⟨rfl, hg⟩
  replace HG := Lib.hid (HG.out.trans hg)
  clear hg
  go_wp2
  go_ret
  exact ⟨rfl, HG.out⟩
set_option maxRecDepth 100000 in
set_option maxHeartbeats 1000000 in
theorem cpuParts_long (at_ : Int) (R M : Nat → BitVec 32) (A : Option Addr) (n cap : Nat) (CA : Option Addr) (len ccap : Nat) (C : Nat → Ins) (pa pb : Int) (w : World) (hcap : (n : Int) ≤ cap) (hM : MemAt w A n M) (hn : (n : Int) ≤ 300) (h0 : 0 ≤ at_) (h1 : at_ ≤ 1099511627776) (hlen : 300 < (len : Int)) :
    Calls Try.prog 6 #[.agg (ctxCells at_ R (.slice A n cap)), .slice CA len ccap, .agg #[.int .i64 pa, .int .i64 pb]] w fun e w' => e = .returned (.bool true) ∧ Below w.heap.size w w' := by
  have hX := heap_alloc2_old w (.cells (ctxCells at_ R (.slice A n cap)) 26) (.cells #[.int .i64 pa, .int .i64 pb] 43)
  have hY := heap_alloc2_new w (.cells (ctxCells at_ R (.slice A n cap)) 26) (.cells #[.int .i64 pa, .int .i64 pb] 43)
  have hG : Grow w ((w.alloc (.cells (ctxCells at_ R (.slice A n cap)) 26)).alloc (.cells #[.int .i64 pa, .int .i64 pb] 43)) := (Grow.alloc w _).trans (Grow.alloc _ _)
  go_enter Try.func6, Try.ntmps6
  go_wp2_with fail
  generalize (w.alloc (.cells (ctxCells at_ R (.slice A n cap)) 26)).alloc (.cells #[.int .i64 pa, .int .i64 pb] 43) = w1 at hX hY hG ⊢
  refine (awake_any _).mono ?_
  rintro e w2 ⟨rfl, hg⟩
  replace hX := hg.at hX
  replace hY := hg.at hY
  replace hG := hG.trans hg
  have HG := Lib.hid hG; clear hg hG
  have HX := Lib.hid hX; clear hX
  have HY := Lib.hid hY; clear hY
  have HINF := Lib.hid (info26c at_ R (.slice A n cap))
  go_wp2_with (first | ((with_reducible refine wpList_load_blk_if ?_ 26 (.tmp 3) rfl w.heap.size 26 (ctxCells at_ R (.slice A n cap)) _ ?_ HX.out Try.underlying26 ?_ HINF.out ?_); (· rfl); (· rfl); (· rfl)))
  refine (great_no _ at_ R A n cap hn h0 h1).mono ?_
  rintro e w3 ⟨rfl, hg⟩
  replace HX := Lib.hid (hg.at HX.out)
  replace HY := Lib.hid (hg.at HY.out)
  replace HG := Lib.hid (HG.out.trans hg)
  clear hg
  go_wp2_with fail
  refine (awake_any _).mono ?_
  rintro e w4 ⟨rfl, hg⟩
  replace HG := Lib.hid (HG.out.trans hg)
  clear hg
  go_wp2
  go_ret
  exact ⟨rfl, HG.out⟩
set_option maxRecDepth 100000 in
set_option maxHeartbeats 1000000 in
theorem cpuParts_walk (at_ : Int) (R M : Nat → BitVec 32) (A : Option Addr) (n cap : Nat) (CA : Option Addr) (len ccap : Nat) (C : Nat → Ins) (pa pb : Int) (w : World) (hcap : (n : Int) ≤ cap) (hM : MemAt w A n M) (hn : (n : Int) ≤ 300) (h0 : 0 ≤ at_) (h1 : at_ ≤ 1099511627776) (hlen : (len : Int) ≤ 300) (hcl : (len : Int) ≤ ccap) (hC : CodeAt w CA len C) :
    Calls Try.prog 6 #[.agg (ctxCells at_ R (.slice A n cap)), .slice CA len ccap, .agg #[.int .i64 pa, .int .i64 pb]] w fun e w' => e = .returned (.bool true) ∧ Below w.heap.size w w' := by
  have hX := heap_alloc2_old w (.cells (ctxCells at_ R (.slice A n cap)) 26) (.cells #[.int .i64 pa, .int .i64 pb] 43)
  have hY := heap_alloc2_new w (.cells (ctxCells at_ R (.slice A n cap)) 26) (.cells #[.int .i64 pa, .int .i64 pb] 43)
  have hG : Grow w ((w.alloc (.cells (ctxCells at_ R (.slice A n cap)) 26)).alloc (.cells #[.int .i64 pa, .int .i64 pb] 43)) := (Grow.alloc w _).trans (Grow.alloc _ _)
  go_enter Try.func6, Try.ntmps6
  go_wp2_with fail
  generalize (w.alloc (.cells (ctxCells at_ R (.slice A n cap)) 26)).alloc (.cells #[.int .i64 pa, .int .i64 pb] 43) = w1 at hX hY hG ⊢
  refine (awake_any _).mono ?_
  rintro e w2 ⟨rfl, hg⟩
  replace hX := hg.at hX
  replace hY := hg.at hY
  replace hG := hG.trans hg
  have HG := Lib.hid hG; clear hg hG
  have HX := Lib.hid hX; clear hX
  have HY := Lib.hid hY; clear hY
  have HINF := Lib.hid (info26c at_ R (.slice A n cap))
  go_wp2_with (first | ((with_reducible refine wpList_load_blk_if ?_ 26 (.tmp 3) rfl w.heap.size 26 (ctxCells at_ R (.slice A n cap)) _ ?_ HX.out Try.underlying26 ?_ HINF.out ?_); (· rfl); (· rfl); (· rfl)))
  refine (great_no _ at_ R A n cap hn h0 h1).mono ?_
  rintro e w3 ⟨rfl, hg⟩
  replace HX := Lib.hid (hg.at HX.out)
  replace HY := Lib.hid (hg.at HY.out)
  replace HG := Lib.hid (HG.out.trans hg)
  clear hg
  have c0 := cell_block HY.out 0
  have c1 := cell_block HY.out 1
  go_wp2_with fail
  go_quiet (fail)
  have fin : ∀ p : Int, ∃ (m : Int) (kp : Nat), (if p < 0 then 0 else p) = m ∧ (if 200 < m then 200 else m) = (kp : Int) ∧ kp ≤ 200 := fun p => ⟨(if p < 0 then 0 else p), (if 200 < if p < 0 then 0 else p then 200 else if p < 0 then 0 else p).toNat, rfl, by split <;> split <;> omega, by split <;> split <;> omega⟩
  obtain ⟨ma, ka, hma, hka, hka2⟩ := fin pa
  obtain ⟨mb, kb, hmb, hkb, hkb2⟩ := fin pb
  rw [hma, hmb, hka, hkb]
  clear hma hmb hka hkb fin c0 c1
  replace HG := Lib.hid (HG.out.trans (Grow.drewN w3 nq))
  replace HX := Lib.hid (show (w3.drewN nq).heap[w.heap.size]? = some (.cells (ctxCells at_ R (.slice A n cap)) 26 (0, 0)) from HX.out)
  clear HY
  generalize w3.drewN nq = w4 at HG HX ⊢
  have HM := Lib.hid hM; clear hM
  have HC := Lib.hid hC; clear hC
  have HBW := Lib.hid (show w.heap.size < w4.heap.size from heapAt_lt HX.out)
  go_wp2_with fail
  refine wp_region_rel_tail 6 _ Grow (FA w w.heap.size at_ R M A n cap w4.heap.size) [([(3, none)], none), ([(37, some 0)], none), ([(3, none)], none), ([(39, some 0)], none), ([], none), ([], none)] (by kernel_rfl) (by kernel_rfl) (by kernel_rfl) ⟨⟨HX.out, HG.out.trans (Grow.drewN w4 1)⟩, (show Apart bl ({ w4 with drawn := w4.drawn + 1 } : World).heap.size [38, 40, 9, 10] _ _ from Apart.first _ _ _ ?init)⟩ ?_
  case init =>
    intro i hi g
    simp at hi
    rcases hi with rfl | rfl | rfl | rfl <;> exact bl_undef g
  refine relT_pure ⟨.agg (ctxCells at_ R (.slice A n cap)), fun a wQ hF hk => relT_none fun K hK => wp_load_row 26 (.tmp 3) (by rfl) w.heap.size (by exact hk.1) 26 _ (0, 0) _ hF.1.1 Try.underlying26 rfl HINF.out (hK _ _ (Grow.refl _) ⟨hF.1, hF.2.skip (Nat.le_refl _) 37 (by decide) _⟩ rfl), ?_⟩
  refine relT_some (DC at_ R M n w4.heap.size) (fun v w1 w2 hg ⟨A1, c1, h1, h2, h3⟩ => ⟨A1, c1, h1, h2.grow hg, h3⟩) (fun a wQ hF hk => relT_none fun K hK => ?_) ?_
  · (try simp at hk)
    go_simp
    refine (copy_new2 wQ at_ R A n cap M hn hcap (HM.out.grow hF.1.2)).mono ?_
    rintro e w' ⟨A1, cap1, rfl, hown, hc1, hg, hnew⟩
    exact hK _ _ hg ⟨⟨hg.at hF.1.1, hF.1.2.trans hg⟩, hF.2.put hg.size 38 _ (fun g h => hnew g (bl_ctx h))⟩ ⟨A1, cap1, rfl, hown.mono hF.2.base, hc1, fun m hm => Nat.le_trans hF.2.base (hnew m hm).1⟩
  refine relT_pure ⟨.agg (ctxCells at_ R (.slice A n cap)), fun a wQ hF hk => relT_none fun K hK => wp_load_row 26 (.tmp 3) (by rfl) w.heap.size (by exact hk.1) 26 _ (0, 0) _ hF.1.1 Try.underlying26 rfl HINF.out (hK _ _ (Grow.refl _) ⟨hF.1, hF.2.skip (Nat.le_refl _) 39 (by decide) _⟩ rfl), ?_⟩
  refine relT_some (DC at_ R M n w4.heap.size) (fun v w1 w2 hg ⟨A1, c1, h1, h2, h3⟩ => ⟨A1, c1, h1, h2.grow hg, h3⟩) (fun a wQ hF hk => relT_none fun K hK => ?_) ?_
  · (try simp at hk)
    go_simp
    refine (copy_new2 wQ at_ R A n cap M hn hcap (HM.out.grow hF.1.2)).mono ?_
    rintro e w' ⟨A1, cap1, rfl, hown, hc1, hg, hnew⟩
    exact hK _ _ hg ⟨⟨hg.at hF.1.1, hF.1.2.trans hg⟩, hF.2.put hg.size 40 _ (fun g h => hnew g (bl_ctx h))⟩ ⟨A1, cap1, rfl, hown.mono hF.2.base, hc1, fun m hm => Nat.le_trans hF.2.base (hnew m hm).1⟩
  refine relT_some (DA w4.heap.size) (fun v w1 w2 hg ⟨g, h1, h2, h3⟩ => ⟨g, h1, hg.at h2, h3⟩) (fun a wQ hF hk => relT_none fun K hK => ?_) ?_
  · go_simp
    exact hK _ _ (Grow.alloc _ _) ⟨⟨(Grow.alloc _ _).at hF.1.1, hF.1.2.trans (Grow.alloc _ _)⟩, hF.2.put (by simp) 9 _ (fun g h => by have := bl_ptr _ _ h; subst this; simp)⟩ ⟨_, rfl, heapAt_alloc_new _ _, hF.2.base⟩
  refine relT_some (DA w4.heap.size) (fun v w1 w2 hg ⟨g, h1, h2, h3⟩ => ⟨g, h1, hg.at h2, h3⟩) (fun a wQ hF hk => relT_none fun K hK => ?_) ?_
  · go_simp
    exact hK _ _ (Grow.alloc _ _) ⟨⟨(Grow.alloc _ _).at hF.1.1, hF.1.2.trans (Grow.alloc _ _)⟩, hF.2.put (by simp) 10 _ (fun g h => by have := bl_ptr _ _ h; subst this; simp)⟩ ⟨_, rfl, heapAt_alloc_new _ _, hF.2.base⟩
  refine relT_done fun wR => ?_
  refine fun v hv => ?_; obtain rfl : v = _ := hv
  refine fun v1 hv1 => ?_
  refine fun v hv => ?_; obtain rfl : v = _ := hv
  refine fun v2 hv2 => ?_
  refine fun v3 hv3 => ?_
  refine fun v4 hv4 => ?_
  obtain ⟨A1, cap1, rfl, hm1, hc1, hn1⟩ := hv1
  obtain ⟨A2, cap2, rfl, hm2, hc2, hn2⟩ := hv2
  obtain ⟨gy, rfl, hgy, hby⟩ := hv3
  obtain ⟨gz, rfl, hgz, hbz⟩ := hv4
  simp only [Act.put, List.setIfInBounds_toArray, List.set_cons_zero, List.set_cons_succ]
  refine relT_nil fun hF => ?_
  have hyz : gy ≠ gz := fun e => hF.2.ne 9 (by simp) 10 (by simp) (by decide) gy (bl_ptr_of gy) (by subst e; exact bl_ptr_of gy)
  have h1y : ∀ m, A1 = some ⟨m, 0, none⟩ → m ≠ gy := fun m hm e => hF.2.ne 9 (by simp) 38 (by simp) (by decide) gy (bl_ptr_of gy) (by subst e; exact bl_of hm)
  have h1z : ∀ m, A1 = some ⟨m, 0, none⟩ → m ≠ gz := fun m hm e => hF.2.ne 10 (by simp) 38 (by simp) (by decide) gz (bl_ptr_of gz) (by subst e; exact bl_of hm)
  have h2y : ∀ m, A2 = some ⟨m, 0, none⟩ → m ≠ gy := fun m hm e => hF.2.ne 9 (by simp) 40 (by simp) (by decide) gy (bl_ptr_of gy) (by subst e; exact bl_of hm)
  have h2z : ∀ m, A2 = some ⟨m, 0, none⟩ → m ≠ gz := fun m hm e => hF.2.ne 10 (by simp) 40 (by simp) (by decide) gz (bl_ptr_of gz) (by subst e; exact bl_of hm)
  have h12 : ∀ m, A1 = some ⟨m, 0, none⟩ → A2 ≠ some ⟨m, 0, none⟩ := fun m hm e => hF.2.ne 38 (by simp) 40 (by simp) (by decide) m (bl_of hm) (bl_of e)
  replace HG := Lib.hid hF.1.2
  clear hF HX
  simp only [List.drop_succ_cons, List.drop_zero]
  have hsz : Zc.size = 10 := rfl
  have HSZ1 := Lib.hid (show Zc.size = (ctxCells at_ R (.slice A1 n cap1)).size from by rw [ctxCells_size]; rfl)
  have HSZ2 := Lib.hid (show Zc.size = (ctxCells at_ R (.slice A2 n cap2)).size from by rw [ctxCells_size]; rfl)
  clear hsz
  refine wpList_store_blk rfl 26 (.tmp 9) (.tmp 38) rfl gy 26 _ (ctxCells at_ R (.slice A1 n cap1)) rfl rfl hgy HSZ1.out (info26c _ _ _) (ctx_one _ _ _ rfl) ?_
  intro wS hb1 ho1
  have hgz1 := ho1.at (Ne.symm hyz) hgz
  refine wpList_store_blk rfl 26 (.tmp 10) (.tmp 40) rfl gz 26 _ (ctxCells at_ R (.slice A2 n cap2)) rfl rfl hgz1 HSZ2.out (info26c _ _ _) (ctx_one _ _ _ rfl) ?_
  intro wT hb2 ho2
  have HST1 := Lib.hid (show St wT w4.heap.size gy at_ R A1 n cap1 M from ⟨ho2.at hyz hb1, (hm1.only ho1 (fun m hm _ => h1y m hm)).only ho2 (fun m hm _ => h1z m hm), hby, fun hn0 hA => h1y gy hA rfl⟩)
  have HST2 := Lib.hid (show St wT w4.heap.size gz at_ R A2 n cap2 M from ⟨hb2, (hm2.only ho1 (fun m hm _ => h2y m hm)).only ho2 (fun m hm _ => h2z m hm), hbz, fun hn0 hA => h2z gz hA rfl⟩)
  have hGT : Grow w wT := Grow.only (Grow.only HG.out ho1 (by have := HBW.out; omega)) ho2 (by have := HBW.out; omega)
  replace HG := Lib.hid hGT
  have HFAR1 := Lib.hid (show Clear (Mine gy A1) CA len from fun a hA hl => by
    obtain ⟨a', hA', hc⟩ := HC.out hl
    rw [hA] at hA'
    injection hA' with hA'
    subst hA'
    have hlt := cell_lt (hc 0 hl).1
    rw [add_block] at hlt
    exact mine_old hby hn1 (by have := HBW.out; omega))
  have HFAR2 := Lib.hid (show Clear (Mine gz A2) CA len from fun a hA hl => by
    obtain ⟨a', hA', hc⟩ := HC.out hl
    rw [hA] at hA'
    injection hA' with hA'
    subst hA'
    have hlt := cell_lt (hc 0 hl).1
    rw [add_block] at hlt
    exact mine_old hbz hn2 (by have := HBW.out; omega))
  have HSEP1 := Lib.hid (show ¬ Mine gy A1 gz ∧ ∀ m, A2 = some ⟨m, 0, none⟩ → ¬ Mine gy A1 m from ⟨by rintro (e | ⟨m, hm, e⟩); exact hyz e.symm; exact h1z m hm e.symm, fun m2 hm2 => by rintro (e | ⟨m, hm, e⟩); exact h2y m2 hm2 e; subst e; exact h12 _ hm hm2⟩)
  have HSEP2 := Lib.hid (show ¬ Mine gz A2 gy ∧ ∀ m, A1 = some ⟨m, 0, none⟩ → ¬ Mine gz A2 m from ⟨by rintro (e | ⟨m, hm, e⟩); exact hyz e; exact h2y m hm e.symm, fun m1 hm1 => by rintro (e | ⟨m, hm, e⟩); exact h1z m1 hm1 e; subst e; exact h12 _ hm1 hm⟩)
  have HBW2 := HBW
  clear hyz h1y h1z h2y h2z h12 hgz1 ho1 ho2 hb1 hb2 hm1 hm2 hgy hgz hGT HSZ1 HSZ2 HBW
  clear HINF
  go_wp2_with fail
  refine (run_any _ w4.heap.size gy n cap1 len ccap ka ⟨0, at_, R, M⟩ A1 CA C hn hc1 hlen hcl (by omega) (HC.out.grow HG.out) HFAR1.out HST1.out).mono ?_
  have hadd := runP_add n len C ka kb ⟨0, at_, R, M⟩
  have hk1le := runP_ok (n := n) (len := len) (C := C) ka ⟨0, at_, R, M⟩
  generalize runP n len C ka ⟨0, at_, R, M⟩ = r1 at hadd hk1le ⊢
  obtain ⟨k1, s1⟩ := r1
  simp only at hadd hk1le ⊢
  rintro e wy ⟨rfl, hy1, hy2⟩
  replace HST2 := Lib.hid (st_grow_only HST2.out hy2 HSEP1.out.1 HSEP1.out.2)
  replace HST1 := Lib.hid hy1
  replace HG := Lib.hid (kept_grow hy2 HG.out (Nat.le_of_lt HBW2.out) hby hn1)
  clear hy1 hy2 HSEP1
  by_cases he : s1.err = 0
  · rw [if_pos he] at hadd
    rw [he]
    have hk2le := runP_ok (n := n) (len := len) (C := C) kb s1
    go_wp2_with fail
    refine (run_any _ w4.heap.size gy n cap1 len ccap kb s1 A1 CA C hn hc1 hlen hcl (by omega) (HC.out.grow HG.out) HFAR1.out HST1.out).mono ?_
    generalize runP n len C kb s1 = r2 at hadd hk2le ⊢
    obtain ⟨k2, s2⟩ := r2
    simp only at hadd hk2le ⊢
    rintro e wy2 ⟨rfl, hy1, hy2⟩
    replace HST2 := Lib.hid (st_grow_only HST2.out hy2 (by
      rintro (e | ⟨m, hm, e⟩)
      · exact HSEP2.out.1 (.inl e.symm)
      · exact HSEP2.out.2 m hm (.inl e.symm)) (fun m2 hm2 => by
      rintro (e | ⟨m, hm, e⟩)
      · exact HSEP2.out.1 (.inr ⟨m2, hm2, e.symm⟩)
      · exact HSEP2.out.2 m hm (.inr ⟨m2, hm2, e.symm⟩)))
    replace HST1 := Lib.hid hy1
    replace HG := Lib.hid (kept_grow hy2 HG.out (Nat.le_of_lt HBW2.out) hby hn1)
    clear hy1 hy2 he
    have hsum := hadd
    clear hadd
    have k1i : (k1 : Int) ≤ 200 := by omega
    have k2i : (k2 : Int) ≤ 200 := by omega
    replace HST1 := Lib.hid HST1.out
    have kai : (ka : Int) ≤ 200 := by omega
    have kbi : (kb : Int) ≤ 200 := by omega
    go_wp2_with fail
    have e2 : (ka : Int) + (kb : Int) = ((ka + kb : Nat) : Int) := by omega
    rw [e2]
    clear e2
    refine (run_any _ w4.heap.size gz n cap2 len ccap (ka + kb) ⟨0, at_, R, M⟩ A2 CA C hn hc2 hlen hcl (by omega) ((HC.out.grow HG.out)) HFAR2.out HST2.out).mono ?_
    rw [hsum]
    rintro e wz ⟨rfl, hz1, hz2⟩
    have HST1z := Lib.hid (st_grow_only HST1.out hz2 HSEP2.out.1 HSEP2.out.2)
    have HST2z := Lib.hid hz1
    replace HG := Lib.hid (kept_grow hz2 HG.out (Nat.le_of_lt HBW2.out) hbz hn2)
    clear hz1 hz2 HST1 HST2
    have HI1 := Lib.hid (info26c s2.at_ s2.R (.slice A1 n cap1))
    have HI2 := Lib.hid (info26c s2.at_ s2.R (.slice A2 n cap2))
    have HC1 := Lib.hid (show wz.heap[gy]? = some (.cells (ctxCells s2.at_ s2.R (.slice A1 n cap1)) 26 (0, 0)) from HST1z.out.1)
    have HC2 := Lib.hid (show wz.heap[gz]? = some (.cells (ctxCells s2.at_ s2.R (.slice A2 n cap2)) 26 (0, 0)) from HST2z.out.1)
    go_wp2_with (first
      | ((with_reducible refine wpList_load_blk_if ?_ 26 (.tmp 9) rfl gy 26 (ctxCells s2.at_ s2.R (.slice A1 n cap1)) _ ?_ HC1.out Try.underlying26 ?_ HI1.out ?_); (· rfl); (· rfl); (· rfl))
      | ((with_reducible refine wpList_load_blk_if ?_ 26 (.tmp 10) rfl gz 26 (ctxCells s2.at_ s2.R (.slice A2 n cap2)) _ ?_ HC2.out Try.underlying26 ?_ HI2.out ?_); (· rfl); (· rfl); (· rfl)))
    refine (same_yes _ s2.at_ s2.R A1 A2 n cap1 cap2 s2.M hn hc1 hc2 HST1z.out.2.1.at HST2z.out.2.1.at).mono ?_
    rintro e w9 ⟨rfl, hg⟩
    replace HG := Lib.hid (HG.out.trans hg)
    clear hg
    go_wp2
    go_ret
    exact ⟨ret_bool (by simp), HG.out⟩
  · rw [if_neg he] at hadd
    have hbf : (s1.err == 0) = false := by simpa using he
    have hsum := hadd
    have k1i : (k1 : Int) ≤ 200 := by omega
    clear hadd
    replace HST1 := Lib.hid HST1.out
    have kai : (ka : Int) ≤ 200 := by omega
    have kbi : (kb : Int) ≤ 200 := by omega
    go_wp2_with fail
    have e2 : (ka : Int) + (kb : Int) = ((ka + kb : Nat) : Int) := by omega
    rw [e2]
    clear e2
    refine (run_any _ w4.heap.size gz n cap2 len ccap (ka + kb) ⟨0, at_, R, M⟩ A2 CA C hn hc2 hlen hcl (by omega) ((HC.out.grow HG.out)) HFAR2.out HST2.out).mono ?_
    rw [hsum]
    rintro e wz ⟨rfl, hz1, hz2⟩
    have HST1z := Lib.hid (st_grow_only HST1.out hz2 HSEP2.out.1 HSEP2.out.2)
    have HST2z := Lib.hid hz1
    replace HG := Lib.hid (kept_grow hz2 HG.out (Nat.le_of_lt HBW2.out) hbz hn2)
    clear hz1 hz2 HST1 HST2
    have HI1 := Lib.hid (info26c s1.at_ s1.R (.slice A1 n cap1))
    have HI2 := Lib.hid (info26c s1.at_ s1.R (.slice A2 n cap2))
    have HC1 := Lib.hid (show wz.heap[gy]? = some (.cells (ctxCells s1.at_ s1.R (.slice A1 n cap1)) 26 (0, 0)) from HST1z.out.1)
    have HC2 := Lib.hid (show wz.heap[gz]? = some (.cells (ctxCells s1.at_ s1.R (.slice A2 n cap2)) 26 (0, 0)) from HST2z.out.1)
    go_wp2_with (first
      | ((with_reducible refine wpList_load_blk_if ?_ 26 (.tmp 9) rfl gy 26 (ctxCells s1.at_ s1.R (.slice A1 n cap1)) _ ?_ HC1.out Try.underlying26 ?_ HI1.out ?_); (· rfl); (· rfl); (· rfl))
      | ((with_reducible refine wpList_load_blk_if ?_ 26 (.tmp 10) rfl gz 26 (ctxCells s1.at_ s1.R (.slice A2 n cap2)) _ ?_ HC2.out Try.underlying26 ?_ HI2.out ?_); (· rfl); (· rfl); (· rfl)))
    refine (same_yes _ s1.at_ s1.R A1 A2 n cap1 cap2 s1.M hn hc1 hc2 HST1z.out.2.1.at HST2z.out.2.1.at).mono ?_
    rintro e w9 ⟨rfl, hg⟩
    replace HG := Lib.hid (HG.out.trans hg)
    clear hg
    go_wp2
    go_ret
    exact ⟨ret_bool (by simp), HG.out⟩
end Go.Proofs.Ytkjacmnocbdghaa
