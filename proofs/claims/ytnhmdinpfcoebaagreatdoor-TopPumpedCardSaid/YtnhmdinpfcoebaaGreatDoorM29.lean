/- Texts of the proof, merged: KNew, KWNew, KTop, KFix, KRun. -/
import Derived.Test.YtnhmdinpfcoebaaGreatDoorM28
import Derived.Test.YtnhmdinpfcoebaaGreatDoorM25
import Derived.Test.YtnhmdinpfcoebaaGreatDoorM22
/-! === KNew -/
section
/- kern.New of the system of one task. -/
namespace Go.Proofs.YtnhmdinpfcoebaaGreatDoor
open Go.Proofs.YtnhmdinpfcoebaaGreatDoor.Qu
open Go.RowKit
set_option linter.unusedVariables false
set_option linter.unusedSimpArgs false
set_option maxRecDepth 100000

open Go.Lib
attribute [local simp] RelKnown Is
attribute [local irreducible] kCells
theorem info40z : (Tryz.prog.info? 40).map (fun i => (i.zero, i.size, i.bytes)) = some (some (.int .u32 0), 1, 4) := by kernel_rfl
theorem make75 (w : World) : (Instr.makeSlice 75 (.int .i64 0) (.int .i64 0)).run Tryz.prog w = .ok (.slice (some ⟨w.heap.size, 0, none⟩) 0 0) (w.alloc (.cells #[] 40)) := by
  obtain ⟨i0, hi, hz0, hz1, hz2⟩ := info_parts info40z
  have h := run_makeSlice (P := Tryz.prog) w 75 40 i0 (.int .u32 0) Tryz.underlying75 hi hz0 .i64 .i64 0 0 (by omega) (by omega) (by rw [hz1]; omega) (by rw [hz2]; omega) (by omega)
  rw [hz1, show madeCells (Value.int IntKind.u32 0).cells (Int.toNat 0 * 1) = #[] from by simp [madeCells]] at h
  exact h
theorem built179 (mA : Option Addr) : Tryz.prog.built 179 [(2, .slice mA 0 0)] = some #[.int .i64 0, .int .u32 0, .int .u32 0, .int .u32 0, .int .u32 0, .int .u32 0, .int .u32 0, .int .u32 0, .int .u32 0, .slice mA 0 0] := by kernel_rfl
theorem built189 (mA : Option Addr) : Tryz.prog.built 189 [(1, .int .i64 0), (5, .agg #[.int .i64 0, .int .u32 0, .int .u32 0, .int .u32 0, .int .u32 0, .int .u32 0, .int .u32 0, .int .u32 0, .int .u32 0, .slice mA 0 0])] = some (tkC 0 0 0 (.slice mA 0 0)).toArray := by kernel_rfl
theorem wp_build1 {op : Oper} {a : Act} {w : World} {next : Act → World → Prop} {Q : Exit → Act → World → Prop} (t i : Nat) (x : Operand) (ho : op.op = .build t #[(i, x)]) (v : Value) (hx : a.eval x = v) (cs : Array Value) (hb : Tryz.prog.built t [(i, v)] = some cs) (h : next (a.put op.dst (.agg cs)) w) : op.wp Tryz.prog a w next Q := by
  have hb := run_build (P := Tryz.prog) w t #[(i, v)] _ hb
  unfold Oper.wp execOp
  simp only [ho]
  simp only [List.map_toArray, List.map_cons, List.map_nil, hx, Sem.run_bind, Sem.run_pure, hb, Result.andThen_ok]
  exact h
theorem wp_build2 {op : Oper} {a : Act} {w : World} {next : Act → World → Prop} {Q : Exit → Act → World → Prop} (t i j : Nat) (x y : Operand) (ho : op.op = .build t #[(i, x), (j, y)]) (v u : Value) (hx : a.eval x = v) (hy : a.eval y = u) (cs : Array Value) (hb : Tryz.prog.built t [(i, v), (j, u)] = some cs) (h : next (a.put op.dst (.agg cs)) w) : op.wp Tryz.prog a w next Q := by
  have hb := run_build (P := Tryz.prog) w t #[(i, v), (j, u)] _ hb
  unfold Oper.wp execOp
  simp only [ho]
  simp only [List.map_toArray, List.map_cons, List.map_nil, hx, hy, Sem.run_bind, Sem.run_pure, hb, Result.andThen_ok]
  exact h
theorem info189z : (Tryz.prog.info? 189).map (fun i => (i.zero, i.size, i.bytes)) = some (some (.agg (tkC 0 0 0 (.slice none 0 0)).toArray), 15, 104) := by kernel_rfl
theorem info181s : (Tryz.prog.info? 181).map (·.size) = some 1 := by kernel_rfl
theorem info182s : (Tryz.prog.info? 182).map (·.size) = some 1 := by kernel_rfl
theorem info185s : (Tryz.prog.info? 185).map (·.size) = some 1 := by kernel_rfl
theorem results_tmp_cell_row {P : Program} {fn : Func} {p u : Tmp} {ty : TypeId} (h : fn.results = #[.tmp u, .cell p ty]) (tmps : Array Value) (w : World) (g : Nat) (t : TypeId) (cs : Array Value) (fr : Nat × Nat) (d : TypeDesc)
    (hp : tmps.getD p undef = .pointer (some ⟨g, 0, none⟩)) (hg : w.heap[g]? = some (.cells cs t fr))
    (hu : P.underlying ty = some d) (hd : (match d with | .struct _ | .array _ _ => true | _ => false) = true) (hi : (P.info? ty).map (·.size) = some cs.size) {v : Value} (hv : tmps.getD u undef = v) :
    (results fn tmps).run P w = .ok (.tuple #[v, .agg cs]) w := by
  subst hv
  have e : (results fn tmps).run P w = ((asAddr (tmps.getD p undef)).run P w).andThen fun a w₁ => ((loadVar ty a).run P w₁).andThen fun v w₂ => .ok (.tuple #[tmps.getD u undef, v]) w₂ := by
    simp only [results, h]
    simp [Sem.run_bind, Result.andThen]
  have hp' : (asAddr (.pointer (some ⟨g, 0, none⟩))).run P w = .ok ⟨g, 0, none⟩ w := by simp [asAddr]
  rw [e, hp, hp', Result.andThen_ok, run_loadVar_row w g t ty cs fr d hg hu hd hi, Result.andThen_ok]
theorem reads_task {w : World} {b : Nat} {mv : Value} {e : TypeId} {fr : Nat × Nat} (h : w.heap[b]? = some (.cells (tkC 0 0 0 mv).toArray e fr)) : Reads w w.heap.size 15 (some ⟨b, 0, none⟩) 1 (tkC 0 0 0 mv) :=
  ⟨rfl, fun _ => ⟨_, rfl, heapAt_lt h, fun j u hu => by
    have e8 : (⟨b, 0, none⟩ : Addr).add j = ⟨b, j, none⟩ := by unfold Addr.add; split <;> simp_all
    rw [e8, cell_block h j, ← hu]
    simp⟩⟩
/-- The system. -/
def X1 : Sy.Cf := { tn := 1, T := fun _ => { lv := 0, off := 1, per := 0, dl := 0, mem := 0, cn := 1, C := fun _ => ⟨37, 0, 0, 0, 0, 0#32⟩ }, ln := 0, L := fun _ => { mem := 0, cn := 0, C := fun _ => ⟨0, 0, 0, 0, 0, 0#32⟩ }, mx := 0, sn := 0, S := fun _ => 0, qn := 0, Q := fun _ => 0, mn := 0, M := fun _ => 0, table := 0, mask := 0#32, filter := 4294967295, charge := 0, cycle := 0, count := 0 }
theorem X1_ok : Sy.sysP X1 = Sy.okF := by kernel_rfl
theorem X1_small : Sy.Small X1 := ⟨by decide, by decide, by decide, by decide, by decide, fun _ _ => by show 1 ≤ 300; decide, fun _ _ => by show 0 ≤ 300; decide⟩
theorem confO_kp {P : Nat → Prop} {w w' : World} {B : Nat} {tv lv sv qv mv : Value} {X : Sy.Cf} (h : Sy.ConfO w B tv lv sv qv mv X) (hp : Kp P w w') (hP : ∀ k cs t fr, w.heap[k]? = some (.cells cs t fr) → t = 67 ∨ t = 64 ∨ t = 192 ∨ t = 3 → P k) : Sy.ConfO w' B tv lv sv qv mv X := by
  have key : ∀ {s n : Nat} {e : TypeId} {v : Value} {xs : List Value}, (e = 67 ∨ e = 64 ∨ e = 192 ∨ e = 3) → w.ownsRow B e s v n xs → w'.ownsRow B e s v n xs := fun he ho => own_kp ho hp fun k hk => (by obtain ⟨cur, hc⟩ := own_blk ho hk; exact hP _ _ _ _ hc he)
  obtain ⟨⟨cv, t1, t2⟩, ⟨cl, l1, l2⟩, s1, q1, m1⟩ := h
  exact ⟨⟨cv, key (.inl rfl) t1, fun j hj => key (.inr (.inl rfl)) (t2 j hj)⟩, ⟨cl, key (.inr (.inr (.inl rfl))) l1, fun j hj => key (.inr (.inl rfl)) (l2 j hj)⟩, key (.inr (.inr (.inr rfl))) s1, key (.inr (.inr (.inr rfl))) q1, key (.inr (.inr (.inr rfl))) m1⟩
theorem confO_grow {w w' : World} {B : Nat} {tv lv sv qv mv : Value} {X : Sy.Cf} (h : Sy.ConfO w B tv lv sv qv mv X) (hg : Grow w w') : Sy.ConfO w' B tv lv sv qv mv X := confO_kp h (Kp.of_grow (P := fun _ => True) hg) (fun _ _ _ _ _ _ => trivial)
theorem confO_only {w w' : World} {B B' c : Nat} {tv lv sv qv mv : Value} {X : Sy.Cf} {cs : Array Value} {fr : Nat × Nat} (h : Sy.ConfO w B' tv lv sv qv mv X) (hB : B ≤ B') (ho : Only c w w') (hc : w.heap[c]? = some (.cells cs 71 fr)) : Sy.ConfO w' B tv lv sv qv mv X := by
  have h2 := confO_kp h (Kp.of_only (P := fun k => k ≠ c) ho (fun h => h rfl)) (fun k cs t fr hk ht => ty_ne2 hk hc (by rcases ht with rfl | rfl | rfl | rfl <;> decide))
  obtain ⟨⟨cv, t1, t2⟩, ⟨cl, l1, l2⟩, s1, q1, m1⟩ := h2
  exact ⟨⟨cv, own_mono t1 hB, fun j hj => own_mono (t2 j hj) hB⟩, ⟨cl, own_mono l1 hB, fun j hj => own_mono (l2 j hj) hB⟩, own_mono s1 hB, own_mono q1 hB, own_mono m1 hB⟩
/-- What stands while New goes on. -/
structure NB (w0 w : World) (b cg fg : Nat) (tv lv sv qv mv : Value) : Prop where
  x : w.heap[cg]? = some (.cells (Sy.cfC tv lv sv qv mv X1) 71 (0, 0))
  f : w.heap[fg]? = some (.cells #[.int .i64 0, .int .i64 0, .int .i64 0, .int .i64 0] 131 (0, 0))
  c : Sy.ConfO w w0.heap.size tv lv sv qv mv X1
  g : Grow w0 w
  n : w0.heap.size ≤ b ∧ b ≠ cg ∧ b ≠ fg
theorem NB.grow {w0 w w' : World} {b cg fg : Nat} {tv lv sv qv mv : Value} (h : NB w0 w b cg fg tv lv sv qv mv) (hg : Grow w w') : NB w0 w' b cg fg tv lv sv qv mv := ⟨hg.at h.x, hg.at h.f, confO_grow h.c hg, h.g.trans hg, h.n⟩
theorem NB.kp {w0 w w' : World} {b cg fg : Nat} {tv lv sv qv mv : Value} {cs : Array Value} {fr : Nat × Nat} (h : NB w0 w b cg fg tv lv sv qv mv) (hK : w.heap[b]? = some (.cells cs 187 fr)) (hp : Kp (· ≠ b) w w') : NB w0 w' b cg fg tv lv sv qv mv :=
  ⟨hp.at h.n.2.1.symm h.x, hp.at h.n.2.2.symm h.f, confO_kp h.c hp (fun k cs t fr hk ht => ty_ne2 hk hK (by rcases ht with rfl | rfl | rfl | rfl <;> decide)), ⟨hp.os.trans h.g.os, hp.tape.trans h.g.tape, hp.output.trans h.g.output, Nat.le_trans h.g.size hp.size, fun k hk => (hp.block k (Nat.lt_of_lt_of_le hk h.g.size) (by have := h.n.1; omega)).trans (h.g.block k hk)⟩, h.n⟩
def sN (z : KS) (tvv rv : Value) (rn : Nat → Bool) : KS := { z with tasks := tvv, row := rv, runs := rn }
/-- The kernel's cells at New's end. -/
def sF (tv lv sv qv mv tvv rv : Value) (lk nb : Nat) : KS := { sN (sZ tv lv sv qv mv) tvv rv (upB (fun _ => false) 0 true) with locks := .pointer (some ⟨lk, 0, none⟩), lines := .pointer (some ⟨nb, 0, none⟩) }
/-- How far New's tasks are. -/
def N1 (w0 w : World) (b cg fg : Nat) (tv lv sv qv mv : Value) (k : Nat) (lvs : Value) : Prop :=
  (k = 0 ∧ lvs = .slice none 0 0 ∧ NB w0 w b cg fg tv lv sv qv mv ∧ KAt w b (sZ tv lv sv qv mv)) ∨
  (k = 1 ∧ ∃ tvv rv mA, NB w0 w b cg fg tv lv sv qv mv ∧ KAt w b (sN (sZ tv lv sv qv mv) tvv rv (upB (fun _ => false) 0 true)) ∧ w.ownsRow w0.heap.size 189 15 tvv 1 (tkC 0 0 0 (.slice mA 0 0)) ∧ w.ownsRow w0.heap.size 240 2 rv 1 [.int .i64 ((0 : Nat) : Int), .int .i64 1] ∧ w.ownsRow w0.heap.size 3 1 lvs 1 [.int .i64 0])
/-- What New gives. -/
def NewO (w0 wB : World) (r : Ending) (w : World) : Prop := ∃ b tb nb kb cb xb s mv, r = .returned (.tuple #[.pointer (some ⟨b, 0, none⟩), .agg #[.int .i64 0, .int .i64 0, .int .i64 0, .int .i64 0]]) ∧ First wB.heap.size w b tb nb kb cb xb s mv ∧ Grow w0 w
set_option maxHeartbeats 8000000 in
theorem knew1 (w : World) (tv lv sv qv mv : Value) (hC : Sy.ConfV w tv lv sv qv mv X1) :
    Calls Tryz.prog 52 #[.agg (Sy.cfC tv lv sv qv mv X1)] w fun r w' => NewO w w r w' := by
  have HC := Lib.hid hC
  obtain ⟨i3, hi, hz0, hz1, hz2⟩ := info_parts info3zz
  have HI3 := Lib.hid hi; clear hi
  have HY0 := Lib.hid hz0; clear hz0
  have HY1 := Lib.hid hz1; clear hz1
  have HY2 := Lib.hid hz2; clear hz2
  have HG1 := Lib.hid (Grow.alloc w (.cells (Sy.cfC tv lv sv qv mv X1) 71))
  obtain ⟨i9, hi, hz0, hz1, hz2⟩ := info_parts info189z
  have HI9 := Lib.hid hi; clear hi
  have HX0 := Lib.hid hz0; clear hz0
  have HX1 := Lib.hid hz1; clear hz1
  have HX2 := Lib.hid hz2; clear hz2
  clear hC
  go_enter Tryz.func52, Tryz.ntmps52
  go_upto_region 1 with (fail)
  have HX := Lib.hid ((Grow.alloc (w.alloc (.cells (Sy.cfC tv lv sv qv mv X1) 71)) (.cells #[.int .i64 0, .int .i64 0, .int .i64 0, .int .i64 0] 131)).at (heapAt_alloc_new w (.cells (Sy.cfC tv lv sv qv mv X1) 71)))
  have HFb := Lib.hid (show ((w.alloc (.cells (Sy.cfC tv lv sv qv mv X1) 71)).alloc (.cells #[.int .i64 0, .int .i64 0, .int .i64 0, .int .i64 0] 131)).heap[w.heap.size + 1]? = some (.cells #[.int .i64 0, .int .i64 0, .int .i64 0, .int .i64 0] 131 (0, 0)) from by
    have h := heapAt_alloc_new (w.alloc (.cells (Sy.cfC tv lv sv qv mv X1) 71)) (.cells #[.int .i64 0, .int .i64 0, .int .i64 0, .int .i64 0] 131)
    rwa [show (w.alloc (.cells (Sy.cfC tv lv sv qv mv X1) 71)).heap.size = w.heap.size + 1 from Array.size_push _] at h)
  have HG2 := Lib.hid (HG1.out.trans (Grow.alloc (w.alloc (.cells (Sy.cfC tv lv sv qv mv X1) 71)) (.cells #[.int .i64 0, .int .i64 0, .int .i64 0, .int .i64 0] 131)))
  clear HG1
  obtain ⟨cg, hcg⟩ : ∃ g, g = w.heap.size := ⟨_, rfl⟩
  obtain ⟨fg, hfg⟩ : ∃ g, g = w.heap.size + 1 := ⟨_, rfl⟩
  rw [← hfg] at HFb ⊢
  rw [← hcg] at HX ⊢
  have HCG := Lib.hid (show w.heap.size ≤ cg ∧ w.heap.size ≤ fg ∧ cg ≠ fg by omega)
  clear hcg hfg
  generalize (w.alloc (.cells (Sy.cfC tv lv sv qv mv X1) 71)).alloc (.cells #[.int .i64 0, .int .i64 0, .int .i64 0, .int .i64 0] 131) = w2 at HX HFb HG2 ⊢
  have hch := Sy.checkV_any w2 (HC.out.grow HG2.out) (by decide)
  rw [X1_ok, show Sy.faultC Sy.okF = #[.int .i64 0, .int .i64 0, .int .i64 0, .int .i64 0] from rfl] at hch
  have HCH := Lib.hid hch
  clear hch
  go_wp2_with (first
    | ((with_reducible refine wpList_load_blk rfl 71 _ rfl cg 71 (Sy.cfC tv lv sv qv mv X1) _ ?_ HX.out Tryz.underlying71 rfl (Sy.info71s tv lv sv qv mv X1) ?_); (· rfl)))
  refine HCH.out.mono ?_
  rintro _ w3 ⟨rfl, hg⟩
  have HX3 := Lib.hid (hg.at HX.out)
  have HF3 := Lib.hid (hg.at HFb.out)
  have HG3 := Lib.hid (HG2.out.trans hg)
  clear hg HCH HX HFb HG2
  have HX4 := Lib.hid ((Grow.alloc w3 (.cells #[.int .i64 0, .int .i64 0, .int .i64 0, .int .i64 0] 131)).at HX3.out)
  have HF4 := Lib.hid ((Grow.alloc w3 (.cells #[.int .i64 0, .int .i64 0, .int .i64 0, .int .i64 0] 131)).at HF3.out)
  have HG4 := Lib.hid (HG3.out.trans (Grow.alloc w3 (.cells #[.int .i64 0, .int .i64 0, .int .i64 0, .int .i64 0] 131)))
  clear HX3 HF3 HG3
  have HCP := Lib.hid (Sy.copyV_any _ (HC.out.grow HG4.out) X1_small)
  go_upto_region 4 with (fail)
  generalize w3.heap.size = f2
  generalize w3.alloc (.cells #[.int .i64 0, .int .i64 0, .int .i64 0, .int .i64 0] 131) = w4 at HX4 HF4 HG4 HCP ⊢
  go_wp2_with (first
    | ((with_reducible refine wpList_load_blk rfl 71 _ rfl cg 71 (Sy.cfC tv lv sv qv mv X1) _ ?_ HX4.out Tryz.underlying71 rfl (Sy.info71s tv lv sv qv mv X1) ?_); (· rfl)))
  refine HCP.out.mono ?_
  rintro _ w5 ⟨tv', lv', sv', qv', mv', rfl, ho, hg⟩
  have HCO := Lib.hid ho
  have HX5 := Lib.hid (hg.at HX4.out)
  have HF5 := Lib.hid (hg.at HF4.out)
  have HG5 := Lib.hid (HG4.out.trans hg)
  have HG45 := Lib.hid HG4.out.size
  have HON := Lib.hid (Sy.ones28 X1 (show tv'.oneCell' = true from by obtain ⟨cv, h1, h2⟩ := ho.t; exact own_one h1) (show lv'.oneCell' = true from by obtain ⟨cv, h1, h2⟩ := ho.l; exact own_one h1) (own_one ho.s) (own_one ho.q) (own_one ho.m))
  clear ho hg HCP HX4 HF4 HG4
  go_upto_region 5 with (first
    | ((with_reducible refine wpList_store_blk rfl 71 _ _ rfl cg 71 _ (Sy.cfC tv' lv' sv' qv' mv' X1) ?_ ?_ HX5.out rfl (Sy.info71s tv' lv' sv' qv' mv' X1) HON.out ?_); (· rfl); (· rfl); intro w6 hb6 ho6))
  have HX6 := Lib.hid hb6
  have HG6 := Lib.hid (HG5.out.only ho6 HCG.out.1)
  have HF6 := Lib.hid (ho6.at HCG.out.2.2.symm HF5.out)
  have e10 := cell_block hb6 10
  have e11 := cell_block hb6 11
  simp [Sy.cfC, X1] at e10 e11
  simp only [Act.put, List.setIfInBounds_toArray, List.set_cons_zero, List.set_cons_succ]
  go_upto_region 6 with (first
    | ((with_reducible refine wpList_load_blk rfl 71 _ rfl cg 71 (Sy.cfC tv' lv' sv' qv' mv' X1) _ ?_ HX6.out Tryz.underlying71 rfl (Sy.info71s tv' lv' sv' qv' mv' X1) ?_); (· rfl))
    | (refine wpList_build187 rfl (.tmp 27) (.const (.int .i64 255)) (.tmp 32) rfl tv' lv' sv' qv' mv' (by rfl) (by rfl) (by rfl) ?_))
  have HK7 := Lib.hid (show KAt (w6.alloc (.cells (kCells (sZ tv' lv' sv' qv' mv')) 187)) w6.heap.size (sZ tv' lv' sv' qv' mv') from heapAt_alloc_new _ _)
  have hg7 := Grow.alloc w6 (.cells (kCells (sZ tv' lv' sv' qv' mv')) 187)
  have HX7 := Lib.hid (hg7.at HX6.out)
  have HF7 := Lib.hid (hg7.at HF6.out)
  have HG7 := Lib.hid (HG6.out.trans hg7)
  have HC7 := Lib.hid (show Sy.ConfO (w6.alloc (.cells (kCells (sZ tv' lv' sv' qv' mv')) 187)) w.heap.size tv' lv' sv' qv' mv' X1 from confO_grow (confO_only HCO.out HG45.out ho6 HX5.out) hg7)
  obtain ⟨b, hb⟩ : ∃ b, b = w6.heap.size := ⟨_, rfl⟩
  have HB := Lib.hid (show w.heap.size ≤ b ∧ b ≠ cg ∧ b ≠ fg by have := HG6.out.size; have := heapAt_lt HX6.out; have := heapAt_lt HF6.out; omega)
  rw [← hb] at HK7 ⊢
  clear hb hb6 ho6 hg7 HX6 HG6 HF6 HX5 HF5 HG5 HCO e10 e11 HG45
  generalize w6.alloc (.cells (kCells (sZ tv' lv' sv' qv' mv')) 187) = w7 at HK7 HX7 HF7 HG7 HC7 ⊢
  have e6 := cell_block HX7.out 6
  simp [Sy.cfC, X1] at e6
  have HKH := Lib.hid (show w7.heap[b]? = some (.cells (kCells (sZ tv' lv' sv' qv' mv')) 187 (0, 0)) from HK7.out)
  go_upto_region 8 with (first
    | ((with_reducible refine store_in rfl 3 _ _ rfl b 259 187 _ (kCells (sZ tv' lv' sv' qv' mv')) (.int .i64 0) info3 HKH.out rfl ?_ ?_ ?_ ?_ ?_); (· rfl); (· rfl); (· rw [kCells_size]; decide); (· exact k_table (sZ tv' lv' sv' qv' mv') 0); intro w8 hw8 hb8 ho8; clear hw8))
  have HNB := Lib.hid (show NB w w8 b cg fg tv' lv' sv' qv' mv' from ⟨ho8.at HB.out.2.1.symm HX7.out, ho8.at HB.out.2.2.symm HF7.out, confO_kp HC7.out (Kp.of_only (P := fun k => k ≠ b) ho8 (fun h => h rfl)) (fun k cs t fr hk ht => ty_ne2 hk HKH.out (by rcases ht with rfl | rfl | rfl | rfl <;> decide)), HG7.out.only ho8 HB.out.1, HB.out⟩)
  have HK8 := Lib.hid (show KAt w8 b (sZ tv' lv' sv' qv' mv') from hb8)
  clear hb8 ho8 HK7 HX7 HF7 HG7 HC7 e6 HKH
  try simp only [Act.put, List.setIfInBounds_toArray, List.set_cons_zero, List.set_cons_succ]
  obtain ⟨cv, htk, hcode⟩ := HNB.out.c.t
  have htk1 : w8.ownsRow w.heap.size 67 6 tv' 1 (Sy.rowCells (fun j => Sy.tkL (X1.T j) (cv j)) 1) := htk
  clear htk
  obtain ⟨ct, ctc, ctr, rfl, hct1, hctB, hctb, _⟩ := own_open htk1 (by decide)
  have e0 := cell_block HNB.out.x 0
  simp [Sy.cfC] at e0
  clear htk1 hcode hctB hctb hct1
  go_wp2_with fail
  have HS := Lib.hid (show N1 w w8 b cg fg (.slice (some ⟨ct, 0, none⟩) 1 ctc) lv' sv' qv' mv' 0 (.slice none 0 0) from .inl ⟨rfl, rfl, HNB.out, HK8.out⟩)
  clear HNB HK8
  go_loopw [6, 44] (fun lv i wr => ∃ k : Nat, i = .int .i64 k ∧ N1 w wr b cg fg (.slice (some ⟨ct, 0, none⟩) 1 ctc) lv' sv' qv' mv' k lv) (fun _ i _ => 1 - (RowKit.intOf i).toNat)
  case atStart => exact ⟨0, rfl, HS.out⟩
  case round =>
    clear HS
    obtain ⟨k, rfl, hk⟩ := hrel
    rcases hk with ⟨rfl, rfl, hnb, hka⟩ | ⟨rfl, tvv, rv, mA, hnb, hka, h1, h2, h3⟩
    · have HNB := Lib.hid hnb
      have HK8 := Lib.hid hka
      obtain ⟨cv, htk, hcode⟩ := hnb.c.t
      have htk1 : wr.ownsRow w.heap.size 67 6 (.slice (some ⟨ct, 0, none⟩) 1 ctc) 1 (Sy.rowCells (fun j => Sy.tkL (X1.T j) (cv j)) 1) := htk
      obtain ⟨ct2, ctc2, ctr, e9, _, _, hctb, _⟩ := own_open htk1 (by decide)
      injection e9 with e9 _ e92
      injection e9 with e9
      injection e9 with e9
      subst e9
      have q0 := cell_block hctb 0
      have q1 := cell_block hctb 1
      have q2 := cell_block hctb 2
      have q3 := cell_block hctb 3
      have q4 := cell_block hctb 4
      have q5 := cell_block hctb 5
      simp [Sy.rowCells, Sy.tkL, X1] at q0 q1 q2 q3 q4 q5
      have hcd : wr.ownsRow w.heap.size 64 6 (cv 0) 1 _ := hcode 0 (by decide)
      obtain ⟨xg, xcc, xr, hcv, _, _, _, _⟩ := own_open hcd (by decide)
      rw [hcv] at q5
      clear hcd hcv
      clear htk htk1 hcode hctb hnb hka e92
      go_upto_region 11 with (fail)
      have hg9 := Grow.alloc wr (.cells #[.int .i64 0, .int .i64 1, .int .i64 0, .int .i64 0, .int .i64 0, .slice (some ⟨xg, 0, none⟩) 1 xcc] 67)
      have HT9 := Lib.hid (heapAt_alloc_new wr (.cells #[.int .i64 0, .int .i64 1, .int .i64 0, .int .i64 0, .int .i64 0, .slice (some ⟨xg, 0, none⟩) 1 xcc] 67))
      have HNB9 := Lib.hid (HNB.out.grow hg9)
      have HK9 := Lib.hid (show KAt (wr.alloc (.cells #[.int .i64 0, .int .i64 1, .int .i64 0, .int .i64 0, .int .i64 0, .slice (some ⟨xg, 0, none⟩) 1 xcc] 67)) b _ from hg9.at HK8.out)
      clear HNB HK8 q0 q1 q2 q3 q4 q5 hg9
      generalize wr.heap.size = tg at HT9 ⊢
      generalize wr.alloc (.cells #[.int .i64 0, .int .i64 1, .int .i64 0, .int .i64 0, .int .i64 0, .slice (some ⟨xg, 0, none⟩) 1 xcc] 67) = w9 at HT9 HNB9 HK9 ⊢
      have d0 := cell_block HT9.out 0
      simp at d0
      have HGA := Lib.hid (Grow.alloc w9 (.cells #[.int .i64 0] 3))
      have HRD := Lib.hid (reads_int (heapAt_alloc_new w9 (.cells #[.int .i64 0] 3)))
      have HBW := Lib.hid (show w.heap.size ≤ w9.heap.size + 1 from Nat.le_succ_of_le HNB9.out.g.size)
      go_wp2_with (at_builtin; refine wpList_append_any _ rfl (.tmp 49) (.tmp 52) 60 rfl w.heap.size 3 i3 _ 1 8 Tryz.underlying60 HI3.out HY0.out HY1.out HY2.out rfl (by decide) _ 0 [] (by rfl) (World.ownsRow_nil _ _ _ _) _ (some ⟨w9.heap.size, 0, none⟩) 1 1 [.int .i64 0] (by rfl) HRD.out (by simp [Value.oneCell']) ?n4 ?n5 ?n6 ?n7)
      case n4 => unfold maxLen; omega
      case n6 => exact HBW.out
      case n7 =>
        intro lvv w10 hown hgr hblk
        have hg10 : Grow w9 w10 := HGA.out.trans ⟨hgr.os, hgr.tape, hgr.output, hgr.size, fun k hk => hgr.block k hk (by simp [Value.ownBlock])⟩
        have HLV := Lib.hid (show w10.ownsRow w.heap.size 3 1 lvv 1 [.int .i64 0] from hown)
        have HNB10 := Lib.hid (HNB9.out.grow hg10)
        have HK10 := Lib.hid (show KAt w10 b _ from hg10.at HK9.out)
        have HT10 := Lib.hid (hg10.at HT9.out)
        clear hown hgr hblk hg10 HNB9 HK9 HT9 HGA HRD HBW d0
        go_upto_region 12 with (fail)
        have k542 := HK10.out.tasks
        dsimp only [sZ] at k542
        have d0 := cell_block HT10.out 0
        have d4 := cell_block HT10.out 4
        simp at d0 d4
        refine wp_region_rel_float 13 0 (_) (_) _ Grow (fun _ wQ => Grow w10 wQ) [([(5, none)], none), ([(5, none)], none), ([(55, some 0)], none), ([(56, some 0)], none), ([(57, some 0)], none), ([(8, none)], none), ([(59, some 0)], none), ([(8, none)], none), ([(61, some 0)], none), ([(62, some 0)], none), ([(63, some 0)], none), ([(60, some 4), (64, some 0)], none), ([(65, some 0)], none)] (by kernel_rfl) (by decide +kernel) rfl rfl (by kernel_rfl) (Grow.drewN w10 1) ?_
        (refine relF_pure ?_; apply Exists.intro; refine ⟨fun aR wQ hF hk => relT_none fun K hK => ?_, ?_⟩; focus ((try simp at hk); go_simp; exact hK _ _ (Grow.refl _) hF rfl))
        (refine relF_pure ?_; apply Exists.intro; refine ⟨fun aR wQ hF hk => relT_none fun K hK => ?_, ?_⟩; focus ((try simp at hk); go_simp; exact hK _ _ (Grow.refl _) hF rfl))
        (refine relF_pure ?_; apply Exists.intro; refine ⟨fun aR wQ hF hk => relT_none fun K hK => ?_, ?_⟩; focus ((try simp at hk); go_simp; exact hK _ _ (Grow.refl _) hF rfl))
        (refine relF_pure ?_; apply Exists.intro; refine ⟨fun aR wQ hF hk => relT_none fun K hK => ?_, ?_⟩; focus ((try simp at hk); go_simp; exact hK _ _ (Grow.refl _) hF rfl))
        (refine relF_pure ?_; apply Exists.intro; refine ⟨fun aR wQ hF hk => relT_none fun K hK => ?_, ?_⟩; focus ((try simp at hk); have k542 := cell_below hF (Nat.le_refl _) k542; go_simp; exact hK _ _ (Grow.refl _) hF rfl))
        (refine relF_pure ?_; apply Exists.intro; refine ⟨fun aR wQ hF hk => relT_none fun K hK => ?_, ?_⟩; focus ((try simp at hk); go_simp; exact hK _ _ (Grow.refl _) hF rfl))
        (refine relF_pure ?_; apply Exists.intro; refine ⟨fun aR wQ hF hk => relT_none fun K hK => ?_, ?_⟩; focus ((try simp at hk); have d0 := cell_below hF (Nat.le_refl _) d0; go_simp; exact hK _ _ (Grow.refl _) hF rfl))
        (refine relF_pure ?_; apply Exists.intro; refine ⟨fun aR wQ hF hk => relT_none fun K hK => ?_, ?_⟩; focus ((try simp at hk); go_simp; exact hK _ _ (Grow.refl _) hF rfl))
        (refine relF_pure ?_; apply Exists.intro; refine ⟨fun aR wQ hF hk => relT_none fun K hK => ?_, ?_⟩; focus ((try simp at hk); have d4 := cell_below hF (Nat.le_refl _) d4; go_simp; exact hK _ _ (Grow.refl _) hF rfl))
        (refine relF_some (fun v _ => ∃ mA, v = .slice mA 0 0) (fun _ _ _ _ h => h) (fun aR wQ hF hk => relT_none fun K hK => ?_) ?_; focus ((try simp at hk); have hmk := make75 wQ; go_simp; exact hK _ _ (Grow.alloc _ _) (Grow.trans hF (Grow.alloc _ _)) ⟨_, rfl⟩))
        (refine relF_some (fun v _ => ∃ mA, v = .agg #[.int .i64 0, .int .u32 0, .int .u32 0, .int .u32 0, .int .u32 0, .int .u32 0, .int .u32 0, .int .u32 0, .int .u32 0, .slice mA 0 0]) (fun _ _ _ _ h => h) (fun aR wQ hF hk => relT_none fun K hK => ?_) ?_; focus ((try simp at hk); obtain ⟨mA, hk⟩ := hk; refine wp_build1 179 2 (.tmp 63) rfl _ (by simpa [Act.eval] using hk) _ (built179 mA) ?_; exact hK _ _ (Grow.refl _) hF ⟨mA, rfl⟩))
        (refine relF_some (fun v _ => ∃ mA, v = .agg (tkC 0 0 0 (.slice mA 0 0)).toArray) (fun _ _ _ _ h => h) (fun aR wQ hF hk => relT_none fun K hK => ?_) ?_; focus ((try simp at hk); obtain ⟨hk1, mA, hk⟩ := hk; refine wp_build2 189 1 5 (.tmp 60) (.tmp 64) rfl _ _ (by simpa [Act.eval] using hk1) (by simpa [Act.eval] using hk) _ (built189 mA) ?_; exact hK _ _ (Grow.refl _) hF ⟨mA, rfl⟩))
        (refine relF_some (fun v wv => ∃ gb mA, v = .slice (some ⟨gb, 0, none⟩) 1 1 ∧ wv.heap[gb]? = some (.cells (tkC 0 0 0 (.slice mA 0 0)).toArray 189 (0, 0))) (fun v w1 w2 hg ⟨gb, mA, hv, hb⟩ => ⟨gb, mA, hv, Grow.at hg hb⟩) (fun aR wQ hF hk => relT_none fun K hK => ?_) ?_; focus ((try simp at hk); obtain ⟨mA, hk⟩ := hk; go_simp; exact hK _ _ (Grow.alloc _ _) (Grow.trans hF (Grow.alloc _ _)) ⟨_, mA, rfl, heapAt_alloc_new _ _⟩))
        refine relF_done (fun wR => ?_) (fun wR => ?_)
        · refine fun v hv => ?_; obtain rfl : v = _ := hv
          refine fun v hv => ?_; obtain rfl : v = _ := hv
          refine fun v hv => ?_; obtain rfl : v = _ := hv
          refine fun v hv => ?_; obtain rfl : v = _ := hv
          refine fun v hv => ?_; obtain rfl : v = _ := hv
          refine fun v hv => ?_; obtain rfl : v = _ := hv
          refine fun v hv => ?_; obtain rfl : v = _ := hv
          refine fun v hv => ?_; obtain rfl : v = _ := hv
          refine fun v hv => ?_; obtain rfl : v = _ := hv
          refine fun v1009 hv1009 => ?_
          refine fun v1010 hv1010 => ?_
          refine fun v1011 hv1011 => ?_
          refine fun v1012 hv1012 => ?_
          simp only [Act.put, List.setIfInBounds_toArray, List.set_cons_zero, List.set_cons_succ]
          refine relT_nil fun hF => ?_
          simp only [List.drop_succ_cons, List.drop_zero]
          obtain ⟨gbt, mA, rfl, hgb⟩ := hv1012
          have HK11 := Lib.hid (show KAt wR b _ from hF.at HK10.out)
          have HLV11 := Lib.hid (own_grow HLV.out hF)
          have HNB11 := Lib.hid (HNB10.out.grow hF)
          have HT11 := Lib.hid (hF.at HT10.out)
          have HRD11 := Lib.hid (reads_task hgb)
          have HBW11 := Lib.hid (show w.heap.size ≤ wR.heap.size from HNB11.out.g.size)
          clear hF hgb k542 d0 d4 hv1009 hv1010 hv1011 HK10 HLV HNB10 HT10
          generalize wR = w11 at HK11 HLV11 HNB11 HT11 HRD11 HBW11 ⊢
          go_wp2_with (at_builtin; refine wpList_append_any _ rfl (.tmp 58) (.tmp 66) 181 rfl w.heap.size 189 i9 _ 15 104 Tryz.underlying181 HI9.out HX0.out HX1.out HX2.out rfl (by decide) _ 0 [] (by rfl) (World.ownsRow_nil _ _ _ _) _ (some ⟨gbt, 0, none⟩) 1 1 (tkC 0 0 0 (.slice mA 0 0)) (by rfl) HRD11.out (by simp [Value.oneCell']) ?m4a ?m5a ?m6a ?m7a)
          case m4a => unfold maxLen; omega
          case m5a => omega
          case m6a => exact HBW11.out
          case m7a =>
            intro tvv w12 hown hgr hblk
            have hg12 : Grow w11 w12 := ⟨hgr.os, hgr.tape, hgr.output, hgr.size, fun k hk => hgr.block k hk (by simp [Value.ownBlock])⟩
            have HTV := Lib.hid (show w12.ownsRow w.heap.size 189 15 tvv 1 (tkC 0 0 0 (.slice mA 0 0)) from hown)
            have HTO := Lib.hid (own_one hown)
            have HNB12 := Lib.hid (HNB11.out.grow hg12)
            have HKH := Lib.hid (show w12.heap[b]? = some (.cells (kCells (sZ (.slice (some ⟨ct, 0, none⟩) 1 ctc) lv' sv' qv' mv')) 187 (0, 0)) from hg12.at HK11.out)
            have HLV12 := Lib.hid (own_grow HLV11.out hg12)
            have HT12 := Lib.hid (hg12.at HT11.out)
            clear hown hgr hblk hg12 HNB11 HK11 HLV11 HT11 HRD11 HBW11
            go_wp2_with (first
              | ((with_reducible refine store_in rfl 181 _ _ rfl b 542 187 _ (kCells { sZ (.slice (some ⟨ct, 0, none⟩) 1 ctc) lv' sv' qv' mv' with tasks := tvv }) tvv info181s HKH.out HTO.out ?_ ?_ ?_ ?_ ?_); (· rfl); (· rfl); (· rw [kCells_size]; decide); (· exact k_tasks _ tvv); intro w13 hw13 hb13 ho13; clear hw13))
            try simp only [Act.put, List.setIfInBounds_toArray, List.set_cons_zero, List.set_cons_succ]
            have HNB13 := Lib.hid (HNB12.out.kp HKH.out (Kp.of_only ho13 (fun h => h rfl)))
            have HTV13 := Lib.hid (own_only HTV.out ho13 HKH.out (by decide))
            have HLV13 := Lib.hid (own_only HLV12.out ho13 HKH.out (by decide))
            have HT13 := Lib.hid (ho13.at (ty_ne2 HT12.out HKH.out (by decide)) HT12.out)
            have HK13 := Lib.hid (show KAt w13 b { sZ (.slice (some ⟨ct, 0, none⟩) 1 ctc) lv' sv' qv' mv' with tasks := tvv } from hb13)
            have HBW13 := Lib.hid (show w.heap.size ≤ w13.heap.size from HNB13.out.g.size)
            clear hb13 ho13 HNB12 HKH HTV HTO HLV12 HT12
            generalize w13 = w14 at HNB13 HTV13 HLV13 HT13 HK13 HBW13 ⊢
            have d1 := cell_block HT13.out 1
            simp at d1
            refine wp_region_rel_tail 7 _ Grow (fun _ wQ => Grow w14 wQ) [([(5, none)], none), ([(70, some 0)], none), ([(71, some 0)], none), ([(72, some 0)], none), ([(7, none)], none), ([(8, none)], none), ([(75, some 0)], none)] (by kernel_rfl) (by kernel_rfl) (by kernel_rfl) (Grow.drewN w14 1) ?_
            (refine relT_pure ?_; apply Exists.intro; refine ⟨fun aR wQ hF hk => relT_none fun K hK => ?_, ?_⟩; focus ((try simp at hk); go_simp; exact hK _ _ (Grow.refl _) hF rfl))
            (refine relT_pure ?_; apply Exists.intro; refine ⟨fun aR wQ hF hk => relT_none fun K hK => ?_, ?_⟩; focus ((try simp at hk); go_simp; exact hK _ _ (Grow.refl _) hF rfl))
            (refine relT_pure ?_; apply Exists.intro; refine ⟨fun aR wQ hF hk => relT_none fun K hK => ?_, ?_⟩; focus ((try simp at hk); go_simp; exact hK _ _ (Grow.refl _) hF rfl))
            (refine relT_pure ?_; apply Exists.intro; refine ⟨fun aR wQ hF hk => relT_none fun K hK => ?_, ?_⟩; focus ((try simp at hk); go_simp; exact hK _ _ (Grow.refl _) hF rfl))
            (refine relT_pure ?_; apply Exists.intro; refine ⟨fun aR wQ hF hk => relT_none fun K hK => ?_, ?_⟩; focus ((try simp at hk); go_simp; exact hK _ _ (Grow.refl _) hF rfl))
            (refine relT_pure ?_; apply Exists.intro; refine ⟨fun aR wQ hF hk => relT_none fun K hK => ?_, ?_⟩; focus ((try simp at hk); go_simp; exact hK _ _ (Grow.refl _) hF rfl))
            (refine relT_pure ?_; apply Exists.intro; refine ⟨fun aR wQ hF hk => relT_none fun K hK => ?_, ?_⟩; focus ((try simp at hk); have d1 := cell_below hF (Nat.le_refl _) d1; go_simp; exact hK _ _ (Grow.refl _) hF rfl))
            refine relT_done fun wR => ?_
            refine fun v hv => ?_; obtain rfl : v = _ := hv
            refine fun v hv => ?_; obtain rfl : v = _ := hv
            refine fun v hv => ?_; obtain rfl : v = _ := hv
            refine fun v hv => ?_; obtain rfl : v = _ := hv
            refine fun v hv => ?_; obtain rfl : v = _ := hv
            refine fun v hv => ?_; obtain rfl : v = _ := hv
            refine fun v hv => ?_; obtain rfl : v = _ := hv
            simp only [Act.put, List.setIfInBounds_toArray, List.set_cons_zero, List.set_cons_succ]
            refine relT_nil fun hF => ?_
            simp only [List.drop_succ_cons, List.drop_zero]
            have HD := Lib.hid (dput_first wR w.heap.size b 0 1 _ (show KAt wR b _ from hF.at HK13.out) rfl (by decide) rfl (by decide) (by decide) (Nat.le_trans HBW13.out hF.size))
            have HNB15 := Lib.hid (HNB13.out.grow hF)
            have HTV15 := Lib.hid (own_grow HTV13.out hF)
            have HLV15 := Lib.hid (own_grow HLV13.out hF)
            have HKH15 := Lib.hid (show wR.heap[b]? = some (.cells (kCells { sZ (.slice (some ⟨ct, 0, none⟩) 1 ctc) lv' sv' qv' mv' with tasks := tvv }) 187 (0, 0)) from hF.at HK13.out)
            clear hF HNB13 HTV13 HLV13 HT13 HK13 HBW13 d1
            generalize wR = w15 at HD HNB15 HTV15 HLV15 HKH15 ⊢
            go_wp2_with fail
            refine HD.out.mono ?_
            rintro _ w16 ⟨rv, rfl, hk16, ho16, hp16⟩
            have HK16 := Lib.hid hk16
            have HO16 := Lib.hid ho16
            have HNB16 := Lib.hid (HNB15.out.kp HKH15.out hp16)
            have HTV16 := Lib.hid (own_kp HTV15.out hp16 (fun k hk e => by subst e; obtain ⟨cur, hc⟩ := own_blk HTV15.out hk; exact ty_ne2 hc HKH15.out (by decide) rfl))
            have HLV16 := Lib.hid (own_kp HLV15.out hp16 (fun k hk e => by subst e; obtain ⟨cur, hc⟩ := own_blk HLV15.out hk; exact ty_ne2 hc HKH15.out (by decide) rfl))
            clear hk16 ho16 hp16 HD HNB15 HTV15 HLV15 HKH15
            go_wp2_with fail
            go_roundw
            case rel => exact ⟨1, by go_num, .inr ⟨rfl, _, rv, mA, HNB16.out, HK16.out, HTV16.out, HO16.out, HLV16.out⟩⟩
            case measure => simp [RowKit.intOf]
          
        · refine fun v hv => ?_; obtain rfl : v = _ := hv
          refine fun v hv => ?_; obtain rfl : v = _ := hv
          refine fun v hv => ?_; obtain rfl : v = _ := hv
          refine fun v hv => ?_; obtain rfl : v = _ := hv
          refine fun v hv => ?_; obtain rfl : v = _ := hv
          refine fun v hv => ?_; obtain rfl : v = _ := hv
          refine fun v hv => ?_; obtain rfl : v = _ := hv
          refine fun v hv => ?_; obtain rfl : v = _ := hv
          refine fun v1009 hv1009 => ?_
          refine fun v1010 hv1010 => ?_
          refine fun v1011 hv1011 => ?_
          refine fun v1012 hv1012 => ?_
          simp only [Act.put, List.setIfInBounds_toArray, List.set_cons_zero, List.set_cons_succ]
          refine relT_nil fun hF => ?_
          simp only [List.drop_succ_cons, List.drop_zero]
          obtain ⟨gbt, mA, rfl, hgb⟩ := hv1012
          have HK11 := Lib.hid (show KAt wR b _ from hF.at HK10.out)
          have HLV11 := Lib.hid (own_grow HLV.out hF)
          have HNB11 := Lib.hid (HNB10.out.grow hF)
          have HT11 := Lib.hid (hF.at HT10.out)
          have HRD11 := Lib.hid (reads_task hgb)
          have HBW11 := Lib.hid (show w.heap.size ≤ wR.heap.size from HNB11.out.g.size)
          clear hF hgb k542 d0 d4 hv1009 hv1010 hv1011 HK10 HLV HNB10 HT10
          generalize wR = w11 at HK11 HLV11 HNB11 HT11 HRD11 HBW11 ⊢
          go_wp2_with (at_builtin; refine wpList_append_any _ rfl (.tmp 58) (.tmp 66) 181 rfl w.heap.size 189 i9 _ 15 104 Tryz.underlying181 HI9.out HX0.out HX1.out HX2.out rfl (by decide) _ 0 [] (by rfl) (World.ownsRow_nil _ _ _ _) _ (some ⟨gbt, 0, none⟩) 1 1 (tkC 0 0 0 (.slice mA 0 0)) (by rfl) HRD11.out (by simp [Value.oneCell']) ?m4b ?m5b ?m6b ?m7b)
          case m4b => unfold maxLen; omega
          case m5b => omega
          case m6b => exact HBW11.out
          case m7b =>
            intro tvv w12 hown hgr hblk
            have hg12 : Grow w11 w12 := ⟨hgr.os, hgr.tape, hgr.output, hgr.size, fun k hk => hgr.block k hk (by simp [Value.ownBlock])⟩
            have HTV := Lib.hid (show w12.ownsRow w.heap.size 189 15 tvv 1 (tkC 0 0 0 (.slice mA 0 0)) from hown)
            have HTO := Lib.hid (own_one hown)
            have HNB12 := Lib.hid (HNB11.out.grow hg12)
            have HKH := Lib.hid (show w12.heap[b]? = some (.cells (kCells (sZ (.slice (some ⟨ct, 0, none⟩) 1 ctc) lv' sv' qv' mv')) 187 (0, 0)) from hg12.at HK11.out)
            have HLV12 := Lib.hid (own_grow HLV11.out hg12)
            have HT12 := Lib.hid (hg12.at HT11.out)
            clear hown hgr hblk hg12 HNB11 HK11 HLV11 HT11 HRD11 HBW11
            go_wp2_with (first
              | ((with_reducible refine store_in rfl 181 _ _ rfl b 542 187 _ (kCells { sZ (.slice (some ⟨ct, 0, none⟩) 1 ctc) lv' sv' qv' mv' with tasks := tvv }) tvv info181s HKH.out HTO.out ?_ ?_ ?_ ?_ ?_); (· rfl); (· rfl); (· rw [kCells_size]; decide); (· exact k_tasks _ tvv); intro w13 hw13 hb13 ho13; clear hw13))
            try simp only [Act.put, List.setIfInBounds_toArray, List.set_cons_zero, List.set_cons_succ]
            have HNB13 := Lib.hid (HNB12.out.kp HKH.out (Kp.of_only ho13 (fun h => h rfl)))
            have HTV13 := Lib.hid (own_only HTV.out ho13 HKH.out (by decide))
            have HLV13 := Lib.hid (own_only HLV12.out ho13 HKH.out (by decide))
            have HT13 := Lib.hid (ho13.at (ty_ne2 HT12.out HKH.out (by decide)) HT12.out)
            have HK13 := Lib.hid (show KAt w13 b { sZ (.slice (some ⟨ct, 0, none⟩) 1 ctc) lv' sv' qv' mv' with tasks := tvv } from hb13)
            have HBW13 := Lib.hid (show w.heap.size ≤ w13.heap.size from HNB13.out.g.size)
            clear hb13 ho13 HNB12 HKH HTV HTO HLV12 HT12
            generalize w13 = w14 at HNB13 HTV13 HLV13 HT13 HK13 HBW13 ⊢
            have d1 := cell_block HT13.out 1
            simp at d1
            refine wp_region_rel_tail 7 _ Grow (fun _ wQ => Grow w14 wQ) [([(5, none)], none), ([(70, some 0)], none), ([(71, some 0)], none), ([(72, some 0)], none), ([(7, none)], none), ([(8, none)], none), ([(75, some 0)], none)] (by kernel_rfl) (by kernel_rfl) (by kernel_rfl) (Grow.drewN w14 1) ?_
            (refine relT_pure ?_; apply Exists.intro; refine ⟨fun aR wQ hF hk => relT_none fun K hK => ?_, ?_⟩; focus ((try simp at hk); go_simp; exact hK _ _ (Grow.refl _) hF rfl))
            (refine relT_pure ?_; apply Exists.intro; refine ⟨fun aR wQ hF hk => relT_none fun K hK => ?_, ?_⟩; focus ((try simp at hk); go_simp; exact hK _ _ (Grow.refl _) hF rfl))
            (refine relT_pure ?_; apply Exists.intro; refine ⟨fun aR wQ hF hk => relT_none fun K hK => ?_, ?_⟩; focus ((try simp at hk); go_simp; exact hK _ _ (Grow.refl _) hF rfl))
            (refine relT_pure ?_; apply Exists.intro; refine ⟨fun aR wQ hF hk => relT_none fun K hK => ?_, ?_⟩; focus ((try simp at hk); go_simp; exact hK _ _ (Grow.refl _) hF rfl))
            (refine relT_pure ?_; apply Exists.intro; refine ⟨fun aR wQ hF hk => relT_none fun K hK => ?_, ?_⟩; focus ((try simp at hk); go_simp; exact hK _ _ (Grow.refl _) hF rfl))
            (refine relT_pure ?_; apply Exists.intro; refine ⟨fun aR wQ hF hk => relT_none fun K hK => ?_, ?_⟩; focus ((try simp at hk); go_simp; exact hK _ _ (Grow.refl _) hF rfl))
            (refine relT_pure ?_; apply Exists.intro; refine ⟨fun aR wQ hF hk => relT_none fun K hK => ?_, ?_⟩; focus ((try simp at hk); have d1 := cell_below hF (Nat.le_refl _) d1; go_simp; exact hK _ _ (Grow.refl _) hF rfl))
            refine relT_done fun wR => ?_
            refine fun v hv => ?_; obtain rfl : v = _ := hv
            refine fun v hv => ?_; obtain rfl : v = _ := hv
            refine fun v hv => ?_; obtain rfl : v = _ := hv
            refine fun v hv => ?_; obtain rfl : v = _ := hv
            refine fun v hv => ?_; obtain rfl : v = _ := hv
            refine fun v hv => ?_; obtain rfl : v = _ := hv
            refine fun v hv => ?_; obtain rfl : v = _ := hv
            simp only [Act.put, List.setIfInBounds_toArray, List.set_cons_zero, List.set_cons_succ]
            refine relT_nil fun hF => ?_
            simp only [List.drop_succ_cons, List.drop_zero]
            have HD := Lib.hid (dput_first wR w.heap.size b 0 1 _ (show KAt wR b _ from hF.at HK13.out) rfl (by decide) rfl (by decide) (by decide) (Nat.le_trans HBW13.out hF.size))
            have HNB15 := Lib.hid (HNB13.out.grow hF)
            have HTV15 := Lib.hid (own_grow HTV13.out hF)
            have HLV15 := Lib.hid (own_grow HLV13.out hF)
            have HKH15 := Lib.hid (show wR.heap[b]? = some (.cells (kCells { sZ (.slice (some ⟨ct, 0, none⟩) 1 ctc) lv' sv' qv' mv' with tasks := tvv }) 187 (0, 0)) from hF.at HK13.out)
            clear hF HNB13 HTV13 HLV13 HT13 HK13 HBW13 d1
            generalize wR = w15 at HD HNB15 HTV15 HLV15 HKH15 ⊢
            go_wp2_with fail
            refine HD.out.mono ?_
            rintro _ w16 ⟨rv, rfl, hk16, ho16, hp16⟩
            have HK16 := Lib.hid hk16
            have HO16 := Lib.hid ho16
            have HNB16 := Lib.hid (HNB15.out.kp HKH15.out hp16)
            have HTV16 := Lib.hid (own_kp HTV15.out hp16 (fun k hk e => by subst e; obtain ⟨cur, hc⟩ := own_blk HTV15.out hk; exact ty_ne2 hc HKH15.out (by decide) rfl))
            have HLV16 := Lib.hid (own_kp HLV15.out hp16 (fun k hk e => by subst e; obtain ⟨cur, hc⟩ := own_blk HLV15.out hk; exact ty_ne2 hc HKH15.out (by decide) rfl))
            clear hk16 ho16 hp16 HD HNB15 HTV15 HLV15 HKH15
            go_wp2_with fail
            go_roundw
            case rel => exact ⟨1, by go_num, .inr ⟨rfl, _, rv, mA, HNB16.out, HK16.out, HTV16.out, HO16.out, HLV16.out⟩⟩
            case measure => simp [RowKit.intOf]
          
    · obtain ⟨cvl, hl, hl2⟩ := hnb.c.l
      obtain ⟨Al, cl, rfl, _⟩ := own_slice (show wr.ownsRow w.heap.size 192 2 lv' 0 _ from hl)
      obtain ⟨As, cs, rfl, _⟩ := own_slice (show wr.ownsRow w.heap.size 3 1 sv' 0 _ from hnb.c.s)
      obtain ⟨Aq, cq, rfl, _⟩ := own_slice (show wr.ownsRow w.heap.size 3 1 qv' 0 _ from hnb.c.q)
      obtain ⟨A3, c3, rfl, hc3, hr3⟩ := own_row1 h3
      have HNB := Lib.hid hnb
      have HKA := Lib.hid hka
      have HTV := Lib.hid h1
      have HRV := Lib.hid h2
      have HLC := Lib.hid (locknew_w wr A3 c3 hr3 hc3)
      have f1 := cell_block hnb.x 1
      have f2' := cell_block hnb.x 2
      have f3 := cell_block hnb.x 3
      have f4 := cell_block hnb.x 4
      simp [Sy.cfC, X1] at f1 f2' f3 f4
      clear hl hl2 hnb hka h1 h2 h3 hc3 hr3 e0
      go_wp2_with fail
      go_loop [82] (fun i => i = .int .i64 0) (fun _ => 0)
      case atStart => rfl
      case round =>
        obtain rfl := hrel
        go_wp2_with fail
        refine HLC.out.mono ?_
        rintro _ wd ⟨lk, ov, nv, mv2, xv, rfl, hlk, hlb, hg⟩
        have HLK := Lib.hid hlk
        have HLB := Lib.hid hlb
        have HKD := Lib.hid (show wd.heap[b]? = some (.cells (kCells (sN (sZ (.slice (some ⟨ct, 0, none⟩) 1 ctc) (.slice Al 0 cl) (.slice As 0 cs) (.slice Aq 0 cq) mv') tvv rv (upB (fun _ => false) 0 true))) 187 (0, 0)) from hg.at HKA.out)
        have HNBD := Lib.hid (HNB.out.grow hg)
        have HTVD := Lib.hid (own_grow HTV.out hg)
        have HRVD := Lib.hid (own_grow HRV.out hg)
        clear hlk hlb hg f1 f2' f3 f4 HNB HKA HTV HRV HLC
        go_wp2_with (first
          | ((with_reducible refine store_in rfl 182 _ _ rfl b 543 187 _ (kCells { sN (sZ (.slice (some ⟨ct, 0, none⟩) 1 ctc) (.slice Al 0 cl) (.slice As 0 cs) (.slice Aq 0 cq) mv') tvv rv (upB (fun _ => false) 0 true) with locks := .pointer (some ⟨lk, 0, none⟩) }) (.pointer (some ⟨lk, 0, none⟩)) info182s HKD.out rfl ?_ ?_ ?_ ?_ ?_); (· rfl); (· rfl); (· rw [kCells_size]; decide); (· exact k_locks _ _); intro we hwe hbe hoe; clear hwe; have HNBE := Lib.hid (HNBD.out.kp HKD.out (Kp.of_only hoe (fun h => h rfl))); have g3 : we.cell? ⟨cg, 3, none⟩ = some (.slice As 0 cs) := by (have h := cell_block HNBE.out.x 3; simpa [Sy.cfC] using h)))
        have HKE := Lib.hid hbe
        have HTVE := Lib.hid (own_only HTVD.out hoe HKD.out (by decide))
        have HRVE := Lib.hid (own_only HRVD.out hoe HKD.out (by decide))
        have HLKE := Lib.hid (HLK.out.kp (Kp.of_only (P := fun k => k ≠ b) hoe (fun h => h rfl)) (fun k cs t fr hk ht => ty_ne2 hk HKD.out (by rcases ht with rfl | rfl <;> decide)))
        clear hbe hoe HKD HNBD HTVD HRVD HLK g3
        have f4 : we.cell? ⟨cg, 4, none⟩ = some (.slice Aq 0 cq) := by (have h := cell_block HNBE.out.x 4; simpa [Sy.cfC] using h)
        have f1 : we.cell? ⟨cg, 1, none⟩ = some (.slice Al 0 cl) := by (have h := cell_block HNBE.out.x 1; simpa [Sy.cfC] using h)
        have f7 : we.cell? ⟨cg, 7, none⟩ = some (.int .u32 0) := by (have h := cell_block HNBE.out.x 7; simpa [Sy.cfC, X1] using h)
        go_loop [112] (fun i => i = .int .i64 0) (fun _ => 0)
        case atStart => rfl
        case round =>
          obtain rfl := hrel
          go_wp2_with fail
          go_loop [135] (fun i => i = .int .i64 0) (fun _ => 0)
          case atStart => rfl
          case round =>
            obtain rfl := hrel
            have HLN := Lib.hid (lnew_w we)
            go_wp2_with fail
            refine HLN.out.mono ?_
            rintro _ wf ⟨rfl, hln, hg⟩
            have HLNF := Lib.hid hln
            have HSE := Lib.hid HNBE.out.g.size
            have HKF := Lib.hid (hg.at HKE.out)
            have HNBF := Lib.hid (HNBE.out.grow hg)
            have HTVF := Lib.hid (own_grow HTVE.out hg)
            have HRVF := Lib.hid (own_grow HRVE.out hg)
            have HLKF := Lib.hid (HLKE.out.kp (Kp.of_grow (P := fun _ => True) hg) (fun _ _ _ _ _ _ => trivial))
            clear hln hg HKE HNBE HTVE HRVE HLKE f1 f4 f7 HLN
            obtain ⟨nb, hnb⟩ : ∃ nb, nb = we.heap.size := ⟨_, rfl⟩
            have HNN := Lib.hid (show w.heap.size ≤ nb by rw [hnb]; exact HSE.out)
            rw [← hnb] at HLNF ⊢
            clear hnb HSE
            have HI4 := Lib.hid (show (Tryz.prog.info? 131).map (·.size) = some (#[Value.int .i64 0, .int .i64 0, .int .i64 0, .int .i64 0]).size from Sy.info131)
            have HON4 := Lib.hid (show (#[Value.int .i64 0, .int .i64 0, .int .i64 0, .int .i64 0]).all (·.oneCell') = true from by simp [Value.oneCell'])
            go_wp2_with (first
              | ((with_reducible refine store_in rfl 185 _ _ rfl b 546 187 _ (kCells (sF (.slice (some ⟨ct, 0, none⟩) 1 ctc) (.slice Al 0 cl) (.slice As 0 cs) (.slice Aq 0 cq) mv' tvv rv lk nb)) (.pointer (some ⟨nb, 0, none⟩)) info185s HKF.out rfl ?_ ?_ ?_ ?_ ?_); (· rfl); (· rfl); (· rw [kCells_size]; decide); (· exact k_lines _ _); intro wg hwg hbg hog; clear hwg; have HFG := Lib.hid (HNBF.out.kp HKF.out (Kp.of_only hog (fun h => h rfl))).f)
              | ((with_reducible refine wpList_store_blk rfl 131 _ _ rfl fg 131 _ #[.int .i64 0, .int .i64 0, .int .i64 0, .int .i64 0] ?_ ?_ HFG.out rfl HI4.out HON4.out ?_); (· rfl); (· rfl); intro wh hbh hoh))
            have HFZ := Lib.hid hbh
            have HGG := Lib.hid (HNBF.out.kp HKF.out (Kp.of_only hog (fun h => h rfl)))
            have hp := Kp.of_only (P := fun k => k ≠ fg) hoh (fun h => h rfl)
            have hne : ∀ k cs t fr, wg.heap[k]? = some (.cells cs t fr) → t ≠ 131 → k ≠ fg := fun k cs t fr hk ht => ty_ne2 hk HFG.out ht
            obtain ⟨tb, tc, tr, rfl, ht1, ht2, ht3, ht4⟩ := own_open (own_only HTVF.out hog HKF.out (by decide)) (by decide)
            obtain ⟨rb, rc, rr, rfl, hr1, hr2, hr3, hr4⟩ := own_open (own_only HRVF.out hog HKF.out (by decide)) (by decide)
            refine bodyPost_ret (v := .tuple #[.pointer (some ⟨b, 0, none⟩), .agg #[.int .i64 0, .int .i64 0, .int .i64 0, .int .i64 0]]) (results_tmp_cell_row rfl _ _ fg 131 _ (0, 0) _ (by rfl) HFZ.out Tryz.underlying131 rfl Sy.info131 (by rfl)) rfl ?_
            obtain ⟨cv2, hc1, hc2⟩ := HGG.out.c.t
            obtain ⟨ct2, ctc2, ctr2, e9, _, _, hctb, _⟩ := own_open (show wg.ownsRow w.heap.size 67 6 (.slice (some ⟨ct, 0, none⟩) 1 ctc) 1 (Sy.rowCells (fun j => Sy.tkL (X1.T j) (cv2 j)) 1) from hc1) (by decide)
            injection e9 with e9 _ e92
            injection e9 with e9
            injection e9 with e9
            subst e9
            have hcd : wg.ownsRow w.heap.size 64 6 (cv2 0) 1 (Sy.rowCells (fun j => Sy.insL ((X1.T 0).C j)) 1) := hc2 0 (by decide)
            obtain ⟨xg2, xcc2, xr2, hcv2, _, _, hxb, _⟩ := own_open hcd (by decide)
            have hsy : Sys1 wh (sF (.slice (some ⟨ct, 0, none⟩) 1 ctc) (.slice Al 0 cl) (.slice As 0 cs) (.slice Aq 0 cq) mv' (.slice (some ⟨tb, 0, none⟩) 1 tc) (.slice (some ⟨rb, 0, none⟩) 1 rc) lk nb) nb lk ct xg2 := by
              refine ⟨rfl, rfl, ⟨ov, nv, mv2, xv, (HLKF.out.kp (Kp.of_only (P := fun k => k ≠ b) hog (fun h => h rfl)) (fun k cs t fr hk ht => ty_ne2 hk HKF.out (by rcases ht with rfl | rfl <;> decide))).kp hp (fun k cs t fr hk ht => hne k cs t fr hk (by rcases ht with rfl | rfl <;> decide))⟩, ⟨ctc, rfl⟩, ⟨xcc2, ctr2, ?_⟩, ⟨xr2, ?_⟩, ⟨Al, cl, rfl⟩, rfl, rfl, rfl⟩
              · have h := hp.at (hne _ _ _ _ hctb (by decide)) hctb
                rw [← hcv2]
                exact h
              · exact hp.at (hne _ _ _ _ hxb (by decide)) hxb
            refine ⟨b, tb, nb, lk, ct, xg2, _, .slice mA 0 0, rfl, ⟨⟨⟨.slice none 0 0, zeroS, hp.at (hne _ _ _ _ hbg (by decide)) hbg, rep_zero, World.ownsRow_nil _ _ _ _⟩, hsy, ?_, ⟨tc, tr, rfl, hp.at (hne _ _ _ _ ht3 (by decide)) ht3⟩, Kt.refl _ _, HGG.out.n.1, ht2, HNN.out, Nat.le_trans HGG.out.g.size hp.size⟩, ⟨rb, rc, rr, rfl, hr1, hr4, hp.at (hne _ _ _ _ hr3 (by decide)) hr3, hr2⟩, rfl, rfl, rfl⟩, HGG.out.g.only hoh HCG.out.2.1⟩
            have hl := hog.at (ty_ne2 HLNF.out HKF.out (by decide)) HLNF.out
            exact hp.at (hne _ _ _ _ hl (by decide)) hl
end Go.Proofs.YtnhmdinpfcoebaaGreatDoor
end

/-! === KWNew -/
section
/- world.New of the system of one task. -/
namespace Go.Proofs.YtnhmdinpfcoebaaGreatDoor
open Go.Proofs.YtnhmdinpfcoebaaGreatDoor.Qu
open Go.RowKit
set_option linter.unusedVariables false
set_option linter.unusedSimpArgs false
set_option maxRecDepth 100000

open Go.Lib
attribute [local simp] RelKnown Is
attribute [local irreducible] kCells
theorem wcheck_w (w : World) : Calls Tryz.prog 53 #[.agg #[.slice none 0 0, .slice none 0 0, .int .i64 2]] w fun r w' => r = .returned (.int .i64 0) ∧ Grow w w' := by
  go_enter Tryz.func53, Tryz.ntmps53
  go_wp2_with fail
  go_loop [29] (fun i => i = .int .i64 0) (fun _ => 0)
  case atStart => rfl
  case round =>
    obtain rfl := hrel
    go_wp2
    go_ret
    exact ⟨rfl, Grow.alloc _ _⟩
theorem wclone54 (w : World) : Calls Tryz.prog 54 #[.slice none 0 0] w fun r w' => r = .returned (.slice none 0 0) ∧ Grow w w' := by
  go_enter Tryz.func54, Tryz.ntmps54
  have hb : Sem.run Tryz.prog (binOp .eql 74 (.slice none 0 0) (.slice none 0 0)) w = .ok (.bool true) w := by kernel_rfl
  go_wp2
  go_ret
  exact ⟨rfl, Grow.refl _⟩
theorem wclone55 (w : World) : Calls Tryz.prog 55 #[.slice none 0 0] w fun r w' => r = .returned (.slice none 0 0) ∧ Grow w w' := by
  go_enter Tryz.func55, Tryz.ntmps55
  have hb : Sem.run Tryz.prog (binOp .eql 75 (.slice none 0 0) (.slice none 0 0)) w = .ok (.bool true) w := by kernel_rfl
  go_wp2
  go_ret
  exact ⟨rfl, Grow.refl _⟩
theorem wp_build4 {op : Oper} {a : Act} {w : World} {next : Act → World → Prop} {Q : Exit → Act → World → Prop} (t i j k l : Nat) (x y z u : Operand) (ho : op.op = .build t #[(i, x), (j, y), (k, z), (l, u)]) (v1 v2 v3 v4 : Value) (h1 : a.eval x = v1) (h2 : a.eval y = v2) (h3 : a.eval z = v3) (h4 : a.eval u = v4) (cs : Array Value) (hb : Tryz.prog.built t [(i, v1), (j, v2), (k, v3), (l, v4)] = some cs) (h : next (a.put op.dst (.agg cs)) w) : op.wp Tryz.prog a w next Q := by
  have hb := run_build (P := Tryz.prog) w t #[(i, v1), (j, v2), (k, v3), (l, v4)] _ hb
  unfold Oper.wp execOp
  simp only [ho]
  simp only [List.map_toArray, List.map_cons, List.map_nil, h1, h2, h3, h4, Sem.run_bind, Sem.run_pure, hb, Result.andThen_ok]
  exact h
theorem built140 (b : Nat) : Tryz.prog.built 140 [(0, .pointer (some ⟨b, 0, none⟩)), (1, .slice none 0 0), (2, .slice none 0 0), (4, .int .i64 2)] = some #[.pointer (some ⟨b, 0, none⟩), .slice none 0 0, .slice none 0 0, .int .i64 0, .int .i64 2] := by kernel_rfl
theorem First.grow {B : Nat} {w w' : World} {b tb nb kb cb xb : Nat} {s : KS} {mv : Value} (h : First B w b tb nb kb cb xb s mv) (hg : Grow w w') : First B w' b tb nb kb cb xb s mv := by
  obtain ⟨lb, cap, rest, e1, e2, e3, e4, e5⟩ := h.row
  exact ⟨h.k.re (Kp.of_grow (P := fun _ => True) hg) (fun _ _ _ _ _ _ => trivial), ⟨lb, cap, rest, e1, e2, e3, hg.at e4, e5⟩, h.c, h.y, h.r⟩
theorem info77s : (Tryz.prog.info? 77).map (·.size) = some (#[Value.slice none 0 0, .slice none 0 0, .int .i64 2]).size := by kernel_rfl
/-- What New gives. -/
def WNewO (w0 : World) (r : Ending) (w : World) : Prop := ∃ B g b tb nb kb cb xb s mv, r = .returned (.tuple #[.pointer (some ⟨g, 0, none⟩), .int .i64 0]) ∧ WAt w g b 0 2 ∧ w0.heap.size ≤ B ∧ B ≤ g ∧ First B w b tb nb kb cb xb s mv ∧ Grow w0 w
set_option maxHeartbeats 8000000 in
theorem wnew_w (w : World) (tv lv sv qv mv : Value) (hC : Sy.ConfV w tv lv sv qv mv X1) :
    Calls Tryz.prog 34 #[.agg (Sy.cfC tv lv sv qv mv X1), .agg #[.slice none 0 0, .slice none 0 0, .int .i64 2]] w fun r w' => WNewO w r w' := by
  have HC := Lib.hid hC
  have HG1 := Lib.hid (Grow.alloc w (.cells (Sy.cfC tv lv sv qv mv X1) 71))
  have hx1 := heapAt_alloc_new w (.cells (Sy.cfC tv lv sv qv mv X1) 71)
  have HI7 := Lib.hid info77s
  clear hC
  go_enter Tryz.func34, Tryz.ntmps34
  go_upto_region 1 with (fail)
  obtain ⟨w2, hw2⟩ : ∃ w2, w2 = (w.alloc (.cells (Sy.cfC tv lv sv qv mv X1) 71)).alloc (.cells #[.slice none 0 0, .slice none 0 0, .int .i64 2] 77) := ⟨_, rfl⟩
  have HX2 := Lib.hid (show w2.heap[w.heap.size]? = some (.cells (Sy.cfC tv lv sv qv mv X1) 71 (0, 0)) by rw [hw2]; exact (Grow.alloc _ _).at hx1)
  have HY2 := Lib.hid (show w2.heap[w.heap.size + 1]? = some (.cells #[.slice none 0 0, .slice none 0 0, .int .i64 2] 77 (0, 0)) by
    rw [hw2]
    have h := heapAt_alloc_new (w.alloc (.cells (Sy.cfC tv lv sv qv mv X1) 71)) (.cells #[.slice none 0 0, .slice none 0 0, .int .i64 2] 77)
    rwa [show (w.alloc (.cells (Sy.cfC tv lv sv qv mv X1) 71)).heap.size = w.heap.size + 1 from Array.size_push _] at h)
  have HG2 := Lib.hid (show Grow w w2 by rw [hw2]; exact HG1.out.trans (Grow.alloc _ _))
  rw [← hw2]
  clear hw2 hx1 HG1
  have HKN := Lib.hid (knew1 w2 tv lv sv qv mv (HC.out.grow HG2.out))
  go_wp2_with (first
    | ((with_reducible refine wpList_load_blk rfl 71 _ rfl w.heap.size 71 (Sy.cfC tv lv sv qv mv X1) _ ?_ HX2.out Tryz.underlying71 rfl (Sy.info71s tv lv sv qv mv X1) ?_); (· rfl)))
  refine HKN.out.mono ?_
  rintro _ w3 ⟨b, tb, nb, kb, cb, xb, s, mv2, rfl, hf, hg⟩
  have HF3 := Lib.hid hf
  have HG3 := Lib.hid (HG2.out.trans hg)
  have HB2 := Lib.hid HG2.out.size
  have HY3 := Lib.hid (hg.at HY2.out)
  have HZ3 := Lib.hid (show w2.heap.size ≤ w3.heap.size from hg.size)
  clear hf hg HKN HX2 HY2 HG2
  have HF4 := Lib.hid (HF3.out.grow (Grow.alloc w3 (.cells #[.int .i64 0, .int .i64 0, .int .i64 0, .int .i64 0] 131)))
  have HY4 := Lib.hid ((Grow.alloc w3 (.cells #[.int .i64 0, .int .i64 0, .int .i64 0, .int .i64 0] 131)).at HY3.out)
  have HG4 := Lib.hid (HG3.out.trans (Grow.alloc w3 (.cells #[.int .i64 0, .int .i64 0, .int .i64 0, .int .i64 0] 131)))
  have HZ4 := Lib.hid (Nat.le_trans HZ3.out (Grow.alloc w3 (.cells #[.int .i64 0, .int .i64 0, .int .i64 0, .int .i64 0] 131)).size)
  go_upto_region 4 with (fail)
  clear HZ3 HF3 HG3 HY3
  generalize w3.heap.size = eg
  generalize w3.alloc (.cells #[.int .i64 0, .int .i64 0, .int .i64 0, .int .i64 0] 131) = w4 at HF4 HY4 HG4 HZ4 ⊢
  have HCK := Lib.hid (wcheck_w w4)
  go_wp2_with (first
    | ((with_reducible refine wpList_load_blk rfl 77 _ rfl (w.heap.size + 1) 77 #[.slice none 0 0, .slice none 0 0, .int .i64 2] _ ?_ HY4.out Tryz.underlying77 rfl HI7.out ?_); (· rfl)))
  refine HCK.out.mono ?_
  rintro _ w5 ⟨rfl, hg⟩
  have HF5 := Lib.hid (HF4.out.grow hg)
  have HY5 := Lib.hid (hg.at HY4.out)
  have HG5 := Lib.hid (HG4.out.trans hg)
  have HZ5 := Lib.hid (Nat.le_trans HZ4.out hg.size)
  clear hg HCK HF4 HY4 HG4 HZ4
  go_upto_region 7 with (fail)
  have f0 := cell_block HY5.out 0
  have f1 := cell_block HY5.out 1
  have f2 := cell_block HY5.out 2
  simp at f0 f1 f2
  refine wp_region_rel_tail 11 _ Grow (fun _ wQ => Grow w5 wQ) [([(6, none)], none), ([(3, none)], none), ([(23, some 0)], none), ([(24, some 0)], none), ([(3, none)], none), ([(26, some 0)], none), ([(27, some 0)], none), ([(3, none)], none), ([(29, some 0)], none), ([(22, some 8), (25, some 5), (28, some 2), (30, some 0)], none), ([(31, some 0)], none)] (by kernel_rfl) (by kernel_rfl) (by kernel_rfl) (Grow.drewN w5 1) ?_
  (refine relT_pure ?_; apply Exists.intro; refine ⟨fun aR wQ hF hk => relT_none fun K hK => ?_, ?_⟩; focus ((try simp at hk); go_simp; exact hK _ _ (Grow.refl _) hF rfl))
  (refine relT_pure ?_; apply Exists.intro; refine ⟨fun aR wQ hF hk => relT_none fun K hK => ?_, ?_⟩; focus ((try simp at hk); go_simp; exact hK _ _ (Grow.refl _) hF rfl))
  (refine relT_pure ?_; apply Exists.intro; refine ⟨fun aR wQ hF hk => relT_none fun K hK => ?_, ?_⟩; focus ((try simp at hk); have f0 := cell_below hF (Nat.le_refl _) f0; go_simp; exact hK _ _ (Grow.refl _) hF rfl))
  (refine relT_pure ?_; apply Exists.intro; refine ⟨fun aR wQ hF hk => relT_none fun K hK => ?_, ?_⟩; focus ((try simp at hk); go_simp; refine (wclone54 _).mono ?_; rintro e w' ⟨rfl, hg⟩; exact hK _ _ hg (Grow.trans hF hg) rfl))
  (refine relT_pure ?_; apply Exists.intro; refine ⟨fun aR wQ hF hk => relT_none fun K hK => ?_, ?_⟩; focus ((try simp at hk); go_simp; exact hK _ _ (Grow.refl _) hF rfl))
  (refine relT_pure ?_; apply Exists.intro; refine ⟨fun aR wQ hF hk => relT_none fun K hK => ?_, ?_⟩; focus ((try simp at hk); have f1 := cell_below hF (Nat.le_refl _) f1; go_simp; exact hK _ _ (Grow.refl _) hF rfl))
  (refine relT_pure ?_; apply Exists.intro; refine ⟨fun aR wQ hF hk => relT_none fun K hK => ?_, ?_⟩; focus ((try simp at hk); go_simp; refine (wclone55 _).mono ?_; rintro e w' ⟨rfl, hg⟩; exact hK _ _ hg (Grow.trans hF hg) rfl))
  (refine relT_pure ?_; apply Exists.intro; refine ⟨fun aR wQ hF hk => relT_none fun K hK => ?_, ?_⟩; focus ((try simp at hk); go_simp; exact hK _ _ (Grow.refl _) hF rfl))
  (refine relT_pure ?_; apply Exists.intro; refine ⟨fun aR wQ hF hk => relT_none fun K hK => ?_, ?_⟩; focus ((try simp at hk); have f2 := cell_below hF (Nat.le_refl _) f2; go_simp; exact hK _ _ (Grow.refl _) hF rfl))
  (refine relT_pure ?_; apply Exists.intro; refine ⟨fun aR wQ hF hk => relT_none fun K hK => ?_, ?_⟩; focus ((try simp at hk); obtain ⟨hk0, hk1, hk2, hk3⟩ := hk; refine wp_build4 140 0 1 2 4 (.tmp 22) (.tmp 25) (.tmp 28) (.tmp 30) rfl _ _ _ _ (by simpa [Act.eval] using hk0) (by simpa [Act.eval] using hk1) (by simpa [Act.eval] using hk2) (by simpa [Act.eval] using hk3) _ (built140 b) ?_; exact hK _ _ (Grow.refl _) hF rfl))
  (refine relT_some (fun v wv => ∃ gb, v = .pointer (some ⟨gb, 0, none⟩) ∧ w5.heap.size ≤ gb ∧ wv.heap[gb]? = some (.cells #[.pointer (some ⟨b, 0, none⟩), .slice none 0 0, .slice none 0 0, .int .i64 0, .int .i64 2] 140 (0, 0))) (fun v w1 w2 hg ⟨gb, hv, hz, hb⟩ => ⟨gb, hv, hz, Grow.at hg hb⟩) (fun aR wQ hF hk => relT_none fun K hK => ?_) ?_; focus ((try simp at hk); go_simp; exact hK _ _ (Grow.alloc _ _) (Grow.trans hF (Grow.alloc _ _)) ⟨_, rfl, hF.size, heapAt_alloc_new _ _⟩))
  refine relT_done fun wR => ?_
  refine fun v hv => ?_; obtain rfl : v = _ := hv
  refine fun v hv => ?_; obtain rfl : v = _ := hv
  refine fun v hv => ?_; obtain rfl : v = _ := hv
  refine fun v hv => ?_; obtain rfl : v = _ := hv
  refine fun v hv => ?_; obtain rfl : v = _ := hv
  refine fun v hv => ?_; obtain rfl : v = _ := hv
  refine fun v hv => ?_; obtain rfl : v = _ := hv
  refine fun v hv => ?_; obtain rfl : v = _ := hv
  refine fun v hv => ?_; obtain rfl : v = _ := hv
  refine fun v hv => ?_; obtain rfl : v = _ := hv
  refine fun v1010 hv1010 => ?_
  simp only [Act.put, List.setIfInBounds_toArray, List.set_cons_zero, List.set_cons_succ]
  refine relT_nil fun hF => ?_
  simp only [List.drop_succ_cons, List.drop_zero]
  obtain ⟨gb, rfl, hgz, hgb⟩ := hv1010
  have HGZ := Lib.hid (Nat.le_trans HZ5.out hgz)
  have HF6 := Lib.hid (HF5.out.grow hF)
  have HG6 := Lib.hid (HG5.out.trans hF)
  have HGB := Lib.hid hgb
  clear hF hgb hgz f0 f1 f2
  go_wp2
  go_ret2
  exact ⟨w2.heap.size, gb, b, tb, nb, kb, cb, xb, s, mv2, rfl, HGB.out, HB2.out, HGZ.out, HF6.out, HG6.out⟩
end Go.Proofs.YtnhmdinpfcoebaaGreatDoor
end

/-! === KTop -/
section
/- world.Stamp, Plan.policy, wide. -/
namespace Go.Proofs.YtnhmdinpfcoebaaGreatDoor
open Go.Proofs.YtnhmdinpfcoebaaGreatDoor.Qu
open Go.RowKit
set_option linter.unusedVariables false
set_option linter.unusedSimpArgs false
set_option maxRecDepth 100000

open Go.Lib
attribute [local simp] RelKnown Is
attribute [local irreducible] kCells
set_option maxHeartbeats 4000000 in
theorem wstamp_w (w : World) (g b dn st : Nat) (s : KS) (h : WAt w g b dn st) (hK : KAt w b s) : Calls Tryz.prog 40 #[.pointer (some ⟨g, 0, none⟩)] w fun r w' => r = .returned (.tuple #[.int .u64 s.cycle, .int .u64 s.count]) ∧ Grow w w' := by
  unfold WAt at h
  have c0 := cell_block h 0
  simp at c0
  have HS := Lib.hid (kstamp_w w b s hK)
  clear h hK
  go_enter Tryz.func40, Tryz.ntmps40
  go_wp2_with fail
  refine HS.out.mono ?_
  rintro _ w2 ⟨rfl, hg⟩
  have HG := Lib.hid hg
  clear hg
  go_wp2
  go_ret2
  exact ⟨rfl, HG.out⟩
/-- A wide plan. -/
abbrev planC (room : Int) : Array Value := #[.int .i64 room, .int .i64 1048576, .bool false, .slice none 0 0, .slice none 0 0]
theorem info80 (room : Int) : (Tryz.prog.info? 80).map (·.size) = some (planC room).size := by kernel_rfl
set_option maxHeartbeats 4000000 in
theorem wide_w (w : World) (room : Int) : Calls Tryz.prog 18 #[.int .i64 room] w fun r w' => r = .returned (.agg (planC room)) ∧ Grow w w' := by
  have HN := Lib.hid (heapAt_alloc_new w (.cells #[.int .i64 0, .int .i64 0, .bool false, .slice none 0 0, .slice none 0 0] 80))
  have HI := Lib.hid (info80 room)
  have HO := Lib.hid (show (planC room).all (·.oneCell') = true from by simp [Value.oneCell'])
  go_enter Tryz.func18, Tryz.ntmps18
  go_wp2_with (first
    | ((with_reducible refine wpList_store_blk rfl 80 _ _ rfl w.heap.size 80 _ (planC room) ?_ ?_ HN.out rfl HI.out HO.out ?_); (· rfl); (· rfl); intro w2 hb2 ho2))
  refine bodyPost_ret (v := .agg (planC room)) (results_cell_row rfl _ _ w.heap.size 80 _ (0, 0) _ (by rfl) hb2 Tryz.underlying80 rfl (info80 room)) rfl ⟨rfl, (Grow.alloc _ _).only ho2 (Nat.le_refl _)⟩
theorem policy_w (w : World) (room : Int) : Calls Tryz.prog 35 #[.agg (planC room)] w fun r w' => r = .returned (.int .i64 0) ∧ Grow w w' := by
  go_enter Tryz.func35, Tryz.ntmps35
  go_wp2
  go_ret
  exact ⟨rfl, Grow.alloc _ _⟩
end Go.Proofs.YtnhmdinpfcoebaaGreatDoor
end

/-! === KFix -/
section
/- record of the one task's run: the events that it tells, their bytes; the recorder from event to event. -/
namespace Go.Proofs.YtnhmdinpfcoebaaGreatDoor
open Go.Proofs.YtnhmdinpfcoebaaGreatDoor.Qu
open Go.RowKit
set_option linter.unusedVariables false
set_option linter.unusedSimpArgs false
set_option maxRecDepth 100000

open Go.Lib
attribute [local irreducible] kCells
abbrev evZ : Top.Ev := ⟨24, 33, 2, 0, 0, 0⟩
abbrev evE : List Top.Ev := evA ++ evB ++ [evZ]
def dF : Nat → Nat := fun k => if k = 3 then 1 else 0
def yF : Nat → Nat := fun k => if k = 2 then 44 else if k = 3 then 1 else if k = 4 then 22 else 0
def fE : Nat → Top.Ev := fun j => evE.getD j default
theorem step_of (p e : Top.Ev) (d y : Nat) (h1 : p.count ≤ e.count) (h2 : p.cycle ≤ e.cycle) (h3 : e.count < 1000000) (h4 : e.cycle < 1000000) (hd : e.count - p.count = d)
    (hy : bits .xor .u64 (IntKind.u64.wrap (((e.cycle : Int) - p.cycle - ((e.count : Int) - p.count)) * 2)) (IntKind.u64.wrap (((e.cycle : Int) - p.cycle - ((e.count : Int) - p.count)) / 9223372036854775808)) = (y : Int)) (yn : y < 2 ^ 64) (c : Top.evCheck e = 0) (k : 0 ≤ e.kind ∧ e.kind < 256) (a : e.a < 2 ^ 32 ∧ e.b < 2 ^ 32 ∧ e.v < 2 ^ 32) : Step1 p e d y := ⟨h1, h2, h3, h4, hd, hy, yn, c, k, a⟩
theorem stepE0 : Step1 ⟨0, 0, 0, 0, 0, 0⟩ (fE 0) 1 1 := step_of _ _ _ _ (by decide) (by decide) (by decide) (by decide) (by decide) (by decide +kernel) (by decide) (by decide) (by decide) (by decide)
theorem stepE : ∀ k, k < 5 → Step1 (fE (k - 1)) (fE k) (dF k) (yF k)
  | 0, _ => step_of _ _ _ _ (by decide) (by decide) (by decide) (by decide) (by decide) (by decide +kernel) (by decide) (by decide) (by decide) (by decide)
  | 1, _ => step_of _ _ _ _ (by decide) (by decide) (by decide) (by decide) (by decide) (by decide +kernel) (by decide) (by decide) (by decide) (by decide)
  | 2, _ => step_of _ _ _ _ (by decide) (by decide) (by decide) (by decide) (by decide) (by decide +kernel) (by decide) (by decide) (by decide) (by decide)
  | 3, _ => step_of _ _ _ _ (by decide) (by decide) (by decide) (by decide) (by decide) (by decide +kernel) (by decide) (by decide) (by decide) (by decide)
  | 4, _ => step_of _ _ _ _ (by decide) (by decide) (by decide) (by decide) (by decide) (by decide +kernel) (by decide) (by decide) (by decide) (by decide)
  | k + 5, h => absurd h (by omega)
def runE : Top.Bytes := runB fE dF yF 5
def logE : Top.Bytes := frameB ⟨0, none, 5, 0, fE⟩ runE
theorem runE_len : runE.length ≤ 120 := by decide +kernel
theorem logE_len : logE.length = 83 := by decide +kernel
theorem ring_put : Rg.putG 1048576 0 logE Rg.s0.L.length Rg.s0 = (0, ⟨[logE], false, []⟩) := rfl
theorem ring_used : (⟨[logE], false, []⟩ : Rg.RG).used = logE.length := by simp [Rg.RG.used, Rg.RG.bytes]
theorem ring_take : (⟨[logE], false, []⟩ : Rg.RG).bytes.take logE.length = logE := by simp [Rg.RG.bytes]
end Go.Proofs.YtnhmdinpfcoebaaGreatDoor
end

/-! === KRun -/
section
/- record of the one task's run: what stands ahead of each step; Next, the recorder, the end. -/
namespace Go.Proofs.YtnhmdinpfcoebaaGreatDoor
open Go.Proofs.YtnhmdinpfcoebaaGreatDoor.Qu
open Go.RowKit
set_option linter.unusedVariables false
set_option linter.unusedSimpArgs false
set_option maxRecDepth 100000

open Go.Lib
attribute [local irreducible] kCells
/-- Behind the second step. -/
structure Third (B : Nat) (w : World) (b tb nb kb cb xb : Nat) (s : KS) (mv : Value) : Prop where
  k : K1 B w w b tb nb kb cb xb s (removeR QA 0) (tkC 7 1 1 mv) []
  c : s.count = 2
  y : s.cycle = 33
theorem K1.re2 {P : Nat → Prop} {B b tb nb kb cb xb : Nat} {w w' : World} {s : KS} {Lq : Qu.Rows} {T : List Value} (h : K1 B w w b tb nb kb cb xb s Lq T []) (hp : Kp P w w') (hP : ∀ k cs t fr, w.heap[k]? = some (.cells cs t fr) → t ≠ 98 → t ≠ 142 → P k) : K1 B w' w' b tb nb kb cb xb s Lq T [] := by
  obtain ⟨tv, q, h1, h2, h3⟩ := h.k
  obtain ⟨rfl, _⟩ := own_fresh h3
  obtain ⟨cap, rest, e1, e2⟩ := h.t
  exact ⟨⟨_, q, hp.at (hP _ _ _ _ h1 (by decide) (by decide)) h1, h2, World.ownsRow_nil _ _ _ _⟩, h.y.kp hp (fun k cs t fr hk ht => hP k cs t fr hk (by rcases ht with rfl | rfl | rfl | rfl <;> decide) (by rcases ht with rfl | rfl | rfl | rfl <;> decide)) rfl rfl rfl rfl, hp.at (hP _ _ _ _ h.n (by decide) (by decide)) h.n, ⟨cap, rest, e1, hp.at (hP _ _ _ _ e2 (by decide) (by decide)) e2⟩, Kt.refl _ _, h.bb, h.bt, h.bn, Nat.le_trans h.b0 hp.size⟩
/-- The kernel ahead of step q. -/
def Kst (q : Nat) (B : Nat) (w : World) (b tb nb kb cb xb : Nat) (s : KS) (mv : Value) : Prop :=
  if q = 1 then First B w b tb nb kb cb xb s mv else if q = 2 then Second B w b tb nb kb cb xb s mv else Third B w b tb nb kb cb xb s mv
theorem Kst.kp {P : Nat → Prop} {q B b tb nb kb cb xb : Nat} {w w' : World} {s : KS} {mv : Value} (h : Kst q B w b tb nb kb cb xb s mv) (hp : Kp P w w') (hP : ∀ k cs t fr, w.heap[k]? = some (.cells cs t fr) → t ≠ 98 → t ≠ 142 → P k) : Kst q B w' b tb nb kb cb xb s mv := by
  unfold Kst at h ⊢
  split
  · rename_i e
    rw [if_pos e] at h
    obtain ⟨lb, cap, rest, e1, e2, e3, e4, e5⟩ := h.row
    exact ⟨h.k.re2 hp hP, ⟨lb, cap, rest, e1, e2, e3, hp.at (hP _ _ _ _ e4 (by decide) (by decide)) e4, e5⟩, h.c, h.y, h.r⟩
  · rename_i e
    rw [if_neg e] at h
    split
    · rename_i e2
      rw [if_pos e2] at h
      exact ⟨h.k.re2 hp hP, h.row, h.c, h.y, h.r⟩
    · rename_i e2
      rw [if_neg e2] at h
      exact ⟨h.k.re2 hp hP, h.c, h.y⟩
abbrev scrC : Array Value := #[.slice none 0 0, .slice none 0 0, .int .i64 2]
/-- Ahead of step q, in a world that has grown from w0. -/
structure TS (q : Nat) (w0 w : World) (B g b tb nb kb cb xb : Nat) (s : KS) (mv : Value) (rg gg ct pb sb : Nat) : Prop where
  wt : WAt w g b (q - 1) 2
  ks : Kst q B w b tb nb kb cb xb s mv
  rg : Rg.RingAt w w0.heap.size rg gg 1048576 0 Rg.s0
  tt : Go.Proofs.YtnhmdinpfcoebaaGreatDoor.TabAt w ct
  pl : w.heap[pb]? = some (.cells (planC 120) 80 (0, 0))
  sc : w.heap[sb]? = some (.cells scrC 77 (0, 0))
  tq : Qu.TabAt w
  gr : Grow w0 w
  hB : w0.heap.size ≤ B
  hBg : B ≤ g
  hBw : B ≤ w.heap.size
  z : 0 < w0.heap.size
section
variable {q B g b tb nb kb cb xb rg gg ct pb sb : Nat} {w0 w w' : World} {s : KS} {mv : Value}
theorem TS.kp {P : Nat → Prop} (h : TS q w0 w B g b tb nb kb cb xb s mv rg gg ct pb sb) (hp : Kp P w w') (hP : ∀ k cs t fr, w.heap[k]? = some (.cells cs t fr) → t ≠ 98 → t ≠ 142 → P k) (hP0 : ∀ k, k < w0.heap.size → P k) : TS q w0 w' B g b tb nb kb cb xb s mv rg gg ct pb sb :=
  ⟨hp.at (hP _ _ _ _ h.wt (by decide) (by decide)) h.wt, h.ks.kp hp hP, ring_kp h.rg hp (fun k cs t fr hk ht => hP k cs t fr hk (by rcases ht with rfl | rfl | rfl <;> decide) (by rcases ht with rfl | rfl | rfl <;> decide)),
   hp.at (hP _ _ _ _ h.tt (by decide) (by decide)) h.tt, hp.at (hP _ _ _ _ h.pl (by decide) (by decide)) h.pl, hp.at (hP _ _ _ _ h.sc (by decide) (by decide)) h.sc,
   fun j hj => (Below.cell (p := ⟨0, j, none⟩) (hp.below h.gr.size hP0) h.z).trans (h.tq j hj), Below.trans h.gr (hp.below h.gr.size hP0), h.hB, h.hBg, Nat.le_trans h.hBw hp.size, h.z⟩
theorem TS.grow (h : TS q w0 w B g b tb nb kb cb xb s mv rg gg ct pb sb) (hg : Grow w w') : TS q w0 w' B g b tb nb kb cb xb s mv rg gg ct pb sb := h.kp (Kp.of_grow (P := fun _ => True) hg) (fun _ _ _ _ _ _ _ => trivial) (fun _ _ => trivial)
/-- Not a kernel's own. -/
def Aside (w : World) (k : Nat) : Prop := ∃ cs t fr, w.heap[k]? = some (.cells cs t fr) ∧ t ≠ 187 ∧ t ≠ 189 ∧ t ≠ 255 ∧ t ≠ 240 ∧ t ≠ 140
theorem Kn.kp (h : Kn B w w') : Kp (fun k => Aside w k ∨ k < B) w w' := ⟨h.b.os, h.b.tape, h.b.output, h.z, fun k hk hP => by
  rcases hP with ⟨cs, t, fr, h1, h2, h3, h4, h5, h6⟩ | hP
  · rw [h1]; exact h.k _ _ _ _ h2 h3 h4 h5 h6 h1
  · exact h.b.block k hP⟩
def evQ (q : Nat) : List Top.Ev := if q = 1 then evA else evB
/-- What Next leaves. -/
def NextR (q : Nat) (w0 w : World) (B g b tb nb kb cb xb : Nat) (mv : Value) (rg gg ct pb sb : Nat) (e : Ending) (w' : World) : Prop :=
  ∃ v s', e = .returned v ∧ w'.ownsRow w.heap.size 98 6 v (evQ q).length (evsC (evQ q)) ∧ TS (q + 1) w0 w' B g b tb nb kb cb xb s' mv rg gg ct pb sb ∧ Kp (fun k => Aside w k ∨ k < B) w w'
theorem TS.after (h : TS q w0 w B g b tb nb kb cb xb s mv rg gg ct pb sb) {s' : KS} (hq : 1 ≤ q) (hW : WAt w' g b (q - 1 + 1) 2) (hK : Kst (q + 1) B w' b tb nb kb cb xb s' mv) (hn : Kn B w w') : TS (q + 1) w0 w' B g b tb nb kb cb xb s' mv rg gg ct pb sb := by
  have hp := Kn.kp hn
  have hg : Grow w0 w' := Below.trans h.gr (Below.mono hn.b h.hB)
  refine ⟨by rw [show q + 1 - 1 = q - 1 + 1 by omega]; exact hW, hK, ring_kp h.rg hp (fun k cs t fr hk ht => .inl ⟨_, _, _, hk, by rcases ht with rfl | rfl | rfl <;> decide⟩), hp.at (.inl ⟨_, _, _, h.tt, by decide⟩) h.tt, hp.at (.inl ⟨_, _, _, h.pl, by decide⟩) h.pl, hp.at (.inl ⟨_, _, _, h.sc, by decide⟩) h.sc, fun j hj => ?_, hg, h.hB, h.hBg, Nat.le_trans h.hBw hn.z, h.z⟩
  exact (Below.cell (p := ⟨0, j, none⟩) hn.b (Nat.lt_of_lt_of_le h.z h.hB)).trans (h.tq j hj)
theorem TS.next (h : TS q w0 w B g b tb nb kb cb xb s mv rg gg ct pb sb) (hq : q = 1 ∨ q = 2) :
    Calls Tryz.prog 37 #[.pointer (some ⟨g, 0, none⟩), .int .i64 1] w fun e w' => NextR q w0 w B g b tb nb kb cb xb mv rg gg ct pb sb e w' := by
  have hB1 : 0 < B := Nat.lt_of_lt_of_le h.z h.hB
  rcases hq with rfl | rfl
  · have hk : First B w b tb nb kb cb xb s mv := by have := h.ks; unfold Kst at this; rwa [if_pos rfl] at this
    obtain ⟨tv, qq, hK, _, _⟩ := hk.k.k
    refine (next1 h.wt (by decide) (by decide) h.hBw h.hBg (Lq0 := fun _ => []) (T0 := []) (L := evA) (by decide) hK (fun w1 hg => stepA (hk.grow hg) ((h.grow hg).tq) hB1)).mono ?_
    rintro e w2 ⟨v, x, rfl, h1, h2, h3, h4⟩
    refine ⟨v, { s with count := 1, row := .slice x.1 0 x.2, runs := upB s.runs 0 false, cycle := 22, running := 0 }, rfl, h2, h.after (by decide) h1 ?_ h4, Kn.kp h4⟩
    unfold Kst
    rw [if_neg (by decide), if_pos (by decide)]
    exact ⟨h3, ⟨_, _, rfl⟩, rfl, rfl, rfl⟩
  · have hk : Second B w b tb nb kb cb xb s mv := by have := h.ks; unfold Kst at this; rwa [if_neg (by decide), if_pos rfl] at this
    obtain ⟨tv, qq, hK, _, _⟩ := hk.k.k
    refine (next1 h.wt (by decide) (by decide) h.hBw h.hBg (Lq0 := fun _ => []) (T0 := []) (L := evB) (by decide) hK (fun w1 hg => stepB ⟨hk.k.re (Kp.of_grow (P := fun _ => True) hg) (fun _ _ _ _ _ _ => trivial), hk.row, hk.c, hk.y, hk.r⟩)).mono ?_
    rintro e w2 ⟨v, x, rfl, h1, h2, h3, h4⟩
    refine ⟨v, { s with count := 2, cycle := 33, running := 255 }, rfl, h2, h.after (by decide) h1 ?_ h4, Kn.kp h4⟩
    unfold Kst
    rw [if_neg (by decide), if_neg (by decide)]
    exact ⟨h3, rfl, rfl⟩
/-- The recorder behind n events. -/
def RS (w : World) (Bx x ct rg n : Nat) (op : Value) : Prop := RecAt w Bx x ct rg 120 op (evE.take n) (runB fE dF yF n).length (if n = 0 then ⟨0, 0, 0, 0, 0, 0⟩ else fE (n - 1)) 0 false
theorem RS.mk0 {Bx x : Nat} (h : w.heap[x]? = some (.cells #[.pointer (some ⟨ct, 0, none⟩), .pointer (some ⟨rg, 0, none⟩), .int .i64 120, .slice none 0 0, .int .i64 0, .int .i64 0, .int .u64 0, .int .u64 0, .int .u32 0, .int .u32 0, .int .u32 0, .int .i64 0, .bool false] 142 (0, 0))) : RS w Bx x ct rg 0 (.slice none 0 0) :=
  ⟨h, World.ownsRow_nil _ _ _ _⟩
theorem take_E : ∀ n, n < 5 → evE.take n ++ [fE n] = evE.take (n + 1)
  | 0, _ => rfl
  | 1, _ => rfl
  | 2, _ => rfl
  | 3, _ => rfl
  | 4, _ => rfl
  | n + 5, h => absurd h (by omega)
theorem room_E : ∀ n, n < 5 → (runB fE dF yF n).length + (coilB (fE n) (if n = 0 then 1 else dF n) (if n = 0 then 1 else yF n)).length ≤ 120
  | 0, _ => by decide +kernel
  | 1, _ => by decide +kernel
  | 2, _ => by decide +kernel
  | 3, _ => by decide +kernel
  | 4, _ => by decide +kernel
  | n + 5, h => absurd h (by omega)
/-- What Put leaves, here. -/
def PutR (w0 : World) (Bx x ct rg n : Nat) (op : Value) (w : World) : Prop :=
  ∃ op', RS w Bx x ct rg n op' ∧ Kp (fun k => k ≠ x ∧ op.ownBlock ≠ some k) w0 w ∧ ∀ k, k < w0.heap.size → op'.ownBlock = some k → op.ownBlock = some k
theorem rput_E {Bx x n : Nat} {op : Value} (h : RS w Bx x ct rg n op) (hB : Bx ≤ w.heap.size) (hn : n < 5) :
    Calls Tryz.prog 38 #[.pointer (some ⟨x, 0, none⟩), .agg (evC (fE n))] w fun r w' => r = .returned (.int .i64 0) ∧ PutR w Bx x ct rg (n + 1) op w' := by
  have hr := room_E n hn
  have hs := stepE n hn
  have hlen : (evE.take n).length = n := by rw [List.length_take]; have : evE.length = 5 := rfl; omega
  by_cases h0 : n = 0
  · subst h0
    refine (rput_keep w Bx x ct rg 120 0 0 op [] ⟨0, 0, 0, 0, 0, 0⟩ (fE 0) (fE 0) 1 1 (dF 0) (yF 0) h hB stepE0 rfl hs (by decide) (by decide) hr).mono ?_
    rintro e w' ⟨rfl, op', h1, h2, h3⟩
    refine ⟨rfl, op', ?_, h2, h3⟩
    unfold RS
    rw [Nat.zero_add] at h1
    exact h1
  · rw [if_neg h0, if_neg h0] at hr
    unfold RS at h
    rw [if_neg h0] at h
    refine (rput_keep w Bx x ct rg 120 (runB fE dF yF n).length 0 op (evE.take n) (fE (n - 1)) (fE n) (fE (n - 1)) (dF n) (yF n) (dF n) (yF n) h hB hs (by rw [hlen, if_neg h0]) hs (by decide) (by omega) hr).mono ?_
    rintro e w' ⟨rfl, op', h1, h2, h3⟩
    refine ⟨rfl, op', ?_, h2, h3⟩
    unfold RS
    rw [take_E n hn] at h1
    rw [if_neg (by omega), show runB fE dF yF (n + 1) = runB fE dF yF n ++ coilB (fE n) (dF n) (yF n) from rfl, List.length_append]
    exact h1
def preQ (q : Nat) : Nat := if q = 1 then 0 else if q = 2 then 3 else 4
theorem preQ_next (hq : q = 1 ∨ q = 2) : preQ q + (evQ q).length = preQ (q + 1) := by rcases hq with rfl | rfl <;> rfl
theorem preQ_lt (hq : q = 1 ∨ q = 2) {k : Nat} (hk : k < (evQ q).length) : preQ q + k < 4 := by rcases hq with rfl | rfl <;> (have : k < _ := hk; simp [evQ] at this; simp [preQ]; omega)
theorem evQ_at (hq : q = 1 ∨ q = 2) {k : Nat} (hk : k < (evQ q).length) : (evQ q).getD k default = fE (preQ q + k) := by
  rcases hq with rfl | rfl
  · have h3 : k < 3 := hk
    match k, h3 with
    | 0, _ => rfl
    | 1, _ => rfl
    | 2, _ => rfl
  · have h3 : k < 1 := hk
    match k, h3 with
    | 0, _ => rfl
theorem evQ_len (hq : q = 1 ∨ q = 2) : (evQ q).length ≤ 3 := by rcases hq with rfl | rfl <;> decide
theorem RS.kp {P : Nat → Prop} {Bx x n : Nat} {op : Value} (h : RS w Bx x ct rg n op) (hp : Kp P w w') (h1 : P x) (h2 : ∀ k, op.ownBlock = some k → P k) : RS w' Bx x ct rg n op :=
  ⟨hp.at h1 h.bk, own_kp h.o hp h2⟩
theorem make_ex (w : World) : Calls Tryz.prog 8 #[] w fun e w' => ∃ ct, e = .returned (.pointer (some ⟨ct, 0, none⟩)) ∧ Go.Proofs.YtnhmdinpfcoebaaGreatDoor.TabAt w' ct ∧ Grow w w' := (make_any w).mono fun e w' h => ⟨_, h.1, by rw [h.2]; exact heapAt_alloc_new _ _, by rw [h.2]; exact Grow.alloc _ _⟩
theorem rnew_ex (w : World) (c r : Nat) (base : Nat) (hb : base ≤ w.heap.size) : Calls Tryz.prog 36 #[.pointer (some ⟨c, 0, none⟩), .pointer (some ⟨r, 0, none⟩), .int .i64 120] w fun e w' => ∃ x, e = .returned (.tuple #[.pointer (some ⟨x, 0, none⟩), .int .i64 0]) ∧ RS w' base x c r 0 (.slice none 0 0) ∧ Grow w w' ∧ base ≤ x := (rnew_w w c r).mono fun e w' h =>
  ⟨_, h.1, by rw [h.2]; exact RS.mk0 (heapAt_alloc_new _ _), by rw [h.2]; exact Grow.alloc _ _, hb⟩
theorem ring_ne {base r g cap x : Nat} {pol : Int} {sr : Rg.RG} {cs : Array Value} {fr : Nat × Nat} (h : Rg.RingAt w base r g cap pol sr) (hx : w.heap[x]? = some (.cells cs 142 fr)) : ¬ (x = r ∨ x = g) := by
  unfold Rg.RingAt at h
  obtain ⟨h1, h2, h3, hd, R, A, c, h4, h5, h6⟩ := h
  rintro (e | e)
  · exact ty_ne2 hx h4.blk (by decide) e
  · exact ty_ne2 hx h4.room (by decide) e
theorem drain_E {base r g : Nat} (h : Rg.RingAt w base r g 1048576 0 ⟨[logE], false, []⟩) : Calls Tryz.prog 29 #[.pointer (some ⟨r, 0, none⟩), .int .i64 83] w fun e w' => e = .returned (.string ⟨logE.toArray⟩) ∧ Rg.RingAt w' base r g 1048576 0 (Rg.drain ⟨[logE], false, []⟩ 83) ∧ Rg.FarR base r g w w' := by
  have h1 := ring_take
  rw [logE_len] at h1
  refine (Rg.drain_ring h 83 83 (by rw [ring_used, logE_len]; rfl)).mono ?_
  rintro e w' ⟨rfl, h2, h3⟩
  exact ⟨by rw [h1]; rfl, h2, h3⟩
theorem hL5 : evE.take 4 ++ [evZ] = evE := rfl
theorem rclose_E {Bx x base : Nat} {op : Value} (h : RS w Bx x ct rg 4 op) (hT : Go.Proofs.YtnhmdinpfcoebaaGreatDoor.TabAt w ct) (hR : Rg.RingAt w base rg gg 1048576 0 Rg.s0) (hB : Bx ≤ w.heap.size) (hbB : base ≤ Bx) (hbx : base ≤ x) (hnx : ¬ (x = rg ∨ x = gg)) :
    Calls Tryz.prog 41 #[.pointer (some ⟨x, 0, none⟩), .int .u64 33, .int .u64 2] w fun r w' => r = .returned (.int .i64 0) ∧ RecAt w' Bx x ct rg 120 (.slice none 0 0) [] 0 evZ 1 true ∧ Rg.RingAt w' base rg gg 1048576 0 ⟨[logE], false, []⟩ ∧ Below base w w' := by
  refine rclose_w w evZ Bx x ct rg gg base 1048576 120 (runB fE dF yF 4).length 0 33 2 rfl 0 Rg.s0 ⟨[logE], false, []⟩ op (evE.take 4) (fE 3) (fE 3) (dF 4) (yF 4) (dF 4) (yF 4) dF yF 0 h hT hR hB (stepE 4 (by decide)) rfl (stepE 4 (by decide)) (by decide) (by decide) (room_E 4 (by decide)) (by decide) ?_ ?_ ?_ (by decide) hbB hbx hnx
  · rw [hL5]; exact stepE
  · rw [hL5]; exact runE_len
  · rw [hL5]; exact ring_put
end
end Go.Proofs.YtnhmdinpfcoebaaGreatDoor
end
