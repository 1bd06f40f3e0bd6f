/- awake: what the document fixes of systems. -/
import Derived.Test.YtmmbhjomgpnklaaTwo
namespace Go.Proofs.Ytmmbhjomgpnklaa
open Go.RowKit
set_option linter.unusedVariables false
set_option linter.unusedSimpArgs false
set_option maxRecDepth 100000
attribute [local simp] RelKnown Is
theorem ConfP.ones28 {P : Nat → Prop} {w : World} {tv lv sv qv mv : Value} {X : Cf} (h : ConfP P w tv lv sv qv mv X) : (cfC tv lv sv qv mv X).all (·.oneCell') = true := by
  obtain ⟨⟨c1, t1, _⟩, ⟨c2, l1, _⟩, ⟨s1, _⟩, ⟨q1, _⟩, m1, _⟩ := h
  exact Go.Proofs.Ytmmbhjomgpnklaa.ones28 X (own_one t1) (own_one l1) (own_one s1) (own_one q1) (own_one m1)
theorem cfC_inj {tv lv sv qv mv tv2 lv2 sv2 qv2 mv2 : Value} {X : Cf} (h : Value.agg (cfC tv lv sv qv mv X) = .agg (cfC tv2 lv2 sv2 qv2 mv2 X)) : tv = tv2 ∧ lv = lv2 ∧ sv = sv2 ∧ qv = qv2 ∧ mv = mv2 := by
  simp [cfC] at h
  exact ⟨h.1, h.2.1, h.2.2.1, h.2.2.2.1, h.2.2.2.2⟩
theorem Sets.two {X : Cf} {a : Act} {w : World} {B c1 c2 b1 b2 g1 g2 : Nat} {tv lv sv qv mv tv2 lv2 sv2 qv2 mv2 : Value} (h : Sets (OkS X [b1, b2]) B [c1, c2, b1, b2] a w) (n1 : c1 ∉ [b1, b2]) (n2 : c2 ∉ [b1, b2]) (m12 : c1 ≠ c2) (m13 : c1 ≠ b1) (m14 : c1 ≠ b2) (m23 : c2 ≠ b1) (m24 : c2 ≠ b2) (m34 : b1 ≠ b2)
    (e1 : a.tmps.getD c1 undef = .agg (cfC tv lv sv qv mv X)) (e2 : a.tmps.getD c2 undef = .agg (cfC tv2 lv2 sv2 qv2 mv2 X)) (e3 : a.tmps.getD b1 undef = .pointer (some ⟨g1, 0, none⟩)) (e4 : a.tmps.getD b2 undef = .pointer (some ⟨g2, 0, none⟩)) :
    ∃ P Q : Nat → Prop, ConfP P w tv lv sv qv mv X ∧ ConfP Q w tv2 lv2 sv2 qv2 mv2 X ∧ (∀ g, P g → B ≤ g ∧ g < w.heap.size) ∧ (∀ g, Q g → B ≤ g ∧ g < w.heap.size) ∧ (∀ g, P g → ¬ Q g) ∧ ¬ P g1 ∧ ¬ P g2 ∧ ¬ Q g1 ∧ ¬ Q g2 ∧ g1 ≠ g2 ∧ B ≤ g1 ∧ B ≤ g2 := by
  obtain ⟨hb, hs, f, h1, h2, h3⟩ := h
  have k1 := h3 c1 (by simp)
  have k2 := h3 c2 (by simp)
  have k3 := h3 b1 (by simp)
  have k4 := h3 b2 (by simp)
  rw [e1] at k1; rw [e2] at k2; rw [e3] at k3; rw [e4] at k4
  rcases k1 with k1 | k1
  · cases k1
  rcases k2 with k2 | k2
  · cases k2
  rcases k3 with k3 | k3
  · cases k3
  rcases k4 with k4 | k4
  · cases k4
  rw [if_neg n1] at k1
  rw [if_neg n2] at k2
  rw [if_pos (by simp)] at k3 k4
  obtain ⟨_, _, _, _, _, q1, p1⟩ := k1
  obtain ⟨rfl, rfl, rfl, rfl, rfl⟩ := cfC_inj q1
  obtain ⟨_, _, _, _, _, q2, p2⟩ := k2
  obtain ⟨rfl, rfl, rfl, rfl, rfl⟩ := cfC_inj q2
  obtain ⟨x3, q3, p3⟩ := k3
  obtain ⟨x4, q4, p4⟩ := k4
  obtain rfl : g1 = x3 := by simpa using q3
  obtain rfl : g2 = x4 := by simpa using q4
  exact ⟨f c1, f c2, p1, p2, h1 c1 (by simp), h1 c2 (by simp), h2 c1 (by simp) c2 (by simp) m12, fun h => h2 c1 (by simp) b1 (by simp) m13 _ h p3, fun h => h2 c1 (by simp) b2 (by simp) m14 _ h p4, fun h => h2 c2 (by simp) b1 (by simp) m23 _ h p3, fun h => h2 c2 (by simp) b2 (by simp) m24 _ h p4,
    fun e => h2 b1 (by simp) b2 (by simp) m34 _ p3 (by rw [e]; exact p4), (h1 b1 (by simp) _ p3).1, (h1 b2 (by simp) _ p4).1⟩
/-- The system that awake takes. -/
def awI : Ins := ⟨17, 0, 0, 0, 0, 0⟩
def awT : Tk := ⟨1, 1, 0, 0, 0, 1, fun _ => awI⟩
def awX : Cf := ⟨1, fun _ => awT, 0, fun _ => ⟨0, 0, fun _ => awI⟩, 0, 1, fun _ => 0, 0, fun _ => 0, 1, fun _ => 0, 0, 0, 0, 0, 0, 0⟩
def awD : Cf := { awX with T := fun j => if j = 0 then { awT with off := 0 } else awT }
def awE : Cf := { awX with T := fun _ => { awT with C := fun _ => ⟨17, 0, 0, 0, 0, 1⟩ } }
def awO : Cf := { awX with tn := 0, sn := 0, mn := 0 }
theorem info3s : (Try.prog.info? 3).map (·.size) = some 1 := by kernel_rfl
theorem info25s : (Try.prog.info? 25).map (·.size) = some 1 := by kernel_rfl
theorem row_one {w : World} {b t s : Nat} {cs : Array Value} {f : Nat → List Value} (hb : w.heap[b]? = some (.cells cs t (0, 0))) (hl : ∀ (r : Nat) (u : Value), (f 0)[r]? = some u → cs[r]? = some u) : RowAt w (some ⟨b, 0, none⟩) 1 s f := fun _ => by
  refine ⟨_, rfl, fun j hj r u hu => ?_⟩
  obtain rfl : j = 0 := by omega
  have this : ∀ n, (⟨b, 0, none⟩ : Addr).add n = ⟨b, n, none⟩ := fun n => by unfold Addr.add; split <;> simp_all
  rw [Nat.zero_mul, this, this, cell_block hb]
  exact hl r u hu
theorem box_aw (tv lv sv qv mv : Value) : (#[tv, lv, .int .i64 0, sv, qv, mv, .int .i64 0, .int .u32 0, .int .u32 0, .int .i64 0, .int .u64 0, .int .u64 0] : Array Value) = cfC tv lv sv qv mv awX := rfl
theorem RowAt.zero {w : World} {A : Option Addr} {s : Nat} {f : Nat → List Value} : RowAt w A 0 s f := fun h => absurd h (Nat.lt_irrefl _)
theorem conf_none (w : World) : ConfV w (.slice none 0 0) (.slice none 0 0) (.slice none 0 0) (.slice none 0 0) (.slice none 0 0) awO :=
  ⟨⟨none, 0, fun _ => undef, rfl, Nat.le_refl _, RowAt.zero, fun j hj => absurd hj (Nat.not_lt_zero _)⟩, ⟨none, 0, fun _ => undef, rfl, Nat.le_refl _, RowAt.zero, fun j hj => absurd hj (Nat.not_lt_zero _)⟩, ⟨none, 0, rfl, Nat.le_refl _, fun h => absurd h (Nat.lt_irrefl _)⟩, ⟨none, 0, rfl, Nat.le_refl _, fun h => absurd h (Nat.lt_irrefl _)⟩, none, 0, rfl, Nat.le_refl _, fun h => absurd h (Nat.lt_irrefl _)⟩
theorem conf_aw {w : World} {g1 g2 g3 g4 : Nat} (h1 : w.heap[g1]? = some (.cells #[.int .i64 17, .int .i64 0, .int .i64 0, .int .i64 0, .int .i64 0, .int .u32 0] 41 (0, 0))) (h2 : w.heap[g2]? = some (.cells #[.int .i64 1, .int .i64 1, .int .i64 0, .int .i64 0, .int .i64 0, .slice (some ⟨g1, 0, none⟩) 1 1] 39 (0, 0)))
    (h3 : w.heap[g3]? = some (.cells #[.int .i64 0] 3 (0, 0))) (h4 : w.heap[g4]? = some (.cells #[.int .i64 0] 3 (0, 0))) : ConfV w (.slice (some ⟨g2, 0, none⟩) 1 1) (.slice none 0 0) (.slice (some ⟨g3, 0, none⟩) 1 1) (.slice none 0 0) (.slice (some ⟨g4, 0, none⟩) 1 1) awX := by
  refine ⟨⟨_, 1, fun _ => .slice (some ⟨g1, 0, none⟩) 1 1, rfl, Nat.le_refl _, row_one h2 ?_, fun j hj => ⟨_, 1, rfl, Nat.le_refl _, row_one h1 ?_⟩⟩, ⟨none, 0, fun _ => undef, rfl, Nat.le_refl _, RowAt.zero, fun j hj => absurd hj (Nat.not_lt_zero _)⟩, ⟨_, 1, rfl, Nat.le_refl _, MemAt.of_row (row_one h3 ?_)⟩, ⟨none, 0, rfl, Nat.le_refl _, fun h => absurd h (Nat.lt_irrefl _)⟩, _, 1, rfl, Nat.le_refl _, MemAt.of_row (row_one h4 ?_)⟩
  all_goals (intro r u hu; simpa [tkL, insL, awX, awT, awI] using hu)
theorem heap_alloc5 (w : World) (o1 o2 o3 o4 o5 : Obj) : let v := ((((w.alloc o1).alloc o2).alloc o3).alloc o4).alloc o5
    v.heap[w.heap.size]? = some o1 ∧ v.heap[w.heap.size + 1]? = some o2 ∧ v.heap[w.heap.size + 1 + 1]? = some o3 ∧ v.heap[w.heap.size + 1 + 1 + 1]? = some o4 ∧ v.heap[w.heap.size + 1 + 1 + 1 + 1]? = some o5 ∧ Grow w v := by
  refine ⟨?_, ?_, ?_, ?_, ?_, ((((Grow.alloc _ _).trans (Grow.alloc _ _)).trans (Grow.alloc _ _)).trans (Grow.alloc _ _)).trans (Grow.alloc _ _)⟩
  all_goals
    show (((((w.heap.push o1).push o2).push o3).push o4).push o5)[_]? = _
    simp only [Array.getElem?_push, Array.size_push]
    repeat (first | rw [if_pos (by omega)] | rw [if_neg (by omega)])
  all_goals (try simp)
theorem aw_small : Small awX := ⟨by decide, by decide, by decide, by decide, by decide, fun j _ => by show (1 : Nat) ≤ 300; omega, fun j _ => by show (0 : Nat) ≤ 300; omega⟩
theorem Only.cell {b : Nat} {w w' : World} {a : Addr} {v : Value} (h : Only b w w') (hne : a.block ≠ b) (hc : w.cell? a = some v) : w'.cell? a = some v := by
  rw [← hc]
  unfold World.cell?
  rw [h.2.2.2.2 _ (cell_lt hc) hne]
theorem ConfP.code0 {P : Nat → Prop} {w : World} {tv lv sv qv mv : Value} (h : ConfP P w tv lv sv qv mv awX) : ∃ b cap g capc cur, tv = .slice (some ⟨b, 0, none⟩) 1 cap ∧ 1 ≤ cap ∧ w.cell? ⟨b, 5, none⟩ = some (.slice (some ⟨g, 0, none⟩) 1 capc) ∧ 1 ≤ capc ∧ w.heap[g]? = some (.cells cur 41 (0, 0)) ∧ 5 < cur.size ∧ P g ∧ P b ∧
    ∀ w1 w', (∀ k, P k → w1.heap[k]? = w.heap[k]?) → w'.heap[g]? = some (.cells (cur.setIfInBounds 5 (.int .u32 1)) 41 (0, 0)) → Only g w1 w' → ConfP P w' tv lv sv qv mv awE := by
  obtain ⟨⟨c1, t1, t2, t3⟩, ⟨c2, l1, l2, l3⟩, ⟨s1, s2⟩, ⟨q1, q2⟩, m1, m2⟩ := h
  obtain ⟨b, cap, cur, rfl, h1, h2, h3, h4⟩ := own_at t1 (by decide)
  obtain ⟨k1, k2⟩ := t3 0 (by decide)
  obtain ⟨g, capc, cur2, hc, h5, h6, h7, h8, h9⟩ := code_at (k := 0) k1 (by decide)
  have hb5 := h4 (0 * 6 + 5) _ ((row_get (tk_len awX.T c1) 0 5 (by omega) awX.tn (by decide)).trans rfl)
  rw [show (0 * 6 + 5) = 5 by rfl, hc] at hb5
  refine ⟨b, cap, g, capc, cur2, rfl, h1, hb5, h5, h6, by omega, k2 g (by rw [hc]; rfl), t2 b rfl, fun w1 w' hk hg' ho => ?_⟩
  have h6 := (hk g (k2 g (by rw [hc]; rfl))).trans h6
  replace t1 := own_keep t1 fun g hg => hk g (t2 g hg)
  replace l1 := own_keep l1 fun g hg => hk g (l2 g hg)
  replace s1 := own_keep s1 fun g hg => hk g (s2 g hg)
  replace q1 := own_keep q1 fun g hg => hk g (q2 g hg)
  replace m1 := own_keep m1 fun g hg => hk g (m2 g hg)
  replace k1 := own_keep k1 fun g hg => hk g (k2 g hg)
  have h10 := own_poke k1 (g := g) (i := 0 * 6 + 5) (u := .int .u32 1) (by rw [hc]; rfl) h6 hg'
  rw [row_set (insL_len (awX.T 0).C) 0 5 (by omega) _ _ (by decide)] at h10
  refine ⟨⟨c1, own_not h6 ho t1 (own_type t1 h6 (by decide)), t2, fun j hj => ?_⟩, ⟨c2, own_not h6 ho l1 (own_type l1 h6 (by decide)), l2, fun j hj => absurd hj (Nat.not_lt_zero _)⟩, ⟨own_not h6 ho s1 (own_type s1 h6 (by decide)), s2⟩, ⟨own_not h6 ho q1 (own_type q1 h6 (by decide)), q2⟩, own_not h6 ho m1 (own_type m1 h6 (by decide)), m2⟩
  obtain rfl : j = 0 := by have : awE.tn = 1 := rfl; omega
  exact ⟨h10, k2⟩
theorem ConfP.task0 {P : Nat → Prop} {w : World} {tv lv sv qv mv : Value} (h : ConfP P w tv lv sv qv mv awX) : ∃ b cap cur, tv = .slice (some ⟨b, 0, none⟩) 1 cap ∧ 1 ≤ cap ∧ w.heap[b]? = some (.cells cur 39 (0, 0)) ∧ 1 < cur.size ∧ P b ∧
    ∀ w', w'.heap[b]? = some (.cells (cur.setIfInBounds 1 (.int .i64 0)) 39 (0, 0)) → Only b w w' → ConfP P w' tv lv sv qv mv awD := by
  obtain ⟨b, cap, cur, cv, rfl, h1, h2, h3, h4, h5, h6, h7, h8, h9⟩ := h.task_at (i := 0) (by decide)
  exact ⟨b, cap, cur, rfl, h1, h2, by omega, h4, fun w' hb ho => h.task (cap := 0) (i := 0) (r := 1) { awT with off := 0 } (by decide) (by omega) rfl (fun v => rfl) rfl rfl h2 hb ho⟩
theorem sys_awO : faultC (sysP awO) = #[.int .i64 0, .int .i64 0, .int .i64 0, .int .i64 0] := by kernel_rfl
theorem sys_awX : faultC (sysP awX) = #[.int .i64 0, .int .i64 0, .int .i64 0, .int .i64 0] := by kernel_rfl
theorem sys_awD : faultC (sysP awD) = #[.int .i64 5, .int .i64 1, .int .i64 0, .int .i64 2] := by kernel_rfl
theorem sys_awE : faultC (sysP awE) = #[.int .i64 5, .int .i64 1, .int .i64 0, .int .i64 7] := by kernel_rfl
theorem aw_chk (w : World) {tv lv sv qv mv : Value} {X : Cf} (h : ConfV w tv lv sv qv mv X) (hs : (X.sn : Int) ≤ 1000000) {F : Array Value} (hF : faultC (sysP X) = F) {A : Array Value} (hA : A = cfC tv lv sv qv mv X) : Calls Try.prog 10 #[.agg A] w fun r w' => r = .returned (.agg F) ∧ Grow w w' := by
  subst hF hA
  exact checkV_any w h hs
theorem wpList_load_blk_g {P : Program} {ops : Array Oper} {rest : List Oper} {op : Oper} {a : Act} {w : World} {Q : Exit → Act → World → Prop} (ty : TypeId) (x : Operand) (ho : op.op = .load ty x)
    (g : Nat) (t : TypeId) (cells : Array Value) (d : TypeDesc) (hx : a.eval x = .pointer (some ⟨g, 0, none⟩)) (hw : Region.wanted op (yielded ops a.tmps) = true) (hold : w.heap[g]? = some (.cells cells t (0, 0)))
    (hu : P.underlying ty = some d) (hd : (match d with | .struct _ | .array _ _ => true | _ => false) = true) (hi : (P.info? ty).map (·.size) = some cells.size)
    (h : wpList P ops Q rest (a.put op.dst (.agg cells)) w) : wpList P ops Q (op :: rest) a w := by
  refine wpList_step fun K hK => ?_
  rw [if_pos hw]
  exact wp_load_row ty x ho g hx t cells (0, 0) d hold hu hd hi (hK _ _ h)
theorem not_same_d : ¬ SameX awX awD := fun h => absurd (h.t 0 (by decide)).off (by decide)
theorem not_same_e : ¬ SameX awX awE := fun h => absurd ((h.t 0 (by decide)).c.2 0 (by decide)) (by intro e; injection e with _ _ _ _ _ e; exact absurd e (by decide))
set_option maxHeartbeats 8000000 in
theorem awake_any (w : World) : Calls Try.prog 8 #[] w fun e w' => e = .returned (.bool true) ∧ Grow w w' := by
  go_enter Try.func8, Try.ntmps8
  go_wp2_with fail
  obtain ⟨h1, h2, h3, h4, h5, hG⟩ := heap_alloc5 w (.cells #[.int .i64 17, .int .i64 0, .int .i64 0, .int .i64 0, .int .i64 0, .int .u32 0] 41) (.cells #[.int .i64 1, .int .i64 1, .int .i64 0, .int .i64 0, .int .i64 0, .slice (some ⟨w.heap.size, 0, none⟩) 1 1] 39) (.cells #[.int .i64 0] 3) (.cells #[.int .i64 0] 3)
    (.cells #[.slice (some ⟨w.heap.size + 1, 0, none⟩) 1 1, .slice none 0 0, .int .i64 0, .slice (some ⟨w.heap.size + 1 + 1, 0, none⟩) 1 1, .slice none 0 0, .slice (some ⟨w.heap.size + 1 + 1 + 1, 0, none⟩) 1 1, .int .i64 0, .int .u32 0, .int .u32 0, .int .i64 0, .int .u64 0, .int .u64 0] 28)
  generalize ((((w.alloc (.cells #[.int .i64 17, .int .i64 0, .int .i64 0, .int .i64 0, .int .i64 0, .int .u32 0] 41)).alloc (.cells #[.int .i64 1, .int .i64 1, .int .i64 0, .int .i64 0, .int .i64 0, .slice (some ⟨w.heap.size, 0, none⟩) 1 1] 39)).alloc (.cells #[.int .i64 0] 3)).alloc (.cells #[.int .i64 0] 3)).alloc
    (.cells #[.slice (some ⟨w.heap.size + 1, 0, none⟩) 1 1, .slice none 0 0, .int .i64 0, .slice (some ⟨w.heap.size + 1 + 1, 0, none⟩) 1 1, .slice none 0 0, .slice (some ⟨w.heap.size + 1 + 1 + 1, 0, none⟩) 1 1, .int .i64 0, .int .u32 0, .int .u32 0, .int .i64 0, .int .u64 0, .int .u64 0] 28) = w4 at h1 h2 h3 h4 h5 hG ⊢
  have HV := Lib.hid (conf_aw h1 h2 h3 h4)
  have HX := Lib.hid (show w4.heap[w.heap.size + 1 + 1 + 1 + 1]? = some (.cells (cfC (.slice (some ⟨w.heap.size + 1, 0, none⟩) 1 1) (.slice none 0 0) (.slice (some ⟨w.heap.size + 1 + 1, 0, none⟩) 1 1) (.slice none 0 0) (.slice (some ⟨w.heap.size + 1 + 1 + 1, 0, none⟩) 1 1) awX) 28 (0, 0)) from by rw [← box_aw]; exact h5)
  have HG := Lib.hid hG
  clear h1 h2 h3 h4 h5 hG
  have HSM := Lib.hid aw_small
  refine wp_region_rel_tail 6 _ Grow (fun a wQ => Grow w4 wQ ∧ Sets (OkS awX [2, 3]) w4.heap.size [12, 14, 2, 3] a wQ) [([(1, none)], none), ([(11, some 0)], none), ([(1, none)], none), ([(13, some 0)], none), ([], none), ([], none)] (by kernel_rfl) (by kernel_rfl) (by kernel_rfl) ⟨Grow.drewN w4 1, (show Sets (OkS awX [2, 3]) ({ w4 with drawn := w4.drawn + 1 } : World).heap.size [12, 14, 2, 3] _ _ from Sets.first _ _ _ ?sz ?init)⟩ ?_
  case sz =>
    intro i hi
    simp at hi
    rcases hi with rfl | rfl | rfl | rfl
    · exact (by decide : (12 : Nat) < 79)
    · exact (by decide : (14 : Nat) < 79)
    · exact (by decide : (2 : Nat) < 79)
    · exact (by decide : (3 : Nat) < 79)
  case init =>
    intro i hi
    simp at hi
    rcases hi with rfl | rfl | rfl | rfl <;> exact .inl rfl
  refine relT_pure ⟨.agg (cfC (.slice (some ⟨w.heap.size + 1, 0, none⟩) 1 1) (.slice none 0 0) (.slice (some ⟨w.heap.size + 1 + 1, 0, none⟩) 1 1) (.slice none 0 0) (.slice (some ⟨w.heap.size + 1 + 1 + 1, 0, none⟩) 1 1) awX), fun a wQ hF hk => relT_none fun K hK => wp_load_row 28 (.tmp 1) (by rfl) (w.heap.size + 1 + 1 + 1 + 1) (by exact hk.1) 28 _ (0, 0) _ (hF.1.at HX.out) Try.underlying28 rfl (info28s _ _ _ _ _ awX) (hK _ _ (Grow.refl _) ⟨hF.1, hF.2.skip (Nat.le_refl _) 11 (by decide) _ (OkS.grow (Grow.refl _))⟩ rfl), ?_⟩
  refine relT_some (fun v wv => ∃ tv lv sv qv mv, v = .agg (cfC tv lv sv qv mv awX)) (fun _ _ _ _ h => h) (fun a wQ hF hk => relT_none fun K hK => ?_) ?_
  · (try simp at hk)
    go_simp
    refine (copyV_any wQ (HV.out.grow hF.1) HSM.out).mono ?_
    rintro e w' ⟨tv1, lv1, sv1, qv1, mv1, rfl, hown, hg⟩
    exact hK _ _ hg ⟨hF.1.trans hg, hF.2.put hg.size 12 _ (OkS.grow hg) (.inr (by rw [if_neg (by decide)]; exact ⟨_, _, _, _, _, rfl, hown.parts⟩))⟩ ⟨_, _, _, _, _, rfl⟩
  refine relT_pure ⟨.agg (cfC (.slice (some ⟨w.heap.size + 1, 0, none⟩) 1 1) (.slice none 0 0) (.slice (some ⟨w.heap.size + 1 + 1, 0, none⟩) 1 1) (.slice none 0 0) (.slice (some ⟨w.heap.size + 1 + 1 + 1, 0, none⟩) 1 1) awX), fun a wQ hF hk => relT_none fun K hK => wp_load_row 28 (.tmp 1) (by rfl) (w.heap.size + 1 + 1 + 1 + 1) (by exact hk.1) 28 _ (0, 0) _ (hF.1.at HX.out) Try.underlying28 rfl (info28s _ _ _ _ _ awX) (hK _ _ (Grow.refl _) ⟨hF.1, hF.2.skip (Nat.le_refl _) 13 (by decide) _ (OkS.grow (Grow.refl _))⟩ rfl), ?_⟩
  refine relT_some (fun v wv => ∃ tv lv sv qv mv, v = .agg (cfC tv lv sv qv mv awX)) (fun _ _ _ _ h => h) (fun a wQ hF hk => relT_none fun K hK => ?_) ?_
  · (try simp at hk)
    go_simp
    refine (copyV_any wQ (HV.out.grow hF.1) HSM.out).mono ?_
    rintro e w' ⟨tv1, lv1, sv1, qv1, mv1, rfl, hown, hg⟩
    exact hK _ _ hg ⟨hF.1.trans hg, hF.2.put hg.size 14 _ (OkS.grow hg) (.inr (by rw [if_neg (by decide)]; exact ⟨_, _, _, _, _, rfl, hown.parts⟩))⟩ ⟨_, _, _, _, _, rfl⟩
  refine relT_some (fun v wv => ∃ g, v = .pointer (some ⟨g, 0, none⟩) ∧ wv.heap[g]? = some (.cells #[.slice none 0 0, .slice none 0 0, .int .i64 0, .slice none 0 0, .slice none 0 0, .slice none 0 0, .int .i64 0, .int .u32 0, .int .u32 0, .int .i64 0, .int .u64 0, .int .u64 0] 28 (0, 0))) (fun v w1 w2 hg ⟨g, h1, h2⟩ => ⟨g, h1, hg.at h2⟩) (fun a wQ hF hk => relT_none fun K hK => ?_) ?_
  · go_simp
    exact hK _ _ (Grow.alloc _ _) ⟨hF.1.trans (Grow.alloc _ _), hF.2.put (Grow.alloc _ _).size 2 _ (OkS.grow (Grow.alloc _ _)) (.inr (by rw [if_pos (by decide)]; exact ⟨_, rfl, by simp⟩))⟩ ⟨_, rfl, heapAt_alloc_new _ _⟩
  refine relT_some (fun v wv => ∃ g, v = .pointer (some ⟨g, 0, none⟩) ∧ wv.heap[g]? = some (.cells #[.slice none 0 0, .slice none 0 0, .int .i64 0, .slice none 0 0, .slice none 0 0, .slice none 0 0, .int .i64 0, .int .u32 0, .int .u32 0, .int .i64 0, .int .u64 0, .int .u64 0] 28 (0, 0))) (fun v w1 w2 hg ⟨g, h1, h2⟩ => ⟨g, h1, hg.at h2⟩) (fun a wQ hF hk => relT_none fun K hK => ?_) ?_
  · go_simp
    exact hK _ _ (Grow.alloc _ _) ⟨hF.1.trans (Grow.alloc _ _), hF.2.put (Grow.alloc _ _).size 3 _ (OkS.grow (Grow.alloc _ _)) (.inr (by rw [if_pos (by decide)]; exact ⟨_, rfl, by simp⟩))⟩ ⟨_, rfl, heapAt_alloc_new _ _⟩
  refine relT_done fun wR => ?_
  refine fun v hv => ?_; obtain rfl : v = _ := hv
  refine fun vd hvd => ?_
  refine fun v hv => ?_; obtain rfl : v = _ := hv
  refine fun ve hve => ?_
  refine fun bd hbd => ?_
  refine fun be hbe => ?_
  obtain ⟨tv, lv, sv, qv, mv, rfl⟩ := hvd
  obtain ⟨tv2, lv2, sv2, qv2, mv2, rfl⟩ := hve
  obtain ⟨gd, rfl, hgd⟩ := hbd
  obtain ⟨ge, rfl, hge⟩ := hbe
  simp only [Act.put, List.setIfInBounds_toArray, List.set_cons_zero, List.set_cons_succ]
  refine relT_nil fun hF => ?_
  simp only [List.drop_succ_cons, List.drop_zero]
  obtain ⟨P, Q, hP, hQ, hPl, hQl, hPQ, hPd, hPe, hQd, hQe, hde, hdl, hel⟩ := Sets.two hF.2 (by decide) (by decide) (by decide) (by decide) (by decide) (by decide) (by decide) (by decide) (tv := tv) (lv := lv) (sv := sv) (qv := qv) (mv := mv) (tv2 := tv2) (lv2 := lv2) (sv2 := sv2) (qv2 := qv2) (mv2 := mv2) (g1 := gd) (g2 := ge) rfl rfl rfl rfl
  have HP := Lib.hid hP; clear hP
  have HQ := Lib.hid hQ; clear hQ
  have HPl := Lib.hid hPl; clear hPl
  have HQl := Lib.hid hQl; clear hQl
  have HPQ := Lib.hid hPQ; clear hPQ
  have HPd := Lib.hid hPd; clear hPd
  have HPe := Lib.hid hPe; clear hPe
  have HQd := Lib.hid hQd; clear hQd
  have HQe := Lib.hid hQe; clear hQe
  have HDE := Lib.hid hde; clear hde
  have HDL := Lib.hid hdl; clear hdl
  have HEL := Lib.hid hel; clear hel
  have HGR := Lib.hid hF.1; clear hF
  have HGD := Lib.hid hgd; clear hgd
  have HGE := Lib.hid hge; clear hge
  refine wpList_store_blk rfl 28 (.tmp 2) (.tmp 12) rfl gd 28 _ (cfC tv lv sv qv mv awX) rfl rfl HGD.out rfl (info28s _ _ _ _ _ awX) (HP.out.ones28) ?_
  intro wS hb1 ho1
  refine wpList_store_blk rfl 28 (.tmp 3) (.tmp 14) rfl ge 28 _ (cfC tv2 lv2 sv2 qv2 mv2 awX) rfl rfl (ho1.at (Ne.symm HDE.out) HGE.out) rfl (info28s _ _ _ _ _ awX) (HQ.out.ones28) ?_
  intro wT hb2 ho2
  have HBd := Lib.hid (ho2.at HDE.out hb1)
  have HBe := Lib.hid hb2
  have HPT := Lib.hid ((HP.out.only ho1 HPd.out (fun g hg => (HPl.out g hg).2)).only ho2 HPe.out (fun g hg => Nat.lt_of_lt_of_le (HPl.out g hg).2 ho1.2.2.2.1))
  have HQT := Lib.hid ((HQ.out.only ho1 HQd.out (fun g hg => (HQl.out g hg).2)).only ho2 HQe.out (fun g hg => Nat.lt_of_lt_of_le (HQl.out g hg).2 ho1.2.2.2.1))
  have HPL := Lib.hid (show ∀ g, P g → w4.heap.size ≤ g ∧ g < wT.heap.size from fun g hg => ⟨(HPl.out g hg).1, Nat.lt_of_lt_of_le (HPl.out g hg).2 (Nat.le_trans ho1.2.2.2.1 ho2.2.2.2.1)⟩)
  have HQL := Lib.hid (show ∀ g, Q g → w4.heap.size ≤ g ∧ g < wT.heap.size from fun g hg => ⟨(HQl.out g hg).1, Nat.lt_of_lt_of_le (HQl.out g hg).2 (Nat.le_trans ho1.2.2.2.1 ho2.2.2.2.1)⟩)
  have HGT := Lib.hid ((HGR.out.only ho1 HDL.out).only ho2 HEL.out)
  clear HP HQ HPl HQl HGD HGE HGR hb1 hb2 ho1 ho2
  obtain ⟨bd, capd, curd, rfl, hd1, hd2, hd3, hd4, hd5⟩ := HPT.out.task0
  obtain ⟨be, cape, ge1, capc, cure, rfl, he1, he2, he3, he4, he5, he6, he7, he8⟩ := HQT.out.code0
  have c0 : wT.cell? ⟨gd, 0, none⟩ = some (.slice (some ⟨bd, 0, none⟩) 1 capd) := cell_block HBd.out 0
  have e0 : wT.cell? ⟨ge, 0, none⟩ = some (.slice (some ⟨be, 0, none⟩) 1 cape) := cell_block HBe.out 0
  have hd1' : (1 : Int) ≤ capd := by omega
  have he1' : (1 : Int) ≤ cape := by omega
  have he3' : (1 : Int) ≤ capc := by omega
  have HD2 := Lib.hid hd2; clear hd2
  have HD5 := Lib.hid hd5; clear hd5
  have HE4 := Lib.hid he4; clear he4
  have HE8 := Lib.hid he8; clear he8
  have hge : ge ≠ bd := ty_ne HBe.out HD2.out (by decide)
  have hne : be ≠ bd := fun e => HPQ.out bd hd4 (e ▸ he7)
  have hg1 : ge1 ≠ bd := ty_ne HE4.out HD2.out (by decide)
  go_wp2_with (first
    | ((with_reducible refine store_in rfl 3 _ _ rfl bd 1 39 curd _ (.int .i64 0) info3s HD2.out rfl ?_ ?_ hd3 rfl ?_); (· rfl); (· rfl); intro wa hwa hba hoa; have e0 := hoa.cell hge e0; have he2 := hoa.cell hne he2)
    | ((with_reducible refine store_in rfl 25 _ _ rfl ge1 5 41 cure _ (.int .u32 1) info25s (hoa.at hg1 HE4.out) rfl ?_ ?_ he5 rfl ?_); (· rfl); (· rfl); intro wb2 hwb hbb hob))
  have HGa := Lib.hid ((HGT.out.only hoa (HPL.out bd hd4).1).only hob (HQL.out ge1 he6).1)
  have HXa := Lib.hid (HGa.out.at HX.out)
  have hgd : gd ≠ bd := ty_ne HBd.out HD2.out (by decide)
  have hgd2 : gd ≠ ge1 := ty_ne HBd.out HE4.out (by decide)
  have hge2 : ge ≠ ge1 := ty_ne HBe.out HE4.out (by decide)
  have HBd2 := Lib.hid (hob.at hgd2 (hoa.at hgd HBd.out))
  have HBe2 := Lib.hid (hob.at hge2 (hoa.at hge HBe.out))
  have HVa := Lib.hid (HV.out.grow HGa.out)
  have HDa := Lib.hid (((HD5.out wa hba hoa).only hob (fun h => HPQ.out ge1 h he6) (fun g hg => Nat.lt_of_lt_of_le (HPL.out g hg).2 hoa.2.2.2.1)).reads)
  have HEa := Lib.hid ((HE8.out wa wb2 (fun k hk => hoa.2.2.2.2 k (HQL.out k hk).2 (fun e => HPQ.out bd hd4 (e ▸ hk))) hbb hob).reads)
  have HGG := Lib.hid (HG.out.trans HGa.out)
  clear HGa HX HBd HBe HV HG hwa hba hoa hwb hbb hob HD5 HE8 HD2 HE4 c0 e0 he2 hd1 he1 he3 hd3 hd4 he5 he6 he7 hd1' he1' he3' hge hne hg1 hgd hgd2 hge2 HPT HQT HPL HQL HGT HPQ HPd HPe HQd HQe HDE HDL HEL
  refine (aw_chk (X := awO) _ (conf_none _) (by decide) sys_awO rfl).mono ?_
  rintro _ w10 ⟨rfl, hg⟩
  have G1 := Lib.hid (hg)
  clear hg
  go_wp2_with (first
    | ((with_reducible refine wpList_load_blk_g 28 _ rfl (w.heap.size + 1 + 1 + 1 + 1) 28 (cfC (.slice (some ⟨w.heap.size + 1, 0, none⟩) 1 1) (.slice none 0 0) (.slice (some ⟨w.heap.size + 1 + 1, 0, none⟩) 1 1) (.slice none 0 0) (.slice (some ⟨w.heap.size + 1 + 1 + 1, 0, none⟩) 1 1) awX) _ ?_ ?_ (G1.out.at HXa.out) Try.underlying28 rfl (info28s _ _ _ _ _ awX) ?_); (· rfl); (· rfl))
    | ((with_reducible refine wpList_load_blk_g 28 _ rfl gd 28 (cfC (.slice (some ⟨bd, 0, none⟩) 1 capd) lv sv qv mv awX) _ ?_ ?_ (G1.out.at HBd2.out) Try.underlying28 rfl (info28s _ _ _ _ _ awX) ?_); (· rfl); (· rfl))
    | ((with_reducible refine wpList_load_blk_g 28 _ rfl ge 28 (cfC (.slice (some ⟨be, 0, none⟩) 1 cape) lv2 sv2 qv2 mv2 awX) _ ?_ ?_ (G1.out.at HBe2.out) Try.underlying28 rfl (info28s _ _ _ _ _ awX) ?_); (· rfl); (· rfl)))
  refine (aw_chk (X := awX) _ (HVa.out.grow G1.out) (by decide) sys_awX rfl).mono ?_
  rintro _ w11 ⟨rfl, hg⟩
  have G2 := Lib.hid (G1.out.trans hg)
  clear hg G1
  go_wp2_with (first
    | ((with_reducible refine wpList_load_blk_g 28 _ rfl (w.heap.size + 1 + 1 + 1 + 1) 28 (cfC (.slice (some ⟨w.heap.size + 1, 0, none⟩) 1 1) (.slice none 0 0) (.slice (some ⟨w.heap.size + 1 + 1, 0, none⟩) 1 1) (.slice none 0 0) (.slice (some ⟨w.heap.size + 1 + 1 + 1, 0, none⟩) 1 1) awX) _ ?_ ?_ (G2.out.at HXa.out) Try.underlying28 rfl (info28s _ _ _ _ _ awX) ?_); (· rfl); (· rfl))
    | ((with_reducible refine wpList_load_blk_g 28 _ rfl gd 28 (cfC (.slice (some ⟨bd, 0, none⟩) 1 capd) lv sv qv mv awX) _ ?_ ?_ (G2.out.at HBd2.out) Try.underlying28 rfl (info28s _ _ _ _ _ awX) ?_); (· rfl); (· rfl))
    | ((with_reducible refine wpList_load_blk_g 28 _ rfl ge 28 (cfC (.slice (some ⟨be, 0, none⟩) 1 cape) lv2 sv2 qv2 mv2 awX) _ ?_ ?_ (G2.out.at HBe2.out) Try.underlying28 rfl (info28s _ _ _ _ _ awX) ?_); (· rfl); (· rfl)))
  refine (aw_chk (X := awD) _ (HDa.out.grow G2.out) (by decide) sys_awD rfl).mono ?_
  rintro _ w12 ⟨rfl, hg⟩
  have G3 := Lib.hid (G2.out.trans hg)
  clear hg G2
  go_wp2_with (first
    | ((with_reducible refine wpList_load_blk_g 28 _ rfl (w.heap.size + 1 + 1 + 1 + 1) 28 (cfC (.slice (some ⟨w.heap.size + 1, 0, none⟩) 1 1) (.slice none 0 0) (.slice (some ⟨w.heap.size + 1 + 1, 0, none⟩) 1 1) (.slice none 0 0) (.slice (some ⟨w.heap.size + 1 + 1 + 1, 0, none⟩) 1 1) awX) _ ?_ ?_ (G3.out.at HXa.out) Try.underlying28 rfl (info28s _ _ _ _ _ awX) ?_); (· rfl); (· rfl))
    | ((with_reducible refine wpList_load_blk_g 28 _ rfl gd 28 (cfC (.slice (some ⟨bd, 0, none⟩) 1 capd) lv sv qv mv awX) _ ?_ ?_ (G3.out.at HBd2.out) Try.underlying28 rfl (info28s _ _ _ _ _ awX) ?_); (· rfl); (· rfl))
    | ((with_reducible refine wpList_load_blk_g 28 _ rfl ge 28 (cfC (.slice (some ⟨be, 0, none⟩) 1 cape) lv2 sv2 qv2 mv2 awX) _ ?_ ?_ (G3.out.at HBe2.out) Try.underlying28 rfl (info28s _ _ _ _ _ awX) ?_); (· rfl); (· rfl)))
  refine (aw_chk (X := awE) _ (HEa.out.grow G3.out) (by decide) sys_awE rfl).mono ?_
  rintro _ w13 ⟨rfl, hg⟩
  have G4 := Lib.hid (G3.out.trans hg)
  clear hg G3
  go_wp2_with (first
    | ((with_reducible refine wpList_load_blk_g 28 _ rfl (w.heap.size + 1 + 1 + 1 + 1) 28 (cfC (.slice (some ⟨w.heap.size + 1, 0, none⟩) 1 1) (.slice none 0 0) (.slice (some ⟨w.heap.size + 1 + 1, 0, none⟩) 1 1) (.slice none 0 0) (.slice (some ⟨w.heap.size + 1 + 1 + 1, 0, none⟩) 1 1) awX) _ ?_ ?_ (G4.out.at HXa.out) Try.underlying28 rfl (info28s _ _ _ _ _ awX) ?_); (· rfl); (· rfl))
    | ((with_reducible refine wpList_load_blk_g 28 _ rfl gd 28 (cfC (.slice (some ⟨bd, 0, none⟩) 1 capd) lv sv qv mv awX) _ ?_ ?_ (G4.out.at HBd2.out) Try.underlying28 rfl (info28s _ _ _ _ _ awX) ?_); (· rfl); (· rfl))
    | ((with_reducible refine wpList_load_blk_g 28 _ rfl ge 28 (cfC (.slice (some ⟨be, 0, none⟩) 1 cape) lv2 sv2 qv2 mv2 awX) _ ?_ ?_ (G4.out.at HBe2.out) Try.underlying28 rfl (info28s _ _ _ _ _ awX) ?_); (· rfl); (· rfl)))
  refine (sameV_any (X := awX) (Y := awD) _ (HVa.out.grow G4.out) (HDa.out.grow G4.out) aw_small false ⟨nofun, fun h => absurd h not_same_d⟩).mono ?_
  rintro _ w14 ⟨rfl, hg⟩
  have G5 := Lib.hid (G4.out.trans hg)
  clear hg G4
  go_wp2_with (first
    | ((with_reducible refine wpList_load_blk_g 28 _ rfl (w.heap.size + 1 + 1 + 1 + 1) 28 (cfC (.slice (some ⟨w.heap.size + 1, 0, none⟩) 1 1) (.slice none 0 0) (.slice (some ⟨w.heap.size + 1 + 1, 0, none⟩) 1 1) (.slice none 0 0) (.slice (some ⟨w.heap.size + 1 + 1 + 1, 0, none⟩) 1 1) awX) _ ?_ ?_ (G5.out.at HXa.out) Try.underlying28 rfl (info28s _ _ _ _ _ awX) ?_); (· rfl); (· rfl))
    | ((with_reducible refine wpList_load_blk_g 28 _ rfl gd 28 (cfC (.slice (some ⟨bd, 0, none⟩) 1 capd) lv sv qv mv awX) _ ?_ ?_ (G5.out.at HBd2.out) Try.underlying28 rfl (info28s _ _ _ _ _ awX) ?_); (· rfl); (· rfl))
    | ((with_reducible refine wpList_load_blk_g 28 _ rfl ge 28 (cfC (.slice (some ⟨be, 0, none⟩) 1 cape) lv2 sv2 qv2 mv2 awX) _ ?_ ?_ (G5.out.at HBe2.out) Try.underlying28 rfl (info28s _ _ _ _ _ awX) ?_); (· rfl); (· rfl)))
  refine (sameV_any (X := awX) (Y := awE) _ (HVa.out.grow G5.out) (HEa.out.grow G5.out) aw_small false ⟨nofun, fun h => absurd h not_same_e⟩).mono ?_
  rintro _ w15 ⟨rfl, hg⟩
  have G6 := Lib.hid (G5.out.trans hg)
  clear hg G5
  go_wp2_with (first
    | ((with_reducible refine wpList_load_blk_g 28 _ rfl (w.heap.size + 1 + 1 + 1 + 1) 28 (cfC (.slice (some ⟨w.heap.size + 1, 0, none⟩) 1 1) (.slice none 0 0) (.slice (some ⟨w.heap.size + 1 + 1, 0, none⟩) 1 1) (.slice none 0 0) (.slice (some ⟨w.heap.size + 1 + 1 + 1, 0, none⟩) 1 1) awX) _ ?_ ?_ (G6.out.at HXa.out) Try.underlying28 rfl (info28s _ _ _ _ _ awX) ?_); (· rfl); (· rfl))
    | ((with_reducible refine wpList_load_blk_g 28 _ rfl gd 28 (cfC (.slice (some ⟨bd, 0, none⟩) 1 capd) lv sv qv mv awX) _ ?_ ?_ (G6.out.at HBd2.out) Try.underlying28 rfl (info28s _ _ _ _ _ awX) ?_); (· rfl); (· rfl))
    | ((with_reducible refine wpList_load_blk_g 28 _ rfl ge 28 (cfC (.slice (some ⟨be, 0, none⟩) 1 cape) lv2 sv2 qv2 mv2 awX) _ ?_ ?_ (G6.out.at HBe2.out) Try.underlying28 rfl (info28s _ _ _ _ _ awX) ?_); (· rfl); (· rfl)))
  go_ret
  exact ⟨rfl, HGG.out.trans G6.out⟩
end Go.Proofs.Ytmmbhjomgpnklaa
