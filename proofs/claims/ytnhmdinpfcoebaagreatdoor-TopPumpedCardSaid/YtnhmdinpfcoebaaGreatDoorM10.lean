/- Texts of the proof, merged: CfCopy, CfSysB. -/
import Derived.Test.YtnhmdinpfcoebaaGreatDoorM09
/-! === CfCopy -/
section
/- Copy: the walk. All it hands back lies in memory of its own. -/
namespace Go.Proofs.YtnhmdinpfcoebaaGreatDoor.Sy
open Go.RowKit
set_option linter.unusedVariables false
set_option linter.unusedSimpArgs false
set_option maxRecDepth 100000
attribute [local simp] RelKnown Is
theorem own_grow {w w' : World} {B s n : Nat} {e : TypeId} {v : Value} {xs : List Value} (h : w.ownsRow B e s v n xs) (hg : Grow w w') : w'.ownsRow B e s v n xs := by
  refine ⟨h.1, ?_⟩
  rcases h.2 with h2 | ⟨g, cap, cur, h1, hB, hb, h3, h4, h5, h6⟩
  · exact .inl h2
  · exact .inr ⟨g, cap, cur, h1, hB, hg.at hb, h3, h4, h5, h6⟩
theorem own_mono {w : World} {B B' s n : Nat} {e : TypeId} {v : Value} {xs : List Value} (h : w.ownsRow B' e s v n xs) (hb : B ≤ B') : w.ownsRow B e s v n xs := by
  refine ⟨h.1, ?_⟩
  rcases h.2 with h2 | ⟨g, cap, cur, h1, hB, hb2, h3, h4, h5, h6⟩
  · exact .inl h2
  · exact .inr ⟨g, cap, cur, h1, Nat.le_trans hb hB, hb2, h3, h4, h5, h6⟩
theorem own_only {w w' : World} {B s n b t : Nat} {e : TypeId} {v : Value} {xs : List Value} {cs : Array Value} {fr : Nat × Nat} (h : w.ownsRow B e s v n xs) (ho : Only b w w') (hb : w.heap[b]? = some (.cells cs t fr)) (ht : t ≠ e) : w'.ownsRow B e s v n xs := by
  refine ⟨h.1, ?_⟩
  rcases h.2 with h2 | ⟨g, cap, cur, h1, hB, hg, h3, h4, h5, h6⟩
  · exact .inl h2
  · refine .inr ⟨g, cap, cur, h1, hB, ho.at (fun e2 => ?_) hg, h3, h4, h5, h6⟩
    subst e2
    rw [hb] at hg
    injection hg with hg
    injection hg with _ hg _
    exact ht hg
theorem own_one {w : World} {B s n : Nat} {e : TypeId} {v : Value} {xs : List Value} (h : w.ownsRow B e s v n xs) : v.oneCell' = true := by
  rcases h.2 with ⟨rfl, _⟩ | ⟨g, cap, cur, rfl, _⟩ <;> rfl
theorem row_set {f : Nat → List Value} {s : Nat} (hf : ∀ j, (f j).length = s) (k r : Nat) (hr : r < s) (u : Value) : ∀ n, k < n → (rowCells f n).set (k * s + r) u = rowCells (fun j => if j = k then (f k).set r u else f j) n
  | 0, h => absurd h (Nat.not_lt_zero _)
  | n + 1, h => by
    rw [rowCells, rowCells]
    by_cases e : k = n
    · subst e
      rw [List.set_append_right _ _ (by rw [row_len hf]; omega), row_len hf, show k * s + r - k * s = r by omega, if_pos rfl]
      congr 1
      have : ∀ m, m ≤ k → rowCells f m = rowCells (fun j => if j = k then (f k).set r u else f j) m := by
        intro m
        induction m with
        | zero => intro _; rfl
        | succ m ih => intro hm; rw [rowCells, rowCells, ih (by omega), if_neg (by omega)]
      exact this k (Nat.le_refl _)
    · have h1 : (k + 1) * s ≤ n * s := Nat.mul_le_mul_right s (by omega)
      rw [Nat.succ_mul] at h1
      rw [List.set_append_left _ _ (by rw [row_len hf]; omega), row_set hf k r hr u n (by omega), if_neg (by omega)]
/-- What a copy owns. -/
def OwnCode (w : World) (B : Nat) (v : Value) (n : Nat) (C : Nat → Ins) : Prop := w.ownsRow B 64 6 v n (rowCells (fun j => insL (C j)) n)
def OwnTasks (w : World) (B : Nat) (v : Value) (n : Nat) (T : Nat → Tk) (cv : Nat → Value) : Prop := w.ownsRow B 67 6 v n (rowCells (fun j => tkL (T j) (cv j)) n)
def OwnLines (w : World) (B : Nat) (v : Value) (n : Nat) (T : Nat → Ln) (cv : Nat → Value) : Prop := w.ownsRow B 192 2 v n (rowCells (fun j => lnL (T j) (cv j)) n)
def OwnNums (w : World) (B : Nat) (v : Value) (n : Nat) (M : Nat → Int) : Prop := w.ownsRow B 3 1 v n (rowCells (fun j => [.int .i64 (M j)]) n)
structure ConfO (w : World) (B : Nat) (tv lv sv qv mv : Value) (X : Cf) : Prop where
  t : ∃ cv, OwnTasks w B tv X.tn X.T cv ∧ ∀ j, j < X.tn → OwnCode w B (cv j) (X.T j).cn (X.T j).C
  l : ∃ cv, OwnLines w B lv X.ln X.L cv ∧ ∀ j, j < X.ln → OwnCode w B (cv j) (X.L j).cn (X.L j).C
  s : OwnNums w B sv X.sn X.S
  q : OwnNums w B qv X.qn X.Q
  m : OwnNums w B mv X.mn X.M
theorem MemAt.row {w : World} {A : Option Addr} {n : Nat} {M : Nat → Int} (h : MemAt w A n M) : RowAt w A n 1 (fun j => [.int .i64 (M j)]) := fun hn => by
  obtain ⟨a, hA, hc⟩ := h hn
  refine ⟨a, hA, fun j hj r u hu => ?_⟩
  cases r with
  | zero => simp at hu; subst hu; rw [Nat.mul_one]; exact hc j hj
  | succ r => simp at hu
theorem MemAt.of_row {w : World} {A : Option Addr} {n : Nat} {M : Nat → Int} (h : RowAt w A n 1 (fun j => [.int .i64 (M j)])) : MemAt w A n M := fun hn => by
  obtain ⟨a, hA, hc⟩ := h hn
  refine ⟨a, hA, fun j hj => ?_⟩
  have := hc j hj 0 _ rfl
  rw [Nat.mul_one] at this; exact this
theorem own_slice {w : World} {B s n : Nat} {e : TypeId} {v : Value} {xs : List Value} (h : w.ownsRow B e s v n xs) : ∃ A cap, v = .slice A n cap ∧ n ≤ cap := by
  rcases h.2 with ⟨rfl, rfl⟩ | ⟨g, cap, cur, rfl, _, _, h1, _⟩
  · exact ⟨none, 0, rfl, Nat.le_refl _⟩
  · exact ⟨_, cap, rfl, h1⟩
theorem own_block {w : World} {B s n b cap : Nat} {e : TypeId} {xs : List Value} (h : w.ownsRow B e s (.slice (some ⟨b, 0, none⟩) n cap) n xs) : ∃ cur : Array Value, w.heap[b]? = some (.cells cur e (0, 0)) ∧ cur.size = cap * s := by
  rcases h.2 with ⟨h1, _⟩ | ⟨g, c, cur, h1, hB, hg, h3, h4, h5, h6⟩
  · simp at h1
  · simp only [Value.slice.injEq, Option.some.injEq, Addr.mk.injEq, and_true, true_and] at h1
    obtain ⟨rfl, rfl⟩ := h1
    exact ⟨cur, hg, h5⟩
theorem ty_ne {w : World} {b c t u : Nat} {cs ds : Array Value} {fr fr2 : Nat × Nat} (h1 : w.heap[b]? = some (.cells cs t fr)) (h2 : w.heap[c]? = some (.cells ds u fr2)) (ht : t ≠ u) : b ≠ c := fun e => by
  subst e
  rw [h1] at h2
  injection h2 with h2
  injection h2 with _ h2 _
  exact ht h2
theorem own_set {w w' : World} {B s n b cap i : Nat} {e : TypeId} {xs : List Value} {cur : Array Value} {v : Value} (h : w.ownsRow B e s (.slice (some ⟨b, 0, none⟩) n cap) n xs) (hb : w.heap[b]? = some (.cells cur e (0, 0)))
    (hb' : w'.heap[b]? = some (.cells (cur.setIfInBounds i v) e (0, 0))) (ho : Only b w w') (hi : i < n * s) : w'.ownsRow B e s (.slice (some ⟨b, 0, none⟩) n cap) n (xs.set i v) := by
  refine ⟨by rw [List.length_set]; exact h.1, ?_⟩
  rcases h.2 with ⟨h1, _⟩ | ⟨g, c, cu, h1, hB, hg, h3, h4, h5, h6⟩
  · simp at h1
  · simp only [Value.slice.injEq, Option.some.injEq, Addr.mk.injEq, and_true, true_and] at h1
    obtain ⟨rfl, rfl⟩ := h1
    rw [hb] at hg
    injection hg with hg
    injection hg with hg _ _
    subst hg
    exact .inr ⟨_, _, _, rfl, hB, hb', h3, h4, by simpa using h5, by rw [Array.toList_setIfInBounds, ← h6, List.take_set]⟩
theorem info68s : (Tryz.prog.info? 68).map (·.size) = some 1 := by kernel_rfl
theorem info69s : (Tryz.prog.info? 69).map (·.size) = some 1 := by kernel_rfl
theorem info60s : (Tryz.prog.info? 60).map (·.size) = some 1 := by kernel_rfl
theorem info65s : (Tryz.prog.info? 65).map (·.size) = some 1 := by kernel_rfl
theorem ones28 {tv lv sv qv mv : Value} (X : Cf) (ht : tv.oneCell' = true) (hl : lv.oneCell' = true) (hs : sv.oneCell' = true) (hq : qv.oneCell' = true) (hm : mv.oneCell' = true) : (cfC tv lv sv qv mv X).all (·.oneCell') = true := by
  simp [cfC, ht, hl, hs, hq, hm]
  repeat' constructor
theorem info71s (tv lv sv qv mv : Value) (X : Cf) : (Tryz.prog.info? 71).map (·.size) = some (cfC tv lv sv qv mv X).size := by
  have h : (Tryz.prog.info? 71).map (·.size) = some 12 := by kernel_rfl
  rw [h]; rfl
/-- One cell of a block, stored: the world behind it is another. -/
theorem store_in {ops : Array Oper} {rest : List Oper} {op : Oper} {a : Act} {w : World} {Q : Exit → Act → World → Prop} (hgd : op.guard = none) (ty : TypeId) (x y : Operand) (ho : op.op = .store ty x y)
    (g j : Nat) (t : TypeId) (cs cs' : Array Value) (v : Value) (hi : (Tryz.prog.info? ty).map (·.size) = some 1) (hold : w.heap[g]? = some (.cells cs t (0, 0))) (h1 : v.oneCell' = true)
    (hx : a.eval x = .pointer (some ⟨g, j, none⟩)) (hy : a.eval y = v) (hj : j < cs.size) (he : cs.setIfInBounds j v = cs')
    (h : ∀ w', Hid (w' = w.setCell ⟨g, j, none⟩ v) → w'.heap[g]? = some (.cells cs' t (0, 0)) → Only g w w' → wpList Tryz.prog ops Q rest (a.put op.dst undef) w') : wpList Tryz.prog ops Q (op :: rest) a w :=
  wpList_store_cell hgd ty x y ho g j t cs v hx hy h1 hi hold hj (h _ (Lib.hid rfl) (by rw [← he]; exact set_whole hold j v) ((Only.refl g w).setCell j v))
theorem tk_len (T : Nat → Tk) (cv : Nat → Value) (j : Nat) : (tkL (T j) (cv j)).length = 6 := rfl
theorem ln_len (T : Nat → Ln) (cv : Nat → Value) (j : Nat) : (lnL (T j) (cv j)).length = 2 := rfl
theorem nm_len (M : Nat → Int) (j : Nat) : ([.int .i64 (M j)] : List Value).length = 1 := rfl
theorem ins_ones (C : Nat → Ins) : Ones fun j => insL (C j) := fun j u hu => by
  simp [insL] at hu
  rcases hu with rfl | rfl | rfl | rfl | rfl | rfl <;> rfl
theorem nm_ones (M : Nat → Int) : Ones fun j => [.int .i64 (M j)] := fun j u hu => by simp at hu; subst hu; rfl
theorem tk_ones (T : Nat → Tk) (cv : Nat → Value) (h : ∀ j, (cv j).oneCell' = true) : Ones fun j => tkL (T j) (cv j) := fun j u hu => by
  simp [tkL] at hu
  rcases hu with rfl | rfl | rfl | rfl | rfl | rfl <;> first | rfl | exact h j
theorem ln_ones (T : Nat → Ln) (cv : Nat → Value) (h : ∀ j, (cv j).oneCell' = true) : Ones fun j => lnL (T j) (cv j) := fun j u hu => by
  simp [lnL] at hu
  rcases hu with rfl | rfl <;> first | rfl | exact h j
set_option maxHeartbeats 20000000 in
theorem copy_walk (w : World) (TA LA SA QA MA : Option Addr) (tc lc sc qc mc : Nat) (tcv lcv : Nat → Value) (X : Cf) (hsm : Small X) (hto : ∀ j, (tcv j).oneCell' = true) (hlo : ∀ j, (lcv j).oneCell' = true)
    (hT : RowAt w TA X.tn 6 (fun j => tkL (X.T j) (tcv j))) (hTC : ∀ j, j < X.tn → CodeV w (tcv j) (X.T j).cn (X.T j).C) (hL : RowAt w LA X.ln 2 (fun j => lnL (X.L j) (lcv j))) (hLC : ∀ j, j < X.ln → CodeV w (lcv j) (X.L j).cn (X.L j).C)
    (hS : MemAt w SA X.sn X.S) (hQ : MemAt w QA X.qn X.Q) (hM : MemAt w MA X.mn X.M) :
    Calls Tryz.prog 76 #[.agg (cfC (.slice TA X.tn tc) (.slice LA X.ln lc) (.slice SA X.sn sc) (.slice QA X.qn qc) (.slice MA X.mn mc) X)] w fun e w' => ∃ tv lv sv qv mv, e = .returned (.agg (cfC tv lv sv qv mv X)) ∧ ConfO w' w.heap.size tv lv sv qv mv X ∧ Grow w w' := by
  have HT := Lib.hid hT; clear hT
  have HTC := Lib.hid hTC; clear hTC
  have HL := Lib.hid hL; clear hL
  have HLC := Lib.hid hLC; clear hLC
  have HS := Lib.hid hS; clear hS
  have HQ := Lib.hid hQ; clear hQ
  have HM := Lib.hid hM; clear hM
  have HSM := Lib.hid hsm; clear hsm
  have HTO := Lib.hid hto; clear hto
  have HLO := Lib.hid hlo; clear hlo
  go_enter Tryz.func76, Tryz.ntmps76
  go_wp2_with fail
  have hX : ((w.alloc (.cells (cfC (.slice TA X.tn tc) (.slice LA X.ln lc) (.slice SA X.sn sc) (.slice QA X.qn qc) (.slice MA X.mn mc) X) 71)).alloc (.cells #[.slice none 0 0, .slice none 0 0, .int .i64 0, .slice none 0 0, .slice none 0 0, .slice none 0 0, .int .i64 0, .int .u32 0, .int .u32 0, .int .i64 0, .int .u64 0, .int .u64 0] 71)).heap[w.heap.size]? = some (.cells (cfC (.slice TA X.tn tc) (.slice LA X.ln lc) (.slice SA X.sn sc) (.slice QA X.qn qc) (.slice MA X.mn mc) X) 71 (0, 0)) := (heapAt_alloc_old _ _ (by simp)).trans (heapAt_alloc_new w _)
  have hR : ((w.alloc (.cells (cfC (.slice TA X.tn tc) (.slice LA X.ln lc) (.slice SA X.sn sc) (.slice QA X.qn qc) (.slice MA X.mn mc) X) 71)).alloc (.cells #[.slice none 0 0, .slice none 0 0, .int .i64 0, .slice none 0 0, .slice none 0 0, .slice none 0 0, .int .i64 0, .int .u32 0, .int .u32 0, .int .i64 0, .int .u64 0, .int .u64 0] 71)).heap[w.heap.size + 1]? = some (.cells #[.slice none 0 0, .slice none 0 0, .int .i64 0, .slice none 0 0, .slice none 0 0, .slice none 0 0, .int .i64 0, .int .u32 0, .int .u32 0, .int .i64 0, .int .u64 0, .int .u64 0] 71 (0, 0)) := heap_alloc2_new w _ _
  have hG : Grow w ((w.alloc (.cells (cfC (.slice TA X.tn tc) (.slice LA X.ln lc) (.slice SA X.sn sc) (.slice QA X.qn qc) (.slice MA X.mn mc) X) 71)).alloc (.cells #[.slice none 0 0, .slice none 0 0, .int .i64 0, .slice none 0 0, .slice none 0 0, .slice none 0 0, .int .i64 0, .int .u32 0, .int .u32 0, .int .i64 0, .int .u64 0, .int .u64 0] 71)) := (Grow.alloc _ _).trans (Grow.alloc _ _)
  generalize (w.alloc (.cells (cfC (.slice TA X.tn tc) (.slice LA X.ln lc) (.slice SA X.sn sc) (.slice QA X.qn qc) (.slice MA X.mn mc) X) 71)).alloc (.cells #[.slice none 0 0, .slice none 0 0, .int .i64 0, .slice none 0 0, .slice none 0 0, .slice none 0 0, .int .i64 0, .int .u32 0, .int .u32 0, .int .i64 0, .int .u64 0, .int .u64 0] 71) = w3 at hX hR hG ⊢
  have HX := Lib.hid hX; clear hX
  have HR := Lib.hid hR; clear hR
  have HG := Lib.hid hG; clear hG
  refine wp_region_rel_tail 7 _ Grow (fun a wQ => Grow w3 wQ) [([(1, none)], none), ([(5, some 0)], none), ([(6, some 0)], none), ([(1, none)], none), ([(8, some 0)], none), ([(9, some 0)], none), ([(1, none)], none)] (by kernel_rfl) (by kernel_rfl) (by kernel_rfl) (Grow.drewN w3 1) ?_
  (refine relT_pure ?_; apply Exists.intro; refine ⟨fun aR wQ hF hk => ?_, ?_⟩; focus (refine relT_none fun K hK => ?_; (try simp at hk); go_simp; exact hK _ _ (Grow.refl _) hF rfl))
  (refine relT_pure ?_; apply Exists.intro; refine ⟨fun aR wQ hF hk => ?_, ?_⟩; focus (refine relT_none fun K hK => ?_; (try simp at hk); have d := cell_block (hF.at HX.out) 0; simp at d; go_simp; exact hK _ _ (Grow.refl _) hF rfl))
  (refine relT_some (fun v wv => OwnTasks wv w.heap.size v X.tn X.T tcv) (fun v w1 w2 hg h => own_grow h hg) (fun aR wQ hF hk => ?_) ?_; focus (refine relT_none fun K hK => ?_; (try simp at hk); go_simp; refine (clone22_any wQ TA X.tn tc (fun j => tkL (X.T j) (tcv j)) (tk_len X.T tcv) (tk_ones X.T tcv HTO.out) (by have := HSM.out.t; omega) (HT.out.grow (HG.out.trans hF))).mono ?_; rintro e w' ⟨v, rfl, hown, hg⟩; exact hK _ _ hg (hF.trans hg) (own_mono hown ((HG.out.trans hF).size))))
  (refine relT_pure ?_; apply Exists.intro; refine ⟨fun aR wQ hF hk => ?_, ?_⟩; focus (refine relT_none fun K hK => ?_; (try simp at hk); go_simp; exact hK _ _ (Grow.refl _) hF rfl))
  (refine relT_pure ?_; apply Exists.intro; refine ⟨fun aR wQ hF hk => ?_, ?_⟩; focus (refine relT_none fun K hK => ?_; (try simp at hk); have d := cell_block (hF.at HX.out) 1; simp at d; go_simp; exact hK _ _ (Grow.refl _) hF rfl))
  (refine relT_some (fun v wv => OwnLines wv w.heap.size v X.ln X.L lcv) (fun v w1 w2 hg h => own_grow h hg) (fun aR wQ hF hk => ?_) ?_; focus (refine relT_none fun K hK => ?_; (try simp at hk); go_simp; refine (clone23_any wQ LA X.ln lc (fun j => lnL (X.L j) (lcv j)) (ln_len X.L lcv) (ln_ones X.L lcv HLO.out) (by have := HSM.out.l; omega) (HL.out.grow (HG.out.trans hF))).mono ?_; rintro e w' ⟨v, rfl, hown, hg⟩; exact hK _ _ hg (hF.trans hg) (own_mono hown ((HG.out.trans hF).size))))
  (refine relT_pure ?_; apply Exists.intro; refine ⟨fun aR wQ hF hk => ?_, ?_⟩; focus (refine relT_none fun K hK => ?_; (try simp at hk); go_simp; exact hK _ _ (Grow.refl _) hF rfl))
  refine relT_done fun wR => ?_
  refine fun v hv => ?_; obtain rfl : v = _ := hv
  refine fun v hv => ?_; obtain rfl : v = _ := hv
  refine fun v7 hv7 => ?_
  refine fun v hv => ?_; obtain rfl : v = _ := hv
  refine fun v hv => ?_; obtain rfl : v = _ := hv
  refine fun v10 hv10 => ?_
  refine fun v hv => ?_; obtain rfl : v = _ := hv
  simp only [Act.put, List.setIfInBounds_toArray, List.set_cons_zero, List.set_cons_succ]
  refine relT_nil fun hF => ?_
  simp only [List.drop_succ_cons, List.drop_zero]
  have HF := Lib.hid hF; clear hF
  obtain ⟨TB, td, rfl, htd⟩ := own_slice hv7
  obtain ⟨LB, ld, rfl, hld⟩ := own_slice hv10
  have HV7 := Lib.hid hv7; clear hv7
  have HV10 := Lib.hid hv10; clear hv10
  have HXR := Lib.hid (HF.out.at HX.out)
  have hne : (71 : Nat) ≠ 67 := by decide
  go_wp2_with (first
    | ((with_reducible refine store_in rfl 68 _ _ rfl w.heap.size 0 71 _ (cfC (.slice TB X.tn td) (.slice LA X.ln lc) (.slice SA X.sn sc) (.slice QA X.qn qc) (.slice MA X.mn mc) X) (.slice TB X.tn td) info68s HXR.out ?_ ?_ ?_ ?_ ?_ ?_); (· rfl); (· rfl); (· rfl); (· simp); (· rfl); intro wa hwa hba hoa)
    | ((with_reducible refine store_in rfl 69 _ _ rfl w.heap.size 1 71 _ (cfC (.slice TB X.tn td) (.slice LB X.ln ld) (.slice SA X.sn sc) (.slice QA X.qn qc) (.slice MA X.mn mc) X) (.slice LB X.ln ld) info69s hba ?_ ?_ ?_ ?_ ?_ ?_); (· rfl); (· rfl); (· rfl); (· simp); (· rfl); intro wb hwb hbb hob; have b0 : wb.cell? ⟨w.heap.size, 0, none⟩ = some (.slice TB X.tn td) := cell_block hbb 0))
  have HOW := Lib.hid ((Only.refl _ _).trans (hoa.trans hob))
  have HB0 := Lib.hid hbb
  have HR0 := Lib.hid (HOW.out.at (show w.heap.size + 1 ≠ w.heap.size by omega) (HF.out.at HR.out))
  have HG0 := Lib.hid ((HG.out.trans HF.out).only HOW.out (Nat.le_refl _))
  have HT0 := Lib.hid (show OwnTasks wb w.heap.size (.slice TB X.tn td) X.tn X.T tcv from own_only HV7.out HOW.out HXR.out (by decide))
  have HL0 := Lib.hid (show OwnLines wb w.heap.size (.slice LB X.ln ld) X.ln X.L lcv from own_only HV10.out HOW.out HXR.out (by decide))
  clear HV7 HV10 HXR HOW hwa hwb hba hbb hoa hob b0 HX HR HG HF hne
  go_loopw [16, 3] (fun x _ wr => ∃ k : Nat, ∃ cv : Nat → Value, k ≤ X.tn ∧ x = .int .i64 k ∧ Grow w wr ∧ wr.heap[w.heap.size]? = some (.cells (cfC (.slice TB X.tn td) (.slice LB X.ln ld) (.slice SA X.sn sc) (.slice QA X.qn qc) (.slice MA X.mn mc) X) 71 (0, 0)) ∧ wr.heap[w.heap.size + 1]? = some (.cells #[.slice none 0 0, .slice none 0 0, .int .i64 0, .slice none 0 0, .slice none 0 0, .slice none 0 0, .int .i64 0, .int .u32 0, .int .u32 0, .int .i64 0, .int .u64 0, .int .u64 0] 71 (0, 0)) ∧ OwnTasks wr w.heap.size (.slice TB X.tn td) X.tn X.T cv ∧ (∀ j, j < k → OwnCode wr w.heap.size (cv j) (X.T j).cn (X.T j).C) ∧ (∀ j, k ≤ j → cv j = tcv j) ∧ OwnLines wr w.heap.size (.slice LB X.ln ld) X.ln X.L lcv) (fun x _ _ => X.tn - (intOf x).toNat)
  case atStart => exact ⟨0, tcv, by omega, rfl, HG0.out, HB0.out, HR0.out, HT0.out, fun j hj => by omega, fun j _ => rfl, HL0.out⟩
  case round =>
    obtain ⟨k, cv, hk, rfl, hg, hb, hr, ht, hc, hrest, hl⟩ := hrel
    have HGr := Lib.hid hg; clear hg
    have HBr := Lib.hid hb; clear hb
    have HRr := Lib.hid hr; clear hr
    have HTr := Lib.hid ht; clear ht
    have HLr := Lib.hid hl; clear hl
    have HCr := Lib.hid hc; clear hc
    have HRest := Lib.hid hrest; clear hrest
    clear HB0 HR0 HG0 HT0 HL0
    by_cases hlt : k < X.tn
    · have k70 : (X.tn : Int) ≤ 70 := by have := HSM.out.t; omega
      have k0 : (0 : Int) ≤ (k : Int) := by omega
      have kn : (k : Int) < (X.tn : Int) := by omega
      obtain ⟨b, cap, hTB, hbB, hbl⟩ := HTr.out.form (by omega)
      obtain ⟨rfl, rfl⟩ : TB = some ⟨b, 0, none⟩ ∧ td = cap := by simpa using hTB
      clear hTB
      obtain ⟨CA, ca, hcv, hc1, hc2⟩ := HTC.out k hlt
      have HCV := Lib.hid ((HRest.out k (Nat.le_refl _)).trans hcv)
      have HC5 := Lib.hid (show wr.cell? ⟨b, k * 6 + 5, none⟩ = some (.slice CA (X.T k).cn ca) by
        have h := HTr.out.cells (g := b) rfl (k * 6 + 5) (cv k) ((row_get (tk_len X.T cv) k 5 (by omega) X.tn hlt).trans rfl)
        rw [add_succ'] at h
        rw [← HCV.out]
        simpa using h)
      have HCD := Lib.hid (show CodeAt wr CA (X.T k).cn (X.T k).C from RowAt.grow hc2 HGr.out)
      clear hcv hc1 hc2
      go_wp2_with fail
      refine wp_region_rel_tail 10 _ Grow (fun a wQ => Grow wr wQ) [([(1, none)], none), ([(19, some 0)], none), ([(3, none)], none), ([(1, none)], none), ([(22, some 0)], none), ([(3, none)], none), ([(23, some 1), (24, some 0)], none), ([(25, some 0)], none), ([(26, some 0)], none), ([(27, some 0)], none)] (by kernel_rfl) (by kernel_rfl) (by kernel_rfl) (Grow.drewN wr 1) ?_
      (refine relT_pure ?_; apply Exists.intro; refine ⟨fun aR wQ hF hk => ?_, ?_⟩; focus (refine relT_none fun K hK => ?_; (try simp at hk); go_simp; exact hK _ _ (Grow.refl _) hF rfl))
      (refine relT_pure ?_; apply Exists.intro; refine ⟨fun aR wQ hF hk => ?_, ?_⟩; focus (refine relT_none fun K hK => ?_; (try simp at hk); have d := cell_block (hF.at HBr.out) 0; simp at d; go_simp; exact hK _ _ (Grow.refl _) hF rfl))
      (refine relT_pure ?_; apply Exists.intro; refine ⟨fun aR wQ hF hk => ?_, ?_⟩; focus (refine relT_none fun K hK => ?_; (try simp at hk); go_simp; exact hK _ _ (Grow.refl _) hF rfl))
      (refine relT_pure ?_; apply Exists.intro; refine ⟨fun aR wQ hF hk => ?_, ?_⟩; focus (refine relT_none fun K hK => ?_; (try simp at hk); go_simp; exact hK _ _ (Grow.refl _) hF rfl))
      (refine relT_pure ?_; apply Exists.intro; refine ⟨fun aR wQ hF hk => ?_, ?_⟩; focus (refine relT_none fun K hK => ?_; (try simp at hk); have d := cell_block (hF.at HBr.out) 0; simp at d; go_simp; exact hK _ _ (Grow.refl _) hF rfl))
      (refine relT_pure ?_; apply Exists.intro; refine ⟨fun aR wQ hF hk => ?_, ?_⟩; focus (refine relT_none fun K hK => ?_; (try simp at hk); go_simp; exact hK _ _ (Grow.refl _) hF rfl))
      (refine relT_pure ?_; apply Exists.intro; refine ⟨fun aR wQ hF hk => ?_, ?_⟩; focus (refine relT_none fun K hK => ?_; (try simp at hk); go_simp; exact hK _ _ (Grow.refl _) hF rfl))
      (refine relT_pure ?_; apply Exists.intro; refine ⟨fun aR wQ hF hk => ?_, ?_⟩; focus (refine relT_none fun K hK => ?_; (try simp at hk); go_simp; exact hK _ _ (Grow.refl _) hF rfl))
      (refine relT_pure ?_; apply Exists.intro; refine ⟨fun aR wQ hF hk => ?_, ?_⟩; focus (refine relT_none fun K hK => ?_; (try simp at hk); have d := (Below.cell hF (cell_lt HC5.out)).trans HC5.out; go_simp; exact hK _ _ (Grow.refl _) hF rfl))
      (refine relT_some (fun v wv => OwnCode wv w.heap.size v (X.T k).cn (X.T k).C) (fun v w1 w2 hg h => own_grow h hg) (fun aR wQ hF hk => ?_) ?_; focus (refine relT_none fun K hK => ?_; (try simp at hk); go_simp; refine (clone37_any wQ CA (X.T k).cn ca (fun j => insL ((X.T k).C j)) (insL_len (X.T k).C) (ins_ones (X.T k).C) (by have := HSM.out.tc k hlt; omega) (RowAt.grow HCD.out hF)).mono ?_; rintro e w' ⟨v, rfl, hown, hg⟩; exact hK _ _ hg (hF.trans hg) (own_mono hown ((HGr.out.trans hF).size))))
      refine relT_done fun wR => ?_
      refine fun v hv => ?_; obtain rfl : v = _ := hv
      refine fun v hv => ?_; obtain rfl : v = _ := hv
      refine fun v hv => ?_; obtain rfl : v = _ := hv
      refine fun v hv => ?_; obtain rfl : v = _ := hv
      refine fun v hv => ?_; obtain rfl : v = _ := hv
      refine fun v hv => ?_; obtain rfl : v = _ := hv
      refine fun v hv => ?_; obtain rfl : v = _ := hv
      refine fun v hv => ?_; obtain rfl : v = _ := hv
      refine fun v hv => ?_; obtain rfl : v = _ := hv
      refine fun v28 hv28 => ?_
      simp only [Act.put, List.setIfInBounds_toArray, List.set_cons_zero, List.set_cons_succ]
      refine relT_nil fun hF => ?_
      simp only [List.drop_succ_cons, List.drop_zero]
      have HFr := Lib.hid hF; clear hF
      have HTf := Lib.hid (own_grow HTr.out HFr.out)
      have HBf := Lib.hid (HFr.out.at HBr.out)
      have hone := own_one hv28
      have HV28 := Lib.hid hv28; clear hv28
      obtain ⟨cur, hcur, hcs⟩ := own_block HTf.out
      have HCU := Lib.hid hcur; clear hcur
      have hix : k * 6 + 5 < cur.size := by rw [hcs]; have : (k + 1) * 6 ≤ td * 6 := Nat.mul_le_mul_right 6 (by omega); omega
      have HIX := Lib.hid hix; clear hix
      have HCS := Lib.hid hcs; clear hcs
      have HONE := Lib.hid hone; clear hone
      have b0 : wR.cell? ⟨w.heap.size, 0, none⟩ = some (.slice (some ⟨b, 0, none⟩) X.tn td) := cell_block HBf.out 0
      go_wp2_with (first
        | ((with_reducible refine store_in rfl 65 _ _ rfl b (k * 6 + 5) 67 cur (cur.setIfInBounds (k * 6 + 5) v28) v28 info65s HCU.out HONE.out ?_ ?_ HIX.out rfl ?_); (· rfl); (· rfl); intro wa hwa hba hoa))
      have hne0 : w.heap.size ≠ b := ty_ne HBf.out HCU.out (by decide)
      have hne1 : w.heap.size + 1 ≠ b := ty_ne (HFr.out.at HRr.out) HCU.out (by decide)
      have HGa := Lib.hid ((HGr.out.trans HFr.out).only hoa hbB)
      have HBa := Lib.hid (hoa.at hne0 HBf.out)
      have HRa := Lib.hid (hoa.at hne1 (HFr.out.at HRr.out))
      have HTa := Lib.hid (show OwnTasks wa w.heap.size (.slice (some ⟨b, 0, none⟩) X.tn td) X.tn X.T (fun j => if j = k then v28 else cv j) from by
        have h := own_set HTf.out HCU.out hba hoa (by have : (k + 1) * 6 ≤ X.tn * 6 := Nat.mul_le_mul_right 6 (by omega); omega)
        rw [row_set (tk_len X.T cv) k 5 (by omega) v28 X.tn hlt] at h
        have e : (fun j => if j = k then (tkL (X.T k) (cv k)).set 5 v28 else tkL (X.T j) (cv j)) = fun j => tkL (X.T j) (if j = k then v28 else cv j) := by
          funext j
          by_cases e : j = k
          · subst e; rw [if_pos rfl, if_pos rfl]; rfl
          · rw [if_neg e, if_neg e]
        rw [e] at h
        exact h)
      have HCa := Lib.hid (show ∀ j, j < k + 1 → OwnCode wa w.heap.size (if j = k then v28 else cv j) (X.T j).cn (X.T j).C from fun j hj => by
        by_cases e : j = k
        · subst e; rw [if_pos rfl]; exact own_only HV28.out hoa HCU.out (by decide)
        · rw [if_neg e]; exact own_only (own_grow (HCr.out j (by omega)) HFr.out) hoa HCU.out (by decide))
      have HRa2 := Lib.hid (show ∀ j, k + 1 ≤ j → (if j = k then v28 else cv j) = tcv j from fun j hj => by rw [if_neg (by omega)]; exact HRest.out j (by omega))
      have HLa := Lib.hid (show OwnLines wa w.heap.size (.slice LB X.ln ld) X.ln X.L lcv from own_only (own_grow HLr.out HFr.out) hoa HCU.out (by decide))
      clear b0 hwa hba hoa
      go_wp2_with fail
      go_roundw
      case rel => exact ⟨k + 1, fun j => if j = k then v28 else cv j, by omega, by go_num, HGa.out, HBa.out, HRa.out, HTa.out, HCa.out, HRa2.out, HLa.out⟩
      case measure => simp [intOf]; omega
    · have kn : ¬ (k : Int) < (X.tn : Int) := by omega
      obtain rfl : k = X.tn := by omega
      have b1 : wr.cell? ⟨w.heap.size, 1, none⟩ = some (.slice LB X.ln ld) := cell_block HBr.out 1
      go_wp2_with fail
      have HG0 := Lib.hid HGr.out
      have HB0 := Lib.hid HBr.out
      have HR0 := Lib.hid HRr.out
      have HT0 := Lib.hid HTr.out
      have HL0 := Lib.hid HLr.out
      have HC0 := Lib.hid HCr.out
      obtain ⟨tv, htv⟩ : ∃ tv, tv = cv := ⟨_, rfl⟩
      rw [← htv] at HT0 HC0
      clear b1 HGr HBr HRr HTr HLr HCr HRest htv kn hlt hk
      generalize wr = wb at HG0 HB0 HR0 HT0 HL0 HC0 ⊢
      go_loopw [35, 4] (fun x _ wr => ∃ k : Nat, ∃ cv : Nat → Value, k ≤ X.ln ∧ x = .int .i64 k ∧ Grow w wr ∧ wr.heap[w.heap.size]? = some (.cells (cfC (.slice TB X.tn td) (.slice LB X.ln ld) (.slice SA X.sn sc) (.slice QA X.qn qc) (.slice MA X.mn mc) X) 71 (0, 0)) ∧ wr.heap[w.heap.size + 1]? = some (.cells #[.slice none 0 0, .slice none 0 0, .int .i64 0, .slice none 0 0, .slice none 0 0, .slice none 0 0, .int .i64 0, .int .u32 0, .int .u32 0, .int .i64 0, .int .u64 0, .int .u64 0] 71 (0, 0)) ∧ OwnLines wr w.heap.size (.slice LB X.ln ld) X.ln X.L cv ∧ (∀ j, j < k → OwnCode wr w.heap.size (cv j) (X.L j).cn (X.L j).C) ∧ (∀ j, k ≤ j → cv j = lcv j) ∧ OwnTasks wr w.heap.size (.slice TB X.tn td) X.tn X.T tv ∧ (∀ j, j < X.tn → OwnCode wr w.heap.size (tv j) (X.T j).cn (X.T j).C)) (fun x _ _ => X.ln - (intOf x).toNat)
      case atStart => exact ⟨0, lcv, by omega, rfl, HG0.out, HB0.out, HR0.out, HL0.out, fun j hj => by omega, fun j _ => rfl, HT0.out, HC0.out⟩
      case round =>
        obtain ⟨k, cv, hk, rfl, hg, hb, hr, ht, hc, hrest, hl, hlc⟩ := hrel
        have HGr := Lib.hid hg; clear hg
        have HBr := Lib.hid hb; clear hb
        have HRr := Lib.hid hr; clear hr
        have HTr := Lib.hid ht; clear ht
        have HLr := Lib.hid hl; clear hl
        have HCr := Lib.hid hc; clear hc
        have HRest := Lib.hid hrest; clear hrest
        clear HB0 HR0 HG0 HT0 HL0
        have HLC2 := Lib.hid hlc; clear hlc HC0
        by_cases hlt : k < X.ln
        · have k70 : (X.ln : Int) ≤ 70 := by have := HSM.out.l; omega
          have k0 : (0 : Int) ≤ (k : Int) := by omega
          have kn : (k : Int) < (X.ln : Int) := by omega
          obtain ⟨b, cap, hTB, hbB, hbl⟩ := HTr.out.form (by omega)
          obtain ⟨rfl, rfl⟩ : LB = some ⟨b, 0, none⟩ ∧ ld = cap := by simpa using hTB
          clear hTB
          obtain ⟨CA, ca, hcv, hc1, hc2⟩ := HLC.out k hlt
          have HCV := Lib.hid ((HRest.out k (Nat.le_refl _)).trans hcv)
          have HC5 := Lib.hid (show wr.cell? ⟨b, k * 2 + 1, none⟩ = some (.slice CA (X.L k).cn ca) by
            have h := HTr.out.cells (g := b) rfl (k * 2 + 1) (cv k) ((row_get (ln_len X.L cv) k 1 (by omega) X.ln hlt).trans rfl)
            rw [add_succ'] at h
            rw [← HCV.out]
            simpa using h)
          have HCD := Lib.hid (show CodeAt wr CA (X.L k).cn (X.L k).C from RowAt.grow hc2 HGr.out)
          clear hcv hc1 hc2
          go_wp2_with fail
          refine wp_region_rel_tail 10 _ Grow (fun a wQ => Grow wr wQ) [([(1, none)], none), ([(38, some 0)], none), ([(4, none)], none), ([(1, none)], none), ([(41, some 0)], none), ([(4, none)], none), ([(42, some 1), (43, some 0)], none), ([(44, some 0)], none), ([(45, some 0)], none), ([(46, some 0)], none)] (by kernel_rfl) (by kernel_rfl) (by kernel_rfl) (Grow.drewN wr 1) ?_
          (refine relT_pure ?_; apply Exists.intro; refine ⟨fun aR wQ hF hk => ?_, ?_⟩; focus (refine relT_none fun K hK => ?_; (try simp at hk); go_simp; exact hK _ _ (Grow.refl _) hF rfl))
          (refine relT_pure ?_; apply Exists.intro; refine ⟨fun aR wQ hF hk => ?_, ?_⟩; focus (refine relT_none fun K hK => ?_; (try simp at hk); have d := cell_block (hF.at HBr.out) 1; simp at d; go_simp; exact hK _ _ (Grow.refl _) hF rfl))
          (refine relT_pure ?_; apply Exists.intro; refine ⟨fun aR wQ hF hk => ?_, ?_⟩; focus (refine relT_none fun K hK => ?_; (try simp at hk); go_simp; exact hK _ _ (Grow.refl _) hF rfl))
          (refine relT_pure ?_; apply Exists.intro; refine ⟨fun aR wQ hF hk => ?_, ?_⟩; focus (refine relT_none fun K hK => ?_; (try simp at hk); go_simp; exact hK _ _ (Grow.refl _) hF rfl))
          (refine relT_pure ?_; apply Exists.intro; refine ⟨fun aR wQ hF hk => ?_, ?_⟩; focus (refine relT_none fun K hK => ?_; (try simp at hk); have d := cell_block (hF.at HBr.out) 1; simp at d; go_simp; exact hK _ _ (Grow.refl _) hF rfl))
          (refine relT_pure ?_; apply Exists.intro; refine ⟨fun aR wQ hF hk => ?_, ?_⟩; focus (refine relT_none fun K hK => ?_; (try simp at hk); go_simp; exact hK _ _ (Grow.refl _) hF rfl))
          (refine relT_pure ?_; apply Exists.intro; refine ⟨fun aR wQ hF hk => ?_, ?_⟩; focus (refine relT_none fun K hK => ?_; (try simp at hk); go_simp; exact hK _ _ (Grow.refl _) hF rfl))
          (refine relT_pure ?_; apply Exists.intro; refine ⟨fun aR wQ hF hk => ?_, ?_⟩; focus (refine relT_none fun K hK => ?_; (try simp at hk); go_simp; exact hK _ _ (Grow.refl _) hF rfl))
          (refine relT_pure ?_; apply Exists.intro; refine ⟨fun aR wQ hF hk => ?_, ?_⟩; focus (refine relT_none fun K hK => ?_; (try simp at hk); have d := (Below.cell hF (cell_lt HC5.out)).trans HC5.out; go_simp; exact hK _ _ (Grow.refl _) hF rfl))
          (refine relT_some (fun v wv => OwnCode wv w.heap.size v (X.L k).cn (X.L k).C) (fun v w1 w2 hg h => own_grow h hg) (fun aR wQ hF hk => ?_) ?_; focus (refine relT_none fun K hK => ?_; (try simp at hk); go_simp; refine (clone37_any wQ CA (X.L k).cn ca (fun j => insL ((X.L k).C j)) (insL_len (X.L k).C) (ins_ones (X.L k).C) (by have := HSM.out.lc k hlt; omega) (RowAt.grow HCD.out hF)).mono ?_; rintro e w' ⟨v, rfl, hown, hg⟩; exact hK _ _ hg (hF.trans hg) (own_mono hown ((HGr.out.trans hF).size))))
          refine relT_done fun wR => ?_
          refine fun v hv => ?_; obtain rfl : v = _ := hv
          refine fun v hv => ?_; obtain rfl : v = _ := hv
          refine fun v hv => ?_; obtain rfl : v = _ := hv
          refine fun v hv => ?_; obtain rfl : v = _ := hv
          refine fun v hv => ?_; obtain rfl : v = _ := hv
          refine fun v hv => ?_; obtain rfl : v = _ := hv
          refine fun v hv => ?_; obtain rfl : v = _ := hv
          refine fun v hv => ?_; obtain rfl : v = _ := hv
          refine fun v hv => ?_; obtain rfl : v = _ := hv
          refine fun v47 hv47 => ?_
          simp only [Act.put, List.setIfInBounds_toArray, List.set_cons_zero, List.set_cons_succ]
          refine relT_nil fun hF => ?_
          simp only [List.drop_succ_cons, List.drop_zero]
          have HFr := Lib.hid hF; clear hF
          have HTf := Lib.hid (own_grow HTr.out HFr.out)
          have HBf := Lib.hid (HFr.out.at HBr.out)
          have hone := own_one hv47
          have HV28 := Lib.hid hv47; clear hv47
          obtain ⟨cur, hcur, hcs⟩ := own_block HTf.out
          have HCU := Lib.hid hcur; clear hcur
          have hix : k * 2 + 1 < cur.size := by rw [hcs]; have : (k + 1) * 2 ≤ ld * 2 := Nat.mul_le_mul_right 2 (by omega); omega
          have HIX := Lib.hid hix; clear hix
          have HCS := Lib.hid hcs; clear hcs
          have HONE := Lib.hid hone; clear hone
          have b0 : wR.cell? ⟨w.heap.size, 1, none⟩ = some (.slice (some ⟨b, 0, none⟩) X.ln ld) := cell_block HBf.out 1
          go_wp2_with (first
            | ((with_reducible refine store_in rfl 65 _ _ rfl b (k * 2 + 1) 192 cur (cur.setIfInBounds (k * 2 + 1) v47) v47 info65s HCU.out HONE.out ?_ ?_ HIX.out rfl ?_); (· rfl); (· rfl); intro wa hwa hba hoa))
          have hne0 : w.heap.size ≠ b := ty_ne HBf.out HCU.out (by decide)
          have hne1 : w.heap.size + 1 ≠ b := ty_ne (HFr.out.at HRr.out) HCU.out (by decide)
          have HGa := Lib.hid ((HGr.out.trans HFr.out).only hoa hbB)
          have HBa := Lib.hid (hoa.at hne0 HBf.out)
          have HRa := Lib.hid (hoa.at hne1 (HFr.out.at HRr.out))
          have HTa := Lib.hid (show OwnLines wa w.heap.size (.slice (some ⟨b, 0, none⟩) X.ln ld) X.ln X.L (fun j => if j = k then v47 else cv j) from by
            have h := own_set HTf.out HCU.out hba hoa (by have : (k + 1) * 2 ≤ X.ln * 2 := Nat.mul_le_mul_right 2 (by omega); omega)
            rw [row_set (ln_len X.L cv) k 1 (by omega) v47 X.ln hlt] at h
            have e : (fun j => if j = k then (lnL (X.L k) (cv k)).set 1 v47 else lnL (X.L j) (cv j)) = fun j => lnL (X.L j) (if j = k then v47 else cv j) := by
              funext j
              by_cases e : j = k
              · subst e; rw [if_pos rfl, if_pos rfl]; rfl
              · rw [if_neg e, if_neg e]
            rw [e] at h
            exact h)
          have HCa := Lib.hid (show ∀ j, j < k + 1 → OwnCode wa w.heap.size (if j = k then v47 else cv j) (X.L j).cn (X.L j).C from fun j hj => by
            by_cases e : j = k
            · subst e; rw [if_pos rfl]; exact own_only HV28.out hoa HCU.out (by decide)
            · rw [if_neg e]; exact own_only (own_grow (HCr.out j (by omega)) HFr.out) hoa HCU.out (by decide))
          have HRa2 := Lib.hid (show ∀ j, k + 1 ≤ j → (if j = k then v47 else cv j) = lcv j from fun j hj => by rw [if_neg (by omega)]; exact HRest.out j (by omega))
          have HLa := Lib.hid (show OwnTasks wa w.heap.size (.slice TB X.tn td) X.tn X.T tv from own_only (own_grow HLr.out HFr.out) hoa HCU.out (by decide))
          have HLCa := Lib.hid (show ∀ j, j < X.tn → OwnCode wa w.heap.size (tv j) (X.T j).cn (X.T j).C from fun j hj => own_only (own_grow (HLC2.out j hj) HFr.out) hoa HCU.out (by decide))
          clear b0 hwa hba hoa
          go_wp2_with fail
          go_roundw
          case rel => exact ⟨k + 1, fun j => if j = k then v47 else cv j, by omega, by go_num, HGa.out, HBa.out, HRa.out, HTa.out, HCa.out, HRa2.out, HLa.out, HLCa.out⟩
          case measure => simp [intOf]; omega
        · have kn : ¬ (k : Int) < (X.ln : Int) := by omega
          obtain rfl : k = X.ln := by omega
          go_wp2_with fail
          obtain ⟨lv, hlv⟩ : ∃ lv, lv = cv := ⟨_, rfl⟩
          have HT1 := Lib.hid (show OwnLines wr w.heap.size (.slice LB X.ln ld) X.ln X.L lv from by rw [hlv]; exact HTr.out)
          have HC1 := Lib.hid (show ∀ j, j < X.ln → OwnCode wr w.heap.size (lv j) (X.L j).cn (X.L j).C from by rw [hlv]; exact HCr.out)
          clear HTr HCr HRest hlv kn hlt hk
          have hSg : ∀ (w2 : World), Grow wr w2 → MemAt w2 SA X.sn X.S := fun _ h => HS.out.grow (HGr.out.trans h)
          have HSg := Lib.hid hSg; clear hSg
          have hQg : ∀ (w2 : World), Grow wr w2 → MemAt w2 QA X.qn X.Q := fun _ h => HQ.out.grow (HGr.out.trans h)
          have HQg := Lib.hid hQg; clear hQg
          have hMg : ∀ (w2 : World), Grow wr w2 → MemAt w2 MA X.mn X.M := fun _ h => HM.out.grow (HGr.out.trans h)
          have HMg := Lib.hid hMg; clear hMg
          refine wp_region_rel_tail 10 _ Grow (fun a wQ => Grow wr wQ) [([(1, none)], none), ([(51, some 0)], none), ([(52, some 0)], none), ([(1, none)], none), ([(54, some 0)], none), ([(55, some 0)], none), ([(1, none)], none), ([(57, some 0)], none), ([(58, some 0)], none), ([(1, none)], none)] (by kernel_rfl) (by kernel_rfl) (by kernel_rfl) (Grow.drewN wr 1) ?_
          (refine relT_pure ?_; apply Exists.intro; refine ⟨fun aR wQ hF hk => ?_, ?_⟩; focus (refine relT_none fun K hK => ?_; (try simp at hk); go_simp; exact hK _ _ (Grow.refl _) hF rfl))
          (refine relT_pure ?_; apply Exists.intro; refine ⟨fun aR wQ hF hk => ?_, ?_⟩; focus (refine relT_none fun K hK => ?_; (try simp at hk); have d := cell_block (hF.at HBr.out) 3; simp at d; go_simp; exact hK _ _ (Grow.refl _) hF rfl))
          (refine relT_some (fun v wv => OwnNums wv w.heap.size v X.sn X.S) (fun v w1 w2 hg h => own_grow h hg) (fun aR wQ hF hk => ?_) ?_; focus (refine relT_none fun K hK => ?_; (try simp at hk); go_simp; refine (clone24_any wQ SA X.sn sc (fun j => [.int .i64 (X.S j)]) (nm_len X.S) (nm_ones X.S) (by have := HSM.out.s; omega) (MemAt.row (HSg.out _ hF))).mono ?_; rintro e w' ⟨v, rfl, hown, hg⟩; exact hK _ _ hg (hF.trans hg) (own_mono hown ((HGr.out.trans hF).size))))
          (refine relT_pure ?_; apply Exists.intro; refine ⟨fun aR wQ hF hk => ?_, ?_⟩; focus (refine relT_none fun K hK => ?_; (try simp at hk); go_simp; exact hK _ _ (Grow.refl _) hF rfl))
          (refine relT_pure ?_; apply Exists.intro; refine ⟨fun aR wQ hF hk => ?_, ?_⟩; focus (refine relT_none fun K hK => ?_; (try simp at hk); have d := cell_block (hF.at HBr.out) 4; simp at d; go_simp; exact hK _ _ (Grow.refl _) hF rfl))
          (refine relT_some (fun v wv => OwnNums wv w.heap.size v X.qn X.Q) (fun v w1 w2 hg h => own_grow h hg) (fun aR wQ hF hk => ?_) ?_; focus (refine relT_none fun K hK => ?_; (try simp at hk); go_simp; refine (clone24_any wQ QA X.qn qc (fun j => [.int .i64 (X.Q j)]) (nm_len X.Q) (nm_ones X.Q) (by have := HSM.out.q; omega) (MemAt.row (HQg.out _ hF))).mono ?_; rintro e w' ⟨v, rfl, hown, hg⟩; exact hK _ _ hg (hF.trans hg) (own_mono hown ((HGr.out.trans hF).size))))
          (refine relT_pure ?_; apply Exists.intro; refine ⟨fun aR wQ hF hk => ?_, ?_⟩; focus (refine relT_none fun K hK => ?_; (try simp at hk); go_simp; exact hK _ _ (Grow.refl _) hF rfl))
          (refine relT_pure ?_; apply Exists.intro; refine ⟨fun aR wQ hF hk => ?_, ?_⟩; focus (refine relT_none fun K hK => ?_; (try simp at hk); have d := cell_block (hF.at HBr.out) 5; simp at d; go_simp; exact hK _ _ (Grow.refl _) hF rfl))
          (refine relT_some (fun v wv => OwnNums wv w.heap.size v X.mn X.M) (fun v w1 w2 hg h => own_grow h hg) (fun aR wQ hF hk => ?_) ?_; focus (refine relT_none fun K hK => ?_; (try simp at hk); go_simp; refine (clone24_any wQ MA X.mn mc (fun j => [.int .i64 (X.M j)]) (nm_len X.M) (nm_ones X.M) (by have := HSM.out.m; omega) (MemAt.row (HMg.out _ hF))).mono ?_; rintro e w' ⟨v, rfl, hown, hg⟩; exact hK _ _ hg (hF.trans hg) (own_mono hown ((HGr.out.trans hF).size))))
          (refine relT_pure ?_; apply Exists.intro; refine ⟨fun aR wQ hF hk => ?_, ?_⟩; focus (refine relT_none fun K hK => ?_; (try simp at hk); go_simp; exact hK _ _ (Grow.refl _) hF rfl))
          refine relT_done fun wR => ?_
          refine fun v hv => ?_; obtain rfl : v = _ := hv
          refine fun v hv => ?_; obtain rfl : v = _ := hv
          refine fun v53 hv53 => ?_
          refine fun v hv => ?_; obtain rfl : v = _ := hv
          refine fun v hv => ?_; obtain rfl : v = _ := hv
          refine fun v56 hv56 => ?_
          refine fun v hv => ?_; obtain rfl : v = _ := hv
          refine fun v hv => ?_; obtain rfl : v = _ := hv
          refine fun v59 hv59 => ?_
          refine fun v hv => ?_; obtain rfl : v = _ := hv
          simp only [Act.put, List.setIfInBounds_toArray, List.set_cons_zero, List.set_cons_succ]
          refine relT_nil fun hF => ?_
          simp only [List.drop_succ_cons, List.drop_zero]
          have HFr := Lib.hid hF; clear hF
          have hs1 := own_one hv53
          have hq1 := own_one hv56
          have hm1 := own_one hv59
          have HV1 := Lib.hid hv53; clear hv53
          have HV2 := Lib.hid hv56; clear hv56
          have HV3 := Lib.hid hv59; clear hv59
          have HBf := Lib.hid (HFr.out.at HBr.out)
          have HS1 := Lib.hid hs1; clear hs1
          have HQ1 := Lib.hid hq1; clear hq1
          have HM1 := Lib.hid hm1; clear hm1
          go_wp2_with (first
            | ((with_reducible refine store_in rfl 60 _ _ rfl w.heap.size 3 71 _ (cfC (.slice TB X.tn td) (.slice LB X.ln ld) v53 (.slice QA X.qn qc) (.slice MA X.mn mc) X) v53 info60s HBf.out HS1.out ?_ ?_ ?_ ?_ ?_); (· rfl); (· rfl); (· simp); (· rfl); intro wa hwa hba hoa)
            | ((with_reducible refine store_in rfl 60 _ _ rfl w.heap.size 4 71 _ (cfC (.slice TB X.tn td) (.slice LB X.ln ld) v53 v56 (.slice MA X.mn mc) X) v56 info60s hba HQ1.out ?_ ?_ ?_ ?_ ?_); (· rfl); (· rfl); (· simp); (· rfl); intro wb2 hwb2 hbb hob)
            | ((with_reducible refine store_in rfl 60 _ _ rfl w.heap.size 5 71 _ (cfC (.slice TB X.tn td) (.slice LB X.ln ld) v53 v56 v59 X) v59 info60s hbb HM1.out ?_ ?_ ?_ ?_ ?_); (· rfl); (· rfl); (· simp); (· rfl); intro wc hwc hbc hoc)
            | ((with_reducible refine wpList_load_blk rfl 71 _ rfl w.heap.size 71 (cfC (.slice TB X.tn td) (.slice LB X.ln ld) v53 v56 v59 X) _ ?_ hbc Tryz.underlying71 rfl (info71s _ _ _ _ _ X) ?_); (· rfl))
            | ((with_reducible refine wpList_store_blk rfl 71 _ _ rfl (w.heap.size + 1) 71 _ (cfC (.slice TB X.tn td) (.slice LB X.ln ld) v53 v56 v59 X) ?_ ?_ (((hoa.trans hob).trans hoc).at (show w.heap.size + 1 ≠ w.heap.size by omega) (HFr.out.at HRr.out)) ?_ (info71s _ _ _ _ _ X) ?_ ?_); (· rfl); (· rfl); (· rfl); (· exact ones28 X rfl rfl HS1.out HQ1.out HM1.out); intro wd hbd hod))
          have HO3 := Lib.hid ((hoa.trans hob).trans hoc)
          refine bodyPost_ret (v := .agg (cfC (.slice TB X.tn td) (.slice LB X.ln ld) v53 v56 v59 X)) (results_cell_row rfl _ _ (w.heap.size + 1) 71 _ (0, 0) _ (by rfl) hbd Tryz.underlying71 rfl (info71s _ _ _ _ _ X)) rfl ⟨_, _, _, _, _, rfl, ?_, ((HGr.out.trans HFr.out).only HO3.out (Nat.le_refl _)).only hod (by omega)⟩
          have HBc := Lib.hid hbc
          have HB2 := Lib.hid (HO3.out.at (show w.heap.size + 1 ≠ w.heap.size by omega) (HFr.out.at HRr.out))
          exact ⟨⟨tv, own_only (own_only (own_grow HLr.out HFr.out) HO3.out HBf.out (by decide)) hod HB2.out (by decide), fun j hj => own_only (own_only (own_grow (HLC2.out j hj) HFr.out) HO3.out HBf.out (by decide)) hod HB2.out (by decide)⟩,
            ⟨lv, own_only (own_only (own_grow HT1.out HFr.out) HO3.out HBf.out (by decide)) hod HB2.out (by decide), fun j hj => own_only (own_only (own_grow (HC1.out j hj) HFr.out) HO3.out HBf.out (by decide)) hod HB2.out (by decide)⟩,
            own_only (own_only HV1.out HO3.out HBf.out (by decide)) hod HB2.out (by decide), own_only (own_only HV2.out HO3.out HBf.out (by decide)) hod HB2.out (by decide), own_only (own_only HV3.out HO3.out HBf.out (by decide)) hod HB2.out (by decide)⟩
end Go.Proofs.YtnhmdinpfcoebaaGreatDoor.Sy
end

/-! === CfSysB -/
section
/- What is wrong with tasks and lines: the walk. -/
namespace Go.Proofs.YtnhmdinpfcoebaaGreatDoor.Sy
open Go.RowKit
set_option linter.unusedVariables false
set_option linter.unusedSimpArgs false
set_option maxRecDepth 100000
attribute [local irreducible] inB codeP taskP lineP
theorem ok_lits {f : Ft} (hc : Clean f) (h : f.e = 0) : f = ⟨0, 0, 0, 0⟩ := hc h
set_option maxHeartbeats 8000000 in
theorem progs_any (w : World) (TA LA : Option Addr) (tc lc : Nat) (sv qv mv : Value) (tcv lcv : Nat → Value) (X : Cf)
    (hT : RowAt w TA X.tn 6 (fun j => tkL (X.T j) (tcv j))) (hTC : ∀ j, j < X.tn → CodeV w (tcv j) (X.T j).cn (X.T j).C) (hL : RowAt w LA X.ln 2 (fun j => lnL (X.L j) (lcv j))) (hLC : ∀ j, j < X.ln → CodeV w (lcv j) (X.L j).cn (X.L j).C) :
    Calls Tryz.prog 105 #[.agg (cfC (.slice TA X.tn tc) (.slice LA X.ln lc) sv qv mv X)] w fun r w' => r = .returned (.agg (faultC (progP X))) ∧ Grow w w' := by
  have HT := Lib.hid hT; clear hT
  have HTC := Lib.hid hTC; clear hTC
  have HL := Lib.hid hL; clear hL
  have HLC := Lib.hid hLC; clear hLC
  by_cases hn : 64 < X.tn
  · have hn2 : (64 : Int) < X.tn := by omega
    rw [fault_eq (show progP X = ⟨4, 1, 0, 0⟩ by simp [progP, tasksP, hn, orF])]
    go_enter Tryz.func105, Tryz.ntmps105
    go_wp2
    refine bodyPost_ret (v := .agg #[.int .i64 4, .int .i64 1, .int .i64 0, .int .i64 0]) (results_cell_row rfl _ _ (w.heap.size + 1) 131 _ (0, 0) _ (by rfl) (heap_alloc2_new w _ _) Tryz.underlying131 rfl info131) rfl ⟨rfl, (Grow.alloc _ _).trans (Grow.alloc _ _)⟩
  have hn2 : ¬ (64 : Int) < X.tn := by omega
  have HE := Lib.hid (show tasksP X.tn X.T = firstF (fun j => taskP (X.T j) j) X.tn by simp [tasksP, hn])
  go_enter Tryz.func105, Tryz.ntmps105
  go_wp2_with fail
  have hX : (((w.alloc (.cells (cfC (.slice TA X.tn tc) (.slice LA X.ln lc) sv qv mv X) 71)).alloc (.cells zeroF 131))).heap[w.heap.size]? = some (.cells (cfC (.slice TA X.tn tc) (.slice LA X.ln lc) sv qv mv X) 71 (0, 0)) := (heapAt_alloc_old _ _ (by simp)).trans (heapAt_alloc_new w _)
  have hR : (((w.alloc (.cells (cfC (.slice TA X.tn tc) (.slice LA X.ln lc) sv qv mv X) 71)).alloc (.cells zeroF 131))).heap[w.heap.size + 1]? = some (.cells zeroF 131 (0, 0)) := heap_alloc2_new w _ _
  have hG : Grow w (((w.alloc (.cells (cfC (.slice TA X.tn tc) (.slice LA X.ln lc) sv qv mv X) 71)).alloc (.cells zeroF 131))) := (Grow.alloc _ _).trans (Grow.alloc _ _)
  generalize ((w.alloc (.cells (cfC (.slice TA X.tn tc) (.slice LA X.ln lc) sv qv mv X) 71)).alloc (.cells zeroF 131)) = w1 at hX hR hG ⊢
  have HX := Lib.hid hX; clear hX
  have HR := Lib.hid hR; clear hR
  have HG := Lib.hid hG; clear hG
  go_loopw [18, 3, 4, 5] (fun x _ _ _ wr => ∃ k : Nat, k ≤ X.tn ∧ x = .int .i64 k ∧ (∀ j, j < k → taskP (X.T j) j = okF) ∧ Grow w1 wr) (fun x _ _ _ _ => X.tn - (intOf x).toNat)
  case atStart => exact ⟨0, by omega, rfl, fun j hj => by omega, Grow.refl _⟩
  case round =>
    obtain ⟨k, hk, rfl, he, hg⟩ := hrel
    have HK := Lib.hid he; clear he
    by_cases hlt : k < X.tn
    · obtain ⟨ta, hTA, c0, c1, c2, c3, c4, c5⟩ := tasks_at ((HT.out.grow HG.out).grow hg) k hlt
      rw [hTA]
      clear hTA
      have k0 : (0 : Int) ≤ (k : Int) := by omega
      have kn : (k : Int) < (X.tn : Int) := by omega
      obtain ⟨CA, ccap, hcv, hc1, hc2⟩ := HTC.out k hlt
      rw [hcv] at c5
      clear hcv
      have HGr := Lib.hid (hg.trans (Grow.alloc wr (.cells #[.int .i64 (X.T k).lv, .int .i64 (X.T k).off, .int .i64 (X.T k).per, .int .i64 (X.T k).dl, .int .i64 (X.T k).mem, .slice CA (X.T k).cn ccap] 67))); clear hg
      have HCV := Lib.hid (show CodeV (wr.alloc (.cells #[.int .i64 (X.T k).lv, .int .i64 (X.T k).off, .int .i64 (X.T k).per, .int .i64 (X.T k).dl, .int .i64 (X.T k).mem, .slice CA (X.T k).cn ccap] 67)) (.slice CA (X.T k).cn ccap) (X.T k).cn (X.T k).C from CodeV.grow ⟨CA, ccap, rfl, hc1, hc2⟩ (HG.out.trans HGr.out))
      clear hc1 hc2
      go_wp2_with fail
      by_cases hz : (taskP (X.T k) k).e = 0
      · have HO := Lib.hid (ok_lits (clean_task _ _) hz)
        have hp := task_any (wr.alloc (.cells #[.int .i64 (X.T k).lv, .int .i64 (X.T k).off, .int .i64 (X.T k).per, .int .i64 (X.T k).dl, .int .i64 (X.T k).mem, .slice CA (X.T k).cn ccap] 67)) (X.T k) (.slice CA (X.T k).cn ccap) k HCV.out
        rw [fault_eq HO.out] at hp
        refine hp.mono ?_
        clear hp c0 c1 c2 c3 c4 c5 hz
        rintro _ w2 ⟨rfl, hg2⟩
        have HG2 := Lib.hid ((HGr.out.trans hg2).trans (Grow.alloc w2 (.cells zeroF 131))); clear HGr hg2
        have HK2 := Lib.hid (show ∀ j : Nat, j < k + 1 → taskP (X.T j) j = okF from fun j hj => by
            rcases Nat.lt_succ_iff_lt_or_eq.1 hj with h | h
            · exact HK.out j h
            · rw [h]; exact HO.out)
        go_wp2_with fail
        go_roundw
        case rel => exact ⟨k + 1, by omega, by go_num, HK2.out, HG2.out⟩
        case measure => simp [intOf]; omega
      · have HQ := Lib.hid (show progP X = taskP (X.T k) k by
          have h := HE.out.trans (first_hit (fun j : Nat => taskP (X.T j) j) k HK.out hz X.tn hlt)
          rw [progP, h, orF, if_neg (show ¬ ((fun j : Nat => taskP (X.T j) j) k).e = 0 from hz)])
        have hp := task_any (wr.alloc (.cells #[.int .i64 (X.T k).lv, .int .i64 (X.T k).off, .int .i64 (X.T k).per, .int .i64 (X.T k).dl, .int .i64 (X.T k).mem, .slice CA (X.T k).cn ccap] 67)) (X.T k) (.slice CA (X.T k).cn ccap) k HCV.out
        generalize taskP (X.T k) k = f at *
        obtain ⟨e, p, i, a⟩ := f
        have hz2 : (e != 0) = true := by simpa using hz
        clear hz
        refine hp.mono ?_
        clear hp c0 c1 c2 c3 c4 c5
        rintro _ w2 ⟨rfl, hg2⟩
        have HG2 := Lib.hid (HGr.out.trans hg2); clear HGr hg2
        have HR2 := Lib.hid ((heapAt_alloc_old w2 (.cells #[.int .i64 e, .int .i64 p, .int .i64 i, .int .i64 a] 131) (heapAt_lt (HG2.out.at HR.out))).trans (HG2.out.at HR.out))
        have HN2 := Lib.hid (heapAt_alloc_new w2 (.cells #[.int .i64 e, .int .i64 p, .int .i64 i, .int .i64 a] 131))
        have HG3 := Lib.hid (HG2.out.trans (Grow.alloc w2 (.cells #[.int .i64 e, .int .i64 p, .int .i64 i, .int .i64 a] 131)))
        go_wp2_with (first
          | ((with_reducible refine load33 rfl _ rfl w2.heap.size ?_ HN2.out ?_); (· rfl))
          | ((with_reducible refine store33 rfl _ _ rfl (w.heap.size + 1) e p i a ?_ ?_ HR2.out ?_); (· rfl); (· rfl); intro w5 hb5 ho5))
        rw [fault_eq HQ.out]
        refine bodyPost_ret (v := .agg #[.int .i64 e, .int .i64 p, .int .i64 i, .int .i64 a]) (results_cell_row rfl _ _ (w.heap.size + 1) 131 _ (0, 0) _ (by rfl) hb5 Tryz.underlying131 rfl info131) rfl ⟨rfl, (HG.out.trans HG3.out).only ho5 (by omega)⟩
    · have kn : ¬ (k : Int) < (X.tn : Int) := by omega
      have HQ := Lib.hid (show tasksP X.tn X.T = okF from HE.out.trans (first_none _ X.tn (fun j hj => HK.out j (by omega))))
      have HGe := Lib.hid (HG.out.trans hg)
      have hX := hg.at HX.out
      have HR2 := Lib.hid (hg.at HR.out)
      clear HR HX HT HTC HG hg HE HK
      have HX2 := Lib.hid hX
      have d1 := cell_block hX 1
      simp at d1
      clear hX
      by_cases hm : 16 < X.ln
      · have hm2 : (16 : Int) < X.ln := by omega
        have HQ2 := Lib.hid (show progP X = ⟨4, 2, 0, 0⟩ by simp [progP, HQ.out, linesP, hm, orF, okF])
        go_wp2_with (first
          | ((with_reducible refine store33 rfl _ _ rfl (w.heap.size + 1) 4 2 0 0 ?_ ?_ HR2.out ?_); (· rfl); (· rfl); intro w5 hb5 ho5))
        rw [fault_eq HQ2.out]
        refine bodyPost_ret (v := .agg #[.int .i64 4, .int .i64 2, .int .i64 0, .int .i64 0]) (results_cell_row rfl _ _ (w.heap.size + 1) 131 _ (0, 0) _ (by rfl) hb5 Tryz.underlying131 rfl info131) rfl ⟨rfl, HGe.out.only ho5 (by omega)⟩
      have hm2 : ¬ (16 : Int) < X.ln := by omega
      have HE := Lib.hid (show progP X = firstF (fun j => lineP (X.L j) j) X.ln by simp [progP, HQ.out, linesP, hm, orF, okF])
      go_wp2_with fail
      clear d1
      go_loopw [39, 6, 7, 8, 9] (fun x _ _ _ _ wq => ∃ k : Nat, k ≤ X.ln ∧ x = .int .i64 k ∧ (∀ j, j < k → lineP (X.L j) j = okF) ∧ Grow wr wq) (fun x _ _ _ _ _ => X.ln - (intOf x).toNat)
      case atStart => exact ⟨0, by omega, rfl, fun j hj => by omega, Grow.refl _⟩
      case round =>
        obtain ⟨k2, hk2, rfl, he, hg⟩ := hrel
        have HK := Lib.hid he; clear he
        by_cases hlt : k2 < X.ln
        · obtain ⟨ta, hTA, c0, c1⟩ := lines_at ((HL.out.grow HGe.out).grow hg) k2 hlt
          rw [hTA]
          clear hTA
          have k0 : (0 : Int) ≤ (k2 : Int) := by omega
          have kn : (k2 : Int) < (X.ln : Int) := by omega
          obtain ⟨CA, ccap, hcv, hc1, hc2⟩ := HLC.out k2 hlt
          rw [hcv] at c1
          clear hcv
          have HGr := Lib.hid (hg.trans ((Grow.alloc wr (.cells #[.int .i64 (X.L k2).mem, .slice CA (X.L k2).cn ccap] 192)).trans (Grow.alloc _ (.cells #[.int .i64 5, .int .i64 2, .int .i64 k2, .int .i64 1] 131)))); clear hg
          have HC := Lib.hid (show CodeAt ((wr.alloc (.cells #[.int .i64 (X.L k2).mem, .slice CA (X.L k2).cn ccap] 192)).alloc (.cells #[.int .i64 5, .int .i64 2, .int .i64 k2, .int .i64 1] 131)) CA (X.L k2).cn (X.L k2).C from RowAt.grow hc2 (HGe.out.trans HGr.out))
          clear hc1 hc2
          have HR3 := Lib.hid (HGr.out.at HR2.out)
          have HF := Lib.hid (show ((wr.alloc (.cells #[.int .i64 (X.L k2).mem, .slice CA (X.L k2).cn ccap] 192)).alloc (.cells #[.int .i64 5, .int .i64 2, .int .i64 k2, .int .i64 1] 131)).heap[wr.heap.size + 1]? = some (.cells #[.int .i64 5, .int .i64 2, .int .i64 k2, .int .i64 1] 131 (0, 0)) from heap_alloc2_new wr _ _)
          have hM := (heapAt_alloc_old (wr.alloc (.cells #[.int .i64 (X.L k2).mem, .slice CA (X.L k2).cn ccap] 192)) (.cells #[.int .i64 5, .int .i64 2, .int .i64 k2, .int .i64 1] 131) (by simp)).trans (heapAt_alloc_new wr (.cells #[.int .i64 (X.L k2).mem, .slice CA (X.L k2).cn ccap] 192))
          have e0 := cell_block hM 0
          have e1 := cell_block hM 1
          simp at e0 e1
          clear hM
          have hg1 : w.heap.size + 1 < wr.heap.size + 2 := by
            have := heapAt_lt HR3.out; simpa using this
          go_wp2_with fail
          refine (rng_any _ (X.L k2).mem 0 256 _ rfl).mono ?_
          rintro _ _ ⟨rfl, rfl⟩
          clear c0 c1
          cases hb : inB (X.L k2).mem 0 256
          · have HQ2 := Lib.hid (show progP X = ⟨5, 2, k2, 1⟩ by
              have hl : lineP (X.L k2) k2 = ⟨5, 2, k2, 1⟩ := by unfold lineP; rw [if_pos hb]
              have h := HE.out.trans (first_hit (fun j : Nat => lineP (X.L j) j) k2 HK.out (by simp [hl]) X.ln hlt)
              rw [h]; exact hl)
            clear hb
            go_wp2_with (first
              | ((with_reducible refine load33 rfl _ rfl (wr.heap.size + 1) ?_ HF.out ?_); (· rfl))
              | ((with_reducible refine store33 rfl _ _ rfl (w.heap.size + 1) 5 2 k2 1 ?_ ?_ HR3.out ?_); (· rfl); (· rfl); intro w5 hb5 ho5))
            rw [fault_eq HQ2.out]
            refine bodyPost_ret (v := .agg #[.int .i64 5, .int .i64 2, .int .i64 k2, .int .i64 1]) (results_cell_row rfl _ _ (w.heap.size + 1) 131 _ (0, 0) _ (by rfl) hb5 Tryz.underlying131 rfl info131) rfl ⟨rfl, (HGe.out.trans HGr.out).only ho5 (by omega)⟩
          · have hl : lineP (X.L k2) k2 = codeP (X.L k2).cn (X.L k2).C true 2 k2 2 := by unfold lineP; rw [if_neg (by rw [hb]; simp)]
            have hp := code_any ((wr.alloc (.cells #[.int .i64 (X.L k2).mem, .slice CA (X.L k2).cn ccap] 192)).alloc (.cells #[.int .i64 5, .int .i64 2, .int .i64 k2, .int .i64 1] 131)) CA (X.L k2).cn ccap (X.L k2).C true 5 2 k2 1 2 (by omega) (by omega) HC.out
            rw [← hl] at hp
            clear hb hl
            go_wp2_with (first
              | ((with_reducible refine load33 rfl _ rfl (wr.heap.size + 1) ?_ HF.out ?_); (· rfl)))
            clear e0 e1
            by_cases hz : (lineP (X.L k2) k2).e = 0
            · have HO := Lib.hid (ok_lits (clean_line _ _) hz)
              rw [fault_eq HO.out] at hp
              refine hp.mono ?_
              clear hp hz
              rintro _ w2 ⟨rfl, hg2⟩
              have HG2 := Lib.hid ((HGr.out.trans hg2).trans (Grow.alloc w2 (.cells zeroF 131))); clear hg2
              have HK2 := Lib.hid (show ∀ j : Nat, j < k2 + 1 → lineP (X.L j) j = okF from fun j hj => by
                  rcases Nat.lt_succ_iff_lt_or_eq.1 hj with h | h
                  · exact HK.out j h
                  · rw [h]; exact HO.out)
              go_wp2_with fail
              go_roundw
              case rel => exact ⟨k2 + 1, by omega, by go_num, HK2.out, HG2.out⟩
              case measure => simp [intOf]; omega
            · have HQ2 := Lib.hid (show progP X = lineP (X.L k2) k2 from HE.out.trans (first_hit (fun j : Nat => lineP (X.L j) j) k2 HK.out hz X.ln hlt))
              generalize lineP (X.L k2) k2 = f at *
              obtain ⟨e, p, i, a⟩ := f
              have hz2 : (e != 0) = true := by simpa using hz
              clear hz
              refine hp.mono ?_
              clear hp
              rintro _ w2 ⟨rfl, hg2⟩
              have HG2 := Lib.hid (HGr.out.trans hg2); clear hg2
              have HR4 := Lib.hid ((heapAt_alloc_old w2 (.cells #[.int .i64 e, .int .i64 p, .int .i64 i, .int .i64 a] 131) (heapAt_lt (HG2.out.at HR2.out))).trans (HG2.out.at HR2.out))
              have HN2 := Lib.hid (heapAt_alloc_new w2 (.cells #[.int .i64 e, .int .i64 p, .int .i64 i, .int .i64 a] 131))
              have HG3 := Lib.hid (HG2.out.trans (Grow.alloc w2 (.cells #[.int .i64 e, .int .i64 p, .int .i64 i, .int .i64 a] 131)))
              go_wp2_with (first
                | ((with_reducible refine load33 rfl _ rfl w2.heap.size ?_ HN2.out ?_); (· rfl))
                | ((with_reducible refine store33 rfl _ _ rfl (w.heap.size + 1) e p i a ?_ ?_ HR4.out ?_); (· rfl); (· rfl); intro w5 hb5 ho5))
              rw [fault_eq HQ2.out]
              refine bodyPost_ret (v := .agg #[.int .i64 e, .int .i64 p, .int .i64 i, .int .i64 a]) (results_cell_row rfl _ _ (w.heap.size + 1) 131 _ (0, 0) _ (by rfl) hb5 Tryz.underlying131 rfl info131) rfl ⟨rfl, (HGe.out.trans HG3.out).only ho5 (by omega)⟩
        · have kn : ¬ (k2 : Int) < (X.ln : Int) := by omega
          have HQ2 := Lib.hid (show progP X = okF from HE.out.trans (first_none _ X.ln (fun j hj => HK.out j (by omega))))
          have HR3 := Lib.hid (hg.at HR2.out)
          have HGz := Lib.hid (HGe.out.trans hg); clear hg
          go_wp2_with (first
            | ((with_reducible refine store33 rfl _ _ rfl (w.heap.size + 1) 0 0 0 0 ?_ ?_ HR3.out ?_); (· rfl); (· rfl); intro w5 hb5 ho5))
          rw [fault_eq HQ2.out]
          refine bodyPost_ret (v := .agg zeroF) (results_cell_row rfl _ _ (w.heap.size + 1) 131 _ (0, 0) _ (by rfl) hb5 Tryz.underlying131 rfl info131) rfl ⟨rfl, HGz.out.only ho5 (by omega)⟩
end Go.Proofs.YtnhmdinpfcoebaaGreatDoor.Sy
end
