/- Copies apart: blocks a system owns; what a cell's change makes of it. No program in sight. -/
import Derived.Test.YtmmbhjomgpnklaaCopy
import Derived.Test.YtmmbhjomgpnklaaCheck
import Derived.Test.YtmmbhjomgpnklaaRefCheck
import Derived.Test.YtmmbhjomgpnklaaSame
import Derived.Test.YtmmbhjomgpnklaaSameR
namespace Go.Proofs.Ytmmbhjomgpnklaa
open Go.RowKit
set_option linter.unusedVariables false
set_option linter.unusedSimpArgs false
def InP (P : Nat → Prop) (v : Value) : Prop := ∀ g, v.ownBlock = some g → P g
theorem own_keep {w w' : World} {B s n : Nat} {e : TypeId} {v : Value} {xs : List Value} (h : w.ownsRow B e s v n xs) (hk : ∀ g, v.ownBlock = some g → w'.heap[g]? = w.heap[g]?) : w'.ownsRow B e s v n xs := by
  refine ⟨h.1, ?_⟩
  rcases h.2 with h2 | ⟨g, cap, cur, h1, hB, hb, h3, h4, h5, h6⟩
  · exact .inl h2
  · exact .inr ⟨g, cap, cur, h1, hB, (hk g (by rw [h1]; rfl)).trans hb, h3, h4, h5, h6⟩
/-- A system that owns blocks of P. -/
structure ConfP (P : Nat → Prop) (w : World) (tv lv sv qv mv : Value) (X : Cf) : Prop where
  t : ∃ cv, OwnTasks w 0 tv X.tn X.T cv ∧ InP P tv ∧ ∀ j, j < X.tn → OwnCode w 0 (cv j) (X.T j).cn (X.T j).C ∧ InP P (cv j)
  l : ∃ cv, OwnLines w 0 lv X.ln X.L cv ∧ InP P lv ∧ ∀ j, j < X.ln → OwnCode w 0 (cv j) (X.L j).cn (X.L j).C ∧ InP P (cv j)
  s : OwnNums w 0 sv X.sn X.S ∧ InP P sv
  q : OwnNums w 0 qv X.qn X.Q ∧ InP P qv
  m : OwnNums w 0 mv X.mn X.M ∧ InP P mv
theorem ConfP.keep {P : Nat → Prop} {w w' : World} {tv lv sv qv mv : Value} {X : Cf} (h : ConfP P w tv lv sv qv mv X) (hk : ∀ g, P g → w'.heap[g]? = w.heap[g]?) : ConfP P w' tv lv sv qv mv X := by
  obtain ⟨⟨c1, t1, t2, t3⟩, ⟨c2, l1, l2, l3⟩, ⟨s1, s2⟩, ⟨q1, q2⟩, m1, m2⟩ := h
  exact ⟨⟨c1, own_keep t1 fun g hg => hk g (t2 g hg), t2, fun j hj => ⟨own_keep (t3 j hj).1 fun g hg => hk g ((t3 j hj).2 g hg), (t3 j hj).2⟩⟩,
    ⟨c2, own_keep l1 fun g hg => hk g (l2 g hg), l2, fun j hj => ⟨own_keep (l3 j hj).1 fun g hg => hk g ((l3 j hj).2 g hg), (l3 j hj).2⟩⟩,
    ⟨own_keep s1 fun g hg => hk g (s2 g hg), s2⟩, ⟨own_keep q1 fun g hg => hk g (q2 g hg), q2⟩, own_keep m1 fun g hg => hk g (m2 g hg), m2⟩
theorem ConfP.only {P : Nat → Prop} {w w' : World} {b : Nat} {tv lv sv qv mv : Value} {X : Cf} (h : ConfP P w tv lv sv qv mv X) (ho : Only b w w') (hb : ¬ P b) (hlt : ∀ g, P g → g < w.heap.size) : ConfP P w' tv lv sv qv mv X :=
  h.keep fun g hg => ho.2.2.2.2 g (hlt g hg) (fun e => hb (e ▸ hg))
theorem ConfP.grow {P : Nat → Prop} {w w' : World} {tv lv sv qv mv : Value} {X : Cf} (h : ConfP P w tv lv sv qv mv X) (hg : Grow w w') (hlt : ∀ g, P g → g < w.heap.size) : ConfP P w' tv lv sv qv mv X :=
  h.keep fun g hp => hg.block g (hlt g hp)
/-- What was copied owns what was made. -/
theorem ConfO.parts {w : World} {B : Nat} {tv lv sv qv mv : Value} {X : Cf} (h : ConfO w B tv lv sv qv mv X) : ConfP (fun g => B ≤ g ∧ g < w.heap.size) w tv lv sv qv mv X := by
  obtain ⟨⟨c1, t1, t3⟩, ⟨c2, l1, l3⟩, s1, q1, m1⟩ := h
  exact ⟨⟨c1, own_mono t1 (Nat.zero_le _), t1.lt, fun j hj => ⟨own_mono (t3 j hj) (Nat.zero_le _), (t3 j hj).lt⟩⟩, ⟨c2, own_mono l1 (Nat.zero_le _), l1.lt, fun j hj => ⟨own_mono (l3 j hj) (Nat.zero_le _), (l3 j hj).lt⟩⟩,
    ⟨own_mono s1 (Nat.zero_le _), s1.lt⟩, ⟨own_mono q1 (Nat.zero_le _), q1.lt⟩, own_mono m1 (Nat.zero_le _), m1.lt⟩
theorem code_of_own {w : World} {B n : Nat} {v : Value} {C : Nat → Ins} (h : OwnCode w B v n C) : CodeV w v n C := by
  obtain ⟨A, cap, h1, h2, h3, _⟩ := RowAt.of_own (insL_len C) h
  exact ⟨A, cap, h1, h2, h3⟩
theorem nums_of_own {w : World} {B n : Nat} {v : Value} {M : Nat → Int} (h : OwnNums w B v n M) : NumsV w v n M := by
  obtain ⟨A, cap, h1, h2, h3, _⟩ := RowAt.of_own (nm_len M) h
  exact ⟨A, cap, h1, h2, MemAt.of_row h3⟩
theorem ConfP.reads {P : Nat → Prop} {w : World} {tv lv sv qv mv : Value} {X : Cf} (h : ConfP P w tv lv sv qv mv X) : ConfV w tv lv sv qv mv X := by
  obtain ⟨⟨c1, t1, t2, t3⟩, ⟨c2, l1, l2, l3⟩, ⟨s1, s2⟩, ⟨q1, q2⟩, m1, m2⟩ := h
  refine ⟨?_, ?_, nums_of_own s1, nums_of_own q1, nums_of_own m1⟩
  · obtain ⟨A, cap, h1, h2, h3, _⟩ := RowAt.of_own (tk_len X.T c1) t1
    exact ⟨A, cap, c1, h1, h2, h3, fun j hj => code_of_own (t3 j hj).1⟩
  · obtain ⟨A, cap, h1, h2, h3, _⟩ := RowAt.of_own (ln_len X.L c2) l1
    exact ⟨A, cap, c2, h1, h2, h3, fun j hj => code_of_own (l3 j hj).1⟩
/-! ### Slots whose values own blocks of their own -/
structure Sets (Ok : Nat → (Nat → Prop) → World → Value → Prop) (B : Nat) (S : List Nat) (a : Act) (w : World) : Prop where
  base : B ≤ w.heap.size
  size : ∀ i ∈ S, i < a.tmps.size
  f : ∃ f : Nat → Nat → Prop, (∀ i ∈ S, ∀ g, f i g → B ≤ g ∧ g < w.heap.size) ∧ (∀ i ∈ S, ∀ j ∈ S, i ≠ j → ∀ g, f i g → ¬ f j g) ∧ ∀ i ∈ S, Ok i (f i) w (a.tmps.getD i undef)
theorem put_size (a : Act) (d : Nat) (v : Value) : (a.put (some d) v).tmps.size = a.tmps.size := by simp [Act.put]
theorem Sets.put {Ok : Nat → (Nat → Prop) → World → Value → Prop} {B : Nat} {S : List Nat} {a : Act} {w w' : World} (h : Sets Ok B S a w) (hsz : w.heap.size ≤ w'.heap.size) (d : Nat) (v : Value)
    (hm : ∀ i P u, (∀ g, P g → g < w.heap.size) → Ok i P w u → Ok i P w' u) (hv : Ok d (fun g => w.heap.size ≤ g ∧ g < w'.heap.size) w' v) : Sets Ok B S (a.put (some d) v) w' := by
  obtain ⟨hb, hs, f, h1, h2, h3⟩ := h
  refine ⟨Nat.le_trans hb hsz, fun i hi => by rw [put_size]; exact hs i hi, fun i g => if i = d then w.heap.size ≤ g ∧ g < w'.heap.size else f i g, ?_, ?_, ?_⟩
  · intro i hi g hg
    by_cases e : i = d
    · rw [if_pos e] at hg; omega
    · rw [if_neg e] at hg; have := h1 i hi g hg; omega
  · intro i hi j hj hij g hg hg2
    by_cases e : i = d
    · by_cases e2 : j = d
      · exact hij (e.trans e2.symm)
      · rw [if_pos e] at hg; rw [if_neg e2] at hg2; have := h1 j hj g hg2; omega
    · by_cases e2 : j = d
      · rw [if_neg e] at hg; rw [if_pos e2] at hg2; have := h1 i hi g hg; omega
      · rw [if_neg e] at hg; rw [if_neg e2] at hg2; exact h2 i hi j hj hij g hg hg2
  · intro i hi
    by_cases e : i = d
    · subst e
      rw [getD_put_self a i v (hs i hi)]
      simp only [if_true]; exact hv
    · rw [getD_put_ne _ _ _ _ (fun h => e h.symm)]
      simp only [if_neg e]
      exact hm i _ _ (fun g hg => (h1 i hi g hg).2) (h3 i hi)
theorem Sets.skip {Ok : Nat → (Nat → Prop) → World → Value → Prop} {B : Nat} {S : List Nat} {a : Act} {w w' : World} (h : Sets Ok B S a w) (hsz : w.heap.size ≤ w'.heap.size) (d : Nat) (hd : d ∉ S) (v : Value)
    (hm : ∀ i P u, (∀ g, P g → g < w.heap.size) → Ok i P w u → Ok i P w' u) : Sets Ok B S (a.put (some d) v) w' := by
  obtain ⟨hb, hs, f, h1, h2, h3⟩ := h
  refine ⟨Nat.le_trans hb hsz, fun i hi => by rw [put_size]; exact hs i hi, f, fun i hi g hg => by have := h1 i hi g hg; omega, h2, fun i hi => ?_⟩
  rw [getD_put_ne _ _ _ _ (fun e : d = i => hd (by rw [e]; exact hi))]
  exact hm i _ _ (fun g hg => (h1 i hi g hg).2) (h3 i hi)
theorem Sets.first {Ok : Nat → (Nat → Prop) → World → Value → Prop} (S : List Nat) (a : Act) (w : World) (hs : ∀ i ∈ S, i < a.tmps.size) (h : ∀ i ∈ S, Ok i (fun _ => False) w (a.tmps.getD i undef)) : Sets Ok w.heap.size S a w :=
  ⟨Nat.le_refl _, hs, fun _ _ => False, fun _ _ _ h => h.elim, fun _ _ _ _ _ _ h => h.elim, h⟩
/-- A box, or a system, or nothing yet. -/
def OkS (X : Cf) (boxes : List Nat) (i : Nat) (P : Nat → Prop) (w : World) (v : Value) : Prop :=
  v = undef ∨ if i ∈ boxes then ∃ g, v = .pointer (some ⟨g, 0, none⟩) ∧ P g else ∃ tv lv sv qv mv, v = .agg (cfC tv lv sv qv mv X) ∧ ConfP P w tv lv sv qv mv X
theorem OkS.grow {X : Cf} {boxes : List Nat} {w w' : World} (hg : Grow w w') : ∀ i P u, (∀ g, P g → g < w.heap.size) → OkS X boxes i P w u → OkS X boxes i P w' u := by
  intro i P u hP h
  rcases h with h | h
  · exact .inl h
  · right
    by_cases e : i ∈ boxes
    · rw [if_pos e] at h ⊢; exact h
    · rw [if_neg e] at h ⊢
      obtain ⟨tv, lv, sv, qv, mv, h1, h2⟩ := h
      exact ⟨tv, lv, sv, qv, mv, h1, h2.grow hg hP⟩
/-! ### A cell is changed -/
/-- A system of these sizes, that owns blocks of P. -/
def ConfE (P : Nat → Prop) (w : World) (tv lv sv qv mv : Value) (X : Cf) : Prop :=
  ∃ T L S Q M, (∀ j, (T j).cn = (X.T j).cn) ∧ (∀ j, (L j).cn = (X.L j).cn) ∧ ConfP P w tv lv sv qv mv { X with T := T, L := L, S := S, Q := Q, M := M }
theorem ConfP.any {P : Nat → Prop} {w : World} {tv lv sv qv mv : Value} {X : Cf} (h : ConfP P w tv lv sv qv mv X) : ConfE P w tv lv sv qv mv X := ⟨X.T, X.L, X.S, X.Q, X.M, fun _ => rfl, fun _ => rfl, h⟩
theorem Small.like {X : Cf} (h : Small X) {T : Nat → Tk} {L : Nat → Ln} {S Q M : Nat → Int} (hT : ∀ j, (T j).cn = (X.T j).cn) (hL : ∀ j, (L j).cn = (X.L j).cn) : Small { X with T := T, L := L, S := S, Q := Q, M := M } :=
  ⟨h.t, h.l, h.s, h.q, h.m, fun j hj => by rw [hT]; exact h.tc j hj, fun j hj => by rw [hL]; exact h.lc j hj⟩
theorem choose2 {α : Type} [Inhabited α] {p : Nat → Prop} {q : Nat → α → Prop} (h : ∀ j, p j → ∃ x, q j x) : ∃ f : Nat → α, ∀ j, p j → q j (f j) := by
  have h2 : ∀ j, ∃ x, p j → q j x := fun j => by
    by_cases hp : p j
    · obtain ⟨x, hx⟩ := h j hp; exact ⟨x, fun _ => hx⟩
    · exact ⟨default, fun h => absurd h hp⟩
  obtain ⟨f, hf⟩ := Classical.axiomOfChoice h2
  exact ⟨f, hf⟩
theorem own_not {w w' : World} {g t : Nat} {cs : Array Value} (hb : w.heap[g]? = some (.cells cs t (0, 0))) (ho : Only g w w') {B s n : Nat} {e : TypeId} {v : Value} {xs : List Value} (h : w.ownsRow B e s v n xs) (hne : v.ownBlock ≠ some g) : w'.ownsRow B e s v n xs :=
  own_keep h fun k hk => ho.2.2.2.2 k (h.lt k hk).2 (fun e => hne (e ▸ hk))
/-- A cell of the row's own block is another. -/
theorem own_poke {w w' : World} {g i : Nat} {cur : Array Value} {B s n : Nat} {e : TypeId} {u v : Value} {xs : List Value} (h : w.ownsRow B e s v n xs) (hv : v.ownBlock = some g) (hb : w.heap[g]? = some (.cells cur e (0, 0)))
    (hb' : w'.heap[g]? = some (.cells (cur.setIfInBounds i u) e (0, 0))) : w'.ownsRow B e s v n (xs.set i u) := by
  refine ⟨by rw [List.length_set]; exact h.1, ?_⟩
  rcases h.2 with ⟨h1, _⟩ | ⟨g2, c, cu, h1, hB, hg, h3, h4, h5, h6⟩
  · rw [h1] at hv; simp [Value.ownBlock] at hv
  · have e1 : g2 = g := by rw [h1] at hv; simpa [Value.ownBlock] using hv
    subst e1
    rw [hb] at hg
    injection hg with hg
    injection hg with hg _ _
    subst hg
    exact .inr ⟨_, _, _, h1, hB, hb', h3, h4, by simpa using h5, by rw [Array.toList_setIfInBounds, ← h6, List.take_set]⟩
theorem code_poke {w w' : World} {g k r n : Nat} {cur : Array Value} {u v : Value} {C : Nat → Ins} (h : OwnCode w 0 v n C) (hr : r < 6) (hu : ∀ c, ∃ c', (insL c).set r u = insL c') (hb : w.heap[g]? = some (.cells cur 41 (0, 0)))
    (hb' : w'.heap[g]? = some (.cells (cur.setIfInBounds (k * 6 + r) u) 41 (0, 0))) (ho : Only g w w') : ∃ C', OwnCode w' 0 v n C' := by
  by_cases hv : v.ownBlock = some g
  · have h2 := own_poke h hv hb hb'
    by_cases hk : k < n
    · rw [row_set (insL_len C) k r hr u n hk] at h2
      obtain ⟨c', hc⟩ := hu (C k)
      refine ⟨fun j => if j = k then c' else C j, ?_⟩
      have e : (fun j => if j = k then (insL (C k)).set r u else insL (C j)) = fun j => insL (if j = k then c' else C j) := by
        funext j
        by_cases e : j = k
        · rw [if_pos e, if_pos e, hc]
        · rw [if_neg e, if_neg e]
      rw [e] at h2
      exact h2
    · refine ⟨C, ?_⟩
      rw [List.set_eq_of_length_le (by rw [row_len (insL_len C)]; have : n * 6 ≤ k * 6 := Nat.mul_le_mul_right 6 (by omega); omega)] at h2
      exact h2
  · exact ⟨C, own_not hb ho h hv⟩
theorem nums_poke {w w' : World} {g k n : Nat} {cur : Array Value} {z : Int} {v : Value} {C : Nat → Int} (h : OwnNums w 0 v n C) (hb : w.heap[g]? = some (.cells cur 3 (0, 0)))
    (hb' : w'.heap[g]? = some (.cells (cur.setIfInBounds k (.int .i64 z)) 3 (0, 0))) (ho : Only g w w') : ∃ C', OwnNums w' 0 v n C' := by
  by_cases hv : v.ownBlock = some g
  · have h2 := own_poke h hv hb hb'
    by_cases hk : k < n
    · have h3 := row_set (nm_len C) k 0 (by omega) (.int .i64 z) n hk
      rw [Nat.mul_one, Nat.add_zero] at h3
      rw [h3] at h2
      refine ⟨fun j => if j = k then z else C j, ?_⟩
      have e : (fun j => if j = k then ([Value.int .i64 (C k)] : List Value).set 0 (.int .i64 z) else [Value.int .i64 (C j)]) = fun j => [Value.int .i64 (if j = k then z else C j)] := by
        funext j
        by_cases e : j = k
        · rw [if_pos e, if_pos e]; rfl
        · rw [if_neg e, if_neg e]
      rw [e] at h2
      exact h2
    · refine ⟨C, ?_⟩
      rw [List.set_eq_of_length_le (by rw [row_len (nm_len C)]; omega)] at h2
      exact h2
  · exact ⟨C, own_not hb ho h hv⟩
theorem own_type {w : World} {B s n g t : Nat} {e : TypeId} {v : Value} {xs : List Value} {cs : Array Value} (h : w.ownsRow B e s v n xs) (hb : w.heap[g]? = some (.cells cs t (0, 0))) (ht : t ≠ e) : v.ownBlock ≠ some g := fun hv => by
  rcases h.2 with ⟨h1, _⟩ | ⟨g2, c, cu, h1, hB, hg, _⟩
  · rw [h1] at hv; simp [Value.ownBlock] at hv
  · have e1 : g2 = g := by rw [h1] at hv; simpa [Value.ownBlock] using hv
    subst e1
    rw [hb] at hg
    injection hg with hg
    injection hg with _ hg _
    exact ht hg
/-- Code is changed, wherever it is used. -/
theorem ConfE.code {P : Nat → Prop} {w w' : World} {tv lv sv qv mv : Value} {X : Cf} {g k r : Nat} {cur : Array Value} {u : Value} (h : ConfE P w tv lv sv qv mv X) (hr : r < 6) (hu : ∀ c, ∃ c', (insL c).set r u = insL c') (hb : w.heap[g]? = some (.cells cur 41 (0, 0)))
    (hb' : w'.heap[g]? = some (.cells (cur.setIfInBounds (k * 6 + r) u) 41 (0, 0))) (ho : Only g w w') : ConfE P w' tv lv sv qv mv X := by
  obtain ⟨T, L, S, Q, M, hT, hL, ⟨c1, t1, t2, t3⟩, ⟨c2, l1, l2, l3⟩, ⟨s1, s2⟩, ⟨q1, q2⟩, m1, m2⟩ := h
  obtain ⟨f, hf⟩ := choose2 (fun j hj => code_poke (t3 j hj).1 hr hu hb hb' ho)
  obtain ⟨f2, hf2⟩ := choose2 (fun j hj => code_poke (l3 j hj).1 hr hu hb hb' ho)
  exact ⟨fun j => { T j with C := f j }, fun j => { L j with C := f2 j }, S, Q, M, hT, hL, ⟨c1, own_not hb ho t1 (own_type t1 hb (by decide)), t2, fun j hj => ⟨hf j hj, (t3 j hj).2⟩⟩,
    ⟨c2, own_not hb ho l1 (own_type l1 hb (by decide)), l2, fun j hj => ⟨hf2 j hj, (l3 j hj).2⟩⟩, ⟨own_not hb ho s1 (own_type s1 hb (by decide)), s2⟩, ⟨own_not hb ho q1 (own_type q1 hb (by decide)), q2⟩, own_not hb ho m1 (own_type m1 hb (by decide)), m2⟩
theorem ConfE.nums {P : Nat → Prop} {w w' : World} {tv lv sv qv mv : Value} {X : Cf} {g k : Nat} {cur : Array Value} {z : Int} (h : ConfE P w tv lv sv qv mv X) (hb : w.heap[g]? = some (.cells cur 3 (0, 0)))
    (hb' : w'.heap[g]? = some (.cells (cur.setIfInBounds k (.int .i64 z)) 3 (0, 0))) (ho : Only g w w') : ConfE P w' tv lv sv qv mv X := by
  obtain ⟨T, L, S, Q, M, hT, hL, ⟨c1, t1, t2, t3⟩, ⟨c2, l1, l2, l3⟩, ⟨s1, s2⟩, ⟨q1, q2⟩, m1, m2⟩ := h
  obtain ⟨S', hS⟩ := nums_poke s1 hb hb' ho
  obtain ⟨Q', hQ⟩ := nums_poke q1 hb hb' ho
  obtain ⟨M', hM⟩ := nums_poke m1 hb hb' ho
  exact ⟨T, L, S', Q', M', hT, hL, ⟨c1, own_not hb ho t1 (own_type t1 hb (by decide)), t2, fun j hj => ⟨own_not hb ho (t3 j hj).1 (own_type (t3 j hj).1 hb (by decide)), (t3 j hj).2⟩⟩,
    ⟨c2, own_not hb ho l1 (own_type l1 hb (by decide)), l2, fun j hj => ⟨own_not hb ho (l3 j hj).1 (own_type (l3 j hj).1 hb (by decide)), (l3 j hj).2⟩⟩, ⟨hS, s2⟩, ⟨hQ, q2⟩, hM, m2⟩
/-- A task's number is changed. -/
theorem ConfP.task {P : Nat → Prop} {w w' : World} {tv lv sv qv mv : Value} {X : Cf} {b cap i r : Nat} {cur : Array Value} {u : Value} (T' : Tk) (h : ConfP P w tv lv sv qv mv X) (hi : i < X.tn) (hr : r < 6) (htv : tv.ownBlock = some b)
    (hT : ∀ v, (tkL (X.T i) v).set r u = tkL T' v) (hn : T'.cn = (X.T i).cn) (hC : T'.C = (X.T i).C) (hb : w.heap[b]? = some (.cells cur 39 (0, 0)))
    (hb' : w'.heap[b]? = some (.cells (cur.setIfInBounds (i * 6 + r) u) 39 (0, 0))) (ho : Only b w w') : ConfP P w' tv lv sv qv mv { X with T := fun j => if j = i then T' else X.T j } := by
  obtain ⟨⟨c1, t1, t2, t3⟩, ⟨c2, l1, l2, l3⟩, ⟨s1, s2⟩, ⟨q1, q2⟩, m1, m2⟩ := h
  refine ⟨⟨c1, ?_, t2, fun j hj => ⟨?_, (t3 j hj).2⟩⟩, ⟨c2, own_not hb ho l1 (own_type l1 hb (by decide)), l2, fun j hj => ⟨own_not hb ho (l3 j hj).1 (own_type (l3 j hj).1 hb (by decide)), (l3 j hj).2⟩⟩, ⟨own_not hb ho s1 (own_type s1 hb (by decide)), s2⟩, ⟨own_not hb ho q1 (own_type q1 hb (by decide)), q2⟩, own_not hb ho m1 (own_type m1 hb (by decide)), m2⟩
  · have h2 := own_poke t1 htv hb hb'
    rw [row_set (tk_len X.T c1) i r hr u _ hi] at h2
    have e : (fun j => if j = i then (tkL (X.T i) (c1 i)).set r u else tkL (X.T j) (c1 j)) = fun j => tkL (if j = i then T' else X.T j) (c1 j) := by
      funext j
      by_cases e : j = i
      · subst e; rw [if_pos rfl, if_pos rfl, hT]
      · rw [if_neg e, if_neg e]
    rw [e] at h2
    exact h2
  · have h2 := own_not hb ho (t3 j hj).1 (own_type (t3 j hj).1 hb (by decide))
    by_cases e : j = i
    · subst e
      show OwnCode w' 0 (c1 j) (if j = j then T' else X.T j).cn (if j = j then T' else X.T j).C
      rw [if_pos rfl, hn, hC]; exact h2
    · show OwnCode w' 0 (c1 j) (if j = i then T' else X.T j).cn (if j = i then T' else X.T j).C
      rw [if_neg e]; exact h2
theorem ConfE.level {P : Nat → Prop} {w w' : World} {tv lv sv qv mv : Value} {X : Cf} {b i : Nat} {cur : Array Value} {z : Int} (h : ConfE P w tv lv sv qv mv X) (hi : i < X.tn) (htv : tv.ownBlock = some b) (hb : w.heap[b]? = some (.cells cur 39 (0, 0)))
    (hb' : w'.heap[b]? = some (.cells (cur.setIfInBounds (i * 6) (.int .i64 z)) 39 (0, 0))) (ho : Only b w w') : ConfE P w' tv lv sv qv mv X := by
  obtain ⟨T, L, S, Q, M, hT, hL, h⟩ := h
  have h2 := h.task (cap := 0) (i := i) (r := 0) { T i with lv := z } hi (by omega) htv (fun v => rfl) rfl rfl hb hb' ho
  exact ⟨_, _, _, _, _, fun j => by
    by_cases e : j = i
    · rw [if_pos e]; exact (hT i).trans (by rw [e])
    · rw [if_neg e]; exact hT j, hL, h2⟩
/-! ### What stands there -/
theorem own_at {w : World} {B s n : Nat} {e : TypeId} {v : Value} {xs : List Value} (h : w.ownsRow B e s v n xs) (hn : 0 < n) : ∃ b cap cur, v = .slice (some ⟨b, 0, none⟩) n cap ∧ n ≤ cap ∧ w.heap[b]? = some (.cells cur e (0, 0)) ∧ cur.size = cap * s ∧ ∀ j u, xs[j]? = some u → w.cell? ⟨b, j, none⟩ = some u := by
  have hc := fun g => h.cells (g := g)
  rcases h.2 with ⟨_, h1⟩ | ⟨g, c, cu, h1, hB, hg, h3, h4, h5, h6⟩
  · omega
  · refine ⟨g, c, cu, h1, h3, hg, h5, fun j u hu => ?_⟩
    have h7 := hc g (by rw [h1]; rfl) j u hu
    have e8 : (⟨g, 0, none⟩ : Addr).add j = ⟨g, j, none⟩ := by unfold Addr.add; split <;> simp_all
    rwa [e8] at h7
theorem ConfP.task_at {P : Nat → Prop} {w : World} {tv lv sv qv mv : Value} {X : Cf} {i : Nat} (h : ConfP P w tv lv sv qv mv X) (hi : i < X.tn) :
    ∃ b cap cur cv, tv = .slice (some ⟨b, 0, none⟩) X.tn cap ∧ X.tn ≤ cap ∧ w.heap[b]? = some (.cells cur 39 (0, 0)) ∧ i * 6 + 5 < cur.size ∧ P b ∧ w.cell? ⟨b, i * 6, none⟩ = some (.int .i64 (X.T i).lv) ∧ w.cell? ⟨b, i * 6 + 1, none⟩ = some (.int .i64 (X.T i).off) ∧ w.cell? ⟨b, i * 6 + 5, none⟩ = some cv ∧ OwnCode w 0 cv (X.T i).cn (X.T i).C ∧ InP P cv := by
  obtain ⟨⟨c1, t1, t2, t3⟩, _⟩ := h
  obtain ⟨b, cap, cur, rfl, h1, h2, h3, h4⟩ := own_at t1 (by omega)
  have hle : (i + 1) * 6 ≤ cap * 6 := Nat.mul_le_mul_right 6 (by omega)
  exact ⟨b, cap, cur, c1 i, rfl, h1, h2, by omega, t2 b rfl, h4 (i * 6 + 0) _ ((row_get (tk_len X.T c1) i 0 (by omega) X.tn hi).trans rfl), h4 (i * 6 + 1) _ ((row_get (tk_len X.T c1) i 1 (by omega) X.tn hi).trans rfl), h4 (i * 6 + 5) _ ((row_get (tk_len X.T c1) i 5 (by omega) X.tn hi).trans rfl), (t3 i hi).1, (t3 i hi).2⟩
theorem ConfP.line_at {P : Nat → Prop} {w : World} {tv lv sv qv mv : Value} {X : Cf} {i : Nat} (h : ConfP P w tv lv sv qv mv X) (hi : i < X.ln) :
    ∃ b cap cv, lv = .slice (some ⟨b, 0, none⟩) X.ln cap ∧ X.ln ≤ cap ∧ w.cell? ⟨b, i * 2 + 1, none⟩ = some cv ∧ OwnCode w 0 cv (X.L i).cn (X.L i).C ∧ InP P cv := by
  obtain ⟨_, ⟨c1, t1, t2, t3⟩, _⟩ := h
  obtain ⟨b, cap, cur, rfl, h1, h2, h3, h4⟩ := own_at t1 (by omega)
  exact ⟨b, cap, c1 i, rfl, h1, h4 (i * 2 + 1) _ ((row_get (ln_len X.L c1) i 1 (by omega) X.ln hi).trans rfl), (t3 i hi).1, (t3 i hi).2⟩
theorem code_at {w : World} {n k : Nat} {v : Value} {C : Nat → Ins} (h : OwnCode w 0 v n C) (hk : k < n) : ∃ g cap cur, v = .slice (some ⟨g, 0, none⟩) n cap ∧ n ≤ cap ∧ w.heap[g]? = some (.cells cur 41 (0, 0)) ∧ k * 6 + 5 < cur.size ∧ w.cell? ⟨g, k * 6, none⟩ = some (.int .i64 (C k).op) ∧ w.cell? ⟨g, k * 6 + 1, none⟩ = some (.int .i64 (C k).a) := by
  obtain ⟨b, cap, cur, rfl, h1, h2, h3, h4⟩ := own_at h (by omega)
  have hle : (k + 1) * 6 ≤ cap * 6 := Nat.mul_le_mul_right 6 (by omega)
  exact ⟨b, cap, cur, rfl, h1, h2, by omega, h4 (k * 6 + 0) _ ((row_get (insL_len C) k 0 (by omega) n hk).trans rfl), h4 (k * 6 + 1) _ ((row_get (insL_len C) k 1 (by omega) n hk).trans rfl)⟩
theorem num_at {w : World} {n k : Nat} {v : Value} {C : Nat → Int} (h : OwnNums w 0 v n C) (hk : k < n) : ∃ g cap cur, v = .slice (some ⟨g, 0, none⟩) n cap ∧ n ≤ cap ∧ w.heap[g]? = some (.cells cur 3 (0, 0)) ∧ k < cur.size ∧ w.cell? ⟨g, k, none⟩ = some (.int .i64 (C k)) := by
  obtain ⟨b, cap, cur, rfl, h1, h2, h3, h4⟩ := own_at h (by omega)
  exact ⟨b, cap, cur, rfl, h1, h2, by omega, h4 k _ (by have := (row_get (nm_len C) k 0 (by omega) n hk).trans rfl; rw [Nat.mul_one, Nat.add_zero] at this; exact this)⟩
/-! ### The calls, of systems that are read -/
theorem fix_cv {w : World} {n : Nat} {v : Nat → Value} {cnt : Nat → Nat} {C : Nat → Nat → Ins} (h : ∀ j, j < n → CodeV w (v j) (cnt j) (C j)) : ∀ j, (if j < n then v j else .slice none 0 0 : Value).oneCell' = true := fun j => by
  by_cases hj : j < n
  · rw [if_pos hj]; obtain ⟨A, cap, h1, _⟩ := h j hj; rw [h1]; rfl
  · rw [if_neg hj]; rfl
theorem copyV_any (w : World) {tv lv sv qv mv : Value} {X : Cf} (h : ConfV w tv lv sv qv mv X) (hs : Small X) : Calls Try.prog 12 #[.agg (cfC tv lv sv qv mv X)] w fun e w' => ∃ tv lv sv qv mv, e = .returned (.agg (cfC tv lv sv qv mv X)) ∧ ConfO w' w.heap.size tv lv sv qv mv X ∧ Grow w w' := by
  obtain ⟨⟨A1, p1, c1, rfl, _, t1, t2⟩, ⟨A2, p2, c2, rfl, _, l1, l2⟩, ⟨A3, p3, rfl, _, s1⟩, ⟨A4, p4, rfl, _, q1⟩, A5, p5, rfl, _, m1⟩ := h
  refine copy_walk w A1 A2 A3 A4 A5 p1 p2 p3 p4 p5 (fun j => if j < X.tn then c1 j else .slice none 0 0) (fun j => if j < X.ln then c2 j else .slice none 0 0) X hs (fix_cv t2) (fix_cv l2) (t1.of_eq fun j hj => by rw [if_pos hj]) (fun j hj => by rw [if_pos hj]; exact t2 j hj) (l1.of_eq fun j hj => by rw [if_pos hj]) (fun j hj => by rw [if_pos hj]; exact l2 j hj) s1 q1 m1
theorem checkV_any (w : World) {tv lv sv qv mv : Value} {X : Cf} (h : ConfV w tv lv sv qv mv X) (hs : (X.sn : Int) ≤ 1000000) : Calls Try.prog 10 #[.agg (cfC tv lv sv qv mv X)] w fun r w' => r = .returned (.agg (faultC (sysP X))) ∧ Grow w w' := by
  obtain ⟨⟨A1, p1, c1, rfl, _, t1, t2⟩, ⟨A2, p2, c2, rfl, _, l1, l2⟩, ⟨A3, p3, rfl, _, s1⟩, ⟨A4, p4, rfl, _, q1⟩, A5, p5, rfl, _, m1⟩ := h
  exact check_walk w A1 A2 A3 A4 A5 p1 p2 p3 p4 p5 c1 c2 X hs t1 t2 l1 l2 s1 q1 m1
theorem refCheckV_any (w : World) {tv lv sv qv mv : Value} {X : Cf} (h : ConfV w tv lv sv qv mv X) (hs : (X.sn : Int) ≤ 1000000) : Calls Try.prog 11 #[.agg (cfC tv lv sv qv mv X)] w fun r w' => r = .returned (.agg (faultC (sysP X))) ∧ Grow w w' := by
  obtain ⟨⟨A1, p1, c1, rfl, _, t1, t2⟩, ⟨A2, p2, c2, rfl, _, l1, l2⟩, ⟨A3, p3, rfl, _, s1⟩, ⟨A4, p4, rfl, _, q1⟩, A5, p5, rfl, _, m1⟩ := h
  exact refCheck_walk w A1 A2 A3 A4 A5 p1 p2 p3 p4 p5 c1 c2 X hs t1 t2 l1 l2 s1 q1 m1
theorem greatV_any (w : World) {tv lv sv qv mv : Value} {X : Cf} (h : ConfV w tv lv sv qv mv X) : Calls Try.prog 9 #[.agg (cfC tv lv sv qv mv X)] w fun r w' => (∃ b : Bool, r = .returned (.bool b) ∧ (b = false → Small X)) ∧ Grow w w' := by
  obtain ⟨⟨A1, p1, c1, rfl, _, t1, t2⟩, ⟨A2, p2, c2, rfl, _, l1, l2⟩, ⟨A3, p3, rfl, _, s1⟩, ⟨A4, p4, rfl, _, q1⟩, A5, p5, rfl, _, m1⟩ := h
  exact great_any w A1 A2 A3 A4 A5 p1 p2 p3 p4 p5 c1 c2 X t1 t2 l1 l2
theorem sameV_any (w : World) {tv lv sv qv mv tv2 lv2 sv2 qv2 mv2 : Value} {X Y : Cf} (h : ConfV w tv lv sv qv mv X) (h2 : ConfV w tv2 lv2 sv2 qv2 mv2 Y) (hs : Small X) (r : Bool) (hr : r = true ↔ SameX X Y) :
    Calls Try.prog 14 #[.agg (cfC tv lv sv qv mv X), .agg (cfC tv2 lv2 sv2 qv2 mv2 Y)] w fun e w' => e = .returned (.bool r) ∧ Grow w w' := by
  obtain ⟨⟨A1, p1, c1, rfl, _, t1, t2⟩, ⟨A2, p2, c2, rfl, _, l1, l2⟩, ⟨A3, p3, rfl, _, s1⟩, ⟨A4, p4, rfl, _, q1⟩, A5, p5, rfl, _, m1⟩ := h
  obtain ⟨⟨B1, b1, d1, rfl, _, u1, u2⟩, ⟨B2, b2, d2, rfl, _, k1, k2⟩, ⟨B3, b3, rfl, _, v1⟩, ⟨B4, b4, rfl, _, w1⟩, B5, b5, rfl, _, x1⟩ := h2
  exact same_any w A1 A2 A3 A4 A5 p1 p2 p3 p4 p5 c1 c2 X B1 B2 B3 B4 B5 b1 b2 b3 b4 b5 d1 d2 Y hs r hr t1 t2 l1 l2 s1 q1 m1 u1 u2 k1 k2 v1 w1 x1
theorem refSameV_any (w : World) {tv lv sv qv mv tv2 lv2 sv2 qv2 mv2 : Value} {X Y : Cf} (h : ConfV w tv lv sv qv mv X) (h2 : ConfV w tv2 lv2 sv2 qv2 mv2 Y) (hs : Small X) (r : Bool) (hr : r = true ↔ SameX X Y) :
    Calls Try.prog 13 #[.agg (cfC tv lv sv qv mv X), .agg (cfC tv2 lv2 sv2 qv2 mv2 Y)] w fun e w' => e = .returned (.bool r) ∧ Grow w w' := by
  obtain ⟨⟨A1, p1, c1, rfl, _, t1, t2⟩, ⟨A2, p2, c2, rfl, _, l1, l2⟩, ⟨A3, p3, rfl, _, s1⟩, ⟨A4, p4, rfl, _, q1⟩, A5, p5, rfl, _, m1⟩ := h
  obtain ⟨⟨B1, b1, d1, rfl, _, u1, u2⟩, ⟨B2, b2, d2, rfl, _, k1, k2⟩, ⟨B3, b3, rfl, _, v1⟩, ⟨B4, b4, rfl, _, w1⟩, B5, b5, rfl, _, x1⟩ := h2
  exact refSameX_any w A1 A2 A3 A4 A5 p1 p2 p3 p4 p5 c1 c2 X B1 B2 B3 B4 B5 b1 b2 b3 b4 b5 d1 d2 Y hs r hr t1 t2 l1 l2 s1 q1 m1 u1 u2 k1 k2 v1 w1 x1
theorem SameX.refl (X : Cf) : SameX X X := ⟨rfl, rfl, fun j _ => ⟨rfl, rfl, rfl, rfl, rfl, rfl, fun _ _ => rfl⟩, fun j _ => ⟨rfl, rfl, fun _ _ => rfl⟩, rfl, ⟨rfl, fun _ _ => rfl⟩, ⟨rfl, fun _ _ => rfl⟩, ⟨rfl, fun _ _ => rfl⟩, rfl, rfl, rfl, rfl, rfl, rfl⟩
end Go.Proofs.Ytmmbhjomgpnklaa
