/- Copies, changed cell by cell: what stays. No program in sight. -/
import Derived.Test.YtmmbhjomgpnklaaAwake
import Derived.Test.YtmmbhjomgpnklaaSameL
namespace Go.Proofs.Ytmmbhjomgpnklaa
open Go.RowKit
set_option linter.unusedVariables false
set_option linter.unusedSimpArgs false
theorem ConfE.task_cells {P : Nat → Prop} {w : World} {lv sv qv mv : Value} {X : Cf} {b cap i : Nat} (h : ConfE P w (.slice (some ⟨b, 0, none⟩) X.tn cap) lv sv qv mv X) (hi : i < X.tn) :
    ∃ cur lvl CA ca, w.heap[b]? = some (.cells cur 39 (0, 0)) ∧ i * 6 + 5 < cur.size ∧ w.cell? ⟨b, i * 6, none⟩ = some (.int .i64 lvl) ∧ w.cell? ⟨b, i * 6 + 5, none⟩ = some (.slice CA (X.T i).cn ca) ∧ (X.T i).cn ≤ ca ∧
      ∀ k, k < (X.T i).cn → ∃ g cur2 op, CA = some ⟨g, 0, none⟩ ∧ P g ∧ w.heap[g]? = some (.cells cur2 41 (0, 0)) ∧ k * 6 + 5 < cur2.size ∧ w.cell? ⟨g, k * 6, none⟩ = some (.int .i64 op) := by
  obtain ⟨T, L, S, Q, M, hT, hL, h⟩ := h
  obtain ⟨b2, cap2, cur, cv, h0, h1, h2, h3, h4, h5, h6, h7, h8, h9⟩ := h.task_at (i := i) hi
  simp only [Value.slice.injEq, Option.some.injEq, Addr.mk.injEq, and_true, true_and] at h0
  obtain ⟨rfl, rfl⟩ := h0
  obtain ⟨A, ca, hA, hle⟩ := own_slice h8
  subst hA
  have e : (T i).cn = (X.T i).cn := hT i
  refine ⟨cur, (T i).lv, A, ca, h2, h3, h5, by rw [← e]; exact h7, by rw [← e]; exact hle, fun k hk => ?_⟩
  obtain ⟨g, cap3, cur3, e3, k1, k2, k3, k4, k5⟩ := code_at (k := k) h8 (show k < (T i).cn by omega)
  simp only [Value.slice.injEq, true_and] at e3
  obtain ⟨rfl, rfl⟩ := e3
  exact ⟨g, cur3, _, rfl, h9 g rfl, k2, k3, k4⟩
theorem ConfE.line_cells {P : Nat → Prop} {w : World} {tv sv qv mv : Value} {X : Cf} {b cap i : Nat} (h : ConfE P w tv (.slice (some ⟨b, 0, none⟩) X.ln cap) sv qv mv X) (hi : i < X.ln) :
    ∃ CA ca, w.cell? ⟨b, i * 2 + 1, none⟩ = some (.slice CA (X.L i).cn ca) ∧ (X.L i).cn ≤ ca ∧
      ∀ k, k < (X.L i).cn → ∃ g cur2 op, CA = some ⟨g, 0, none⟩ ∧ P g ∧ w.heap[g]? = some (.cells cur2 41 (0, 0)) ∧ k * 6 + 5 < cur2.size ∧ w.cell? ⟨g, k * 6 + 1, none⟩ = some (.int .i64 op) := by
  obtain ⟨T, L, S, Q, M, hT, hL, h⟩ := h
  obtain ⟨b2, cap2, cv, h0, h1, h7, h8, h9⟩ := h.line_at (i := i) hi
  simp only [Value.slice.injEq, Option.some.injEq, Addr.mk.injEq, and_true, true_and] at h0
  obtain ⟨rfl, rfl⟩ := h0
  obtain ⟨A, ca, hA, hle⟩ := own_slice h8
  subst hA
  have e : (L i).cn = (X.L i).cn := hL i
  refine ⟨A, ca, by rw [← e]; exact h7, by rw [← e]; exact hle, fun k hk => ?_⟩
  obtain ⟨g, cap3, cur3, e3, k1, k2, k3, k4, k5⟩ := code_at (k := k) h8 (show k < (L i).cn by omega)
  simp only [Value.slice.injEq, true_and] at e3
  obtain ⟨rfl, rfl⟩ := e3
  exact ⟨g, cur3, _, rfl, h9 g rfl, k2, k3, k5⟩
theorem ConfE.sem_cells {P : Nat → Prop} {w : World} {tv lv qv mv : Value} {X : Cf} {b cap i : Nat} (h : ConfE P w tv lv (.slice (some ⟨b, 0, none⟩) X.sn cap) qv mv X) (hi : i < X.sn) :
    ∃ cur z, w.heap[b]? = some (.cells cur 3 (0, 0)) ∧ i < cur.size ∧ w.cell? ⟨b, i, none⟩ = some (.int .i64 z) := by
  obtain ⟨T, L, S, Q, M, hT, hL, h⟩ := h
  obtain ⟨g, cap2, cur, h0, h1, h2, h3, h4⟩ := num_at (k := i) h.s.1 hi
  simp only [Value.slice.injEq, Option.some.injEq, Addr.mk.injEq, and_true, true_and] at h0
  obtain ⟨rfl, rfl⟩ := h0
  exact ⟨cur, _, h2, h3, h4⟩
/-- The forms of a copy's slices. -/
theorem ConfE.forms {P : Nat → Prop} {w : World} {tv lv sv qv mv : Value} {X : Cf} (h : ConfE P w tv lv sv qv mv X) :
    (∃ A cap, tv = .slice A X.tn cap ∧ X.tn ≤ cap ∧ (0 < X.tn → ∃ b, A = some ⟨b, 0, none⟩ ∧ P b)) ∧ (∃ A cap, lv = .slice A X.ln cap ∧ X.ln ≤ cap ∧ (0 < X.ln → ∃ b, A = some ⟨b, 0, none⟩ ∧ P b)) ∧ (∃ A cap, sv = .slice A X.sn cap ∧ X.sn ≤ cap ∧ (0 < X.sn → ∃ b, A = some ⟨b, 0, none⟩ ∧ P b)) := by
  obtain ⟨T, L, S, Q, M, hT, hL, h⟩ := h
  refine ⟨?_, ?_, ?_⟩
  · obtain ⟨c1, t1, t2, _⟩ := h.t
    obtain ⟨A, cap, rfl, hle⟩ := own_slice t1
    refine ⟨A, cap, rfl, hle, fun hn => ?_⟩
    obtain ⟨b, cap2, cur, e, _⟩ := own_at t1 hn
    simp only [Value.slice.injEq, true_and] at e
    obtain ⟨rfl, rfl⟩ := e
    exact ⟨b, rfl, t2 b rfl⟩
  · obtain ⟨c1, t1, t2, _⟩ := h.l
    obtain ⟨A, cap, rfl, hle⟩ := own_slice t1
    refine ⟨A, cap, rfl, hle, fun hn => ?_⟩
    obtain ⟨b, cap2, cur, e, _⟩ := own_at t1 hn
    simp only [Value.slice.injEq, true_and] at e
    obtain ⟨rfl, rfl⟩ := e
    exact ⟨b, rfl, t2 b rfl⟩
  · obtain ⟨t1, t2⟩ := h.s
    obtain ⟨A, cap, rfl, hle⟩ := own_slice t1
    refine ⟨A, cap, rfl, hle, fun hn => ?_⟩
    obtain ⟨b, cap2, cur, e, _⟩ := own_at t1 hn
    simp only [Value.slice.injEq, true_and] at e
    obtain ⟨rfl, rfl⟩ := e
    exact ⟨b, rfl, t2 b rfl⟩
/-- What holds while the one copy is changed. -/
structure Cs (P Q : Nat → Prop) (w1 wr : World) (bc gd ge : Nat) (cb : Array Value) (tv lv sv qv mv tv2 lv2 sv2 qv2 mv2 : Value) (X : Cf) : Prop where
  grow : Grow w1 wr
  x : wr.heap[bc]? = some (.cells cb 28 (0, 0))
  d : wr.heap[gd]? = some (.cells (cfC tv lv sv qv mv X) 28 (0, 0))
  e : wr.heap[ge]? = some (.cells (cfC tv2 lv2 sv2 qv2 mv2 X) 28 (0, 0))
  p : ConfE P wr tv lv sv qv mv X
  q : ConfP Q wr tv2 lv2 sv2 qv2 mv2 X
  pl : ∀ g, P g → w1.heap.size ≤ g ∧ g < wr.heap.size
  ql : ∀ g, Q g → g < wr.heap.size
section
variable {P Q : Nat → Prop} {w1 wr : World} {bc gd ge : Nat} {cb : Array Value} {tv lv sv qv mv tv2 lv2 sv2 qv2 mv2 : Value} {X : Cf}
theorem Cs.call (h : Cs P Q w1 wr bc gd ge cb tv lv sv qv mv tv2 lv2 sv2 qv2 mv2 X) {w' : World} (hg : Grow wr w') : Cs P Q w1 w' bc gd ge cb tv lv sv qv mv tv2 lv2 sv2 qv2 mv2 X := by
  obtain ⟨T, L, S, Q', M, hT, hL, hp⟩ := h.p
  exact ⟨h.grow.trans hg, hg.at h.x, hg.at h.d, hg.at h.e, ⟨T, L, S, Q', M, hT, hL, hp.grow hg fun g hp => (h.pl g hp).2⟩, h.q.grow hg h.ql, fun g hp => ⟨(h.pl g hp).1, Nat.lt_of_lt_of_le (h.pl g hp).2 hg.size⟩, fun g hp => Nat.lt_of_lt_of_le (h.ql g hp) hg.size⟩
theorem Cs.step (h : Cs P Q w1 wr bc gd ge cb tv lv sv qv mv tv2 lv2 sv2 qv2 mv2 X) {w' : World} {g t : Nat} {cur : Array Value} (hPQ : ∀ g, P g → ¬ Q g) (hg : P g) (hb : wr.heap[g]? = some (.cells cur t (0, 0))) (ht : 28 ≠ t) (ho : Only g wr w') (hp : ConfE P w' tv lv sv qv mv X) :
    Cs P Q w1 w' bc gd ge cb tv lv sv qv mv tv2 lv2 sv2 qv2 mv2 X :=
  ⟨h.grow.only ho (h.pl g hg).1, ho.at (ty_ne h.x hb ht) h.x, ho.at (ty_ne h.d hb ht) h.d, ho.at (ty_ne h.e hb ht) h.e, hp, h.q.only ho (hPQ g hg) h.ql, fun k hk => ⟨(h.pl k hk).1, Nat.lt_of_lt_of_le (h.pl k hk).2 ho.2.2.2.1⟩, fun k hk => Nat.lt_of_lt_of_le (h.ql k hk) ho.2.2.2.1⟩
end
theorem ins_set0 (z : Int) : ∀ c, ∃ c', (insL c).set 0 (.int .i64 z) = insL c' := fun c => ⟨{ c with op := z }, rfl⟩
theorem ins_set1 (z : Int) : ∀ c, ∃ c', (insL c).set 1 (.int .i64 z) = insL c' := fun c => ⟨{ c with a := z }, rfl⟩
end Go.Proofs.Ytmmbhjomgpnklaa
