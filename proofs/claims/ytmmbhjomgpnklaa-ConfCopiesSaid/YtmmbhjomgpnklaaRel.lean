/- A region that draws its order, walked once in the order of the text, where the operations may make memory: of each operation's value is told what holds of it in every later world; each operation is run against a frame of which only that is known which must have come before. No program in sight. -/
import Derived.Test.YtmmbhjomgpnklaaKit
import Derived.KernelRfl
namespace Go.Proofs.Ytmmbhjomgpnklaa
open Go.RowKit

/-- What is told of the temporaries that an operation reads: each was written by an operation ahead, or by none of the region. -/
def RelKnown (a0 : Act) (acc : List (Value → World → Prop)) (a : Act) (w : World) : List (Nat × Option Nat) → Prop
  | [] => True
  | (t, some j) :: l => (acc.getD j fun _ _ => True) (a.tmps.getD t undef) w ∧ RelKnown a0 acc a w l
  | (t, none) :: l => a.tmps.getD t undef = a0.tmps.getD t undef ∧ RelKnown a0 acc a w l

/-- One operation. -/
def RelStep (P : Program) (R : World → World → Prop) (F : World → Prop) (Q : Exit → Act → World → Prop) (D : Value → World → Prop) (o : Oper) (a : Act) (w : World) : Option (Nat × Bool) → Prop
  | none => o.wp P a w (fun a' w' => ∃ v, a' = a.put o.dst v ∧ R w w' ∧ F w' ∧ D v w') Q
  | some (t, b) => ∃ c, a.tmps.getD t undef = .bool c ∧ if c = b then o.wp P a w (fun a' w' => ∃ v, a' = a.put o.dst v ∧ R w w' ∧ F w' ∧ D v w') Q else D undef w

def RelEnd (Q : Exit → Act → World → Prop) (w : World) : List Oper → List (Value → World → Prop) → Act → Prop
  | o :: os, D :: Ds, a => ∀ v, D v w → RelEnd Q w os Ds (a.put o.dst v)
  | _, _, a => Q .normal a w

/-- The walk in the order of the text. -/
def RelAll (P : Program) (R : World → World → Prop) (F : World → Prop) (Q : Exit → Act → World → Prop) (a0 : Act) (all : List Oper) :
    List Oper → List (List (Nat × Option Nat) × Option (Nat × Bool)) → List (Value → World → Prop) → Prop
  | o :: os, (ds, g) :: ls, acc => ∃ D : Value → World → Prop, (∀ v w w', R w w' → D v w → D v w') ∧
      (∀ a w, a.tmps.size = a0.tmps.size → F w → RelKnown a0 acc a w ds → RelStep P R F Q D o a w g) ∧ RelAll P R F Q a0 all os ls (D :: acc)
  | _, _, acc => ∀ w, F w → RelEnd Q w all acc.reverse a0

def afterOn (o : Oper) (j : Nat) : Bool := o.after.any fun e => e.on == j && Region.binds .any e
def dstAt (ops : Array Oper) (j : Nat) : Option Nat := (ops[j]?).bind (·.dst)

def relCheckOp (ops : Array Oper) (n i : Nat) (o : Oper) (ds : List (Nat × Option Nat)) (g : Option (Nat × Bool)) : Bool :=
  o.after.all (fun e => decide (e.on < i)) &&
  (match o.dst with | some d => decide (d < n) && (List.range ops.size).all (fun k => k == i || !(dstAt ops k == some d)) | none => false) &&
  ds.all (fun x => match x.2 with
    | some r => decide (r < i) && dstAt ops (i - 1 - r) == some x.1 && afterOn o (i - 1 - r)
    | none => (List.range ops.size).all fun k => !(dstAt ops k == some x.1) || k == i || (match ops[k]? with | some ok => afterOn ok i | none => false)) &&
  (match o.guard, g with
    | none, none => true
    | some (j, b), some (t, b') => b == b' && dstAt ops j == some t
    | _, _ => false)

def relCheck (ops : Array Oper) (n : Nat) (L : List (List (Nat × Option Nat) × Option (Nat × Bool))) : Bool :=
  L.length == ops.size && (List.range ops.size).all fun i => match ops[i]?, L[i]? with
    | some o, some (ds, g) => relCheckOp ops n i o ds g
    | _, _ => false

section
variable {P : Program} {R : World → World → Prop} {F : World → Prop} {Q : Exit → Act → World → Prop} {a0 : Act} {ops : Array Oper}

/-- What the walk gives: what is told of every operation's value. -/
theorem rel_facts (all : List Oper) : ∀ (os : List Oper) (ls : List (List (Nat × Option Nat) × Option (Nat × Bool))) (acc : List (Value → World → Prop)), ls.length = os.length → RelAll P R F Q a0 all os ls acc →
    ∃ Ds : List (Value → World → Prop), Ds.length = os.length ∧ (∀ D ∈ Ds, ∀ v w w', R w w' → D v w → D v w') ∧
      (∀ k o ds g, os[k]? = some o → ls[k]? = some (ds, g) → ∀ a w, a.tmps.size = a0.tmps.size → F w → RelKnown a0 ((Ds.take k).reverse ++ acc) a w ds → RelStep P R F Q (Ds.getD k fun _ _ => True) o a w g) ∧
      ∀ w, F w → RelEnd Q w all (acc.reverse ++ Ds) a0
  | [], [], acc, _, h => ⟨[], rfl, by simp, by simp, by simpa [RelAll] using h⟩
  | o :: os, (ds, g) :: ls, acc, hl, h => by
    obtain ⟨D, hD, hs, hr⟩ := h
    obtain ⟨Ds, h1, h2, h3, h4⟩ := rel_facts all os ls (D :: acc) (by simpa using hl) hr
    refine ⟨D :: Ds, by simp [h1], ?_, ?_, ?_⟩
    · intro E hE
      rcases List.mem_cons.1 hE with rfl | hE
      · exact hD
      · exact h2 E hE
    · intro k o' ds' g' ho hg a w hz hF hk
      cases k with
      | zero =>
        simp at ho hg
        obtain ⟨rfl, rfl⟩ := hg
        subst ho
        simpa using hs a w hz hF (by simpa using hk)
      | succ k =>
        simp only [List.getElem?_cons_succ] at ho hg
        have := h3 k o' ds' g' ho hg a w hz hF (by simpa using hk)
        simpa using this
    · simpa using h4
  | [], _ :: _, _, hl, _ => by simp at hl
  | _ :: _, [], _, hl, _ => by simp at hl

/-- What stands while the operations of a region come up in whatever order. -/
structure RelInv (F : World → Prop) (a0 : Act) (ops : Array Oper) (Ds : List (Value → World → Prop)) (listed : Array Bool) (a : Act) (w : World) : Prop where
  world : F w
  size : a.tmps.size = a0.tmps.size
  defers : a.defers = a0.defers
  lsize : listed.size = ops.size
  told : ∀ (i : Nat) (o : Oper) (d : Nat), ops[i]? = some o → listed.getD i false = true → o.dst = some d → (Ds.getD i fun _ _ => True) (a.tmps.getD d undef) w
  rest : ∀ t : Nat, (∀ (i : Nat), listed.getD i false = true → dstAt ops i ≠ some t) → a.tmps.getD t undef = a0.tmps.getD t undef
  down : ∀ (i : Nat) (o : Oper), ops[i]? = some o → listed.getD i false = true → ∀ e ∈ o.after, Region.binds .any e = true → listed.getD e.on false = true

theorem getD_put_self (a : Act) (d : Nat) (v : Value) (h : d < a.tmps.size) : (a.put (some d) v).tmps.getD d undef = v := by
  simp [Act.put, Array.getD, h]
theorem getD_put_ne (a : Act) (d t : Nat) (v : Value) (h : d ≠ t) : (a.put (some d) v).tmps.getD t undef = a.tmps.getD t undef := by
  simp only [Act.put, Array.getD_eq_getD_getElem?]
  rw [Array.getElem?_setIfInBounds]
  simp [h]
theorem size_put' (a : Act) (d : Option Nat) (v : Value) : (a.put d v).tmps.size = a.tmps.size := by cases d <;> simp [Act.put]
theorem defers_put' (a : Act) (d : Option Nat) (v : Value) : (a.put d v).defers = a.defers := by cases d <;> rfl

theorem listed_set (l : Array Bool) (i j : Nat) (h : i < l.size) : (l.setIfInBounds i true).getD j false = true ↔ j = i ∨ l.getD j false = true := by
  simp only [Array.getD_eq_getD_getElem?]
  rw [Array.getElem?_setIfInBounds]
  by_cases e : i = j
  · subst e; simp [h]
  · simp [e, Ne.symm e]

/-- The step of one operation keeps it. -/
theorem RelInv.step {Ds : List (Value → World → Prop)} (hst : ∀ D ∈ Ds, ∀ v w w', R w w' → D v w → D v w') {listed : Array Bool} {a : Act} {w w' : World} (h : RelInv F a0 ops Ds listed a w) {i : Nat} {o : Oper} (ho : ops[i]? = some o)
    (hdown : ∀ e ∈ o.after, Region.binds .any e = true → listed.getD e.on false = true)
    (hd : ∀ d, o.dst = some d → d < a0.tmps.size ∧ ∀ k, k ≠ i → dstAt ops k ≠ some d) (v : Value) (hR : R w w' ∨ w' = w) (hF : F w') (hv : (Ds.getD i fun _ _ => True) v w') :
    RelInv F a0 ops Ds (listed.setIfInBounds i true) (a.put o.dst v) w' := by
  have hi : i < listed.size := by rw [h.lsize]; exact (Array.getElem?_eq_some_iff.1 ho).1
  refine ⟨hF, by rw [size_put']; exact h.size, by rw [defers_put']; exact h.defers, by simp [h.lsize], ?_, ?_, ?_⟩
  · intro k ok d hk hl hdk
    rcases (listed_set listed i k hi).1 hl with rfl | hl'
    · rw [ho] at hk
      obtain rfl := Option.some.inj hk
      rw [hdk, getD_put_self _ _ _ (by rw [h.size]; exact (hd d hdk).1)]
      exact hv
    · have h0 := h.told k ok d hk hl' hdk
      have h1 : (Ds.getD k fun _ _ => True) (a.tmps.getD d undef) w' := by
        rcases hR with hR | rfl
        · rcases Nat.lt_or_ge k Ds.length with hkl | hkl
          · have hm : Ds.getD k (fun _ _ => True) ∈ Ds := by rw [List.getD, List.getElem?_eq_getElem hkl]; exact List.getElem_mem _
            exact hst _ hm _ _ _ hR h0
          · rw [List.getD, List.getElem?_eq_none hkl]; trivial
        · exact h0
      by_cases hki : k = i
      · subst hki
        rw [ho] at hk
        obtain rfl := Option.some.inj hk
        rw [hdk, getD_put_self _ _ _ (by rw [h.size]; exact (hd d hdk).1)]
        exact hv
      · cases hod : o.dst with
        | none => exact h1
        | some d' =>
          have hne : d' ≠ d := fun e => by
            subst e
            exact (hd d' hod).2 k hki (by unfold dstAt; rw [hk]; exact hdk)
          rw [getD_put_ne _ _ _ _ hne]
          exact h1
  · intro t ht
    have h1 := h.rest t (fun k hk => ht k ((listed_set listed i k hi).2 (.inr hk)))
    have h2 := ht i ((listed_set listed i i hi).2 (.inl rfl))
    cases hod : o.dst with
    | none => exact h1
    | some d =>
      have hne : d ≠ t := fun e => h2 (by unfold dstAt; rw [ho]; simp [hod, e])
      rw [getD_put_ne _ _ _ _ hne]; exact h1
  · intro k ok hk hl e he hb
    refine (listed_set listed i e.on hi).2 (.inr ?_)
    rcases (listed_set listed i k hi).1 hl with rfl | hl'
    · rw [ho] at hk
      obtain rfl := Option.some.inj hk
      exact hdown e he hb
    · exact h.down k ok hk hl' e he hb

theorem afterOn_iff {o : Oper} {j : Nat} (h : afterOn o j = true) : ∃ e ∈ o.after, e.on = j ∧ Region.binds .any e = true := by
  unfold afterOn at h
  rw [Array.any_eq_true'] at h
  obtain ⟨e, he, h2⟩ := h
  simp only [Bool.and_eq_true, beq_iff_eq] at h2
  exact ⟨e, he, h2.1, h2.2⟩

theorem rel_known {Ds : List (Value → World → Prop)} (hDl : Ds.length = ops.size) {listed : Array Bool} {a : Act} {w : World} (h : RelInv F a0 ops Ds listed a w) {i : Nat} {o : Oper} (hun : listed.getD i false = false) (ho : ops[i]? = some o)
    (hdown : ∀ e ∈ o.after, Region.binds .any e = true → listed.getD e.on false = true) : ∀ (ds : List (Nat × Option Nat)),
    (∀ x ∈ ds, match x.2 with
      | some r => r < i ∧ dstAt ops (i - 1 - r) = some x.1 ∧ afterOn o (i - 1 - r) = true
      | none => ∀ k, k < ops.size → dstAt ops k ≠ some x.1 ∨ k = i ∨ ∃ ok, ops[k]? = some ok ∧ afterOn ok i = true) → RelKnown a0 (Ds.take i).reverse a w ds
  | [], _ => trivial
  | (t, some r) :: l, hc => by
    obtain ⟨h0, h1, h2⟩ := hc (t, some r) (by simp)
    obtain ⟨e, he, hej, hb⟩ := afterOn_iff h2
    have hlj := hdown e he hb
    rw [hej] at hlj
    refine ⟨?_, rel_known hDl h hun ho hdown l fun x hx => hc x (List.mem_cons_of_mem _ hx)⟩
    have hidx : (Ds.take i).reverse.getD r (fun _ _ => True) = Ds.getD (i - 1 - r) (fun _ _ => True) := by
      have hil := (Array.getElem?_eq_some_iff.1 ho).1
      have htl : (Ds.take i).length = i := by rw [List.length_take, hDl]; omega
      rw [List.getD, List.getD, List.getElem?_reverse (by rw [htl]; exact h0), htl, List.getElem?_take, if_pos (by omega)]
    rw [hidx]
    unfold dstAt at h1
    cases hoj : ops[i - 1 - r]? with
    | none => rw [hoj] at h1; simp at h1
    | some oj => rw [hoj] at h1; exact h.told (i - 1 - r) oj t hoj hlj h1
  | (t, none) :: l, hc => by
    refine ⟨h.rest t fun k hk heq => ?_, rel_known hDl h hun ho hdown l fun x hx => hc x (List.mem_cons_of_mem _ hx)⟩
    have hkl : k < ops.size := by
      rcases Nat.lt_or_ge k ops.size with h' | h'
      · exact h'
      · unfold dstAt at heq; rw [Array.getElem?_eq_none h'] at heq; simp at heq
    rcases hc (t, none) (by simp) k hkl with h' | rfl | ⟨ok, hok, haf⟩
    · exact h' heq
    · rw [hun] at hk; cases hk
    · obtain ⟨e, he, hej, hb⟩ := afterOn_iff haf
      have := h.down k ok hok hk e he hb
      rw [hej, hun] at this
      cases this

theorem rel_end {Ds : List (Value → World → Prop)} (w : World) (a : Act) (hsz : a.tmps.size = a0.tmps.size) (hdf : a.defers = a0.defers) : ∀ (os : List Oper) (Es : List (Value → World → Prop)) (b : Act), Es.length = os.length →
    (∀ (k : Nat) (o : Oper) (d : Nat), os[k]? = some o → o.dst = some d → (Es.getD k fun _ _ => True) (a.tmps.getD d undef) w) → (∀ (k : Nat) (o : Oper), os[k]? = some o → o.dst = none → ∃ v, (Es.getD k fun _ _ => True) v w) →
    b.tmps.size = a.tmps.size → b.defers = a.defers → (∀ t : Nat, (∀ (k : Nat) (o : Oper), os[k]? = some o → o.dst ≠ some t) → b.tmps.getD t undef = a.tmps.getD t undef) → RelEnd Q w os Es b → Q .normal a w
  | [], [], b, _, _, _, hs, hd, ht, h => by
    have : b = a := by
      cases a; cases b
      simp only at hs hd ht
      subst hd
      congr 1
      apply Array.ext
      · exact hs
      · intro i h1 h2
        have := ht i (by simp)
        simp only [Array.getD_eq_getD_getElem?, Array.getElem?_eq_getElem h1, Array.getElem?_eq_getElem h2, Option.getD_some] at this
        exact this
    rw [← this]; exact h
  | o :: os, D :: Es, b, hl, hk, hn, hs, hd, ht, h => by
    cases hod : o.dst with
    | none =>
      obtain ⟨v, hv⟩ := hn 0 o (by simp) hod
      have h' := h v (by simpa using hv)
      rw [hod] at h'
      exact rel_end (Ds := Ds) w a hsz hdf os Es b (by simpa using hl) (fun k o' d hk' hd' => by simpa using hk (k + 1) o' d (by simpa using hk') hd') (fun k o' hk' hd' => by simpa using hn (k + 1) o' (by simpa using hk') hd') hs hd
        (fun t htt => ht t fun k o' hk' => by
          cases k with
          | zero => simp at hk'; subst hk'; rw [hod]; simp
          | succ k => exact htt k o' (by simpa using hk')) h'
    | some d =>
      have h' := h (a.tmps.getD d undef) (by simpa using hk 0 o d (by simp) hod)
      rw [hod] at h'
      refine rel_end (Ds := Ds) w a hsz hdf os Es _ (by simpa using hl) (fun k o' d hk' hd' => by simpa using hk (k + 1) o' d (by simpa using hk') hd') (fun k o' hk' hd' => by simpa using hn (k + 1) o' (by simpa using hk') hd') (by rw [size_put']; exact hs) (by rw [defers_put']; exact hd) ?_ h'
      intro t htt
      by_cases e : d = t
      · subst e
        rcases Nat.lt_or_ge d b.tmps.size with hlt | hge
        · rw [getD_put_self _ _ _ hlt]
        · have hge' : a.tmps.size ≤ d := by rw [← hs]; exact hge
          simp only [Act.put, Array.getD_eq_getD_getElem?]
          rw [Array.getElem?_eq_none (by simpa using hge), Array.getElem?_eq_none hge']
      · rw [getD_put_ne _ _ _ _ e]
        exact ht t fun k o' hk' => by
          cases k with
          | zero => simp at hk'; subst hk'; rw [hod]; simpa using e
          | succ k => exact htt k o' (by simpa using hk')
  | [], _ :: _, _, hl, _, _, _, _, _, _ => by simp at hl
  | _ :: _, [], _, hl, _, _, _, _, _, _ => by simp at hl

def unlisted (ops : Array Oper) (listed : Array Bool) : List Nat := (List.range ops.size).filter fun i => !listed.getD i false

theorem unlisted_set {listed : Array Bool} {i : Nat} (hi : i < ops.size) (hs : listed.size = ops.size) (hun : listed.getD i false = false) : (unlisted ops (listed.setIfInBounds i true)).length < (unlisted ops listed).length := by
  have e : unlisted ops (listed.setIfInBounds i true) = (unlisted ops listed).filter fun k => !(k == i) := by
    unfold unlisted
    rw [List.filter_filter]
    apply List.filter_congr
    intro k _
    have := listed_set listed i k (by rw [hs]; exact hi)
    cases h1 : (listed.setIfInBounds i true).getD k false <;> cases h2 : listed.getD k false <;> simp_all
  rw [e, List.length_filter_lt_length_iff_exists]
  exact ⟨i, List.mem_filter.2 ⟨List.mem_range.2 hi, by rw [hun]; rfl⟩, by simp⟩

theorem relCheck_spec {n : Nat} {L : List (List (Nat × Option Nat) × Option (Nat × Bool))} (h : relCheck ops n L = true) : L.length = ops.size ∧ ∀ i o, ops[i]? = some o → ∃ ds g, L[i]? = some (ds, g) ∧ relCheckOp ops n i o ds g = true := by
  unfold relCheck at h
  simp only [Bool.and_eq_true, beq_iff_eq, List.all_eq_true, List.mem_range] at h
  refine ⟨h.1, fun i o ho => ?_⟩
  have hi := (Array.getElem?_eq_some_iff.1 ho).1
  have h2 := h.2 i hi
  rw [ho] at h2
  cases hl : L[i]? with
  | none => rw [hl] at h2; simp at h2
  | some x => rw [hl] at h2; exact ⟨x.1, x.2, rfl, h2⟩

theorem wp_region_rel {id : Nat} (w0 : World) (R : World → World → Prop) (F : World → Prop) (L : List (List (Nat × Option Nat) × Option (Nat × Bool))) (hm : P.follows .mixedOrders = true)
    (hL : relCheck ops a0.tmps.size L = true) (hF : F { w0 with drawn := w0.drawn + 1 }) (h : RelAll P R F Q a0 ops.toList ops.toList L []) : (Code.region id ops true).wp P Q a0 w0 := by
  obtain ⟨hlen, hop⟩ := relCheck_spec hL
  obtain ⟨Ds, h1, h2, h3, h4⟩ := rel_facts ops.toList ops.toList L [] (by simpa using hlen) h
  simp only [List.append_nil] at h3
  simp only [List.reverse_nil, List.nil_append] at h4
  have hspec : ∀ i o, ops[i]? = some o → ∃ ds g, L[i]? = some (ds, g) ∧ (∀ e ∈ o.after, e.on < i) ∧ (∃ d, o.dst = some d ∧ d < a0.tmps.size ∧ ∀ k, k ≠ i → dstAt ops k ≠ some d) ∧
      (∀ x ∈ ds, match x.2 with
        | some r => r < i ∧ dstAt ops (i - 1 - r) = some x.1 ∧ afterOn o (i - 1 - r) = true
        | none => ∀ k, k < ops.size → dstAt ops k ≠ some x.1 ∨ k = i ∨ ∃ ok, ops[k]? = some ok ∧ afterOn ok i = true) ∧
      (match o.guard, g with
        | none, none => True
        | some (j, b), some (t, b') => b = b' ∧ dstAt ops j = some t
        | _, _ => False) := by
    intro i o ho
    obtain ⟨ds, g, hg, hc⟩ := hop i o ho
    unfold relCheckOp at hc
    simp only [Bool.and_eq_true] at hc
    obtain ⟨⟨⟨c1, c2⟩, c3⟩, c4⟩ := hc
    refine ⟨ds, g, hg, ?_, ?_, ?_, ?_⟩
    · rw [Array.all_eq_true'] at c1
      exact fun e he => by simpa using c1 e he
    · cases hd : o.dst with
      | none => rw [hd] at c2; simp at c2
      | some d =>
        rw [hd] at c2
        simp only [Bool.and_eq_true, decide_eq_true_eq, List.all_eq_true, List.mem_range] at c2
        refine ⟨d, rfl, c2.1, fun k hk he => ?_⟩
        have hks : k < ops.size := by
          rcases Nat.lt_or_ge k ops.size with h' | h'
          · exact h'
          · unfold dstAt at he; rw [Array.getElem?_eq_none h'] at he; simp at he
        have := c2.2 k hks
        simp [hk, he] at this
    · intro x hx
      rw [List.all_eq_true] at c3
      have := c3 x hx
      cases hx2 : x.2 with
      | some j => rw [hx2] at this; simpa [Bool.and_eq_true, and_assoc] using this
      | none =>
        rw [hx2] at this
        intro k hk
        simp only [List.all_eq_true, List.mem_range] at this
        have h' := this k hk
        simp only [Bool.or_eq_true, Bool.not_eq_true', beq_eq_false_iff_ne, beq_iff_eq] at h'
        rcases h' with (h' | h') | h'
        · exact .inl h'
        · exact .inr (.inl h')
        · cases hok : ops[k]? with
          | none => rw [hok] at h'; simp at h'
          | some ok => rw [hok] at h'; exact .inr (.inr ⟨ok, rfl, h'⟩)
    · cases hgd : o.guard with
      | none => rw [hgd] at c4; cases g <;> simp_all
      | some x =>
        rw [hgd] at c4
        obtain ⟨j, b⟩ := x
        cases g with
        | none => simp at c4
        | some y => obtain ⟨t, b'⟩ := y; simpa using c4
  -- whatever order
  have key : ∀ (fuel : Nat) (listed : Array Bool) (a : Act) (w : World), (unlisted ops listed).length ≤ fuel → RelInv F a0 ops Ds listed a w → wpAny P .any ops Q fuel listed a w := by
    have hend : ∀ (listed : Array Bool) (a : Act) (w : World), RelInv F a0 ops Ds listed a w → Region.ready .any ops listed = [] → Q .normal a w := by
      intro listed a w hi hr
      have hall : ∀ i, i < ops.size → listed.getD i false = true := by
        intro i
        induction i using Nat.strongRecOn with
        | _ i ih =>
          intro hi'
          cases hun : listed.getD i false with
          | true => rfl
          | false =>
            exfalso
            have ho : ops[i]? = some ops[i] := Array.getElem?_eq_getElem hi'
            obtain ⟨ds, g, _, hon, _⟩ := hspec i _ ho
            have hmem : i ∈ Region.ready .any ops listed := mem_ready.2 ⟨by
              have hil : i < listed.size := by rw [hi.lsize]; exact hi'
              simp only [Array.getD_eq_getD_getElem?, Array.getElem?_eq_getElem hil, Option.getD_some] at hun ⊢
              exact hun, _, ho, fun e he _ => ih e.on (hon e he) (Nat.lt_trans (hon e he) hi')⟩
            rw [hr] at hmem
            cases hmem
      refine rel_end (Ds := Ds) w a hi.size hi.defers ops.toList Ds a0 (by simpa using h1) ?_ ?_ hi.size.symm hi.defers.symm ?_ (h4 w hi.world)
      · intro k o d hk hd
        have hk' : ops[k]? = some o := by simpa using hk
        exact hi.told k o d hk' (hall k (Array.getElem?_eq_some_iff.1 hk').1) hd
      · intro k o hk hd
        have hk' : ops[k]? = some o := by simpa using hk
        obtain ⟨_, _, _, _, ⟨d, hd', _⟩, _⟩ := hspec k o hk'
        rw [hd] at hd'; cases hd'
      · intro t ht
        exact (hi.rest t fun k _ he => by
          unfold dstAt at he
          cases hok : ops[k]? with
          | none => rw [hok] at he; simp at he
          | some ok => rw [hok] at he; exact ht k ok (by simpa using hok) he).symm
    intro fuel
    induction fuel with
    | zero =>
      intro listed a w hc hi
      have hr : Region.ready .any ops listed = [] := by
        cases hrd : Region.ready .any ops listed with
        | nil => rfl
        | cons i r =>
          exfalso
          have hmem : i ∈ Region.ready .any ops listed := by rw [hrd]; simp
          obtain ⟨hun, o, ho, _⟩ := mem_ready.1 hmem
          have hi' := (Array.getElem?_eq_some_iff.1 ho).1
          have hil : i < listed.size := by rw [hi.lsize]; exact hi'
          have hu : listed.getD i false = false := by
            simp only [Array.getD_eq_getD_getElem?, Array.getElem?_eq_getElem hil, Option.getD_some] at hun ⊢
            exact hun
          have : i ∈ unlisted ops listed := List.mem_filter.2 ⟨List.mem_range.2 hi', by rw [hu]; rfl⟩
          have := List.length_pos_of_mem this
          omega
      exact ⟨hr, hend listed a w hi hr⟩
    | succ fuel ih =>
      intro listed a w hc hi
      refine ⟨hend listed a w hi, fun i hmem => ?_⟩
      obtain ⟨hun, o, ho, hdown⟩ := mem_ready.1 hmem
      have hi' := (Array.getElem?_eq_some_iff.1 ho).1
      have hil : i < listed.size := by rw [hi.lsize]; exact hi'
      have hu : listed.getD i false = false := by
        simp only [Array.getD_eq_getD_getElem?, Array.getElem?_eq_getElem hil, Option.getD_some] at hun ⊢
        exact hun
      obtain ⟨ds, g, hg, hon, ⟨d, hd, hdn, hdk⟩, hds, hgd⟩ := hspec i o ho
      have hlt := unlisted_set (ops := ops) hi' hi.lsize hu
      have hkn := rel_known (by simpa using h1) hi hu ho hdown ds hds
      have hst := h3 i o ds g (by simpa using ho) hg a w hi.size hi.world hkn
      have next : ∀ (v : Value) (w' : World), (R w w' ∨ w' = w) → F w' → (Ds.getD i fun _ _ => True) v w' → wpAny P .any ops Q fuel (listed.setIfInBounds i true) (a.put o.dst v) w' := fun v w' hR hF' hv =>
        ih _ _ _ (by omega) (hi.step h2 ho hdown (fun d' hd' => by rw [hd] at hd'; obtain rfl := Option.some.inj hd'; exact ⟨hdn, hdk⟩) v hR hF' hv)
      unfold wpOp
      rw [ho]
      simp only
      cases hgu : o.guard with
      | none =>
        rw [hgu] at hgd
        cases g with
        | some y => simp at hgd
        | none =>
          have hw : Region.wanted o (yielded ops a.tmps) = true := by simp [Region.wanted, hgu]
          rw [if_pos hw]
          exact .inl (Oper.wp_mono (fun a' w' ⟨v, ha, hR, hF', hv⟩ => by rw [ha]; exact next v w' (.inl hR) hF' hv) hst)
      | some x =>
        obtain ⟨j, b⟩ := x
        rw [hgu] at hgd
        cases g with
        | none => simp at hgd
        | some y =>
          obtain ⟨t, b'⟩ := y
          obtain ⟨rfl, hjt⟩ := hgd
          obtain ⟨c, hc1, hc2⟩ := hst
          have hy : yielded ops a.tmps j = some c := by
            unfold yielded
            unfold dstAt at hjt
            have ht : a.tmps[t]? = some (.bool c) := by
              rw [Array.getD_eq_getD_getElem?] at hc1
              cases ht : a.tmps[t]? with
              | none => rw [ht] at hc1; simp [undef] at hc1
              | some v => rw [ht] at hc1; simpa using hc1
            rw [hjt, Option.bind_some, ht]
          have hw : Region.wanted o (yielded ops a.tmps) = (some c == some b) := by simp [Region.wanted, hgu, hy]
          by_cases hcb : c = b
          · rw [if_pos hcb] at hc2
            rw [if_pos (by rw [hw, hcb]; simp)]
            exact .inl (Oper.wp_mono (fun a' w' ⟨v, ha, hR, hF', hv⟩ => by rw [ha]; exact next v w' (.inl hR) hF' hv) hc2)
          · rw [if_neg hcb] at hc2
            rw [if_neg (by rw [hw]; simp [hcb])]
            exact next undef w (.inr rfl) hi.world hc2
  refine wp_region_any hm (key _ _ _ _ (by unfold unlisted; exact Nat.le_trans (List.length_filter_le _ _) (by simp)) ⟨hF, rfl, rfl, by simp, ?_, fun _ _ => rfl, ?_⟩)
  · intro i o d ho hl
    have hi := (Array.getElem?_eq_some_iff.1 ho).1
    simp [Array.getD, hi] at hl
  · intro i o ho hl
    have hi := (Array.getElem?_eq_some_iff.1 ho).1
    simp [Array.getD, hi] at hl
end

/-! ### For the hand that walks -/
section
variable {P : Program} {R : World → World → Prop} {F : World → Prop} {Q : Exit → Act → World → Prop} {a0 : Act} {all os : List Oper} {o : Oper} {ds : List (Nat × Option Nat)} {g : Option (Nat × Bool)}
  {ls : List (List (Nat × Option Nat) × Option (Nat × Bool))} {acc : List (Value → World → Prop)}

/-- It is this value. -/
def Is (c : Value) (v : Value) (_ : World) : Prop := v = c

theorem rel_pure (h : ∃ c, (∀ a w, F w → RelKnown a0 acc a w ds → RelStep P R F Q (Is c) o a w g) ∧ RelAll P R F Q a0 all os ls (Is c :: acc)) : RelAll P R F Q a0 all (o :: os) ((ds, g) :: ls) acc := by
  obtain ⟨c, h1, h2⟩ := h
  exact ⟨Is c, fun _ _ _ _ h => h, fun a w _ => h1 a w, h2⟩
theorem rel_some (D : Value → World → Prop) (hD : ∀ v w w', R w w' → D v w → D v w') (h : ∀ a w, F w → RelKnown a0 acc a w ds → RelStep P R F Q D o a w g) (h2 : RelAll P R F Q a0 all os ls (D :: acc)) : RelAll P R F Q a0 all (o :: os) ((ds, g) :: ls) acc :=
  ⟨D, hD, fun a w _ => h a w, h2⟩
theorem rel_any {α : Type} (D : α → Value → World → Prop) (hD : ∀ s v w w', R w w' → D s v w → D s v w') (h : ∃ s, (∀ a w, F w → RelKnown a0 acc a w ds → RelStep P R F Q (D s) o a w g) ∧ RelAll P R F Q a0 all os ls (D s :: acc)) : RelAll P R F Q a0 all (o :: os) ((ds, g) :: ls) acc := by
  obtain ⟨s, h1, h2⟩ := h
  exact ⟨D s, hD s, fun a w _ => h1 a w, h2⟩
theorem rel_done (h : ∀ w, F w → RelEnd Q w all acc.reverse a0) : RelAll P R F Q a0 all [] [] acc := h

theorem rel_nil {w : World} {a : Act} (h : Q .normal a w) : RelEnd Q w [] [] a := h
variable {D : Value → World → Prop} {a : Act} {w : World} {t : Nat} {b : Bool}
theorem rel_none (h : ∀ K : Act → World → Prop, (∀ v w', R w w' → F w' → D v w' → K (a.put o.dst v) w') → o.wp P a w K Q) : RelStep P R F Q D o a w none :=
  h _ fun v _ hR hF hD => ⟨v, rfl, hR, hF, hD⟩
theorem rel_yes (hc : Is (.bool b) (a.tmps.getD t undef) w) (h : ∀ K : Act → World → Prop, (∀ v w', R w w' → F w' → D v w' → K (a.put o.dst v) w') → o.wp P a w K Q) : RelStep P R F Q D o a w (some (t, b)) :=
  ⟨b, hc, by rw [if_pos rfl]; exact h _ fun v _ hR hF hD => ⟨v, rfl, hR, hF, hD⟩⟩
theorem rel_no {c : Bool} (hc : Is (.bool c) (a.tmps.getD t undef) w) (hne : (c == b) = false) (h : D undef w) : RelStep P R F Q D o a w (some (t, b)) :=
  ⟨c, hc, by rw [if_neg (by simpa using hne)]; exact h⟩
end
/-- The world has only grown. -/
def Grow (w w' : World) : Prop := Below w.heap.size w w'
theorem Grow.refl (w : World) : Grow w w := Below.refl _ _
theorem Grow.alloc (w : World) (o : Obj) : Grow w (w.alloc o) := (Below.refl _ _).alloc (Nat.le_refl _) o
theorem Grow.cell {w w' : World} (h : Grow w w') {b j : Nat} {v : Value} (hc : w.cell? ⟨b, j, none⟩ = some v) : w'.cell? ⟨b, j, none⟩ = some v :=
  (Below.cell h (p := ⟨b, j, none⟩) (World.block_lt_of_cell? w _ hc)).trans hc
theorem Grow.drewN (w : World) (n : Nat) : Grow w (w.drewN n) := below_drewN (Below.refl _ _) n
end Go.Proofs.Ytmmbhjomgpnklaa
