/- A region that draws its order, where what is known of the world tells which operations have come up: for calls of which each writes what the other leaves. No program in sight. -/
import Derived.Test.YtdicgpbdfnlniaaRel
namespace Go.Proofs.Ytdicgpbdfnlniaa
open Go.RowKit
set_option linter.unusedVariables false
/-- One operation. -/
def RelStepL (P : Program) (R : World → World → Prop) (F' : World → Prop) (Q : Exit → Act → World → Prop) (D : Value → World → Prop) (o : Oper) (a : Act) (w : World) : Option (Nat × Bool) → Prop
  | none => o.wp P a w (fun a' w' => ∃ v, a' = a.put o.dst v ∧ R w w' ∧ F' w' ∧ D v w') Q
  | some (t, b) => ∃ c, a.tmps.getD t undef = .bool c ∧ if c = b then o.wp P a w (fun a' w' => ∃ v, a' = a.put o.dst v ∧ R w w' ∧ F' w' ∧ D v w') Q else F' w ∧ D undef w
def RelAllL (P : Program) (R : World → World → Prop) (F : (Nat → Bool) → World → Prop) (Q : Exit → Act → World → Prop) (a0 : Act) (all : List Oper) :
    List Oper → List (List (Nat × Option Nat) × Option (Nat × Bool)) → List (Value → World → Prop) → Prop
  | o :: os, (ds, g) :: ls, acc => ∃ D : Value → World → Prop, (∀ v w w', R w w' → D v w → D v w') ∧
      (∀ s a w, a.tmps.size = a0.tmps.size → s acc.length = false → F s w → RelKnown a0 acc a w ds → RelStepL P R (F fun k => k == acc.length || s k) Q D o a w g) ∧ RelAllL P R F Q a0 all os ls (D :: acc)
  | _, _, acc => ∀ s w, (∀ k, k < all.length → s k = true) → F s w → RelEnd Q w all acc.reverse a0
section
variable {P : Program} {R : World → World → Prop} {F : (Nat → Bool) → World → Prop} {Q : Exit → Act → World → Prop} {a0 : Act} {ops : Array Oper}
theorem relL_facts (all : List Oper) : ∀ (os : List Oper) (ls : List (List (Nat × Option Nat) × Option (Nat × Bool))) (acc : List (Value → World → Prop)), ls.length = os.length → RelAllL P R F Q a0 all os ls acc →
    ∃ Ds : List (Value → World → Prop), Ds.length = os.length ∧ (∀ D ∈ Ds, ∀ v w w', R w w' → D v w → D v w') ∧
      (∀ k o ds g, os[k]? = some o → ls[k]? = some (ds, g) → ∀ s a w, a.tmps.size = a0.tmps.size → s (acc.length + k) = false → F s w → RelKnown a0 ((Ds.take k).reverse ++ acc) a w ds → RelStepL P R (F fun j => j == acc.length + k || s j) Q (Ds.getD k fun _ _ => True) o a w g) ∧
      ∀ s w, (∀ k, k < all.length → s k = true) → F s w → RelEnd Q w all (acc.reverse ++ Ds) a0
  | [], [], acc, _, h => ⟨[], rfl, by simp, by simp, by simpa [RelAllL] using h⟩
  | o :: os, (ds, g) :: ls, acc, hl, h => by
    obtain ⟨D, hD, hs, hr⟩ := h
    obtain ⟨Ds, h1, h2, h3, h4⟩ := relL_facts all os ls (D :: acc) (by simpa using hl) hr
    refine ⟨D :: Ds, by simp [h1], ?_, ?_, ?_⟩
    · intro E hE
      rcases List.mem_cons.1 hE with rfl | hE
      · exact hD
      · exact h2 E hE
    · intro k o' ds' g' ho hg s a w hz hun hF hk
      cases k with
      | zero =>
        simp at ho hg
        obtain ⟨rfl, rfl⟩ := hg
        subst ho
        simpa using hs s a w hz (by simpa using hun) hF (by simpa using hk)
      | succ k =>
        simp only [List.getElem?_cons_succ] at ho hg
        have e : (D :: acc).length + k = acc.length + (k + 1) := by simp; omega
        have := h3 k o' ds' g' ho hg s a w hz (by rw [e]; exact hun) hF (by simpa using hk)
        rw [e] at this
        simpa using this
    · simpa using h4
  | [], _ :: _, _, hl, _ => by simp at hl
  | _ :: _, [], _, hl, _ => by simp at hl
/-- Which have come up. -/
def upOf (listed : Array Bool) (k : Nat) : Bool := listed.getD k false
theorem upOf_set (l : Array Bool) (i : Nat) (h : i < l.size) : upOf (l.setIfInBounds i true) = fun j => j == i || upOf l j := by
  funext j
  unfold upOf
  have := listed_set l i j h
  cases e : l.getD j false <;> cases e2 : (l.setIfInBounds i true).getD j false <;> simp_all

theorem wp_region_relL {id : Nat} (w0 : World) (R : World → World → Prop) (F : (Nat → Bool) → World → Prop) (L : List (List (Nat × Option Nat) × Option (Nat × Bool))) (hm : P.follows .mixedOrders = true)
    (hL : relCheck ops a0.tmps.size L = true) (hF : F (fun _ => false) { w0 with drawn := w0.drawn + 1 }) (h : RelAllL P R F Q a0 ops.toList ops.toList L []) : (Code.region id ops true).wp P Q a0 w0 := by
  obtain ⟨hlen, hop⟩ := relCheck_spec hL
  obtain ⟨Ds, h1, h2, h3, h4⟩ := relL_facts ops.toList ops.toList L [] (by simpa using hlen) h
  simp only [List.append_nil] at h3
  simp only [List.reverse_nil, List.nil_append] at h4
  have hspec : ∀ i o, ops[i]? = some o → ∃ ds g, L[i]? = some (ds, g) ∧ (∀ e ∈ o.after, e.on < i) ∧ (∃ d, o.dst = some d ∧ d < a0.tmps.size ∧ ∀ k, k ≠ i → dstAt ops k ≠ some d) ∧
      (∀ x ∈ ds, match x.2 with
        | some r => r < i ∧ dstAt ops (i - 1 - r) = some x.1 ∧ afterOn o (i - 1 - r) = true
        | none => ∀ k, k < ops.size → dstAt ops k ≠ some x.1 ∨ k = i ∨ ∃ ok, ops[k]? = some ok ∧ afterOn ok i = true) ∧
      (match o.guard, g with
        | none, none => True
        | some (j, b), some (t, b') => b = b' ∧ dstAt ops j = some t
        | _, _ => False) := by
    intro i o ho
    obtain ⟨ds, g, hg, hc⟩ := hop i o ho
    unfold relCheckOp at hc
    simp only [Bool.and_eq_true] at hc
    obtain ⟨⟨⟨c1, c2⟩, c3⟩, c4⟩ := hc
    refine ⟨ds, g, hg, ?_, ?_, ?_, ?_⟩
    · rw [Array.all_eq_true'] at c1
      exact fun e he => by simpa using c1 e he
    · cases hd : o.dst with
      | none => rw [hd] at c2; simp at c2
      | some d =>
        rw [hd] at c2
        simp only [Bool.and_eq_true, decide_eq_true_eq, List.all_eq_true, List.mem_range] at c2
        refine ⟨d, rfl, c2.1, fun k hk he => ?_⟩
        have hks : k < ops.size := by
          rcases Nat.lt_or_ge k ops.size with h' | h'
          · exact h'
          · unfold dstAt at he; rw [Array.getElem?_eq_none h'] at he; simp at he
        have := c2.2 k hks
        simp [hk, he] at this
    · intro x hx
      rw [List.all_eq_true] at c3
      have := c3 x hx
      cases hx2 : x.2 with
      | some j => rw [hx2] at this; simpa [Bool.and_eq_true, and_assoc] using this
      | none =>
        rw [hx2] at this
        intro k hk
        simp only [List.all_eq_true, List.mem_range] at this
        have h' := this k hk
        simp only [Bool.or_eq_true, Bool.not_eq_true', beq_eq_false_iff_ne, beq_iff_eq] at h'
        rcases h' with (h' | h') | h'
        · exact .inl h'
        · exact .inr (.inl h')
        · cases hok : ops[k]? with
          | none => rw [hok] at h'; simp at h'
          | some ok => rw [hok] at h'; exact .inr (.inr ⟨ok, rfl, h'⟩)
    · cases hgd : o.guard with
      | none => rw [hgd] at c4; cases g <;> simp_all
      | some x =>
        rw [hgd] at c4
        obtain ⟨j, b⟩ := x
        cases g with
        | none => simp at c4
        | some y => obtain ⟨t, b'⟩ := y; simpa using c4
  -- whatever order
  have key : ∀ (fuel : Nat) (listed : Array Bool) (a : Act) (w : World), (unlisted ops listed).length ≤ fuel → (RelInv (fun _ => True) a0 ops Ds listed a w ∧ F (upOf listed) w) → wpAny P .any ops Q fuel listed a w := by
    have hend : ∀ (listed : Array Bool) (a : Act) (w : World), (RelInv (fun _ => True) a0 ops Ds listed a w ∧ F (upOf listed) w) → Region.ready .any ops listed = [] → Q .normal a w := by
      intro listed a w ⟨hi, hFl⟩ hr
      have hall : ∀ i, i < ops.size → listed.getD i false = true := by
        intro i
        induction i using Nat.strongRecOn with
        | _ i ih =>
          intro hi'
          cases hun : listed.getD i false with
          | true => rfl
          | false =>
            exfalso
            have ho : ops[i]? = some ops[i] := Array.getElem?_eq_getElem hi'
            obtain ⟨ds, g, _, hon, _⟩ := hspec i _ ho
            have hmem : i ∈ Region.ready .any ops listed := mem_ready.2 ⟨by
              have hil : i < listed.size := by rw [hi.lsize]; exact hi'
              simp only [Array.getD_eq_getD_getElem?, Array.getElem?_eq_getElem hil, Option.getD_some] at hun ⊢
              exact hun, _, ho, fun e he _ => ih e.on (hon e he) (Nat.lt_trans (hon e he) hi')⟩
            rw [hr] at hmem
            cases hmem
      refine rel_end (Ds := Ds) w a hi.size hi.defers ops.toList Ds a0 (by simpa using h1) ?_ ?_ hi.size.symm hi.defers.symm ?_ (h4 (upOf listed) w (fun k hk => hall k (by simpa using hk)) hFl)
      · intro k o d hk hd
        have hk' : ops[k]? = some o := by simpa using hk
        exact hi.told k o d hk' (hall k (Array.getElem?_eq_some_iff.1 hk').1) hd
      · intro k o hk hd
        have hk' : ops[k]? = some o := by simpa using hk
        obtain ⟨_, _, _, _, ⟨d, hd', _⟩, _⟩ := hspec k o hk'
        rw [hd] at hd'; cases hd'
      · intro t ht
        exact (hi.rest t fun k _ he => by
          unfold dstAt at he
          cases hok : ops[k]? with
          | none => rw [hok] at he; simp at he
          | some ok => rw [hok] at he; exact ht k ok (by simpa using hok) he).symm
    intro fuel
    induction fuel with
    | zero =>
      intro listed a w hc ⟨hi, hFl⟩
      have hr : Region.ready .any ops listed = [] := by
        cases hrd : Region.ready .any ops listed with
        | nil => rfl
        | cons i r =>
          exfalso
          have hmem : i ∈ Region.ready .any ops listed := by rw [hrd]; simp
          obtain ⟨hun, o, ho, _⟩ := mem_ready.1 hmem
          have hi' := (Array.getElem?_eq_some_iff.1 ho).1
          have hil : i < listed.size := by rw [hi.lsize]; exact hi'
          have hu : listed.getD i false = false := by
            simp only [Array.getD_eq_getD_getElem?, Array.getElem?_eq_getElem hil, Option.getD_some] at hun ⊢
            exact hun
          have : i ∈ unlisted ops listed := List.mem_filter.2 ⟨List.mem_range.2 hi', by rw [hu]; rfl⟩
          have := List.length_pos_of_mem this
          omega
      exact ⟨hr, hend listed a w ⟨hi, hFl⟩ hr⟩
    | succ fuel ih =>
      intro listed a w hc ⟨hi, hFl⟩
      refine ⟨hend listed a w ⟨hi, hFl⟩, fun i hmem => ?_⟩
      obtain ⟨hun, o, ho, hdown⟩ := mem_ready.1 hmem
      have hi' := (Array.getElem?_eq_some_iff.1 ho).1
      have hil : i < listed.size := by rw [hi.lsize]; exact hi'
      have hu : listed.getD i false = false := by
        simp only [Array.getD_eq_getD_getElem?, Array.getElem?_eq_getElem hil, Option.getD_some] at hun ⊢
        exact hun
      obtain ⟨ds, g, hg, hon, ⟨d, hd, hdn, hdk⟩, hds, hgd⟩ := hspec i o ho
      have hlt := unlisted_set (ops := ops) hi' hi.lsize hu
      have hkn := rel_known (by simpa using h1) hi hu ho hdown ds hds
      have hst0 := h3 i o ds g (by simpa using ho) hg (upOf listed) a w hi.size (by simpa [upOf] using hu) hFl hkn
      have hst := hst0
      simp only [List.length_nil, Nat.zero_add] at hst
      have next : ∀ (v : Value) (w' : World), (R w w' ∨ w' = w) → F (fun j => j == i || upOf listed j) w' → (Ds.getD i fun _ _ => True) v w' → wpAny P .any ops Q fuel (listed.setIfInBounds i true) (a.put o.dst v) w' := fun v w' hR hF' hv =>
        ih _ _ _ (by omega) ⟨hi.step h2 ho hdown (fun d' hd' => by rw [hd] at hd'; obtain rfl := Option.some.inj hd'; exact ⟨hdn, hdk⟩) v hR trivial hv, by rw [upOf_set _ _ hil]; exact hF'⟩
      unfold wpOp
      rw [ho]
      simp only
      cases hgu : o.guard with
      | none =>
        rw [hgu] at hgd
        cases g with
        | some y => simp at hgd
        | none =>
          have hw : Region.wanted o (yielded ops a.tmps) = true := by simp [Region.wanted, hgu]
          rw [if_pos hw]
          exact .inl (Oper.wp_mono (fun a' w' ⟨v, ha, hR, hF', hv⟩ => by rw [ha]; exact next v w' (.inl hR) hF' hv) hst)
      | some x =>
        obtain ⟨j, b⟩ := x
        rw [hgu] at hgd
        cases g with
        | none => simp at hgd
        | some y =>
          obtain ⟨t, b'⟩ := y
          obtain ⟨rfl, hjt⟩ := hgd
          obtain ⟨c, hc1, hc2⟩ := hst
          have hy : yielded ops a.tmps j = some c := by
            unfold yielded
            unfold dstAt at hjt
            have ht : a.tmps[t]? = some (.bool c) := by
              rw [Array.getD_eq_getD_getElem?] at hc1
              cases ht : a.tmps[t]? with
              | none => rw [ht] at hc1; simp [undef] at hc1
              | some v => rw [ht] at hc1; simpa using hc1
            rw [hjt, Option.bind_some, ht]
          have hw : Region.wanted o (yielded ops a.tmps) = (some c == some b) := by simp [Region.wanted, hgu, hy]
          by_cases hcb : c = b
          · rw [if_pos hcb] at hc2
            rw [if_pos (by rw [hw, hcb]; simp)]
            exact .inl (Oper.wp_mono (fun a' w' ⟨v, ha, hR, hF', hv⟩ => by rw [ha]; exact next v w' (.inl hR) hF' hv) hc2)
          · rw [if_neg hcb] at hc2
            rw [if_neg (by rw [hw]; simp [hcb])]
            exact next undef w (.inr rfl) hc2.1 hc2.2
  refine wp_region_any hm (key _ _ _ _ (by unfold unlisted; exact Nat.le_trans (List.length_filter_le _ _) (by simp)) ⟨⟨trivial, rfl, rfl, by simp, ?_, fun _ _ => rfl, ?_⟩, ?_⟩)
  · intro i o d ho hl
    have hi := (Array.getElem?_eq_some_iff.1 ho).1
    simp [Array.getD, hi] at hl
  · intro i o ho hl
    have hi := (Array.getElem?_eq_some_iff.1 ho).1
    simp [Array.getD, hi] at hl
  · have e : upOf (Array.replicate ops.size false) = fun _ => false := by
      funext k
      unfold upOf
      simp [Array.getD]
    first
      | exact e ▸ hF
      | (rw [show upOf _ = fun _ => false from e]; exact hF)
end


section
variable {P : Program} {R : World → World → Prop} {F : (Nat → Bool) → World → Prop} {Q : Exit → Act → World → Prop} {a0 : Act} {all os : List Oper} {o : Oper} {ds : List (Nat × Option Nat)} {g : Option (Nat × Bool)}
  {ls : List (List (Nat × Option Nat) × Option (Nat × Bool))} {acc : List (Value → World → Prop)}
theorem relL_pure (h : ∃ c, (∀ s a w, s acc.length = false → F s w → RelKnown a0 acc a w ds → RelStepL P R (F fun k => k == acc.length || s k) Q (Is c) o a w g) ∧ RelAllL P R F Q a0 all os ls (Is c :: acc)) : RelAllL P R F Q a0 all (o :: os) ((ds, g) :: ls) acc := by
  obtain ⟨c, h1, h2⟩ := h
  exact ⟨Is c, fun _ _ _ _ h => h, fun s a w _ => h1 s a w, h2⟩
theorem relL_some (D : Value → World → Prop) (hD : ∀ v w w', R w w' → D v w → D v w') (h : ∀ s a w, s acc.length = false → F s w → RelKnown a0 acc a w ds → RelStepL P R (F fun k => k == acc.length || s k) Q D o a w g) (h2 : RelAllL P R F Q a0 all os ls (D :: acc)) : RelAllL P R F Q a0 all (o :: os) ((ds, g) :: ls) acc :=
  ⟨D, hD, fun s a w _ => h s a w, h2⟩
theorem relL_done (h : ∀ s w, (∀ k, k < all.length → s k = true) → F s w → RelEnd Q w all acc.reverse a0) : RelAllL P R F Q a0 all [] [] acc := h
variable {D : Value → World → Prop} {a : Act} {w : World} {t : Nat} {b : Bool} {F' : World → Prop}
theorem relL_none (h : ∀ K : Act → World → Prop, (∀ v w', R w w' → F' w' → D v w' → K (a.put o.dst v) w') → o.wp P a w K Q) : RelStepL P R F' Q D o a w none :=
  h _ fun v _ hR hF hD => ⟨v, rfl, hR, hF, hD⟩
theorem relL_yes (hc : Is (.bool b) (a.tmps.getD t undef) w) (h : ∀ K : Act → World → Prop, (∀ v w', R w w' → F' w' → D v w' → K (a.put o.dst v) w') → o.wp P a w K Q) : RelStepL P R F' Q D o a w (some (t, b)) :=
  ⟨b, hc, by rw [if_pos rfl]; exact h _ fun v _ hR hF hD => ⟨v, rfl, hR, hF, hD⟩⟩
theorem relL_no {c : Bool} (hc : Is (.bool c) (a.tmps.getD t undef) w) (hne : (c == b) = false) (hF : F' w) (h : D undef w) : RelStepL P R F' Q D o a w (some (t, b)) :=
  ⟨c, hc, by rw [if_neg (by simpa using hne)]; exact ⟨hF, h⟩⟩
end
end Go.Proofs.Ytdicgpbdfnlniaa
