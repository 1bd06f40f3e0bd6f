/- Texts of the proof, merged: RelTail, RelFloat. -/
import Derived.Test.YtnhmdinpfcoebaaGreatDoorM01
import Derived.StillTail
/-! === RelTail -/
section
/- A drawn region whose last operations wait for all others: its head walked in the text's order by a relation (as in Rel), its tail one by one. No program in sight. -/
namespace Go.Proofs.YtnhmdinpfcoebaaGreatDoor
open Go.RowKit
set_option linter.unusedVariables false

/-- One operation, with what stands of the temporaries and the world. -/
def RelStepA (P : Program) (R : World → World → Prop) (F : Act → World → Prop) (Q : Exit → Act → World → Prop) (D : Value → World → Prop) (o : Oper) (a : Act) (w : World) : Option (Nat × Bool) → Prop
  | none => o.wp P a w (fun a' w' => ∃ v, a' = a.put o.dst v ∧ R w w' ∧ F a' w' ∧ D v w') Q
  | some (t, b) => ∃ c, a.tmps.getD t undef = .bool c ∧ if c = b then o.wp P a w (fun a' w' => ∃ v, a' = a.put o.dst v ∧ R w w' ∧ F a' w' ∧ D v w') Q else F (a.put o.dst undef) w ∧ D undef w
/-- The walk of the head, in the order of the text; behind it T. -/
def RelAllT (P : Program) (R : World → World → Prop) (F : Act → World → Prop) (Q : Exit → Act → World → Prop) (T : Act → World → Prop) (a0 : Act) (all : List Oper) :
    List Oper → List (List (Nat × Option Nat) × Option (Nat × Bool)) → List (Value → World → Prop) → Prop
  | o :: os, (ds, g) :: ls, acc => ∃ D : Value → World → Prop, (∀ v w w', R w w' → D v w → D v w') ∧
      (∀ a w, a.tmps.size = a0.tmps.size → F a w → RelKnown a0 acc a w ds → RelStepA P R F Q D o a w g) ∧ RelAllT P R F Q T a0 all os ls (D :: acc)
  | _, _, acc => ∀ w, RelEnd (fun _ a w => F a w → T a w) w all acc.reverse a0

def headUn (n : Nat) (listed : Array Bool) : List Nat := (List.range n).filter fun i => !listed.getD i false
def relCheckT (ops : Array Oper) (m n : Nat) (L : List (List (Nat × Option Nat) × Option (Nat × Bool))) : Bool :=
  L.length == n && (List.range n).all fun i => match ops[i]?, L[i]? with
    | some o, some (ds, g) => relCheckOp ops m i o ds g
    | _, _ => false
def tailB (ops : Array Oper) (n : Nat) : Bool :=
  decide (n < ops.size) && Region.sinkB .any ops n && Region.chainB .any ops n && Region.seqB .any ops (ops.size - n) n ((List.replicate n true ++ List.replicate (ops.size - n) false).toArray)

section
variable {P : Program} {R : World → World → Prop} {F : Act → World → Prop} {Q : Exit → Act → World → Prop} {T : Act → World → Prop} {a0 : Act} {ops : Array Oper}

theorem relT_facts (all : List Oper) : ∀ (os : List Oper) (ls : List (List (Nat × Option Nat) × Option (Nat × Bool))) (acc : List (Value → World → Prop)), ls.length = os.length → RelAllT P R F Q T a0 all os ls acc →
    ∃ Ds : List (Value → World → Prop), Ds.length = os.length ∧ (∀ D ∈ Ds, ∀ v w w', R w w' → D v w → D v w') ∧
      (∀ (k : Nat) (o : Oper) (ds : List (Nat × Option Nat)) (g : Option (Nat × Bool)), os[k]? = some o → ls[k]? = some (ds, g) → ∀ a w, a.tmps.size = a0.tmps.size → F a w → RelKnown a0 ((Ds.take k).reverse ++ acc) a w ds → RelStepA P R F Q (Ds.getD k fun _ _ => True) o a w g) ∧
      ∀ w, RelEnd (fun _ a w => F a w → T a w) w all (acc.reverse ++ Ds) a0
  | [], [], acc, _, h => ⟨[], rfl, by simp, by simp, by simpa [RelAllT] using h⟩
  | o :: os, (ds, g) :: ls, acc, hl, h => by
    obtain ⟨D, hD, hs, hr⟩ := h
    obtain ⟨Ds, h1, h2, h3, h4⟩ := relT_facts all os ls (D :: acc) (by simpa using hl) hr
    refine ⟨D :: Ds, by simp [h1], ?_, ?_, ?_⟩
    · intro E hE
      rcases List.mem_cons.1 hE with rfl | hE
      · exact hD
      · exact h2 E hE
    · intro k o' ds' g' ho hg a w hz hF hk
      cases k with
      | zero =>
        simp at ho hg
        obtain ⟨rfl, rfl⟩ := hg
        subst ho
        simpa using hs a w hz hF (by simpa using hk)
      | succ k =>
        simp only [List.getElem?_cons_succ] at ho hg
        have := h3 k o' ds' g' ho hg a w hz hF (by simpa using hk)
        simpa using this
    · simpa using h4
  | [], _ :: _, _, hl, _ => by simp at hl
  | _ :: _, [], _, hl, _ => by simp at hl

theorem headUn_set {n : Nat} {listed : Array Bool} {i : Nat} (hi : i < n) (hs : i < listed.size) (hun : listed.getD i false = false) : (headUn n (listed.setIfInBounds i true)).length < (headUn n listed).length := by
  have e : headUn n (listed.setIfInBounds i true) = (headUn n listed).filter fun k => !(k == i) := by
    unfold headUn
    rw [List.filter_filter]
    apply List.filter_congr
    intro k _
    have := listed_set listed i k hs
    cases h1 : (listed.setIfInBounds i true).getD k false <;> cases h2 : listed.getD k false <;> simp_all
  rw [e, List.length_filter_lt_length_iff_exists]
  exact ⟨i, List.mem_filter.2 ⟨List.mem_range.2 hi, by rw [hun]; rfl⟩, by simp⟩

theorem wpAny_of_seq_le {md : Region.Mode} {Q' : Exit → Act → World → Prop} : ∀ (l : List Oper) (k : Nat) (listed : Array Bool) (a : Act) (w : World) (f : Nat), l.length ≤ f → (∀ j, l[j]? = ops[k + j]?) →
    Region.seqB md ops l.length k listed = true → wpList P ops Q' l a w → wpAny P md ops Q' f listed a w
  | [], _, listed, _, _, f, _, _, hB, h => by
    have hr : Region.ready md ops listed = [] := by simpa [Region.seqB] using hB
    cases f with
    | zero => exact ⟨hr, h⟩
    | succ f => exact ⟨fun _ => h, fun i hi => by rw [hr] at hi; cases hi⟩
  | o :: l, k, listed, a, w, f, hf, hl, hB, h => by
    have h0 : ops[k]? = some o := by simpa using (hl 0).symm
    simp only [List.length_cons, Region.seqB, Bool.and_eq_true, decide_eq_true_eq] at hB
    cases f with
    | zero => simp at hf
    | succ f =>
      refine ⟨fun h1 => (by rw [hB.1] at h1; cases h1), fun i hi => ?_⟩
      rw [hB.1] at hi
      have hik : i = k := by simpa using hi
      subst hik
      have hw : wpOp P ops Q' i (wpList P ops Q' l) a w := by unfold wpOp; simp only [h0]; exact h
      exact wpOp_mono (fun a' w' h' => wpAny_of_seq_le l (i + 1) _ a' w' f (by simpa using hf) (fun j => by have := hl (j + 1); simpa [Nat.add_assoc, Nat.add_comm 1 j] using this) hB.2 h') hw

theorem wp_region_rel_tail {id : Nat} {l : List Oper} (n : Nat) (w0 : World) (R : World → World → Prop) (F : Act → World → Prop) (L : List (List (Nat × Option Nat) × Option (Nat × Bool))) (hm : P.follows .mixedOrders = true)
    (hT : tailB l.toArray n = true) (hL : relCheckT l.toArray a0.tmps.size n L = true) (hF : F a0 { w0 with drawn := w0.drawn + 1 })
    (h : RelAllT P R F Q (fun a w => wpList P l.toArray Q (l.drop n) a w) a0 (l.take n) (l.take n) L []) : (Code.region id l.toArray true).wp P Q a0 w0 := by
  obtain ⟨ops, hops⟩ : ∃ ops, ops = l.toArray := ⟨_, rfl⟩
  simp only [tailB, Bool.and_eq_true, decide_eq_true_eq] at hT
  obtain ⟨⟨⟨hn, hsink⟩, hchain⟩, hseq⟩ := hT
  rw [← hops] at hn hsink hchain hseq hL h ⊢
  have hlsz : l.length = ops.size := by rw [hops]; simp
  have hget : ∀ i : Nat, ops[i]? = l[i]? := fun i => by rw [hops]; simp
  have htk : (l.take n).length = n := by simp; omega
  unfold relCheckT at hL
  simp only [Bool.and_eq_true, beq_iff_eq, List.all_eq_true, List.mem_range] at hL
  obtain ⟨hlen, hop⟩ := hL
  obtain ⟨Ds, h1, h2, h3, h4⟩ := relT_facts (l.take n) (l.take n) L [] (by rw [htk]; exact hlen) h
  simp only [List.append_nil] at h3
  simp only [List.reverse_nil, List.nil_append] at h4
  rw [htk] at h1
  obtain ⟨Es, hEs⟩ : ∃ Es : List (Value → World → Prop), Es = Ds ++ List.replicate (ops.size - n) (fun _ _ => True) := ⟨_, rfl⟩
  have hEl : Es.length = ops.size := by rw [hEs]; simp [h1]; omega
  have hE2 : ∀ D ∈ Es, ∀ v w w', R w w' → D v w → D v w' := by
    intro D hD
    rw [hEs, List.mem_append] at hD
    rcases hD with hD | hD
    · exact h2 D hD
    · rw [List.eq_of_mem_replicate hD]; exact fun _ _ _ _ _ => trivial
  have hEt : ∀ i, i < n → Es.take i = Ds.take i := fun i hi => by rw [hEs]; exact List.take_append_of_le_length (by omega)
  have hEg : ∀ i, i < n → Es.getD i (fun _ _ => True) = Ds.getD i (fun _ _ => True) := fun i hi => by
    rw [hEs, List.getD_eq_getElem?_getD, List.getD_eq_getElem?_getD, List.getElem?_append_left (by omega)]
  have hspec : ∀ i o, i < n → ops[i]? = some o → ∃ ds g, L[i]? = some (ds, g) ∧ (∀ e ∈ o.after, e.on < i) ∧ (∃ d, o.dst = some d ∧ d < a0.tmps.size ∧ ∀ k, k ≠ i → dstAt ops k ≠ some d) ∧
      (∀ x ∈ ds, match x.2 with
        | some r => r < i ∧ dstAt ops (i - 1 - r) = some x.1 ∧ afterOn o (i - 1 - r) = true
        | none => ∀ k, k < ops.size → dstAt ops k ≠ some x.1 ∨ k = i ∨ ∃ ok, ops[k]? = some ok ∧ afterOn ok i = true) ∧
      (match o.guard, g with
        | none, none => True
        | some (j, b), some (t, b') => b = b' ∧ dstAt ops j = some t
        | _, _ => False) := by
    intro i o hin ho
    have hc := hop i hin
    rw [ho] at hc
    cases hLi : L[i]? with
    | none => rw [hLi] at hc; simp at hc
    | some y =>
    obtain ⟨ds, g⟩ := y
    rw [hLi] at hc
    simp only at hc
    unfold relCheckOp at hc
    simp only [Bool.and_eq_true] at hc
    obtain ⟨⟨⟨c1, c2⟩, c3⟩, c4⟩ := hc
    refine ⟨ds, g, rfl, ?_, ?_, ?_, ?_⟩
    · rw [Array.all_eq_true'] at c1
      exact fun e he => by simpa using c1 e he
    · cases hd : o.dst with
      | none => rw [hd] at c2; simp at c2
      | some d =>
        rw [hd] at c2
        simp only [Bool.and_eq_true, decide_eq_true_eq, List.all_eq_true, List.mem_range] at c2
        refine ⟨d, rfl, c2.1, fun k hk he => ?_⟩
        have hks : k < ops.size := by
          rcases Nat.lt_or_ge k ops.size with h' | h'
          · exact h'
          · unfold dstAt at he; rw [Array.getElem?_eq_none h'] at he; simp at he
        have := c2.2 k hks
        simp [hk, he] at this
    · intro x hx
      rw [List.all_eq_true] at c3
      have := c3 x hx
      cases hx2 : x.2 with
      | some j => rw [hx2] at this; simp only [Bool.and_eq_true, decide_eq_true_eq, beq_iff_eq] at this; exact ⟨this.1.1, this.1.2, this.2⟩
      | none =>
        rw [hx2] at this
        intro k hk
        simp only [List.all_eq_true, List.mem_range] at this
        have h' := this k hk
        simp only [Bool.or_eq_true, Bool.not_eq_true', beq_eq_false_iff_ne, beq_iff_eq] at h'
        rcases h' with (h' | h') | h'
        · exact .inl h'
        · exact .inr (.inl h')
        · cases hok : ops[k]? with
          | none => rw [hok] at h'; simp at h'
          | some ok => rw [hok] at h'; exact .inr (.inr ⟨ok, rfl, h'⟩)
    · cases hgd : o.guard with
      | none =>
        rw [hgd] at c4
        cases g with
        | none => trivial
        | some y => simp at c4
      | some x =>
        rw [hgd] at c4
        obtain ⟨j, b⟩ := x
        cases g with
        | none => simp at c4
        | some y => obtain ⟨t, b'⟩ := y; simp only [Bool.and_eq_true, beq_iff_eq] at c4; exact c4
  have key : ∀ (fuel : Nat) (listed : Array Bool) (a : Act) (w : World), (headUn n listed).length + (ops.size - n) ≤ fuel → RelInv (fun _ => True) a0 ops Es listed a w → F a w → HeadInv .any ops n listed → wpAny P .any ops Q fuel listed a w := by
    intro fuel
    induction fuel with
    | zero => intro listed a w hc hi hF hv; omega
    | succ fuel ih =>
      intro listed a w hc hi hFa hv
      by_cases hall : ∀ i, i < n → listed.getD i false = true
      · -- the head is done: the tail
        have hlist : listed = (List.replicate n true ++ List.replicate (ops.size - n) false).toArray := by
          apply Array.ext_getElem?
          intro i
          have hrt : (List.replicate n true ++ List.replicate (ops.size - n) false).toArray[i]? = (List.replicate n true ++ List.replicate (ops.size - n) false)[i]? := by simp
          rw [hrt]
          by_cases hin : i < n
          · rw [List.getElem?_append_left (by simpa using hin), List.getElem?_replicate_of_lt hin]
            have := hall i hin
            have hil : i < listed.size := by rw [hi.lsize]; omega
            simp only [Array.getD_eq_getD_getElem?, Array.getElem?_eq_getElem hil, Option.getD_some] at this ⊢
            rw [this]
          · rw [List.getElem?_append_right (by simp; omega), List.length_replicate]
            by_cases his : i < ops.size
            · rw [List.getElem?_replicate_of_lt (by omega)]
              have := hv.tail i (by omega) his
              have hil : i < listed.size := by rw [hi.lsize]; exact his
              simp only [Array.getD_eq_getD_getElem?, Array.getElem?_eq_getElem hil, Option.getD_some] at this ⊢
              rw [this]
            · rw [Array.getElem?_eq_none (by rw [hi.lsize]; omega), List.getElem?_eq_none (by simp; omega)]
        have hdl : (l.drop n).length = ops.size - n := by simp; omega
        have hend : wpList P ops Q (l.drop n) a w := by
          refine rel_end (Q := fun _ a w => F a w → wpList P ops Q (l.drop n) a w) (Ds := Ds) w a hi.size hi.defers (l.take n) Ds a0 (by rw [htk]; exact h1) ?_ ?_ hi.size.symm hi.defers.symm ?_ (h4 w) hFa
          · intro k o d hk hd
            have hkn : k < n := by have := (List.getElem?_eq_some_iff.1 hk).1; rw [htk] at this; exact this
            have hk' : ops[k]? = some o := by rw [hget]; rw [List.getElem?_take_of_lt hkn] at hk; exact hk
            have := hi.told k o d hk' (hall k hkn) hd
            rw [hEg k hkn] at this; exact this
          · intro k o hk hd
            have hkn : k < n := by have := (List.getElem?_eq_some_iff.1 hk).1; rw [htk] at this; exact this
            have hk' : ops[k]? = some o := by rw [hget]; rw [List.getElem?_take_of_lt hkn] at hk; exact hk
            obtain ⟨_, _, _, _, ⟨d, hd', _⟩, _⟩ := hspec k o hkn hk'
            rw [hd] at hd'; cases hd'
          · intro t ht
            exact (hi.rest t fun k hkl he => by
              have hkn : k < n := by
                refine Classical.byContradiction fun hge => ?_
                rcases Nat.lt_or_ge k ops.size with hks | hks
                · have := hv.tail k (by omega) hks
                  have := getD_both this
                  rw [this] at hkl; cases hkl
                · rw [Array.getD_eq_getD_getElem?, Array.getElem?_eq_none (by rw [hi.lsize]; exact hks)] at hkl; simp at hkl
              unfold dstAt at he
              cases hok : ops[k]? with
              | none => rw [hok] at he; simp at he
              | some ok =>
                rw [hok] at he
                exact ht k ok (by rw [List.getElem?_take_of_lt hkn, ← hget]; exact hok) (by simpa using he)).symm
        refine wpAny_of_seq_le (l.drop n) n listed a w (fuel + 1) (by rw [hdl]; omega) (fun j => by rw [hget, List.getElem?_drop]) ?_ hend
        rw [hdl, hlist]; exact hseq
      · obtain ⟨i0, hi0⟩ := Classical.not_forall.1 hall
        obtain ⟨hin0, hun0⟩ := Classical.not_imp.1 hi0
        have hun0' : listed.getD i0 true = false := getD_in (by rw [hi.lsize]; omega) (by simpa using hun0)
        have hno : ∀ t, n ≤ t → t ∉ Region.ready .any ops listed := tail_waits hsink hchain hn hv _ i0 rfl hin0 hun0'
        refine ⟨fun hr => ?_, fun i hmem => ?_⟩
        · exfalso
          apply hall
          intro i
          induction i using Nat.strongRecOn with
          | _ i ih2 =>
            intro hin
            cases hun : listed.getD i false with
            | true => rfl
            | false =>
              exfalso
              have hi' : i < ops.size := by omega
              have ho : ops[i]? = some ops[i] := Array.getElem?_eq_getElem hi'
              obtain ⟨ds, g, _, hon, _⟩ := hspec i _ hin ho
              have hmem : i ∈ Region.ready .any ops listed := mem_ready.2 ⟨getD_in (by rw [hi.lsize]; exact hi') hun, _, ho, fun e he _ => ih2 e.on (hon e he) (Nat.lt_trans (hon e he) hin)⟩
              rw [hr] at hmem
              cases hmem
        · have hin : i < n := by
            refine Classical.byContradiction fun hge => ?_
            exact hno i (by omega) hmem
          obtain ⟨hun, o, ho, hdown⟩ := mem_ready.1 hmem
          have hi' := (Array.getElem?_eq_some_iff.1 ho).1
          have hil : i < listed.size := by rw [hi.lsize]; exact hi'
          have hu : listed.getD i false = false := getD_both hun
          obtain ⟨ds, g, hg, hon, ⟨d, hd, hdn, hdk⟩, hds, hgd⟩ := hspec i o hin ho
          have hlt := headUn_set (n := n) hin hil hu
          have hkn : RelKnown a0 ((Ds.take i).reverse) a w ds := by
            have := rel_known hEl hi hu ho hdown ds hds
            rw [hEt i hin] at this; exact this
          have hst := h3 i o ds g (by rw [List.getElem?_take_of_lt hin, ← hget]; exact ho) hg a w hi.size hFa hkn
          have next : ∀ (v : Value) (w' : World), (R w w' ∨ w' = w) → F (a.put o.dst v) w' → (Ds.getD i fun _ _ => True) v w' → wpAny P .any ops Q fuel (listed.setIfInBounds i true) (a.put o.dst v) w' := fun v w' hR hF' hv' =>
            ih _ _ _ (by omega) (hi.step hE2 ho hdown (fun d' hd' => by rw [hd] at hd'; obtain rfl := Option.some.inj hd'; exact ⟨hdn, hdk⟩) v hR trivial (by rw [hEg i hin]; exact hv')) hF' (hv.set hmem hin)
          unfold wpOp
          rw [ho]
          simp only
          cases hgu : o.guard with
          | none =>
            rw [hgu] at hgd
            cases g with
            | some y => simp at hgd
            | none =>
              have hw : Region.wanted o (yielded ops a.tmps) = true := by simp [Region.wanted, hgu]
              rw [if_pos hw]
              exact .inl (Oper.wp_mono (fun a' w' ⟨v, ha, hR, hF', hv⟩ => by subst ha; exact next v w' (.inl hR) hF' hv) hst)
          | some x =>
            obtain ⟨j, b⟩ := x
            rw [hgu] at hgd
            cases g with
            | none => simp at hgd
            | some y =>
              obtain ⟨t, b'⟩ := y
              obtain ⟨rfl, hjt⟩ := hgd
              obtain ⟨c, hc1, hc2⟩ := hst
              have hy : yielded ops a.tmps j = some c := by
                unfold yielded
                unfold dstAt at hjt
                have ht : a.tmps[t]? = some (.bool c) := by
                  rw [Array.getD_eq_getD_getElem?] at hc1
                  cases ht : a.tmps[t]? with
                  | none => rw [ht] at hc1; simp [undef] at hc1
                  | some v => rw [ht] at hc1; simpa using hc1
                rw [hjt, Option.bind_some, ht]
              have hw : Region.wanted o (yielded ops a.tmps) = (some c == some b) := by simp [Region.wanted, hgu, hy]
              by_cases hcb : c = b
              · rw [if_pos hcb] at hc2
                rw [if_pos (by rw [hw, hcb]; simp)]
                exact .inl (Oper.wp_mono (fun a' w' ⟨v, ha, hR, hF', hv⟩ => by subst ha; exact next v w' (.inl hR) hF' hv) hc2)
              · rw [if_neg hcb] at hc2
                rw [if_neg (by rw [hw]; simp [hcb])]
                exact next undef w (.inr rfl) hc2.1 hc2.2
  refine wp_region_any hm (key _ _ _ _ (by
    have : (headUn n (Array.replicate ops.size false)).length ≤ n := by unfold headUn; exact Nat.le_trans (List.length_filter_le _ _) (by simp)
    omega) ⟨trivial, rfl, rfl, by simp, ?_, fun _ _ => rfl, ?_⟩ hF ⟨by simp, fun j oj _ hl => (by rw [getD_replicate_false] at hl; cases hl), fun t _ ht => getD_in (by simpa using ht) (getD_replicate_false _ _)⟩)
  · intro i o d ho hl
    rw [getD_replicate_false] at hl; cases hl
  · intro i o ho hl
    rw [getD_replicate_false] at hl; cases hl
end

section
variable {P : Program} {R : World → World → Prop} {F : Act → World → Prop} {Q : Exit → Act → World → Prop} {T : Act → World → Prop} {a0 : Act} {all os : List Oper} {o : Oper} {ds : List (Nat × Option Nat)} {g : Option (Nat × Bool)}
  {ls : List (List (Nat × Option Nat) × Option (Nat × Bool))} {acc : List (Value → World → Prop)}
theorem relT_pure (h : ∃ c, (∀ a w, F a w → RelKnown a0 acc a w ds → RelStepA P R F Q (Is c) o a w g) ∧ RelAllT P R F Q T a0 all os ls (Is c :: acc)) : RelAllT P R F Q T a0 all (o :: os) ((ds, g) :: ls) acc := by
  obtain ⟨c, h1, h2⟩ := h
  exact ⟨Is c, fun v w w' _ h => h, fun a w _ => h1 a w, h2⟩
theorem relT_some (D : Value → World → Prop) (hD : ∀ v w w', R w w' → D v w → D v w') (h : ∀ a w, F a w → RelKnown a0 acc a w ds → RelStepA P R F Q D o a w g) (h2 : RelAllT P R F Q T a0 all os ls (D :: acc)) : RelAllT P R F Q T a0 all (o :: os) ((ds, g) :: ls) acc :=
  ⟨D, hD, fun a w _ => h a w, h2⟩
theorem relT_done (h : ∀ w, RelEnd (fun _ a w => F a w → T a w) w all acc.reverse a0) : RelAllT P R F Q T a0 all [] [] acc := h
theorem relT_nil {w : World} {a : Act} (h : F a w → T a w) : RelEnd (fun _ a w => F a w → T a w) w [] [] a := h
variable {D : Value → World → Prop} {a : Act} {w : World} {t : Nat} {b : Bool}
theorem relT_none (h : ∀ K : Act → World → Prop, (∀ v w', R w w' → F (a.put o.dst v) w' → D v w' → K (a.put o.dst v) w') → o.wp P a w K Q) : RelStepA P R F Q D o a w none :=
  h _ fun v _ hR hF hD => ⟨v, rfl, hR, hF, hD⟩
end

/-- Slots own blocks of their own, made since B. -/
structure Apart (bl : Value → Nat → Prop) (B : Nat) (S : List Nat) (a : Act) (w : World) : Prop where
  base : B ≤ w.heap.size
  lt : ∀ i ∈ S, ∀ g, bl (a.tmps.getD i undef) g → B ≤ g ∧ g < w.heap.size
  ne : ∀ i ∈ S, ∀ j ∈ S, i ≠ j → ∀ g, bl (a.tmps.getD i undef) g → ¬ bl (a.tmps.getD j undef) g
theorem getD_put_cases (a : Act) (d i : Nat) (v : Value) : (a.put (some d) v).tmps.getD i undef = a.tmps.getD i undef ∨ (i = d ∧ (a.put (some d) v).tmps.getD i undef = v) := by
  by_cases e : d = i
  · subst e
    by_cases h : d < a.tmps.size
    · exact .inr ⟨rfl, getD_put_self _ _ _ h⟩
    · left
      simp only [Act.put, Array.getD_eq_getD_getElem?]
      rw [Array.getElem?_eq_none (by simpa using h), Array.getElem?_eq_none (by omega)]
  · exact .inl (getD_put_ne _ _ _ _ e)
theorem Apart.put {bl : Value → Nat → Prop} {B : Nat} {S : List Nat} {a : Act} {w w' : World} (h : Apart bl B S a w) (hsz : w.heap.size ≤ w'.heap.size) (d : Nat) (v : Value) (hv : ∀ g, bl v g → w.heap.size ≤ g ∧ g < w'.heap.size) : Apart bl B S (a.put (some d) v) w' := by
  refine ⟨Nat.le_trans h.base hsz, fun i hi g hg => ?_, fun i hi j hj hij g hg hg2 => ?_⟩
  · rcases getD_put_cases a d i v with e | ⟨_, e⟩ <;> rw [e] at hg
    · have := h.lt i hi g hg; omega
    · have := hv g hg; have := h.base; omega
  · rcases getD_put_cases a d i v with e | ⟨r, e⟩ <;> rw [e] at hg <;> rcases getD_put_cases a d j v with e2 | ⟨r2, e2⟩ <;> rw [e2] at hg2
    · exact h.ne i hi j hj hij g hg hg2
    · have := h.lt i hi g hg; have := hv g hg2; omega
    · have := h.lt j hj g hg2; have := hv g hg; omega
    · exact hij (r.trans r2.symm)
theorem Apart.skip {bl : Value → Nat → Prop} {B : Nat} {S : List Nat} {a : Act} {w w' : World} (h : Apart bl B S a w) (hsz : w.heap.size ≤ w'.heap.size) (d : Nat) (hd : d ∉ S) (v : Value) : Apart bl B S (a.put (some d) v) w' := by
  have e : ∀ i ∈ S, (a.put (some d) v).tmps.getD i undef = a.tmps.getD i undef := fun i hi => getD_put_ne _ _ _ _ (fun e => hd (e ▸ hi))
  refine ⟨Nat.le_trans h.base hsz, fun i hi g hg => ?_, fun i hi j hj hij g hg => ?_⟩
  · rw [e i hi] at hg; have := h.lt i hi g hg; omega
  · rw [e i hi] at hg; rw [e j hj]; exact h.ne i hi j hj hij g hg
theorem Apart.first {bl : Value → Nat → Prop} (S : List Nat) (a : Act) (w : World) (h : ∀ i ∈ S, ∀ g, ¬ bl (a.tmps.getD i undef) g) : Apart bl w.heap.size S a w :=
  ⟨Nat.le_refl _, fun i hi g hg => absurd hg (h i hi g), fun i hi _ _ _ g hg => absurd hg (h i hi g)⟩
end Go.Proofs.YtnhmdinpfcoebaaGreatDoor
end

/-! === RelFloat -/
section
/- A drawn region as in RelTail, of which one operation of the head may come behind the first of the tail too. No program in sight. -/
namespace Go.Proofs.YtnhmdinpfcoebaaGreatDoor
open Go.RowKit
set_option linter.unusedVariables false

/-- The walk of the head; behind it T1, or T2 where the operation f is still to come. -/
def RelAllF (P : Program) (R : World → World → Prop) (F : Act → World → Prop) (Q : Exit → Act → World → Prop) (T1 T2 : Act → World → Prop) (f : Nat) (a0 : Act) (all : List Oper) :
    List Oper → List (List (Nat × Option Nat) × Option (Nat × Bool)) → List (Value → World → Prop) → Prop
  | o :: os, (ds, g) :: ls, acc => ∃ D : Value → World → Prop, (∀ v w w', R w w' → D v w → D v w') ∧
      (∀ a w, a.tmps.size = a0.tmps.size → F a w → RelKnown a0 acc a w ds → RelStepA P R F Q D o a w g) ∧ RelAllF P R F Q T1 T2 f a0 all os ls (D :: acc)
  | _, _, acc => (∀ w, RelEnd (fun _ a w => F a w → T1 a w) w all acc.reverse a0) ∧ ∀ w, RelEnd (fun _ a w => F a w → T2 a w) w (all.eraseIdx f) (acc.reverse.eraseIdx f) a0
def seqI (ops : Array Oper) : List Nat → Array Bool → Bool
  | [], listed => (Region.ready .any ops listed).isEmpty
  | i :: is, listed => decide (Region.ready .any ops listed = [i]) && seqI ops is (listed.setIfInBounds i true)
def headMark (n m f : Nat) (b : Bool) : Array Bool := ((List.range m).map fun i => if i = f then b else decide (i < n)).toArray
def relCheckF (ops : Array Oper) (m n : Nat) (L : List (List (Nat × Option Nat) × Option (Nat × Bool))) : Bool :=
  L.length == n && (List.range n).all fun i => match ops[i]?, L[i]? with
    | some o, some (ds, g) => relCheckOp ops m i { o with after := o.after.filter (Region.binds .any) } ds g
    | _, _ => false
theorem afterOn_filter {o : Oper} {j : Nat} (h : afterOn { o with after := o.after.filter (Region.binds .any) } j = true) : afterOn o j = true := by
  unfold afterOn at h ⊢
  simp only [Array.any_eq_true'] at h ⊢
  obtain ⟨e, he, h⟩ := h
  exact ⟨e, (Array.mem_filter.1 he).1, h⟩
def sinkF (ops : Array Oper) (n f : Nat) : Bool := (List.range n).all fun i => i == f || (List.range (n + 1)).any fun j => decide (i < j) && !(j == f) && Region.waitsFor .any ops j i
def floatB (ops : Array Oper) (n f : Nat) : Bool :=
  decide (n < ops.size) && decide (f < n) && sinkF ops n f && Region.chainB .any ops n && seqI ops ((List.range (ops.size - n)).map (n + ·)) (headMark n ops.size f true) &&
  decide (Region.ready .any ops (headMark n ops.size f false) = [f, n]) && seqI ops (f :: (List.range (ops.size - n - 1)).map (n + 1 + ·)) ((headMark n ops.size f false).setIfInBounds n true)

section
variable {P : Program} {R : World → World → Prop} {F : Act → World → Prop} {Q : Exit → Act → World → Prop} {T1 T2 : Act → World → Prop} {a0 : Act} {ops : Array Oper} {f : Nat}

theorem relF_facts (all : List Oper) : ∀ (os : List Oper) (ls : List (List (Nat × Option Nat) × Option (Nat × Bool))) (acc : List (Value → World → Prop)), ls.length = os.length → RelAllF P R F Q T1 T2 f a0 all os ls acc →
    ∃ Ds : List (Value → World → Prop), Ds.length = os.length ∧ (∀ D ∈ Ds, ∀ v w w', R w w' → D v w → D v w') ∧
      (∀ (k : Nat) (o : Oper) (ds : List (Nat × Option Nat)) (g : Option (Nat × Bool)), os[k]? = some o → ls[k]? = some (ds, g) → ∀ a w, a.tmps.size = a0.tmps.size → F a w → RelKnown a0 ((Ds.take k).reverse ++ acc) a w ds → RelStepA P R F Q (Ds.getD k fun _ _ => True) o a w g) ∧
      (∀ w, RelEnd (fun _ a w => F a w → T1 a w) w all (acc.reverse ++ Ds) a0) ∧ ∀ w, RelEnd (fun _ a w => F a w → T2 a w) w (all.eraseIdx f) ((acc.reverse ++ Ds).eraseIdx f) a0
  | [], [], acc, _, h => ⟨[], rfl, by simp, by simp, by simpa [RelAllF] using h.1, by simpa [RelAllF] using h.2⟩
  | o :: os, (ds, g) :: ls, acc, hl, h => by
    obtain ⟨D, hD, hs, hr⟩ := h
    obtain ⟨Ds, h1, h2, h3, h4, h5⟩ := relF_facts all os ls (D :: acc) (by simpa using hl) hr
    refine ⟨D :: Ds, by simp [h1], ?_, ?_, ?_, ?_⟩
    · intro E hE
      rcases List.mem_cons.1 hE with rfl | hE
      · exact hD
      · exact h2 E hE
    · intro k o' ds' g' ho hg a w hz hF hk
      cases k with
      | zero =>
        simp at ho hg
        obtain ⟨rfl, rfl⟩ := hg
        subst ho
        simpa using hs a w hz hF (by simpa using hk)
      | succ k =>
        simp only [List.getElem?_cons_succ] at ho hg
        have := h3 k o' ds' g' ho hg a w hz hF (by simpa using hk)
        simpa using this
    · simpa using h4
    · simpa using h5
  | [], _ :: _, _, hl, _ => by simp at hl
  | _ :: _, [], _, hl, _ => by simp at hl

theorem wpAny_of_seqI {Q' : Exit → Act → World → Prop} : ∀ (is : List Nat) (l : List Oper) (listed : Array Bool) (a : Act) (w : World) (fuel : Nat), is.length ≤ fuel → is.length = l.length → (∀ k : Nat, k < l.length → ∀ i, is[k]? = some i → ops[i]? = l[k]?) →
    seqI ops is listed = true → wpList P ops Q' l a w → wpAny P .any ops Q' fuel listed a w
  | [], [], listed, a, w, fuel, _, _, _, hB, h => by
    have hr : Region.ready .any ops listed = [] := by simpa [seqI] using hB
    cases fuel with
    | zero => exact ⟨hr, h⟩
    | succ fuel => exact ⟨fun _ => h, fun i hi => by rw [hr] at hi; cases hi⟩
  | i :: is, o :: l, listed, a, w, fuel, hf, hlen, hl, hB, h => by
    have h0 : ops[i]? = some o := by simpa using hl 0 (by simp) i rfl
    simp only [seqI, Bool.and_eq_true, decide_eq_true_eq] at hB
    cases fuel with
    | zero => simp at hf
    | succ fuel =>
      refine ⟨fun h1 => (by rw [hB.1] at h1; cases h1), fun k hk => ?_⟩
      rw [hB.1] at hk
      have hik : k = i := by simpa using hk
      subst hik
      have hw : wpOp P ops Q' k (wpList P ops Q' l) a w := by unfold wpOp; simp only [h0]; exact h
      exact wpOp_mono (fun a' w' h' => wpAny_of_seqI is l _ a' w' fuel (by simpa using hf) (by simpa using hlen) (fun q hq i' hi' => by
        have := hl (q + 1) (by simpa using hq) i' (by simpa using hi')
        simpa using this) hB.2 h') hw
  | [], _ :: _, _, _, _, _, _, hlen, _, _, _ => by simp at hlen
  | _ :: _, [], _, _, _, _, _, hlen, _, _, _ => by simp at hlen

/-- While another operation of the head is to come, none of the tail is ready. -/
theorem float_waits {n : Nat} {listed : Array Bool} (hs : sinkF ops n f = true) (hc : Region.chainB .any ops n = true) (hn : n < ops.size) (inv : HeadInv .any ops n listed) :
    ∀ (d i : Nat), n - i = d → i < n → i ≠ f → listed.getD i true = false → ∀ t, n ≤ t → t ∉ Region.ready .any ops listed := by
  intro d
  induction d using Nat.strongRecOn with
  | _ d ih =>
    intro i hd hi hif hun t ht hr
    obtain ⟨_, ot, hot, hall⟩ := mem_ready.1 hr
    have htlt : t < ops.size := (Array.getElem?_eq_some_iff.1 hot).1
    by_cases htn : t = n
    · subst htn
      have h1 := List.all_eq_true.1 hs i (List.mem_range.2 hi)
      simp only [Bool.or_eq_true, beq_iff_eq] at h1
      rcases h1 with h1 | h1
      · exact hif h1
      obtain ⟨j, hj, hj2⟩ := List.any_eq_true.1 h1
      simp only [Bool.and_eq_true, decide_eq_true_eq, Bool.not_eq_true', beq_eq_false_iff_ne] at hj2
      obtain ⟨oj, hoj, e, he, hb, hon⟩ := Region.waitsFor_spec hj2.2
      have hjle : j ≤ t := by have := List.mem_range.1 hj; omega
      by_cases hjt : j = t
      · subst hjt
        have : oj = ot := Option.some.inj (hoj.symm.trans hot)
        subst this
        have h2 := hall e he hb
        rw [hon, getD_both hun] at h2
        cases h2
      · cases hl : listed.getD j false with
        | true =>
          have h2 := inv.closed j oj hoj hl e he hb
          rw [hon, getD_both hun] at h2
          cases h2
        | false =>
          have hjs : j < listed.size := by rw [inv.size]; omega
          exact ih (t - j) (by omega) j rfl (by omega) hj2.1.2 (getD_in hjs hl) t (Nat.le_refl _) hr
    · have h1 := List.all_eq_true.1 hc t (List.mem_range.2 htlt)
      simp only [Bool.or_eq_true, decide_eq_true_eq] at h1
      rcases h1 with h1 | h1
      · omega
      · obtain ⟨o', ho', e, he, hb, hon⟩ := Region.waitsFor_spec h1
        have : o' = ot := Option.some.inj (ho'.symm.trans hot)
        subst this
        have h2 := hall e he hb
        rw [hon, getD_both (inv.tail (t - 1) (by omega) (by omega))] at h2
        cases h2

theorem headUn_pos {n f : Nat} {listed : Array Bool} (hf : f < n) (h : listed.getD f false = false) : 0 < (headUn n listed).length :=
  List.length_pos_of_mem (List.mem_filter.2 ⟨List.mem_range.2 hf, by rw [h]; rfl⟩)
theorem wp_region_rel_float {id : Nat} {l : List Oper} (n f : Nat) (o1 o2 : Oper) (w0 : World) (R : World → World → Prop) (F : Act → World → Prop) (L : List (List (Nat × Option Nat) × Option (Nat × Bool))) (hm : P.follows .mixedOrders = true)
    (hT : floatB l.toArray n f = true) (ho1 : l[n]? = some o1) (ho2 : l[f]? = some o2) (hL : relCheckF l.toArray a0.tmps.size n L = true) (hF : F a0 { w0 with drawn := w0.drawn + 1 })
    (h : RelAllF P R F Q (fun a w => wpList P l.toArray Q (l.drop n) a w) (fun a w => wpList P l.toArray Q (o1 :: o2 :: l.drop (n + 1)) a w) f a0 (l.take n) (l.take n) L []) : (Code.region id l.toArray true).wp P Q a0 w0 := by
  obtain ⟨ops, hops⟩ : ∃ ops, ops = l.toArray := ⟨_, rfl⟩
  simp only [floatB, Bool.and_eq_true, decide_eq_true_eq] at hT
  obtain ⟨⟨⟨⟨⟨⟨hn, hfn⟩, hsink⟩, hchain⟩, hseq⟩, hready⟩, hseq2⟩ := hT
  rw [← hops] at hn hsink hchain hseq hready hseq2 hL h ⊢
  have hlsz : l.length = ops.size := by rw [hops]; simp
  have hget : ∀ i : Nat, ops[i]? = l[i]? := fun i => by rw [hops]; simp
  have htk : (l.take n).length = n := by simp; omega
  unfold relCheckF at hL
  simp only [Bool.and_eq_true, beq_iff_eq, List.all_eq_true, List.mem_range] at hL
  obtain ⟨hlen, hop⟩ := hL
  obtain ⟨Ds, h1, h2, h3, h4, h5⟩ := relF_facts (l.take n) (l.take n) L [] (by rw [htk]; exact hlen) h
  simp only [List.append_nil] at h3
  simp only [List.reverse_nil, List.nil_append] at h4 h5
  rw [htk] at h1
  obtain ⟨Es, hEs⟩ : ∃ Es : List (Value → World → Prop), Es = Ds ++ List.replicate (ops.size - n) (fun _ _ => True) := ⟨_, rfl⟩
  have hEl : Es.length = ops.size := by rw [hEs]; simp [h1]; omega
  have hE2 : ∀ D ∈ Es, ∀ v w w', R w w' → D v w → D v w' := by
    intro D hD
    rw [hEs, List.mem_append] at hD
    rcases hD with hD | hD
    · exact h2 D hD
    · rw [List.eq_of_mem_replicate hD]; exact fun _ _ _ _ _ => trivial
  have hEt : ∀ i, i < n → Es.take i = Ds.take i := fun i hi => by rw [hEs]; exact List.take_append_of_le_length (by omega)
  have hEg : ∀ i, i < n → Es.getD i (fun _ _ => True) = Ds.getD i (fun _ _ => True) := fun i hi => by
    rw [hEs, List.getD_eq_getElem?_getD, List.getD_eq_getElem?_getD, List.getElem?_append_left (by omega)]
  have hspec : ∀ i o, i < n → ops[i]? = some o → ∃ ds g, L[i]? = some (ds, g) ∧ (∀ e ∈ o.after, Region.binds .any e = true → e.on < i) ∧ (∃ d, o.dst = some d ∧ d < a0.tmps.size ∧ ∀ k, k ≠ i → dstAt ops k ≠ some d) ∧
      (∀ x ∈ ds, match x.2 with
        | some r => r < i ∧ dstAt ops (i - 1 - r) = some x.1 ∧ afterOn o (i - 1 - r) = true
        | none => ∀ k, k < ops.size → dstAt ops k ≠ some x.1 ∨ k = i ∨ ∃ ok, ops[k]? = some ok ∧ afterOn ok i = true) ∧
      (match o.guard, g with
        | none, none => True
        | some (j, b), some (t, b') => b = b' ∧ dstAt ops j = some t
        | _, _ => False) := by
    intro i o hin ho
    have hc := hop i hin
    rw [ho] at hc
    cases hLi : L[i]? with
    | none => rw [hLi] at hc; simp at hc
    | some y =>
    obtain ⟨ds, g⟩ := y
    rw [hLi] at hc
    simp only at hc
    unfold relCheckOp at hc
    simp only [Bool.and_eq_true] at hc
    obtain ⟨⟨⟨c1, c2⟩, c3⟩, c4⟩ := hc
    refine ⟨ds, g, rfl, ?_, ?_, ?_, ?_⟩
    · rw [Array.all_eq_true'] at c1
      exact fun e he hb => by simpa using c1 e (Array.mem_filter.2 ⟨he, hb⟩)
    · cases hd : o.dst with
      | none => rw [hd] at c2; simp at c2
      | some d =>
        rw [hd] at c2
        simp only [Bool.and_eq_true, decide_eq_true_eq, List.all_eq_true, List.mem_range] at c2
        refine ⟨d, rfl, c2.1, fun k hk he => ?_⟩
        have hks : k < ops.size := by
          rcases Nat.lt_or_ge k ops.size with h' | h'
          · exact h'
          · unfold dstAt at he; rw [Array.getElem?_eq_none h'] at he; simp at he
        have := c2.2 k hks
        simp [hk, he] at this
    · intro x hx
      rw [List.all_eq_true] at c3
      have := c3 x hx
      cases hx2 : x.2 with
      | some j => rw [hx2] at this; simp only [Bool.and_eq_true, decide_eq_true_eq, beq_iff_eq] at this; exact ⟨this.1.1, this.1.2, afterOn_filter this.2⟩
      | none =>
        rw [hx2] at this
        intro k hk
        simp only [List.all_eq_true, List.mem_range] at this
        have h' := this k hk
        simp only [Bool.or_eq_true, Bool.not_eq_true', beq_eq_false_iff_ne, beq_iff_eq] at h'
        rcases h' with (h' | h') | h'
        · exact .inl h'
        · exact .inr (.inl h')
        · cases hok : ops[k]? with
          | none => rw [hok] at h'; simp at h'
          | some ok => rw [hok] at h'; exact .inr (.inr ⟨ok, rfl, h'⟩)
    · cases hgd : o.guard with
      | none =>
        rw [hgd] at c4
        cases g with
        | none => trivial
        | some y => simp at c4
      | some x =>
        rw [hgd] at c4
        obtain ⟨j, b⟩ := x
        cases g with
        | none => simp at c4
        | some y => obtain ⟨t, b'⟩ := y; simp only [Bool.and_eq_true, beq_iff_eq] at c4; exact c4
  have key : ∀ (fuel : Nat) (listed : Array Bool) (a : Act) (w : World), (headUn n listed).length + (ops.size - n) ≤ fuel → RelInv (fun _ => True) a0 ops Es listed a w → F a w → HeadInv .any ops n listed → wpAny P .any ops Q fuel listed a w := by
    intro fuel
    induction fuel with
    | zero => intro listed a w hc hi hF hv; omega
    | succ fuel ih =>
      intro listed a w hc hi hFa hv
      by_cases hall : ∀ i, i < n → i ≠ f → listed.getD i false = true
      · -- the head is done, but for f perhaps
        have hdl : (l.drop n).length = ops.size - n := by simp; omega
        have hmark : ∀ b, listed.getD f false = b → listed = headMark n ops.size f b := by
          intro b hb
          apply Array.ext_getElem?
          intro i
          have hm1 : (headMark n ops.size f b)[i]? = ((List.range ops.size).map fun i => if i = f then b else decide (i < n))[i]? := by unfold headMark; exact List.getElem?_toArray
          rw [hm1, List.getElem?_map]
          by_cases his : i < ops.size
          · rw [List.getElem?_range his]
            have hil : i < listed.size := by rw [hi.lsize]; exact his
            simp only [Option.map_some]
            by_cases hif : i = f
            · subst hif
              rw [if_pos rfl, ← hb]
              simp only [Array.getD_eq_getD_getElem?, Array.getElem?_eq_getElem hil, Option.getD_some]
            · rw [if_neg hif]
              by_cases hin : i < n
              · have := hall i hin hif
                simp only [Array.getD_eq_getD_getElem?, Array.getElem?_eq_getElem hil, Option.getD_some] at this
                rw [Array.getElem?_eq_getElem hil, this]; simp [hin]
              · have := hv.tail i (by omega) his
                simp only [Array.getD_eq_getD_getElem?, Array.getElem?_eq_getElem hil, Option.getD_some] at this
                rw [Array.getElem?_eq_getElem hil, this]; simp [hin]
          · rw [List.getElem?_eq_none (by simp; omega), Array.getElem?_eq_none (by rw [hi.lsize]; omega)]; rfl
        cases hfl : listed.getD f false with
        | true =>
          have hall2 : ∀ i, i < n → listed.getD i false = true := fun i hin => by
            by_cases e : i = f
            · rw [e]; exact hfl
            · exact hall i hin e
          have hend : wpList P ops Q (l.drop n) a w := by
            refine rel_end (Q := fun _ a w => F a w → wpList P ops Q (l.drop n) a w) (Ds := Ds) w a hi.size hi.defers (l.take n) Ds a0 (by rw [htk]; exact h1) ?_ ?_ hi.size.symm hi.defers.symm ?_ (h4 w) hFa
            · intro k o d hk hd
              have hkn : k < n := by have := (List.getElem?_eq_some_iff.1 hk).1; rw [htk] at this; exact this
              have hk' : ops[k]? = some o := by rw [hget]; rw [List.getElem?_take_of_lt hkn] at hk; exact hk
              have := hi.told k o d hk' (hall2 k hkn) hd
              rw [hEg k hkn] at this; exact this
            · intro k o hk hd
              have hkn : k < n := by have := (List.getElem?_eq_some_iff.1 hk).1; rw [htk] at this; exact this
              have hk' : ops[k]? = some o := by rw [hget]; rw [List.getElem?_take_of_lt hkn] at hk; exact hk
              obtain ⟨_, _, _, _, ⟨d, hd', _⟩, _⟩ := hspec k o hkn hk'
              rw [hd] at hd'; cases hd'
            · intro t ht
              exact (hi.rest t fun k hkl he => by
                have hkn : k < n := by
                  refine Classical.byContradiction fun hge => ?_
                  rcases Nat.lt_or_ge k ops.size with hks | hks
                  · have := hv.tail k (by omega) hks
                    have := getD_both this
                    rw [this] at hkl; cases hkl
                  · rw [Array.getD_eq_getD_getElem?, Array.getElem?_eq_none (by rw [hi.lsize]; exact hks)] at hkl; simp at hkl
                unfold dstAt at he
                cases hok : ops[k]? with
                | none => rw [hok] at he; simp at he
                | some ok =>
                  rw [hok] at he
                  exact ht k ok (by rw [List.getElem?_take_of_lt hkn, ← hget]; exact hok) (by simpa using he)).symm
          refine wpAny_of_seqI ((List.range (ops.size - n)).map (n + ·)) (l.drop n) listed a w (fuel + 1) (by rw [List.length_map, List.length_range]; omega) (by rw [List.length_map, List.length_range, hdl]) ?_ (by rw [hmark true hfl]; exact hseq) hend
          intro k hk i hi'
          rw [List.getElem?_map, List.getElem?_range (by rw [hdl] at hk; exact hk)] at hi'
          simp at hi'
          rw [← hi', hget, List.getElem?_drop]
        | false =>
          have hLB := hmark false hfl
          have hrd : Region.ready .any ops listed = [f, n] := by rw [hLB]; exact hready
          have hend : wpList P ops Q (o1 :: o2 :: l.drop (n + 1)) a w := by
            have hidx : ∀ k, k < n - 1 → (if k < f then k else k + 1) < n ∧ (if k < f then k else k + 1) ≠ f := fun k hk => by split <;> omega
            have heo : ∀ k o, ((l.take n).eraseIdx f)[k]? = some o → k < n - 1 ∧ ops[if k < f then k else k + 1]? = some o := by
              intro k o hk
              have hkn : k < n - 1 := by
                have := (List.getElem?_eq_some_iff.1 hk).1
                rw [List.length_eraseIdx, htk, if_pos hfn] at this; exact this
              refine ⟨hkn, ?_⟩
              rw [List.getElem?_eraseIdx] at hk
              have hx := (hidx k hkn).1
              split at hk
              · rename_i hkf
                rw [if_pos hkf, hget]; rw [List.getElem?_take_of_lt (by omega)] at hk; exact hk
              · rename_i hkf
                rw [if_neg hkf, hget]; rw [List.getElem?_take_of_lt (by omega)] at hk; exact hk
            have heD : ∀ k, k < n - 1 → (Ds.eraseIdx f).getD k (fun _ _ => True) = Es.getD (if k < f then k else k + 1) (fun _ _ => True) := by
              intro k hk
              rw [hEg _ (hidx k hk).1, List.getD_eq_getElem?_getD, List.getD_eq_getElem?_getD, List.getElem?_eraseIdx]
              split <;> rfl
            refine rel_end (Q := fun _ a w => F a w → wpList P ops Q (o1 :: o2 :: l.drop (n + 1)) a w) (Ds := Ds) w a hi.size hi.defers ((l.take n).eraseIdx f) (Ds.eraseIdx f) a0 (by rw [List.length_eraseIdx, List.length_eraseIdx, htk, h1]) ?_ ?_ hi.size.symm hi.defers.symm ?_ (h5 w) hFa
            · intro k o d hk hd
              obtain ⟨hkn, hk'⟩ := heo k o hk
              rw [heD k hkn]
              exact hi.told _ o d hk' (hall _ (hidx k hkn).1 (hidx k hkn).2) hd
            · intro k o hk hd
              obtain ⟨hkn, hk'⟩ := heo k o hk
              obtain ⟨_, _, _, _, ⟨d, hd', _⟩, _⟩ := hspec _ o (hidx k hkn).1 hk'
              rw [hd] at hd'; cases hd'
            · intro t ht
              exact (hi.rest t fun k hkl he => by
                have hkn : k < n := by
                  refine Classical.byContradiction fun hge => ?_
                  rcases Nat.lt_or_ge k ops.size with hks | hks
                  · have := hv.tail k (by omega) hks
                    have := getD_both this
                    rw [this] at hkl; cases hkl
                  · rw [Array.getD_eq_getD_getElem?, Array.getElem?_eq_none (by rw [hi.lsize]; exact hks)] at hkl; simp at hkl
                have hkf : k ≠ f := fun e => by rw [e, hfl] at hkl; cases hkl
                unfold dstAt at he
                cases hok : ops[k]? with
                | none => rw [hok] at he; simp at he
                | some ok =>
                  rw [hok] at he
                  have hok' : l[k]? = some ok := by rw [← hget]; exact hok
                  by_cases hkf2 : k < f
                  · exact ht k ok (by rw [List.getElem?_eraseIdx, if_pos hkf2, List.getElem?_take_of_lt hkn]; exact hok') (by simpa using he)
                  · exact ht (k - 1) ok (by rw [List.getElem?_eraseIdx, if_neg (by omega), show k - 1 + 1 = k by omega, List.getElem?_take_of_lt hkn]; exact hok') (by simpa using he)).symm
          refine ⟨fun h => (by rw [hrd] at h; cases h), fun i hmem => ?_⟩
          have hmem0 := hmem
          rw [hrd] at hmem
          simp only [List.mem_cons, List.not_mem_nil, or_false] at hmem
          rcases hmem with rfl | rfl
          · have hin := hfn
            obtain ⟨hun, o, ho, hdown⟩ := mem_ready.1 hmem0
            have hi' := (Array.getElem?_eq_some_iff.1 ho).1
            have hil : i < listed.size := by rw [hi.lsize]; exact hi'
            have hu : listed.getD i false = false := getD_both hun
            obtain ⟨ds, g, hg, hon, ⟨d, hd, hdn, hdk⟩, hds, hgd⟩ := hspec i o hin ho
            have hlt := headUn_set (n := n) hin hil hu
            have hkn : RelKnown a0 ((Ds.take i).reverse) a w ds := by
              have := rel_known hEl hi hu ho hdown ds hds
              rw [hEt i hin] at this; exact this
            have hst := h3 i o ds g (by rw [List.getElem?_take_of_lt hin, ← hget]; exact ho) hg a w hi.size hFa hkn
            have next : ∀ (v : Value) (w' : World), (R w w' ∨ w' = w) → F (a.put o.dst v) w' → (Ds.getD i fun _ _ => True) v w' → wpAny P .any ops Q fuel (listed.setIfInBounds i true) (a.put o.dst v) w' := fun v w' hR hF' hv' =>
              ih _ _ _ (by omega) (hi.step hE2 ho hdown (fun d' hd' => by rw [hd] at hd'; obtain rfl := Option.some.inj hd'; exact ⟨hdn, hdk⟩) v hR trivial (by rw [hEg i hin]; exact hv')) hF' (hv.set hmem0 hin)
            unfold wpOp
            rw [ho]
            simp only
            cases hgu : o.guard with
            | none =>
              rw [hgu] at hgd
              cases g with
              | some y => simp at hgd
              | none =>
                have hw : Region.wanted o (yielded ops a.tmps) = true := by simp [Region.wanted, hgu]
                rw [if_pos hw]
                exact .inl (Oper.wp_mono (fun a' w' ⟨v, ha, hR, hF', hv⟩ => by subst ha; exact next v w' (.inl hR) hF' hv) hst)
            | some x =>
              obtain ⟨j, b⟩ := x
              rw [hgu] at hgd
              cases g with
              | none => simp at hgd
              | some y =>
                obtain ⟨t, b'⟩ := y
                obtain ⟨rfl, hjt⟩ := hgd
                obtain ⟨c, hc1, hc2⟩ := hst
                have hy : yielded ops a.tmps j = some c := by
                  unfold yielded
                  unfold dstAt at hjt
                  have ht : a.tmps[t]? = some (.bool c) := by
                    rw [Array.getD_eq_getD_getElem?] at hc1
                    cases ht : a.tmps[t]? with
                    | none => rw [ht] at hc1; simp [undef] at hc1
                    | some v => rw [ht] at hc1; simpa using hc1
                  rw [hjt, Option.bind_some, ht]
                have hw : Region.wanted o (yielded ops a.tmps) = (some c == some b) := by simp [Region.wanted, hgu, hy]
                by_cases hcb : c = b
                · rw [if_pos hcb] at hc2
                  rw [if_pos (by rw [hw, hcb]; simp)]
                  exact .inl (Oper.wp_mono (fun a' w' ⟨v, ha, hR, hF', hv⟩ => by subst ha; exact next v w' (.inl hR) hF' hv) hc2)
                · rw [if_neg hcb] at hc2
                  rw [if_neg (by rw [hw]; simp [hcb])]
                  exact next undef w (.inr rfl) hc2.1 hc2.2
          · have h0 : ops[i]? = some o1 := by rw [hget]; exact ho1
            have hw : wpOp P ops Q i (wpList P ops Q (o2 :: l.drop (i + 1))) a w := by unfold wpOp; simp only [h0]; exact hend
            refine wpOp_mono (fun a' w' h' => wpAny_of_seqI (f :: (List.range (ops.size - i - 1)).map (i + 1 + ·)) (o2 :: l.drop (i + 1)) _ a' w' fuel (by simp only [List.length_cons, List.length_map, List.length_range]; have := headUn_pos (listed := listed) hfn hfl; omega) (by simp only [List.length_cons, List.length_map, List.length_range, List.length_drop]; omega) ?_ (by rw [hLB]; exact hseq2) h') hw
            intro k hk j hj
            cases k with
            | zero => simp at hj; subst hj; rw [hget]; simpa using ho2
            | succ k =>
              simp only [List.length_cons, List.length_drop] at hk
              rw [List.getElem?_cons_succ, List.getElem?_map, List.getElem?_range (by omega)] at hj
              simp at hj
              rw [← hj, hget, List.getElem?_cons_succ, List.getElem?_drop]
      · obtain ⟨i0, hi0⟩ := Classical.not_forall.1 hall
        obtain ⟨hin0, hi0⟩ := Classical.not_imp.1 hi0
        obtain ⟨hif0, hun0⟩ := Classical.not_imp.1 hi0
        have hun0' : listed.getD i0 true = false := getD_in (by rw [hi.lsize]; omega) (by simpa using hun0)
        have hno : ∀ t, n ≤ t → t ∉ Region.ready .any ops listed := float_waits hsink hchain hn hv _ i0 rfl hin0 hif0 hun0'
        refine ⟨fun hr => ?_, fun i hmem => ?_⟩
        · exfalso
          have hz : ∀ i, i < n → listed.getD i false = true := by
           intro i
           induction i using Nat.strongRecOn with
           | _ i ih2 =>
             intro hin
             cases hun : listed.getD i false with
             | true => rfl
             | false =>
               exfalso
               have hi' : i < ops.size := by omega
               have ho : ops[i]? = some ops[i] := Array.getElem?_eq_getElem hi'
               obtain ⟨ds, g, _, hon, _⟩ := hspec i _ hin ho
               have hmem : i ∈ Region.ready .any ops listed := mem_ready.2 ⟨getD_in (by rw [hi.lsize]; exact hi') hun, _, ho, fun e he hb => ih2 e.on (hon e he hb) (Nat.lt_trans (hon e he hb) hin)⟩
               rw [hr] at hmem
               cases hmem
          exact hall fun i hin _ => hz i hin
        · have hin : i < n := by
            refine Classical.byContradiction fun hge => ?_
            exact hno i (by omega) hmem
          obtain ⟨hun, o, ho, hdown⟩ := mem_ready.1 hmem
          have hi' := (Array.getElem?_eq_some_iff.1 ho).1
          have hil : i < listed.size := by rw [hi.lsize]; exact hi'
          have hu : listed.getD i false = false := getD_both hun
          obtain ⟨ds, g, hg, hon, ⟨d, hd, hdn, hdk⟩, hds, hgd⟩ := hspec i o hin ho
          have hlt := headUn_set (n := n) hin hil hu
          have hkn : RelKnown a0 ((Ds.take i).reverse) a w ds := by
            have := rel_known hEl hi hu ho hdown ds hds
            rw [hEt i hin] at this; exact this
          have hst := h3 i o ds g (by rw [List.getElem?_take_of_lt hin, ← hget]; exact ho) hg a w hi.size hFa hkn
          have next : ∀ (v : Value) (w' : World), (R w w' ∨ w' = w) → F (a.put o.dst v) w' → (Ds.getD i fun _ _ => True) v w' → wpAny P .any ops Q fuel (listed.setIfInBounds i true) (a.put o.dst v) w' := fun v w' hR hF' hv' =>
            ih _ _ _ (by omega) (hi.step hE2 ho hdown (fun d' hd' => by rw [hd] at hd'; obtain rfl := Option.some.inj hd'; exact ⟨hdn, hdk⟩) v hR trivial (by rw [hEg i hin]; exact hv')) hF' (hv.set hmem hin)
          unfold wpOp
          rw [ho]
          simp only
          cases hgu : o.guard with
          | none =>
            rw [hgu] at hgd
            cases g with
            | some y => simp at hgd
            | none =>
              have hw : Region.wanted o (yielded ops a.tmps) = true := by simp [Region.wanted, hgu]
              rw [if_pos hw]
              exact .inl (Oper.wp_mono (fun a' w' ⟨v, ha, hR, hF', hv⟩ => by subst ha; exact next v w' (.inl hR) hF' hv) hst)
          | some x =>
            obtain ⟨j, b⟩ := x
            rw [hgu] at hgd
            cases g with
            | none => simp at hgd
            | some y =>
              obtain ⟨t, b'⟩ := y
              obtain ⟨rfl, hjt⟩ := hgd
              obtain ⟨c, hc1, hc2⟩ := hst
              have hy : yielded ops a.tmps j = some c := by
                unfold yielded
                unfold dstAt at hjt
                have ht : a.tmps[t]? = some (.bool c) := by
                  rw [Array.getD_eq_getD_getElem?] at hc1
                  cases ht : a.tmps[t]? with
                  | none => rw [ht] at hc1; simp [undef] at hc1
                  | some v => rw [ht] at hc1; simpa using hc1
                rw [hjt, Option.bind_some, ht]
              have hw : Region.wanted o (yielded ops a.tmps) = (some c == some b) := by simp [Region.wanted, hgu, hy]
              by_cases hcb : c = b
              · rw [if_pos hcb] at hc2
                rw [if_pos (by rw [hw, hcb]; simp)]
                exact .inl (Oper.wp_mono (fun a' w' ⟨v, ha, hR, hF', hv⟩ => by subst ha; exact next v w' (.inl hR) hF' hv) hc2)
              · rw [if_neg hcb] at hc2
                rw [if_neg (by rw [hw]; simp [hcb])]
                exact next undef w (.inr rfl) hc2.1 hc2.2
  refine wp_region_any hm (key _ _ _ _ (by
    have : (headUn n (Array.replicate ops.size false)).length ≤ n := by unfold headUn; exact Nat.le_trans (List.length_filter_le _ _) (by simp)
    omega) ⟨trivial, rfl, rfl, by simp, ?_, fun _ _ => rfl, ?_⟩ hF ⟨by simp, fun j oj _ hl => (by rw [getD_replicate_false] at hl; cases hl), fun t _ ht => getD_in (by simpa using ht) (getD_replicate_false _ _)⟩)
  · intro i o d ho hl
    rw [getD_replicate_false] at hl; cases hl
  · intro i o ho hl
    rw [getD_replicate_false] at hl; cases hl
end


section
variable {P : Program} {R : World → World → Prop} {F : Act → World → Prop} {Q : Exit → Act → World → Prop} {T1 T2 : Act → World → Prop} {f : Nat} {a0 : Act} {all os : List Oper} {o : Oper} {ds : List (Nat × Option Nat)} {g : Option (Nat × Bool)}
  {ls : List (List (Nat × Option Nat) × Option (Nat × Bool))} {acc : List (Value → World → Prop)}
theorem relF_pure (h : ∃ c, (∀ a w, F a w → RelKnown a0 acc a w ds → RelStepA P R F Q (Is c) o a w g) ∧ RelAllF P R F Q T1 T2 f a0 all os ls (Is c :: acc)) : RelAllF P R F Q T1 T2 f a0 all (o :: os) ((ds, g) :: ls) acc := by
  obtain ⟨c, h1, h2⟩ := h
  exact ⟨Is c, fun v w w' _ h => h, fun a w _ => h1 a w, h2⟩
theorem relF_some (D : Value → World → Prop) (hD : ∀ v w w', R w w' → D v w → D v w') (h : ∀ a w, F a w → RelKnown a0 acc a w ds → RelStepA P R F Q D o a w g) (h2 : RelAllF P R F Q T1 T2 f a0 all os ls (D :: acc)) : RelAllF P R F Q T1 T2 f a0 all (o :: os) ((ds, g) :: ls) acc :=
  ⟨D, hD, fun a w _ => h a w, h2⟩
theorem relF_done (h1 : ∀ w, RelEnd (fun _ a w => F a w → T1 a w) w all acc.reverse a0) (h2 : ∀ w, RelEnd (fun _ a w => F a w → T2 a w) w (all.eraseIdx f) (acc.reverse.eraseIdx f) a0) : RelAllF P R F Q T1 T2 f a0 all [] [] acc := ⟨h1, h2⟩
end
end Go.Proofs.YtnhmdinpfcoebaaGreatDoor
end
