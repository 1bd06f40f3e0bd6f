/- A region in the text's order (not drawn), walked by the relational law: cheap where many operations are guarded. No program in sight. -/
import Derived.Test.YtmmbhjomgpnklaaRel
namespace Go.Proofs.Ytmmbhjomgpnklaa
open Go.RowKit
set_option linter.unusedVariables false
section
variable {P : Program} {F : World → Prop} {Q : Exit → Act → World → Prop} {a0 : Act} {ops : Array Oper}
theorem relSeq_any (w0 : World) (R : World → World → Prop) (L : List (List (Nat × Option Nat) × Option (Nat × Bool)))
    (hL : relCheck ops a0.tmps.size L = true) (hF : F w0) (h : RelAll P R F Q a0 ops.toList ops.toList L []) : wpAny P .any ops Q ops.size (Array.replicate ops.size false) a0 w0 := by
  obtain ⟨hlen, hop⟩ := relCheck_spec hL
  obtain ⟨Ds, h1, h2, h3, h4⟩ := rel_facts ops.toList ops.toList L [] (by simpa using hlen) h
  simp only [List.append_nil] at h3
  simp only [List.reverse_nil, List.nil_append] at h4
  have hspec : ∀ i o, ops[i]? = some o → ∃ ds g, L[i]? = some (ds, g) ∧ (∀ e ∈ o.after, e.on < i) ∧ (∃ d, o.dst = some d ∧ d < a0.tmps.size ∧ ∀ k, k ≠ i → dstAt ops k ≠ some d) ∧
      (∀ x ∈ ds, match x.2 with
        | some r => r < i ∧ dstAt ops (i - 1 - r) = some x.1 ∧ afterOn o (i - 1 - r) = true
        | none => ∀ k, k < ops.size → dstAt ops k ≠ some x.1 ∨ k = i ∨ ∃ ok, ops[k]? = some ok ∧ afterOn ok i = true) ∧
      (match o.guard, g with
        | none, none => True
        | some (j, b), some (t, b') => b = b' ∧ dstAt ops j = some t
        | _, _ => False) := by
    intro i o ho
    obtain ⟨ds, g, hg, hc⟩ := hop i o ho
    unfold relCheckOp at hc
    simp only [Bool.and_eq_true] at hc
    obtain ⟨⟨⟨c1, c2⟩, c3⟩, c4⟩ := hc
    refine ⟨ds, g, hg, ?_, ?_, ?_, ?_⟩
    · rw [Array.all_eq_true'] at c1
      exact fun e he => by simpa using c1 e he
    · cases hd : o.dst with
      | none => rw [hd] at c2; simp at c2
      | some d =>
        rw [hd] at c2
        simp only [Bool.and_eq_true, decide_eq_true_eq, List.all_eq_true, List.mem_range] at c2
        refine ⟨d, rfl, c2.1, fun k hk he => ?_⟩
        have hks : k < ops.size := by
          rcases Nat.lt_or_ge k ops.size with h' | h'
          · exact h'
          · unfold dstAt at he; rw [Array.getElem?_eq_none h'] at he; simp at he
        have := c2.2 k hks
        simp [hk, he] at this
    · intro x hx
      rw [List.all_eq_true] at c3
      have := c3 x hx
      cases hx2 : x.2 with
      | some j => rw [hx2] at this; simpa [Bool.and_eq_true, and_assoc] using this
      | none =>
        rw [hx2] at this
        intro k hk
        simp only [List.all_eq_true, List.mem_range] at this
        have h' := this k hk
        simp only [Bool.or_eq_true, Bool.not_eq_true', beq_eq_false_iff_ne, beq_iff_eq] at h'
        rcases h' with (h' | h') | h'
        · exact .inl h'
        · exact .inr (.inl h')
        · cases hok : ops[k]? with
          | none => rw [hok] at h'; simp at h'
          | some ok => rw [hok] at h'; exact .inr (.inr ⟨ok, rfl, h'⟩)
    · cases hgd : o.guard with
      | none => rw [hgd] at c4; cases g <;> simp_all
      | some x =>
        rw [hgd] at c4
        obtain ⟨j, b⟩ := x
        cases g with
        | none => simp at c4
        | some y => obtain ⟨t, b'⟩ := y; simpa using c4
  -- whatever order
  have key : ∀ (fuel : Nat) (listed : Array Bool) (a : Act) (w : World), (unlisted ops listed).length ≤ fuel → RelInv F a0 ops Ds listed a w → wpAny P .any ops Q fuel listed a w := by
    have hend : ∀ (listed : Array Bool) (a : Act) (w : World), RelInv F a0 ops Ds listed a w → Region.ready .any ops listed = [] → Q .normal a w := by
      intro listed a w hi hr
      have hall : ∀ i, i < ops.size → listed.getD i false = true := by
        intro i
        induction i using Nat.strongRecOn with
        | _ i ih =>
          intro hi'
          cases hun : listed.getD i false with
          | true => rfl
          | false =>
            exfalso
            have ho : ops[i]? = some ops[i] := Array.getElem?_eq_getElem hi'
            obtain ⟨ds, g, _, hon, _⟩ := hspec i _ ho
            have hmem : i ∈ Region.ready .any ops listed := mem_ready.2 ⟨by
              have hil : i < listed.size := by rw [hi.lsize]; exact hi'
              simp only [Array.getD_eq_getD_getElem?, Array.getElem?_eq_getElem hil, Option.getD_some] at hun ⊢
              exact hun, _, ho, fun e he _ => ih e.on (hon e he) (Nat.lt_trans (hon e he) hi')⟩
            rw [hr] at hmem
            cases hmem
      refine rel_end (Ds := Ds) w a hi.size hi.defers ops.toList Ds a0 (by simpa using h1) ?_ ?_ hi.size.symm hi.defers.symm ?_ (h4 w hi.world)
      · intro k o d hk hd
        have hk' : ops[k]? = some o := by simpa using hk
        exact hi.told k o d hk' (hall k (Array.getElem?_eq_some_iff.1 hk').1) hd
      · intro k o hk hd
        have hk' : ops[k]? = some o := by simpa using hk
        obtain ⟨_, _, _, _, ⟨d, hd', _⟩, _⟩ := hspec k o hk'
        rw [hd] at hd'; cases hd'
      · intro t ht
        exact (hi.rest t fun k _ he => by
          unfold dstAt at he
          cases hok : ops[k]? with
          | none => rw [hok] at he; simp at he
          | some ok => rw [hok] at he; exact ht k ok (by simpa using hok) he).symm
    intro fuel
    induction fuel with
    | zero =>
      intro listed a w hc hi
      have hr : Region.ready .any ops listed = [] := by
        cases hrd : Region.ready .any ops listed with
        | nil => rfl
        | cons i r =>
          exfalso
          have hmem : i ∈ Region.ready .any ops listed := by rw [hrd]; simp
          obtain ⟨hun, o, ho, _⟩ := mem_ready.1 hmem
          have hi' := (Array.getElem?_eq_some_iff.1 ho).1
          have hil : i < listed.size := by rw [hi.lsize]; exact hi'
          have hu : listed.getD i false = false := by
            simp only [Array.getD_eq_getD_getElem?, Array.getElem?_eq_getElem hil, Option.getD_some] at hun ⊢
            exact hun
          have : i ∈ unlisted ops listed := List.mem_filter.2 ⟨List.mem_range.2 hi', by rw [hu]; rfl⟩
          have := List.length_pos_of_mem this
          omega
      exact ⟨hr, hend listed a w hi hr⟩
    | succ fuel ih =>
      intro listed a w hc hi
      refine ⟨hend listed a w hi, fun i hmem => ?_⟩
      obtain ⟨hun, o, ho, hdown⟩ := mem_ready.1 hmem
      have hi' := (Array.getElem?_eq_some_iff.1 ho).1
      have hil : i < listed.size := by rw [hi.lsize]; exact hi'
      have hu : listed.getD i false = false := by
        simp only [Array.getD_eq_getD_getElem?, Array.getElem?_eq_getElem hil, Option.getD_some] at hun ⊢
        exact hun
      obtain ⟨ds, g, hg, hon, ⟨d, hd, hdn, hdk⟩, hds, hgd⟩ := hspec i o ho
      have hlt := unlisted_set (ops := ops) hi' hi.lsize hu
      have hkn := rel_known (by simpa using h1) hi hu ho hdown ds hds
      have hst := h3 i o ds g (by simpa using ho) hg a w hi.size hi.world hkn
      have next : ∀ (v : Value) (w' : World), (R w w' ∨ w' = w) → F w' → (Ds.getD i fun _ _ => True) v w' → wpAny P .any ops Q fuel (listed.setIfInBounds i true) (a.put o.dst v) w' := fun v w' hR hF' hv =>
        ih _ _ _ (by omega) (hi.step h2 ho hdown (fun d' hd' => by rw [hd] at hd'; obtain rfl := Option.some.inj hd'; exact ⟨hdn, hdk⟩) v hR hF' hv)
      unfold wpOp
      rw [ho]
      simp only
      cases hgu : o.guard with
      | none =>
        rw [hgu] at hgd
        cases g with
        | some y => simp at hgd
        | none =>
          have hw : Region.wanted o (yielded ops a.tmps) = true := by simp [Region.wanted, hgu]
          rw [if_pos hw]
          exact .inl (Oper.wp_mono (fun a' w' ⟨v, ha, hR, hF', hv⟩ => by rw [ha]; exact next v w' (.inl hR) hF' hv) hst)
      | some x =>
        obtain ⟨j, b⟩ := x
        rw [hgu] at hgd
        cases g with
        | none => simp at hgd
        | some y =>
          obtain ⟨t, b'⟩ := y
          obtain ⟨rfl, hjt⟩ := hgd
          obtain ⟨c, hc1, hc2⟩ := hst
          have hy : yielded ops a.tmps j = some c := by
            unfold yielded
            unfold dstAt at hjt
            have ht : a.tmps[t]? = some (.bool c) := by
              rw [Array.getD_eq_getD_getElem?] at hc1
              cases ht : a.tmps[t]? with
              | none => rw [ht] at hc1; simp [undef] at hc1
              | some v => rw [ht] at hc1; simpa using hc1
            rw [hjt, Option.bind_some, ht]
          have hw : Region.wanted o (yielded ops a.tmps) = (some c == some b) := by simp [Region.wanted, hgu, hy]
          by_cases hcb : c = b
          · rw [if_pos hcb] at hc2
            rw [if_pos (by rw [hw, hcb]; simp)]
            exact .inl (Oper.wp_mono (fun a' w' ⟨v, ha, hR, hF', hv⟩ => by rw [ha]; exact next v w' (.inl hR) hF' hv) hc2)
          · rw [if_neg hcb] at hc2
            rw [if_neg (by rw [hw]; simp [hcb])]
            exact next undef w (.inr rfl) hi.world hc2
  refine (key _ _ _ _ (by unfold unlisted; exact Nat.le_trans (List.length_filter_le _ _) (by simp)) ⟨hF, rfl, rfl, by simp, ?_, fun _ _ => rfl, ?_⟩)
  · intro i o d ho hl
    have hi := (Array.getElem?_eq_some_iff.1 ho).1
    simp [Array.getD, hi] at hl
  · intro i o ho hl
    have hi := (Array.getElem?_eq_some_iff.1 ho).1
    simp [Array.getD, hi] at hl
/-- The order of the text is one of the orders. -/
theorem wp_region_relSeq {id : Nat} (w0 : World) (R : World → World → Prop) (F : World → Prop) (L : List (List (Nat × Option Nat) × Option (Nat × Bool)))
    (hL : relCheck ops a0.tmps.size L = true) (hord : Region.linearise.go .any ops ops.size 0 (Array.replicate ops.size false) [] = List.range ops.size) (hF : F w0) (h : RelAll P R F Q a0 ops.toList ops.toList L []) : (Code.region id ops false).wp P Q a0 w0 :=
  wp_region (by rw [← hord]; exact wpAny_sound ops.size 0 _ a0 _ (relSeq_any w0 R L hL hF h))
end
end Go.Proofs.Ytmmbhjomgpnklaa
