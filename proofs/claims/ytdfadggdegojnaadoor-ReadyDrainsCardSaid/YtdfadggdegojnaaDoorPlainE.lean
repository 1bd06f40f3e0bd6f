/- Taken from the front. No program in sight. -/
import Derived.Test.YtdfadggdegojnaaDoorPlainC
import Derived.Test.YtdfadggdegojnaaDoorPlainD
namespace Go.Proofs.YtdfadggdegojnaaDoor
set_option linter.unusedVariables false
structure In (L : Rows) (I T : Nat → Int) (k : Int) : Prop where
  tin : ∀ l, l < 32 → ∀ t ∈ L l, T t = l ∧ 0 < I t ∧ I t ≤ k
  out : ∀ t : Nat, t < 64 → lvl L (t : Int) = -1 → I t = 0
  sorted : ∀ l, l < 32 → (L l).Pairwise (fun a b => I a < I b)
theorem In.zero : In (fun _ => []) (fun _ => 0) (fun _ => 0) 0 := ⟨fun _ _ _ h => by simp at h, fun _ _ _ => rfl, fun _ _ => List.Pairwise.nil⟩
theorem In.mono {L : Rows} {I T : Nat → Int} {k : Int} (h : In L I T k) : In L I T (k + 1) := ⟨fun l hl t ht => ⟨(h.tin l hl t ht).1, (h.tin l hl t ht).2.1, by have := (h.tin l hl t ht).2.2; omega⟩, h.out, h.sorted⟩
theorem no_row {L : Rows} {t : Nat} (h : lvl L (t : Int) = -1) : ∀ l, l < 32 → t ∉ L l := fun l hl hm => by
  rcases lvl_cases L t with ⟨_, h1⟩ | ⟨j, _, e, _⟩
  · exact h1 (by omega) l hl (by simpa using hm)
  · omega
theorem pairwise_up {I : Nat → Int} {t : Nat} {v : Int} {xs : List Nat} (ht : t ∉ xs) (h : xs.Pairwise (fun a b => I a < I b)) : xs.Pairwise (fun a b => up I t v a < up I t v b) :=
  List.Pairwise.imp_of_mem (fun {a b} ha hb hab => by rw [up_other _ _ _ (show a ≠ t from fun e => ht (e ▸ ha)), up_other _ _ _ (show b ≠ t from fun e => ht (e ▸ hb))]; exact hab) h
theorem In.put {L : Rows} {I T : Nat → Int} {k : Int} (h : In L I T k) {t l : Nat} (hk : 0 ≤ k) (ht : t < 64) (hl : l < 32) (hno : lvl L (t : Int) = -1) : In (pushR L t l) (up I t (k + 1)) (up T t l) (k + 1) := by
  have hn := no_row hno
  refine ⟨fun j hj x hx => ?_, fun x hx hlx => ?_, fun j hj => ?_⟩
  · unfold pushR at hx
    by_cases e : j = l
    · subst e
      rw [upL_same] at hx
      rcases List.mem_append.1 hx with h1 | h1
      · have hxt : x ≠ t := fun e => hn j hj (e ▸ h1)
        rw [up_other _ _ _ hxt, up_other _ _ _ hxt]
        have := h.tin j hj x h1
        exact ⟨this.1, this.2.1, by omega⟩
      · have : x = t := by simpa using h1
        subst this
        rw [up_same, up_same]; exact ⟨rfl, by omega, by omega⟩
    · rw [upL_other _ _ e] at hx
      have hxt : x ≠ t := fun e => hn j hj (e ▸ hx)
      rw [up_other _ _ _ hxt, up_other _ _ _ hxt]
      have := h.tin j hj x hx
      exact ⟨this.1, this.2.1, by omega⟩
  · have hn2 := no_row hlx
    have hxt : x ≠ t := fun e => by
      subst e
      refine hn2 l hl ?_
      unfold pushR; rw [upL_same]; simp
    rw [up_other _ _ _ hxt]
    refine h.out x hx (lvl_no fun j hj hm => hn2 j hj ?_)
    unfold pushR
    by_cases e : j = l
    · subst e; rw [upL_same]; simp [hm]
    · rw [upL_other _ _ e]; exact hm
  · unfold pushR
    by_cases e : j = l
    · subst e
      rw [upL_same, List.pairwise_append]
      refine ⟨pairwise_up (hn j hj) (h.sorted j hj), List.pairwise_singleton _ _, fun a ha b hb => ?_⟩
      have hbt : b = t := by simpa using hb
      rw [hbt, up_same, up_other _ _ _ (show a ≠ t from fun e => hn j hj (e ▸ ha))]
      have := (h.tin j hj a ha).2.2; omega
    · rw [upL_other _ _ e]; exact pairwise_up (hn j hj) (h.sorted j hj)
structure Out (L : Rows) (I T : Nat → Int) (last : Int) : Prop where
  tin : ∀ l, l < 32 → ∀ t ∈ L l, T t = l ∧ 0 < I t
  sorted : ∀ l, l < 32 → (L l).Pairwise (fun a b => I a < I b)
  gt : ∀ z : Nat, last = z → z < 64 ∧ ∀ l, l < 32 → ∀ t ∈ L l, T z < T t ∨ (T z = T t ∧ I z < I t)
theorem In.out0 {L : Rows} {I T : Nat → Int} {k : Int} (h : In L I T k) : Out L I T (-1) := ⟨fun l hl t ht => ⟨(h.tin l hl t ht).1, (h.tin l hl t ht).2.1⟩, h.sorted, fun z hz => by omega⟩
theorem Out.step {s : QS} {L : Rows} {I T : Nat → Int} {last : Int} (hp : Rep s L) (h : Out L I T last) {l : Nat} (hl : lead L = some l) :
    ∃ x : Nat, firstR L = x ∧ x < 64 ∧ I x ≠ 0 ∧ inR L x ∧ (∀ z : Nat, last = z → ¬ T x < T z ∧ ¬ (T x = T z ∧ I x < I z)) ∧ Out (removeR L x) I T x ∧ total (removeR L x) + 1 = total L := by
  obtain ⟨h1, h2, h3⟩ := lead_some hl
  cases hL : L l with
  | nil => exact absurd hL h2
  | cons x rest =>
  have hm : x ∈ L l := by rw [hL]; simp
  have hlv := lvl_in hp h1 hm
  have hin : inR L x := by unfold inR; omega
  have hnd := hp.nodup l h1
  rw [hL] at hnd
  have hx := (List.nodup_cons.1 hnd).1
  have hf : (L l).filter (· != x) = rest := by
    rw [hL]
    have := filter_split (pre := []) (post := rest) (t := x) (by simp) hx
    simpa using this
  have hrem : removeR L x = upL L l rest := by unfold removeR cutR; rw [if_pos hin, hlv]; simp only [Int.toNat_natCast]; rw [hf]
  have hso := h.sorted l h1
  rw [hL] at hso
  have htx := h.tin l h1 x hm
  refine ⟨x, by unfold firstR; rw [hl]; simp only [hL, hd], (hp.mem l h1 x hm).1, by omega, hin, fun z hz => ?_, ?_, ?_⟩
  · have := (h.gt z hz).2 l h1 x hm
    omega
  · rw [hrem]
    refine ⟨fun j hj t ht => ?_, fun j hj => ?_, fun z hz => ?_⟩
    · by_cases e : j = l
      · subst e; rw [upL_same] at ht; exact h.tin j hj t (by rw [hL]; simp [ht])
      · rw [upL_other _ _ e] at ht; exact h.tin j hj t ht
    · by_cases e : j = l
      · subst e; rw [upL_same]; exact (List.pairwise_cons.1 hso).2
      · rw [upL_other _ _ e]; exact h.sorted j hj
    · have : x = z := by omega
      subst this
      refine ⟨(hp.mem l h1 x hm).1, fun j hj t ht => ?_⟩
      by_cases e : j = l
      · subst e
        rw [upL_same] at ht
        have h5 := h.tin j hj t (by rw [hL]; simp [ht])
        have h6 := (List.pairwise_cons.1 hso).1 t ht
        exact .inr ⟨by omega, h6⟩
      · rw [upL_other _ _ e] at ht
        have h5 := h.tin j hj t ht
        have h7 : ¬ j < l := fun hlt => by rw [h3 j hlt] at ht; simp at ht
        left; omega
  · rw [hrem]
    have := total_up L l rest h1
    rw [hL] at this
    simp only [List.length_cons] at this
    omega
theorem lead_total {L : Rows} (h : 0 < total L) : ∃ l, lead L = some l := by
  cases e : lead L with
  | some l => exact ⟨l, rfl⟩
  | none =>
    have : total L = total (fun _ => []) := total_congr fun j hj => lead_none e j hj
    rw [total_nil] at this
    omega
theorem total_lead {L : Rows} (h : total L = 0) : lead L = none := by
  cases e : lead L with
  | none => rfl
  | some l =>
    obtain ⟨h1, h2, _⟩ := lead_some e
    have := total_up L l [] h1
    cases hL : L l with
    | nil => exact absurd hL h2
    | cons a b => rw [hL, h] at this; simp at this
end Go.Proofs.YtdfadggdegojnaaDoor
