/- What happens to a task changes nothing about the others. No program in sight. -/
import Derived.Test.YtdfadggdegojnaaDoorPlainB
namespace Go.Proofs.YtdfadggdegojnaaDoor
set_option linter.unusedVariables false
def doR (L : Rows) (k t l : Int) : Rows := if k = 1 then putR L t l else if k = 2 then removeR L t else if k = 3 then turnR L t else if k = 4 then moveR L t l else L
def but (task : Int) (xs : List Nat) : List Nat := xs.filter fun x => decide ((x : Int) ≠ task)
/-- The rows P are the rows Q without a task. -/
def Shadow (P Q : Rows) (task : Int) : Prop := ∀ l, l < 32 → P l = but task (Q l)
theorem mem_but {task : Int} {xs : List Nat} {x : Nat} : x ∈ but task xs ↔ x ∈ xs ∧ (x : Int) ≠ task := by simp [but]
theorem lvl_congr {P Q : Rows} {t : Int} (h : 0 ≤ t → ∀ l, l < 32 → (t.toNat ∈ P l ↔ t.toNat ∈ Q l)) : lvl P t = lvl Q t := by
  have : (List.range 32).find? (fun l => decide (0 ≤ t) && decide (t.toNat ∈ P l)) = (List.range 32).find? (fun l => decide (0 ≤ t) && decide (t.toNat ∈ Q l)) := by
    have gen : ∀ is : List Nat, (∀ i ∈ is, i < 32) → is.find? (fun l => decide (0 ≤ t) && decide (t.toNat ∈ P l)) = is.find? (fun l => decide (0 ≤ t) && decide (t.toNat ∈ Q l)) := by
      intro is
      induction is with
      | nil => intro _; rfl
      | cons i is ih =>
        intro hi
        have e : (decide (0 ≤ t) && decide (t.toNat ∈ P i)) = (decide (0 ≤ t) && decide (t.toNat ∈ Q i)) := by
          by_cases h0 : 0 ≤ t
          · rw [decide_eq_decide.2 (h h0 i (hi i (by simp)))]
          · simp [h0]
        rw [List.find?_cons, List.find?_cons, e, ih (fun j hj => hi j (List.mem_cons_of_mem _ hj))]
    exact gen _ (fun i hi => List.mem_range.1 hi)
  unfold lvl
  rw [this]
theorem shadow_lvl {P Q : Rows} {task t : Int} (h : Shadow P Q task) (hne : t ≠ task) : lvl P t = lvl Q t :=
  lvl_congr fun h0 l hl => by
    rw [h l hl, mem_but]
    exact ⟨fun h => h.1, fun h => ⟨h, by omega⟩⟩
theorem shadow_push {P Q : Rows} {task : Int} (h : Shadow P Q task) (t l : Nat) (hne : (t : Int) ≠ task) : Shadow (pushR P t l) (pushR Q t l) task := fun j hj => by
  unfold pushR
  by_cases e : j = l
  · subst e
    rw [upL_same, upL_same, h j hj]
    simp [but, hne]
  · rw [upL_other _ _ e, upL_other _ _ e]; exact h j hj
theorem shadow_cut {P Q : Rows} {task : Int} (h : Shadow P Q task) (t l : Nat) : Shadow (cutR P t l) (cutR Q t l) task := fun j hj => by
  unfold cutR
  by_cases e : j = l
  · subst e
    rw [upL_same, upL_same, h j hj]
    unfold but
    rw [List.filter_filter, List.filter_filter]
    congr 1
    funext x
    exact Bool.and_comm _ _
  · rw [upL_other _ _ e, upL_other _ _ e]; exact h j hj
theorem shadow_push2 {P Q : Rows} {task : Int} (h : Shadow P Q task) (t l : Nat) (hne : (t : Int) = task) : Shadow P (pushR Q t l) task := fun j hj => by
  unfold pushR
  by_cases e : j = l
  · subst e
    rw [upL_same, h j hj]
    simp [but, hne]
  · rw [upL_other _ _ e]; exact h j hj
theorem shadow_cut2 {P Q : Rows} {task : Int} (h : Shadow P Q task) (t l : Nat) (hne : (t : Int) = task) : Shadow P (cutR Q t l) task := fun j hj => by
  unfold cutR
  by_cases e : j = l
  · subst e
    rw [upL_same, h j hj]
    unfold but
    rw [List.filter_filter]
    congr 1
    funext x
    by_cases hx : (x : Int) = task
    · simp [hx]
    · have : x ≠ t := by omega
      simp [hx, this]
  · rw [upL_other _ _ e]; exact h j hj
theorem toNat_ne {L : Rows} {t task : Int} (h : 0 ≤ t) (hne : t ≠ task) : ((t.toNat : Nat) : Int) ≠ task := by omega
theorem in_pos {L : Rows} {t : Int} (h : inR L t) : 0 ≤ t := by
  obtain ⟨_, _, _, h0, _⟩ := inR_pos h
  exact h0
theorem shadow_do {P Q : Rows} {task : Int} (h : Shadow P Q task) (k t l : Int) (hne : t ≠ task) : Shadow (doR P k t l) (doR Q k t l) task := by
  have hl := shadow_lvl h hne
  unfold doR
  split
  · have e : putOk P t l ↔ putOk Q t l := by unfold putOk; rw [hl]
    unfold putR
    by_cases hq : putOk Q t l
    · rw [if_pos hq, if_pos (e.2 hq)]; exact shadow_push h _ _ (by have := hq.1; omega)
    · rw [if_neg hq, if_neg (fun x => hq (e.1 x))]; exact h
  split
  · have e : inR P t ↔ inR Q t := by unfold inR; rw [hl]
    unfold removeR
    by_cases hq : inR Q t
    · rw [if_pos hq, if_pos (e.2 hq), hl]; exact shadow_cut h _ _
    · rw [if_neg hq, if_neg (fun x => hq (e.1 x))]; exact h
  split
  · have e : inR P t ↔ inR Q t := by unfold inR; rw [hl]
    unfold turnR
    by_cases hq : inR Q t
    · rw [if_pos hq, if_pos (e.2 hq), hl]; exact shadow_push (shadow_cut h _ _) _ _ (by have := in_pos hq; omega)
    · rw [if_neg hq, if_neg (fun x => hq (e.1 x))]; exact h
  split
  · have e : moveOk P t l ↔ moveOk Q t l := by unfold moveOk; rw [hl]
    unfold moveR
    by_cases hq : moveOk Q t l
    · rw [if_pos hq, if_pos (e.2 hq), hl]; exact shadow_push (shadow_cut h _ _) _ _ (by have := in_pos (show inR Q t from hq.1); omega)
    · rw [if_neg hq, if_neg (fun x => hq (e.1 x))]; exact h
  · exact h
theorem shadow_do2 {P Q : Rows} {task : Int} (h : Shadow P Q task) (k l : Int) : Shadow P (doR Q k task l) task := by
  unfold doR
  split
  · unfold putR
    split
    · rename_i hq; exact shadow_push2 h _ _ (by have := hq.1; omega)
    · exact h
  split
  · unfold removeR
    split
    · rename_i hq; exact shadow_cut2 h _ _ (by have := in_pos hq; omega)
    · exact h
  split
  · unfold turnR
    split
    · rename_i hq; exact shadow_push2 (shadow_cut2 h _ _ (by have := in_pos hq; omega)) _ _ (by have := in_pos hq; omega)
    · exact h
  split
  · unfold moveR
    split
    · rename_i hq
      have := in_pos (show inR Q task from hq.1)
      exact shadow_push2 (shadow_cut2 h _ _ (by omega)) _ _ (by omega)
    · exact h
  · exact h
theorem but_none {task : Int} {xs : List Nat} (h : ∀ x ∈ xs, (x : Int) ≠ task) : but task xs = xs := List.filter_eq_self.2 fun x hx => by simpa using h x hx
theorem shadow_end {s : QS} {P Q : Rows} {task : Int} (hp : Rep s Q) (h : Shadow P Q task) : ∀ l, l < 32 → removeR Q task l = P l := by
  intro j hj
  rw [h j hj]
  unfold removeR
  by_cases hin : inR Q task
  · rw [if_pos hin]
    obtain ⟨l, hl, hlv, h0, hm⟩ := inR_pos hin
    rw [hlv, Int.toNat_natCast]
    unfold cutR
    by_cases e : j = l
    · subst e
      rw [upL_same]
      unfold but
      congr 1
      funext x
      by_cases hx : (x : Int) = task
      · have : x = task.toNat := by omega
        simp [this]; omega
      · have : x ≠ task.toNat := by omega
        simp [hx, this]
    · rw [upL_other _ _ e, but_none fun x hx he => hp.apart hl hj hm e (by rw [show task.toNat = x by omega]; exact hx)]
  · rw [if_neg hin, but_none fun x hx he => ?_]
    have := lvl_in hp hj hx
    unfold inR at hin
    rw [he] at this
    omega
theorem shadow_zero (task : Int) : Shadow (fun _ => []) (fun _ => []) task := fun _ _ => rfl
end Go.Proofs.YtdfadggdegojnaaDoor
