/- Texts of the proof, merged: QuPlainB. -/
import Derived.Test.YtnhmdinpfcoebaaGreatDoorM04
/-! === QuPlainB -/
section
/- The calls upon the rows, plainly. No program in sight. -/
namespace Go.Proofs.YtnhmdinpfcoebaaGreatDoor.Qu
set_option linter.unusedVariables false

/-- At which level a task stands; -1: nowhere. -/
def lvl (L : Rows) (t : Int) : Int := match (List.range 32).find? (fun l => decide (0 ≤ t) && decide (t.toNat ∈ L l)) with
  | some l => l
  | none => -1
theorem lvl_cases (L : Rows) (t : Int) : (lvl L t = -1 ∧ (0 ≤ t → ∀ l, l < 32 → t.toNat ∉ L l)) ∨ ∃ l : Nat, l < 32 ∧ lvl L t = l ∧ 0 ≤ t ∧ t.toNat ∈ L l := by
  unfold lvl
  cases h : (List.range 32).find? (fun l => decide (0 ≤ t) && decide (t.toNat ∈ L l)) with
  | none =>
    left
    refine ⟨rfl, fun h0 l hl hm => ?_⟩
    have := List.find?_eq_none.1 h l (List.mem_range.2 hl)
    simp [h0, hm] at this
  | some l =>
    right
    have h1 := List.find?_some h
    have h2 := List.mem_of_find?_eq_some h
    simp only [Bool.and_eq_true, decide_eq_true_eq] at h1
    exact ⟨l, List.mem_range.1 h2, rfl, h1.1, h1.2⟩
theorem lvl_in {s : QS} {L : Rows} (h : Rep s L) {t l : Nat} (hl : l < 32) (hm : t ∈ L l) : lvl L (t : Int) = l := by
  rcases lvl_cases L t with ⟨_, h1⟩ | ⟨j, hj, e, _, hm2⟩
  · exact absurd (by simpa using hm) (h1 (by omega) l hl)
  · rw [e]
    have := (h.mem l hl t hm).2
    have := (h.mem j hj t (by simpa using hm2)).2
    omega
theorem lvl_no {L : Rows} {t : Nat} (h : ∀ l, l < 32 → t ∉ L l) : lvl L (t : Int) = -1 := by
  rcases lvl_cases L t with ⟨e, _⟩ | ⟨j, hj, _, _, hm2⟩
  · exact e
  · exact absurd (by simpa using hm2) (h j hj)
theorem lvl_out {s : QS} {L : Rows} (h : Rep s L) {t : Int} (ht : ¬ (0 ≤ t ∧ t < 64)) : lvl L t = -1 := by
  rcases lvl_cases L t with ⟨e, _⟩ | ⟨j, hj, _, h0, hm⟩
  · exact e
  · have := (h.mem j hj _ hm).1
    omega
theorem Rep.level_eq {s : QS} {L : Rows} (h : Rep s L) {t : Nat} (ht : t < 64) : s.level t = lvl L (t : Int) + 1 := by
  rcases lvl_cases L t with ⟨e, h1⟩ | ⟨j, hj, e, _, hm2⟩
  · rw [e]
    rcases h.lev t ht with h2 | ⟨l, hl, _, hm⟩
    · rw [h2]; omega
    · exact absurd (by simpa using hm) (h1 (by omega) l hl)
  · rw [e]; exact (h.mem j hj t (by simpa using hm2)).2
theorem nodup_len : ∀ (n : Nat) (xs : List Nat), xs.Nodup → (∀ x ∈ xs, x < n) → xs.length ≤ n
  | 0, [], _, _ => by simp
  | 0, x :: _, _, h => absurd (h x (by simp)) (Nat.not_lt_zero _)
  | n + 1, xs, hn, h => by
    have h1 := nodup_len n (xs.erase n) (hn.erase n) (fun x hx => by
      have h2 := (hn.mem_erase_iff).1 hx
      have := h x h2.2
      have := h2.1
      omega)
    have := List.length_erase (a := n) (l := xs)
    split at this <;> omega
theorem sum_le (f : Nat → Nat) (c : Nat) : ∀ n, (∀ j, j < n → f j ≤ c) → ((List.range n).map f).sum ≤ n * c
  | 0, _ => by simp
  | n + 1, h => by
    rw [List.range_succ, List.map_append, List.sum_append]
    have := sum_le f c n (fun j hj => h j (by omega))
    have := h n (by omega)
    simp only [List.map_cons, List.map_nil, List.sum_cons, List.sum_nil, Nat.add_zero, Nat.succ_mul]
    omega
theorem total_le {s : QS} {L : Rows} (h : Rep s L) : total L ≤ 2048 := by
  have := sum_le (fun l => (L l).length) 64 32 (fun l hl => nodup_len 64 (L l) (h.nodup l hl) (fun x hx => (h.mem l hl x hx).1))
  exact this
theorem Rep.back_in {s : QS} {L : Rows} (h : Rep s L) {l : Nat} (hl : l < 32) (hb : s.some.getLsbD l = true) : ∃ z : Nat, z < 64 ∧ s.back l = z := by
  have hne : L l ≠ [] := fun e => by rw [(h.some l hl).2 e] at hb; cases hb
  obtain ⟨z, hz, e⟩ := lst_mem (-1) (L l) hne
  exact ⟨z, (h.mem l hl z hz).1, by rw [h.back l hl hne, e]⟩
theorem Rep.ends {s : QS} {L : Rows} (h : Rep s L) {l t : Nat} (hl : l < 32) (hm : t ∈ L l) : (s.ahead t = -1 ∨ ∃ z : Nat, z < 64 ∧ s.ahead t = z) ∧ (s.after t = -1 ∨ ∃ z : Nat, z < 64 ∧ s.after t = z) := by
  obtain ⟨pre, post, hL⟩ := List.append_of_mem hm
  have hseg := h.seg l hl
  rw [hL, Seg.append] at hseg
  obtain ⟨_, hA, hF, _⟩ := hseg
  constructor
  · by_cases hp : pre = []
    · left; rw [hA, hp]; rfl
    · obtain ⟨z, hz, e⟩ := lst_mem (-1) pre hp
      exact .inr ⟨z, (h.mem l hl z (by rw [hL]; simp [hz])).1, hA.trans e⟩
  · by_cases hp : post = []
    · left; rw [hF, hp]; rfl
    · obtain ⟨z, hz, e⟩ := hd_mem (-1) post hp
      exact .inr ⟨z, (h.mem l hl z (by rw [hL]; simp [hz])).1, hF.trans e⟩

/-! ### The calls -/
def pushR (L : Rows) (t l : Nat) : Rows := upL L l (L l ++ [t])
def cutR (L : Rows) (t l : Nat) : Rows := upL L l ((L l).filter (· != t))
def putOk (L : Rows) (t l : Int) : Prop := 0 ≤ t ∧ t < 64 ∧ 0 ≤ l ∧ l < 32 ∧ lvl L t = -1
instance (L : Rows) (t l : Int) : Decidable (putOk L t l) := by unfold putOk; infer_instance
def putR (L : Rows) (t l : Int) : Rows := if putOk L t l then pushR L t.toNat l.toNat else L
def inR (L : Rows) (t : Int) : Prop := 0 ≤ lvl L t
instance (L : Rows) (t : Int) : Decidable (inR L t) := by unfold inR; infer_instance
def removeR (L : Rows) (t : Int) : Rows := if inR L t then cutR L t.toNat (lvl L t).toNat else L
def turnR (L : Rows) (t : Int) : Rows := if inR L t then pushR (cutR L t.toNat (lvl L t).toNat) t.toNat (lvl L t).toNat else L
def moveOk (L : Rows) (t l : Int) : Prop := 0 ≤ lvl L t ∧ 0 ≤ l ∧ l < 32 ∧ lvl L t ≠ l
instance (L : Rows) (t l : Int) : Decidable (moveOk L t l) := by unfold moveOk; infer_instance
def moveR (L : Rows) (t l : Int) : Rows := if moveOk L t l then pushR (cutR L t.toNat (lvl L t).toNat) t.toNat l.toNat else L
/-- The first level that has a task. -/
def lead (L : Rows) : Option Nat := (List.range 32).find? fun l => !(L l).isEmpty
def firstR (L : Rows) : Int := match lead L with
  | some l => hd (-1) (L l)
  | none => -1
theorem inR_pos {L : Rows} {t : Int} (h : inR L t) : ∃ l : Nat, l < 32 ∧ lvl L t = l ∧ 0 ≤ t ∧ t.toNat ∈ L l := by
  rcases lvl_cases L t with ⟨e, _⟩ | h1
  · unfold inR at h; omega
  · exact h1
theorem cut_no {s : QS} {L : Rows} (h : Rep s L) {t l : Nat} (hl : l < 32) (hm : t ∈ L l) : lvl (cutR L t l) (t : Int) = -1 := by
  refine lvl_no fun j hj hm2 => ?_
  unfold cutR at hm2
  by_cases e : j = l
  · subst e
    rw [upL_same] at hm2
    simp at hm2
  · rw [upL_other L _ e] at hm2
    exact h.apart hl hj hm e hm2
end Go.Proofs.YtnhmdinpfcoebaaGreatDoor.Qu
end
