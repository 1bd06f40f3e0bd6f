/- Turning a level round. No program in sight. -/
import Derived.Test.YtdfadggdegojnaaDoorFirst
namespace Go.Proofs.YtdfadggdegojnaaDoor
set_option linter.unusedVariables false
def rowAt (L : Rows) (l : Int) : List Nat := if 0 ≤ l ∧ l < 32 then L l.toNat else []
/-- No other level has tasks. -/
def Lone (L : Rows) (l : Int) : Prop := ∀ j : Nat, j < 32 → (j : Int) ≠ l → L j = []
theorem lone_put {L : Rows} {l : Int} (h : Lone L l) (t : Int) : Lone (putR L t l) l := fun j hj hne => by
  unfold putR
  split
  · rename_i hok
    unfold pushR
    rw [upL_other _ _ (by have := hok.2.2.1; omega)]
    exact h j hj hne
  · exact h j hj hne
theorem lead_lone {L : Rows} {l : Nat} (hl : l < 32) (h : Lone L l) (hne : L l ≠ []) : lead L = some l := by
  cases e : lead L with
  | none => exact absurd (lead_none e l hl) hne
  | some j =>
    obtain ⟨h1, h2, _⟩ := lead_some e
    by_cases hj : (j : Int) = l
    · rw [show j = l by omega]
    · exact absurd (h j h1 hj) h2
theorem total_congr {L M : Rows} (h : ∀ j, j < 32 → L j = M j) : total L = total M := by
  unfold total
  congr 1
  exact List.map_congr_left fun j hj => by rw [h j (List.mem_range.1 hj)]
theorem total_nil : total (fun _ => []) = 0 := by decide
attribute [local irreducible] total upL in
theorem total_lone {L : Rows} {l : Int} (h : Lone L l) : total L = (rowAt L l).length := by
  by_cases hl : 0 ≤ l ∧ l < 32
  · obtain ⟨k, rfl⟩ := Int.eq_ofNat_of_zero_le hl.1
    have h1 := total_up (fun _ => []) k (L k) (by omega)
    have h2 : total L = total (upL (fun _ => []) k (L k)) := total_congr fun j hj => by
      by_cases e : j = k
      · rw [e, upL_same]
      · rw [upL_other _ _ e, h j hj (by omega)]
    have h3 := total_nil
    have h4 : rowAt L (k : Int) = L k := by unfold rowAt; rw [if_pos hl]; rfl
    rw [h2, h4]
    rw [h3, List.length_nil] at h1
    omega
  · have h2 : total L = total (fun _ => []) := total_congr fun j hj => h j hj (by omega)
    have h4 : rowAt L l = [] := by unfold rowAt; rw [if_neg hl]
    rw [h2, h4, total_nil]; rfl
theorem rot_step (xs : List Nat) (k : Nat) (hk : k < xs.length) : ∃ rest, xs.drop k ++ xs.take k = xs[k] :: rest ∧ rest ++ [xs[k]] = xs.drop (k + 1) ++ xs.take (k + 1) := by
  refine ⟨xs.drop (k + 1) ++ xs.take k, ?_, ?_⟩
  · rw [List.drop_eq_getElem_cons hk]; rfl
  · rw [List.append_assoc, List.take_append_getElem hk]
theorem turn_head {s : QS} {L : Rows} (h : Rep s L) {l x : Nat} {rest : List Nat} (hl : l < 32) (hr : L l = x :: rest) : inR L x ∧ (turnR L x) l = rest ++ [x] ∧ ∀ j, j ≠ l → (turnR L x) j = L j := by
  have hm : x ∈ L l := by rw [hr]; simp
  have hlv := lvl_in h hl hm
  have hin : inR L x := by unfold inR; omega
  have hnd := h.nodup l hl
  rw [hr] at hnd
  have hx := (List.nodup_cons.1 hnd).1
  have hf : (L l).filter (· != x) = rest := by
    rw [hr]
    have := filter_split (pre := []) (post := rest) (t := x) (by simp) hx
    simpa using this
  refine ⟨hin, ?_, fun j hj => ?_⟩
  · unfold turnR pushR cutR
    rw [if_pos hin, hlv]
    simp only [Int.toNat_natCast]
    rw [upL_same, upL_same, hf]
  · unfold turnR pushR cutR
    rw [if_pos hin, hlv]
    simp only [Int.toNat_natCast]
    rw [upL_other _ _ hj, upL_other _ _ hj]
theorem lone_zero (l : Int) : Lone (fun _ => []) l := fun _ _ _ => rfl
end Go.Proofs.YtdfadggdegojnaaDoor
