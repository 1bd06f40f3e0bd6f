/- The walk of the reference's Form. -/
import Derived.Test.YtmmbhjomgpnklaaRef
import Derived.Deep.DeepCutAuto
namespace Go.Proofs.Ytmmbhjomgpnklaa
open Go.RowKit
theorem hasD_C (op : Int) (h : hasD op = true) : hasC op = true := by
  unfold hasD at h; unfold hasC; grind
attribute [local irreducible] hasA hasB hasC hasD hasK bitsOf regP hasStr letter
def bad4 (a b c d : Int) : Bool := decide (a < 0 ∨ 7 < a ∨ b < 0 ∨ 7 < b ∨ c < 0 ∨ 7 < c ∨ d < 0 ∨ 2 < d)
def bad6 (op a b c d k : Int) : Bool := (!letter op 65 && decide (a ≠ 0)) || (!letter op 66 && decide (b ≠ 0)) || (!letter op 67 && decide (c ≠ 0)) || (!letter op 68 && decide (d ≠ 0)) || (!letter op 75 && decide (k ≠ 0))
def bad8 (op c d : Int) : Bool := letter op 68 && decide (d ≠ 2) && decide (c ≠ 0)
def bad10 (op k : Int) : Bool := decide (op = 20 ∧ (k < 1 ∨ 1000 < k) ∨ (op = 21 ∨ op = 22) ∧ 15 < k)
theorem bads (op a b c d k : Int) (h1 : 1 ≤ op) (h2 : op ≤ 38) : formP op a b c d k = if bad4 a b c d || bad6 op a b c d k || bad8 op c d || bad10 op k then 5 else 0 := by
  have HD := hasD_C op
  unfold bad4 bad6 bad8 bad10 formP regP
  rw [letter_A, letter_B, letter_C, letter_D, letter_K]
  revert HD
  generalize hasA op = x1
  generalize hasB op = x2
  generalize hasC op = x3
  generalize hasD op = x4
  generalize hasK op = x5
  intro HD
  cases x1 <;> cases x2 <;> cases x3 <;> cases x4 <;> cases x5 <;> simp at HD ⊢ <;> grind (splits := 40)
attribute [local irreducible] bad4 bad6 bad8 bad10 formP
theorem formRef_no (op a b c d k : Int) (h : op < 1 ∨ 38 < op) (w : World) : Calls Try.prog 35 #[.agg #[.int .i64 op, .int .i64 a, .int .i64 b, .int .i64 c, .int .i64 d, .int .u32 k]] w fun e w' => e = .returned (.int .i64 14) ∧ Grow w w' := by
  rcases h with h | h
  · go_enter Try.func35, Try.ntmps35
    go_wp2
    go_ret
    exact ⟨rfl, Grow.alloc _ _⟩
  · go_enter Try.func35, Try.ntmps35
    go_wp2
    go_ret
    exact ⟨rfl, Grow.alloc _ _⟩
set_option maxHeartbeats 8000000 in
set_option maxRecDepth 100000 in
theorem formRef_yes (op a b c d k : Int) (h1 : ¬ op < 1) (h2 : ¬ 38 < op) (w : World) : Calls Try.prog 35 #[.agg #[.int .i64 op, .int .i64 a, .int .i64 b, .int .i64 c, .int .i64 d, .int .u32 k]] w fun e w' => e = .returned (.int .i64 (if bad4 a b c d || bad6 op a b c d k || bad8 op c d || bad10 op k then 5 else 0)) ∧ Grow w w' := by
  have hG := Lib.hid (Grow.alloc w (.cells #[.int .i64 op, .int .i64 a, .int .i64 b, .int .i64 c, .int .i64 d, .int .u32 k] 41))
  go_enter Try.func35, Try.ntmps35
  go_upto_region 4 with (first | (go_at_call 38; refine (has_any _ _).mono ?_; rintro e w' ⟨rfl, rfl⟩) | (go_at_call 39; refine (in_letter _ _ (by omega) (by omega) _).mono ?_; rintro e w' ⟨rfl, rfl⟩))
  go_cut [52] (fun s wx => s = .bool (bad4 a b c d) ∧ wx = w.alloc (.cells #[.int .i64 op, .int .i64 a, .int .i64 b, .int .i64 c, .int .i64 d, .int .u32 k] 41))
  case first => as_aux_lemma =>
    go_wp2
    all_goals (as_aux_lemma => ((try subst_vars); go_meet; exact ⟨by congr 1; unfold bad4; grind, rfl⟩))
  case rest =>
    obtain ⟨rfl, rfl⟩ := hcut
    cases hb4 : bad4 a b c d
    · go_upto_region 6 with (first | (go_at_call 38; refine (has_any _ _).mono ?_; rintro e w' ⟨rfl, rfl⟩) | (go_at_call 39; refine (in_letter _ _ (by omega) (by omega) _).mono ?_; rintro e w' ⟨rfl, rfl⟩))
      go_cut [100] (fun s wx => s = .bool (bad6 op a b c d k) ∧ wx = w.alloc (.cells #[.int .i64 op, .int .i64 a, .int .i64 b, .int .i64 c, .int .i64 d, .int .u32 k] 41))
      case first => as_aux_lemma =>
        go_wp2_with (first | (go_at_call 38; refine (has_any _ _).mono ?_; rintro e w' ⟨rfl, rfl⟩) | (go_at_call 39; refine (in_letter _ _ (by omega) (by omega) _).mono ?_; rintro e w' ⟨rfl, rfl⟩))
        all_goals (as_aux_lemma => ((try subst_vars); go_meet; exact ⟨by congr 1; unfold bad6; grind, rfl⟩))
      case rest =>
        obtain ⟨rfl, rfl⟩ := hcut
        cases hb6 : bad6 op a b c d k
        · go_upto_region 8 with (first | (go_at_call 38; refine (has_any _ _).mono ?_; rintro e w' ⟨rfl, rfl⟩) | (go_at_call 39; refine (in_letter _ _ (by omega) (by omega) _).mono ?_; rintro e w' ⟨rfl, rfl⟩))
          go_cut [112] (fun s wx => s = .bool (bad8 op c d) ∧ wx = w.alloc (.cells #[.int .i64 op, .int .i64 a, .int .i64 b, .int .i64 c, .int .i64 d, .int .u32 k] 41))
          case first => as_aux_lemma =>
            go_wp2_with (first | (go_at_call 38; refine (has_any _ _).mono ?_; rintro e w' ⟨rfl, rfl⟩) | (go_at_call 39; refine (in_letter _ _ (by omega) (by omega) _).mono ?_; rintro e w' ⟨rfl, rfl⟩))
            all_goals (as_aux_lemma => ((try subst_vars); go_meet; exact ⟨by congr 1; unfold bad8; grind, rfl⟩))
          case rest =>
            obtain ⟨rfl, rfl⟩ := hcut
            cases hb8 : bad8 op c d
            · go_upto_region 10 with (first | (go_at_call 38; refine (has_any _ _).mono ?_; rintro e w' ⟨rfl, rfl⟩) | (go_at_call 39; refine (in_letter _ _ (by omega) (by omega) _).mono ?_; rintro e w' ⟨rfl, rfl⟩))
              go_cut [140] (fun s wx => s = .bool (bad10 op k) ∧ wx = w.alloc (.cells #[.int .i64 op, .int .i64 a, .int .i64 b, .int .i64 c, .int .i64 d, .int .u32 k] 41))
              case first => as_aux_lemma =>
                go_wp2_with (first | (go_at_call 38; refine (has_any _ _).mono ?_; rintro e w' ⟨rfl, rfl⟩) | (go_at_call 39; refine (in_letter _ _ (by omega) (by omega) _).mono ?_; rintro e w' ⟨rfl, rfl⟩))
                all_goals (as_aux_lemma => ((try subst_vars); go_meet; exact ⟨by congr 1; unfold bad10; grind, rfl⟩))
              case rest =>
                obtain ⟨rfl, rfl⟩ := hcut
                cases hb10 : bad10 op k
                · go_wp2
                  all_goals (go_ret; exact ⟨by simp, hG.out⟩)
                · go_wp2
                  all_goals (go_ret; exact ⟨by simp, hG.out⟩)
            · go_wp2
              all_goals (go_ret; exact ⟨by simp, hG.out⟩)
        · go_wp2
          all_goals (go_ret; exact ⟨by simp, hG.out⟩)
    · go_wp2
      all_goals (go_ret; exact ⟨by simp, hG.out⟩)
theorem formRef_any (op a b c d k : Int) (w : World) : Calls Try.prog 35 #[.agg #[.int .i64 op, .int .i64 a, .int .i64 b, .int .i64 c, .int .i64 d, .int .u32 k]] w fun e w' => e = .returned (.int .i64 (formP op a b c d k)) ∧ Grow w w' := by
  by_cases h : op < 1 ∨ 38 < op
  · have : formP op a b c d k = 14 := by unfold formP; rw [if_pos (by omega)]
    rw [this]; exact formRef_no op a b c d k h w
  · rw [bads op a b c d k (by omega) (by omega)]; exact formRef_yes op a b c d k (by omega) (by omega) w
end Go.Proofs.Ytmmbhjomgpnklaa
