/- What is told of systems: the plain laws. No program in sight. -/
import Derived.Test.YtmmbhjomgpnklaaSys
namespace Go.Proofs.Ytmmbhjomgpnklaa
open Go.RowKit
set_option linter.unusedVariables false
set_option linter.unusedSimpArgs false
theorem orF_iff {f g : Ft} (hf : Clean f) : orF f g = okF ↔ f = okF ∧ g = okF := by
  unfold orF
  by_cases h : f.e = 0
  · rw [if_pos h]; exact ⟨fun h2 => ⟨hf h, h2⟩, fun h2 => h2.2⟩
  · rw [if_neg h]
    exact ⟨fun h2 => absurd (by rw [h2]; rfl) h, fun h2 => h2.1⟩
theorem first_less {f : Nat → Ft} (hf : ∀ j, Clean (f j)) {n m : Nat} (h : firstF f n = okF) (hm : m ≤ n) : firstF f m = okF := by
  rcases first_cases f hf n with ⟨_, h2⟩ | ⟨k, _, he, _, h1⟩
  · exact first_none f m fun j hj => h2 j (by omega)
  · rw [h1] at h; rw [h] at he; exact absurd rfl he
theorem tasks_less {n m : Nat} {T : Nat → Tk} (h : tasksP n T = okF) (hm : m ≤ n) : tasksP m T = okF := by
  unfold tasksP at h ⊢
  by_cases hn : 64 < n
  · rw [if_pos hn] at h; cases h
  · rw [if_neg hn] at h
    rw [if_neg (by omega)]
    exact first_less (fun j => clean_task _ _) h hm
theorem lines_less {n m : Nat} {T : Nat → Ln} (h : linesP n T = okF) (hm : m ≤ n) : linesP m T = okF := by
  unfold linesP at h ⊢
  by_cases hn : 16 < n
  · rw [if_pos hn] at h; cases h
  · rw [if_neg hn] at h
    rw [if_neg (by omega)]
    exact first_less (fun j => clean_line _ _) h hm
/-- With a task less, and a line less, where the mask lets none through, nothing is wrong either. -/
theorem fewer_ok {X : Cf} (h : (sysP X).e = 0) {n l : Nat} (hn : n ≤ X.tn) (hl : l ≤ X.ln) (hm : l = X.ln ∨ X.mask = 0) : sysP { X with tn := n, ln := l } = okF := by
  have c1 : Clean (sysP X) := clean_or (clean_or (clean_or (clean_or (clean_or (clean_or (clean_or (clean_num _ _)))))))
  have h := c1 h
  unfold sysP progP at h ⊢
  rw [orF_iff (clean_or (clean_lines _ _)), orF_iff (clean_tasks _ _), orF_iff (clean_num _ _), orF_iff (clean_row _ _ _ _ _), orF_iff (clean_row _ _ _ _ _), orF_iff (clean_row _ _ _ _ _), orF_iff (clean_num _ _), orF_iff (clean_num _ _)] at h
  obtain ⟨⟨h1, h2⟩, h3, h4, h5, h6, h7, h8, h9⟩ := h
  rw [orF_iff (clean_or (clean_lines _ _)), orF_iff (clean_tasks _ _), orF_iff (clean_num _ _), orF_iff (clean_row _ _ _ _ _), orF_iff (clean_row _ _ _ _ _), orF_iff (clean_row _ _ _ _ _), orF_iff (clean_num _ _), orF_iff (clean_num _ _)]
  refine ⟨⟨tasks_less h1 hn, lines_less h2 hl⟩, h3, h4, h5, h6, h7, ?_, h9⟩
  rcases hm with rfl | hm
  · exact h8
  · have e : maskOk X.mask l = true := by rw [hm]; simp [maskOk]
    show numP (maskOk X.mask l) 8 = okF
    rw [e]; rfl
theorem nz5 : (5 : Int) ≠ 0 := by decide
theorem nz4 : (4 : Int) ≠ 0 := by decide
/-- All right, or wrong at this part. -/
def Says (k : Int) (f : Ft) : Prop := f = okF ∨ (f.e ≠ 0 ∧ f.p = k)
theorem says_num (b : Bool) (p : Int) : Says p (numP b p) := by
  cases b
  · first | exact .inr ⟨nz5, rfl⟩ | exact .inr ⟨nz4, rfl⟩
  · exact .inl rfl
theorem says_code (n : Nat) (C : Nat → Ins) (isr : Bool) (p i a : Int) : Says p (codeP n C isr p i a) := by
  unfold codeP
  by_cases h : (codeQ n C isr).e = 0
  · rw [if_pos h]; exact .inl rfl
  · rw [if_neg h]; exact .inr ⟨h, rfl⟩
theorem says_first {k : Int} {f : Nat → Ft} (hf : ∀ j, Clean (f j)) (hs : ∀ j, Says k (f j)) (n : Nat) : Says k (firstF f n) := by
  rcases first_cases f hf n with ⟨h1, _⟩ | ⟨j, _, he, _, h1⟩
  · exact .inl h1
  · rw [h1]; exact hs j
theorem says_row (n : Nat) (M : Nat → Int) (p lo hi : Int) : Says p (rowP n M p lo hi) := by
  unfold rowP
  split
  · first | exact .inr ⟨nz5, rfl⟩ | exact .inr ⟨nz4, rfl⟩
  · refine says_first (fun j => ?_) (fun j => ?_) n
    · unfold rowF; split
      · intro _; rfl
      · intro h; cases h
    · unfold rowF; split
      · exact .inl rfl
      · first | exact .inr ⟨nz5, rfl⟩ | exact .inr ⟨nz4, rfl⟩
theorem says_tasks (n : Nat) (T : Nat → Tk) : Says 1 (tasksP n T) := by
  unfold tasksP
  split
  · first | exact .inr ⟨nz5, rfl⟩ | exact .inr ⟨nz4, rfl⟩
  · refine says_first (fun j => clean_task _ _) (fun j => ?_) n
    unfold taskP
    repeat' split
    all_goals first | exact says_code _ _ _ _ _ _ | first | exact .inr ⟨nz5, rfl⟩ | exact .inr ⟨nz4, rfl⟩
theorem says_lines (n : Nat) (T : Nat → Ln) : Says 2 (linesP n T) := by
  unfold linesP
  split
  · first | exact .inr ⟨nz5, rfl⟩ | exact .inr ⟨nz4, rfl⟩
  · refine says_first (fun j => clean_line _ _) (fun j => ?_) n
    unfold lineP
    repeat' split
    all_goals first | exact says_code _ _ _ _ _ _ | first | exact .inr ⟨nz5, rfl⟩ | exact .inr ⟨nz4, rfl⟩
theorem orF_bad {f g : Ft} (h : f.e ≠ 0) : orF f g = f := by unfold orF; rw [if_neg h]
theorem orF_fine (g : Ft) : orF okF g = g := by unfold orF; rw [if_pos (show okF.e = 0 from rfl)]
def sys9 (f1 f2 f3 f4 f5 f6 f7 f8 f9 : Ft) : Ft := orF (orF f1 f2) (orF f3 (orF f4 (orF f5 (orF f6 (orF f7 (orF f8 f9))))))
theorem sys9_same {f1 f2 f3 f4 f5 f6 f7 f8 f9 g2 g3 g4 g5 g6 g7 g8 g9 : Ft} (s1 : Says 1 f1) (s2 : Says 2 f2) (s3 : Says 3 f3) (s4 : Says 4 f4) (s5 : Says 5 f5) (s6 : Says 6 f6) (s7 : Says 7 f7) (s8 : Says 8 f8) (s9 : Says 9 f9) (p : Int) (hp : p = (sys9 f1 f2 f3 f4 f5 f6 f7 f8 f9).p)
    (h2 : g2 = if p < 2 then okF else f2) (h3 : g3 = if p < 3 then okF else f3) (h4 : g4 = if p < 4 then okF else f4) (h5 : g5 = if p < 5 then okF else f5) (h6 : g6 = if p < 6 then okF else f6) (h7 : g7 = if p < 7 then okF else f7) (h8 : g8 = if p < 8 then okF else f8) (h9 : g9 = if p < 9 then okF else f9) :
    sys9 f1 g2 g3 g4 g5 g6 g7 g8 g9 = sys9 f1 f2 f3 f4 f5 f6 f7 f8 f9 := by
  unfold sys9 at hp ⊢
  rcases s1 with rfl | ⟨e1, p1⟩
  case inr => simp only [orF_bad e1]
  rw [orF_fine] at hp ⊢; rw [orF_fine]
  rcases s2 with rfl | ⟨e2, p2⟩
  case inr =>
    rw [orF_bad e2] at hp ⊢
    rw [if_neg (by omega)] at h2; subst h2
    rw [orF_bad e2]
  have h2' : g2 = okF := by rw [h2]; split <;> rfl
  rw [h2', orF_fine, orF_fine]; rw [orF_fine] at hp
  rcases s3 with rfl | ⟨e3, p3⟩
  case inr =>
    rw [orF_bad e3] at hp ⊢
    rw [if_neg (by omega)] at h3; subst h3
    rw [orF_bad e3]
  have h3' : g3 = okF := by rw [h3]; split <;> rfl
  rw [h3', orF_fine, orF_fine]; rw [orF_fine] at hp
  rcases s4 with rfl | ⟨e4, p4⟩
  case inr =>
    rw [orF_bad e4] at hp ⊢
    rw [if_neg (by omega)] at h4; subst h4
    rw [orF_bad e4]
  have h4' : g4 = okF := by rw [h4]; split <;> rfl
  rw [h4', orF_fine, orF_fine]; rw [orF_fine] at hp
  rcases s5 with rfl | ⟨e5, p5⟩
  case inr =>
    rw [orF_bad e5] at hp ⊢
    rw [if_neg (by omega)] at h5; subst h5
    rw [orF_bad e5]
  have h5' : g5 = okF := by rw [h5]; split <;> rfl
  rw [h5', orF_fine, orF_fine]; rw [orF_fine] at hp
  rcases s6 with rfl | ⟨e6, p6⟩
  case inr =>
    rw [orF_bad e6] at hp ⊢
    rw [if_neg (by omega)] at h6; subst h6
    rw [orF_bad e6]
  have h6' : g6 = okF := by rw [h6]; split <;> rfl
  rw [h6', orF_fine, orF_fine]; rw [orF_fine] at hp
  rcases s7 with rfl | ⟨e7, p7⟩
  case inr =>
    rw [orF_bad e7] at hp ⊢
    rw [if_neg (by omega)] at h7; subst h7
    rw [orF_bad e7]
  have h7' : g7 = okF := by rw [h7]; split <;> rfl
  rw [h7', orF_fine, orF_fine]; rw [orF_fine] at hp
  rcases s8 with rfl | ⟨e8, p8⟩
  case inr =>
    rw [orF_bad e8] at hp ⊢
    rw [if_neg (by omega)] at h8; subst h8
    rw [orF_bad e8]
  have h8' : g8 = okF := by rw [h8]; split <;> rfl
  rw [h8', orF_fine, orF_fine]; rw [orF_fine] at hp
  rcases s9 with rfl | ⟨e9, p9⟩
  case inr => rw [if_neg (by omega)] at h9; exact h9
  rw [h9]; split <;> rfl
/-- With all parts behind the place made right the same is told. -/
theorem first_same {X Y : Cf} {p : Int} (hp : (sysP X).p = p) (h1 : Y.tn = X.tn ∧ Y.T = X.T) (h2 : if p < 2 then Y.ln = 0 else Y.ln = X.ln ∧ Y.L = X.L) (h3 : if p < 3 then Y.mx = 0 else Y.mx = X.mx) (h4 : if p < 4 then Y.sn = 0 else Y.sn = X.sn ∧ Y.S = X.S)
    (h5 : if p < 5 then Y.qn = 0 else Y.qn = X.qn ∧ Y.Q = X.Q) (h6 : if p < 6 then Y.mn = 0 else Y.mn = X.mn ∧ Y.M = X.M) (h7 : if p < 7 then Y.table = 0 else Y.table = X.table) (h8 : if p < 8 then Y.mask = 0 else Y.mask = X.mask) (h9 : if p < 9 then Y.charge = 0 else Y.charge = X.charge) : sysP Y = sysP X := by
  have e : sysP Y = sys9 (tasksP X.tn X.T) (linesP Y.ln Y.L) (numP (inB Y.mx 0 32) 3) (rowP Y.sn Y.S 4 0 255) (rowP Y.qn Y.Q 5 1 64) (rowP Y.mn Y.M 6 0 ((Y.sn : Int) - 1)) (numP (inB Y.table 0 64) 7) (numP (maskOk Y.mask Y.ln) 8) (numP (inB Y.charge 0 64) 9) := by
    unfold sysP progP sys9; rw [h1.1, h1.2]
  have e2 : sysP X = sys9 (tasksP X.tn X.T) (linesP X.ln X.L) (numP (inB X.mx 0 32) 3) (rowP X.sn X.S 4 0 255) (rowP X.qn X.Q 5 1 64) (rowP X.mn X.M 6 0 ((X.sn : Int) - 1)) (numP (inB X.table 0 64) 7) (numP (maskOk X.mask X.ln) 8) (numP (inB X.charge 0 64) 9) := rfl
  rw [e2] at hp ⊢
  rw [e]
  refine sys9_same (says_tasks _ _) (says_lines _ _) (says_num _ _) (says_row _ _ _ _ _) (says_row _ _ _ _ _) (says_row _ _ _ _ _) (says_num _ _) (says_num _ _) (says_num _ _) p hp.symm ?_ ?_ ?_ ?_ ?_ ?_ ?_ ?_
  · by_cases h : p < 2
    · rw [if_pos h] at h2 ⊢; rw [h2]; rfl
    · rw [if_neg h] at h2 ⊢; rw [h2.1, h2.2]
  · by_cases h : p < 3
    · rw [if_pos h] at h3 ⊢; rw [h3]; rfl
    · rw [if_neg h] at h3 ⊢; rw [h3]
  · by_cases h : p < 4
    · rw [if_pos h] at h4 ⊢; rw [h4]; rfl
    · rw [if_neg h] at h4 ⊢; rw [h4.1, h4.2]
  · by_cases h : p < 5
    · rw [if_pos h] at h5 ⊢; rw [h5]; rfl
    · rw [if_neg h] at h5 ⊢; rw [h5.1, h5.2]
  · by_cases h : p < 6
    · rw [if_pos h] at h6 ⊢; rw [h6]; rfl
    · rw [if_neg h] at h6 ⊢; rw [if_neg (by omega)] at h4; rw [h6.1, h6.2, h4.1]
  · by_cases h : p < 7
    · rw [if_pos h] at h7 ⊢; rw [h7]; rfl
    · rw [if_neg h] at h7 ⊢; rw [h7]
  · by_cases h : p < 8
    · rw [if_pos h] at h8 ⊢; rw [h8]
      have e : maskOk 0 Y.ln = true := by simp [maskOk]
      rw [e]; rfl
    · rw [if_neg h] at h8 ⊢; rw [if_neg (by omega)] at h2; rw [h8, h2.1]
  · by_cases h : p < 9
    · rw [if_pos h] at h9 ⊢; rw [h9]; rfl
    · rw [if_neg h] at h9 ⊢; rw [h9]
end Go.Proofs.Ytmmbhjomgpnklaa
