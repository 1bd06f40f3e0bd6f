/- The queues, plainly: rows as linked lists in arrays; pushing and cutting keep the rows. No program in sight. -/
namespace Go.Proofs.YtdfadggdegojnaaDoor
set_option linter.unusedVariables false

def hd (n : Int) : List Nat → Int
  | [] => n
  | x :: _ => x
def lst (p : Int) : List Nat → Int
  | [] => p
  | x :: xs => lst x xs
theorem lst_append (p : Int) : ∀ (xs ys : List Nat), lst p (xs ++ ys) = lst (lst p xs) ys
  | [], _ => rfl
  | x :: xs, ys => lst_append x xs ys
theorem hd_append (n : Int) : ∀ (xs ys : List Nat), hd n (xs ++ ys) = hd (hd n ys) xs
  | [], _ => rfl
  | x :: xs, ys => rfl
theorem hd_mem (n : Int) : ∀ (xs : List Nat), xs ≠ [] → ∃ x, x ∈ xs ∧ hd n xs = (x : Int)
  | [], h => absurd rfl h
  | x :: xs, _ => ⟨x, by simp, rfl⟩
theorem lst_mem (p : Int) : ∀ (xs : List Nat), xs ≠ [] → ∃ x, x ∈ xs ∧ lst p xs = (x : Int)
  | [], h => absurd rfl h
  | [x], _ => ⟨x, by simp, rfl⟩
  | x :: y :: ys, _ => by
    obtain ⟨z, hz, e⟩ := lst_mem x (y :: ys) (by simp)
    exact ⟨z, List.mem_cons_of_mem _ hz, e⟩
theorem lst_free (p q : Int) : ∀ (xs : List Nat), xs ≠ [] → lst p xs = lst q xs
  | [], h => absurd rfl h
  | x :: xs, _ => rfl

def up (f : Nat → Int) (i : Nat) (v : Int) : Nat → Int := fun j => if j = i then v else f j
theorem up_same (f : Nat → Int) (i : Nat) (v : Int) : up f i v i = v := by simp [up]
theorem up_other (f : Nat → Int) (i : Nat) (v : Int) {j : Nat} (h : j ≠ i) : up f i v j = f j := by simp [up, h]

/-- A row between p and n. -/
def Seg (ahead after : Nat → Int) : Int → List Nat → Int → Prop
  | _, [], _ => True
  | p, x :: xs, n => ahead x = p ∧ after x = hd n xs ∧ Seg ahead after x xs n
theorem Seg.append {ahead after : Nat → Int} : ∀ (xs ys : List Nat) (p n : Int), Seg ahead after p (xs ++ ys) n ↔ Seg ahead after p xs (hd n ys) ∧ Seg ahead after (lst p xs) ys n
  | [], ys, p, n => by simp [Seg, lst]
  | x :: xs, ys, p, n => by
    have ih := Seg.append (ahead := ahead) (after := after) xs ys x n
    simp only [List.cons_append, Seg, lst, hd_append, ih, and_assoc]
theorem Seg.congr {ahead after ahead' after' : Nat → Int} : ∀ (xs : List Nat) (p n : Int), (∀ x ∈ xs, ahead' x = ahead x ∧ after' x = after x) → Seg ahead after p xs n → Seg ahead' after' p xs n
  | [], p, n, _, _ => trivial
  | x :: xs, p, n, h, hs => by
    obtain ⟨h1, h2⟩ := h x (by simp)
    exact ⟨h1.trans hs.1, h2.trans hs.2.1, Seg.congr xs x n (fun y hy => h y (List.mem_cons_of_mem _ hy)) hs.2.2⟩
/-- Another one behind the row. -/
theorem Seg.set_last {ahead after : Nat → Int} (n' : Int) : ∀ (xs : List Nat) (p n : Int), xs.Nodup → Seg ahead after p xs n → ∀ z : Nat, lst p xs = (z : Int) → xs ≠ [] → Seg ahead (up after z n') p xs n'
  | [], p, n, _, _, z, _, hne => absurd rfl hne
  | [x], p, n, _, hs, z, hz, _ => by
    have : x = z := by simp only [lst] at hz; omega
    subst this
    exact ⟨hs.1, up_same _ _ _, trivial⟩
  | x :: y :: ys, p, n, hn, hs, z, hz, _ => by
    obtain ⟨hx, hn'⟩ := List.nodup_cons.1 hn
    have ih := Seg.set_last n' (y :: ys) x n hn' hs.2.2 z hz (by simp)
    obtain ⟨q, hq, e⟩ := lst_mem x (y :: ys) (by simp)
    have hqz : q = z := by
      have : lst p (x :: y :: ys) = lst x (y :: ys) := rfl
      rw [this] at hz; omega
    subst hqz
    have hxz : x ≠ q := fun h => hx (h ▸ hq)
    exact ⟨hs.1, by rw [up_other _ _ _ hxz]; exact hs.2.1, ih⟩
/-- Another one ahead of the row. -/
theorem Seg.set_first {ahead after : Nat → Int} (p' : Int) : ∀ (xs : List Nat) (p n : Int), xs.Nodup → Seg ahead after p xs n → ∀ z : Nat, hd n xs = (z : Int) → xs ≠ [] → Seg (up ahead z p') after p' xs n
  | [], p, n, _, _, z, _, hne => absurd rfl hne
  | x :: xs, p, n, hn, hs, z, hz, _ => by
    have : x = z := by simp only [hd] at hz; omega
    subst this
    obtain ⟨hx, hn'⟩ := List.nodup_cons.1 hn
    exact ⟨up_same _ _ _, hs.2.1, Seg.congr xs x n (fun y hy => ⟨up_other _ _ _ (fun h => hx (h ▸ hy)), rfl⟩) hs.2.2⟩

structure QS where
  some : BitVec 32
  front : Nat → Int
  back : Nat → Int
  ahead : Nat → Int
  after : Nat → Int
  level : Nat → Int
  count : Int

def pushS (s : QS) (t l : Nat) : QS :=
  if s.some.getLsbD l = false then
    { some := s.some ||| 1#32 <<< l, front := up s.front l t, back := up s.back l t, ahead := up s.ahead t (-1), after := up s.after t (-1), level := up s.level t (l + 1), count := s.count + 1 }
  else
    { some := s.some ||| 1#32 <<< l, front := s.front, back := up s.back l t, ahead := up s.ahead t (s.back l), after := up (up s.after (s.back l).toNat t) t (-1), level := up s.level t (l + 1), count := s.count + 1 }
def cutS (s : QS) (t : Nat) : QS :=
  let l := (s.level t - 1).toNat
  { some := if s.ahead t < 0 ∧ s.after t < 0 then s.some &&& ~~~(1#32 <<< l) else s.some,
    front := if s.ahead t < 0 then up s.front l (s.after t) else s.front,
    back := if s.after t < 0 then up s.back l (s.ahead t) else s.back,
    ahead := if s.after t < 0 then s.ahead else up s.ahead (s.after t).toNat (s.ahead t),
    after := if s.ahead t < 0 then s.after else up s.after (s.ahead t).toNat (s.after t),
    level := up s.level t 0, count := s.count - 1 }

abbrev Rows := Nat → List Nat
def upL (L : Rows) (l : Nat) (xs : List Nat) : Rows := fun j => if j = l then xs else L j
theorem upL_same (L : Rows) (l : Nat) (xs : List Nat) : upL L l xs l = xs := by simp [upL]
theorem upL_other (L : Rows) {l j : Nat} (xs : List Nat) (h : j ≠ l) : upL L l xs j = L j := by simp [upL, h]
def total (L : Rows) : Nat := ((List.range 32).map fun l => (L l).length).sum
theorem sum_up (f g : Nat → Nat) (l : Nat) (h : ∀ j, j ≠ l → g j = f j) : ∀ n, l < n → ((List.range n).map g).sum + f l = ((List.range n).map f).sum + g l
  | 0, h0 => absurd h0 (Nat.not_lt_zero _)
  | n + 1, hl => by
    rw [List.range_succ, List.map_append, List.map_append, List.sum_append, List.sum_append]
    simp only [List.map_cons, List.map_nil, List.sum_cons, List.sum_nil, Nat.add_zero]
    by_cases e : l = n
    · subst e
      have : (List.range l).map g = (List.range l).map f := List.map_congr_left fun j hj => h j (by have := List.mem_range.1 hj; omega)
      rw [this]; omega
    · have ih := sum_up f g l h n (by omega)
      have := h n (fun h => e h.symm)
      omega
theorem total_up (L : Rows) (l : Nat) (xs : List Nat) (hl : l < 32) : total (upL L l xs) + (L l).length = total L + xs.length := by
  have := sum_up (fun j => (L j).length) (fun j => (upL L l xs j).length) l (fun j hj => by show (upL L l xs j).length = _; rw [upL_other L xs hj]) 32 hl
  simpa [total, upL_same] using this

/-- The rows lie in the arrays. -/
structure Rep (s : QS) (L : Rows) : Prop where
  mem : ∀ l, l < 32 → ∀ t ∈ L l, t < 64 ∧ s.level t = l + 1
  lev : ∀ t, t < 64 → s.level t = 0 ∨ ∃ l : Nat, l < 32 ∧ s.level t = l + 1 ∧ t ∈ L l
  nodup : ∀ l, l < 32 → (L l).Nodup
  some : ∀ l, l < 32 → (s.some.getLsbD l = false ↔ L l = [])
  front : ∀ l, l < 32 → L l ≠ [] → s.front l = hd (-1) (L l)
  back : ∀ l, l < 32 → L l ≠ [] → s.back l = lst (-1) (L l)
  seg : ∀ l, l < 32 → Seg s.ahead s.after (-1) (L l) (-1)
  count : s.count = total L

def zeroS : QS := ⟨0#32, fun _ => 0, fun _ => 0, fun _ => 0, fun _ => 0, fun _ => 0, 0⟩
theorem rep_zero : Rep zeroS (fun _ => []) where
  mem := fun l _ t h => by simp at h
  lev := fun t _ => .inl rfl
  nodup := fun _ _ => by simp
  some := fun l _ => by simp [zeroS]
  front := fun _ _ h => absurd rfl h
  back := fun _ _ h => absurd rfl h
  seg := fun _ _ => trivial
  count := rfl

theorem bit_or (x : BitVec 32) (l j : Nat) (hl : l < 32) (hj : j < 32) : (x ||| 1#32 <<< l).getLsbD j = (x.getLsbD j || decide (j = l)) := by
  rw [BitVec.getLsbD_or, BitVec.getLsbD_shiftLeft]
  simp only [BitVec.getLsbD_one]
  by_cases e : j = l
  · subst e; simp [hl]
  · have : (decide (j < 32) && !decide (j < l) && (decide (0 < 32) && decide (j - l = 0))) = false := by simp; omega
    simp [e]; omega
theorem bit_andnot (x : BitVec 32) (l j : Nat) (hl : l < 32) (hj : j < 32) : (x &&& ~~~(1#32 <<< l)).getLsbD j = (x.getLsbD j && decide (j ≠ l)) := by
  rw [BitVec.getLsbD_and, BitVec.getLsbD_not, BitVec.getLsbD_shiftLeft]
  simp only [BitVec.getLsbD_one]
  by_cases e : j = l
  · subst e; simp [hl]
  · simp [e, hj]; intro; omega

theorem Rep.apart {s : QS} {L : Rows} (h : Rep s L) {l j t : Nat} (hl : l < 32) (hj : j < 32) (ht : t ∈ L l) (hne : j ≠ l) : t ∉ L j := fun h2 => by
  have h1 := (h.mem l hl t ht).2
  have h3 := (h.mem j hj t h2).2
  omega

theorem rep_push {s : QS} {L : Rows} {t l : Nat} (h : Rep s L) (ht : t < 64) (hl : l < 32) (hno : s.level t = 0) : Rep (pushS s t l) (upL L l (L l ++ [t])) := by
  have hout : ∀ j, j < 32 → t ∉ L j := fun j hj hm => by have := (h.mem j hj t hm).2; omega
  have hlev : (pushS s t l).level = up s.level t (l + 1) := by unfold pushS; split <;> rfl
  have hsome : (pushS s t l).some = s.some ||| 1#32 <<< l := by unfold pushS; split <;> rfl
  have hback : (pushS s t l).back = up s.back l t := by unfold pushS; split <;> rfl
  have hcount : (pushS s t l).count = s.count + 1 := by unfold pushS; split <;> rfl
  have hseg0 : ∀ j, j < 32 → j ≠ l → ∀ x ∈ L j, (pushS s t l).ahead x = s.ahead x ∧ (pushS s t l).after x = s.after x := by
    intro j hj hne x hx
    have hxt : x ≠ t := fun e => hout j hj (e ▸ hx)
    unfold pushS
    split
    · exact ⟨up_other _ _ _ hxt, up_other _ _ _ hxt⟩
    · rename_i hb
      refine ⟨up_other _ _ _ hxt, ?_⟩
      have hne' : L l ≠ [] := fun e => hb ((h.some l hl).2 e)
      obtain ⟨z, hz, e⟩ := lst_mem (-1) (L l) hne'
      have : x ≠ (s.back l).toNat := by
        rw [h.back l hl hne', e]
        intro e2
        have : x = z := by omega
        exact h.apart hl hj hz hne (this ▸ hx)
      show up (up s.after (s.back l).toNat t) t (-1) x = s.after x
      rw [up_other _ _ _ hxt, up_other _ _ _ this]
  refine ⟨?_, ?_, ?_, ?_, ?_, ?_, ?_, ?_⟩
  · intro j hj x hx
    rw [hlev]
    by_cases e : j = l
    · subst e
      rw [upL_same] at hx
      rcases List.mem_append.1 hx with h1 | h1
      · obtain ⟨a, b⟩ := h.mem j hj x h1
        exact ⟨a, by rw [up_other _ _ _ (fun e2 : x = t => hout j hj (e2 ▸ h1))]; exact b⟩
      · have : x = t := by simpa using h1
        subst this
        exact ⟨ht, up_same _ _ _⟩
    · rw [upL_other L _ e] at hx
      obtain ⟨a, b⟩ := h.mem j hj x hx
      exact ⟨a, by rw [up_other _ _ _ (fun e2 : x = t => hout j hj (e2 ▸ hx))]; exact b⟩
  · intro x hx
    rw [hlev]
    by_cases e : x = t
    · subst e
      exact .inr ⟨l, hl, up_same _ _ _, by rw [upL_same]; simp⟩
    · rw [up_other _ _ _ e]
      rcases h.lev x hx with h0 | ⟨j, hj, h1, h2⟩
      · exact .inl h0
      · refine .inr ⟨j, hj, h1, ?_⟩
        by_cases e2 : j = l
        · subst e2; rw [upL_same]; exact List.mem_append_left _ h2
        · rw [upL_other L _ e2]; exact h2
  · intro j hj
    by_cases e : j = l
    · subst e
      rw [upL_same, List.nodup_append]
      exact ⟨h.nodup j hj, by simp, fun a ha b hb e => hout j hj (by simp at hb; subst hb; exact e ▸ ha)⟩
    · rw [upL_other L _ e]; exact h.nodup j hj
  · intro j hj
    rw [hsome, bit_or _ _ _ hl hj]
    by_cases e : j = l
    · subst e; simp [upL_same]
    · rw [upL_other L _ e]; simpa [e] using h.some j hj
  · intro j hj hne
    by_cases e : j = l
    · subst e
      rw [upL_same]
      unfold pushS
      by_cases hb : s.some.getLsbD j = false
      · rw [if_pos hb, (h.some j hj).1 hb]
        exact up_same _ _ _
      · rw [if_neg hb]
        have hne' : L j ≠ [] := fun e => hb ((h.some j hj).2 e)
        show s.front j = _
        rw [h.front j hj hne', hd_append]
        cases hL : L j with
        | nil => exact absurd hL hne'
        | cons a b => rfl
    · rw [upL_other L _ e] at hne ⊢
      unfold pushS
      split
      · show up s.front l t j = _
        rw [up_other _ _ _ e]; exact h.front j hj hne
      · exact h.front j hj hne
  · intro j hj hne
    rw [hback]
    by_cases e : j = l
    · subst e
      rw [upL_same, up_same, lst_append]; rfl
    · rw [upL_other L _ e] at hne ⊢
      rw [up_other _ _ _ e]; exact h.back j hj hne
  · intro j hj
    by_cases e : j = l
    · subst e
      rw [upL_same]
      by_cases hb : s.some.getLsbD j = false
      · rw [(h.some j hj).1 hb]
        unfold pushS
        rw [if_pos hb]
        exact ⟨up_same _ _ _, up_same _ _ _, trivial⟩
      · have hne' : L j ≠ [] := fun e => hb ((h.some j hj).2 e)
        obtain ⟨z, hz, e⟩ := lst_mem (-1) (L j) hne'
        have hzt : z ≠ t := fun e => hout j hj (e ▸ hz)
        rw [Seg.append]
        unfold pushS
        rw [if_neg hb, h.back j hj hne', e]
        simp only [Int.toNat_natCast]
        constructor
        · have h1 := Seg.set_last (t : Int) (L j) (-1) (-1) (h.nodup j hj) (h.seg j hj) z e hne'
          refine Seg.congr (L j) (-1) _ (fun x hx => ?_) h1
          have hxt : x ≠ t := fun e => hout j hj (e ▸ hx)
          exact ⟨up_other _ _ _ hxt, up_other _ _ _ hxt⟩
        · exact ⟨by show up s.ahead t (z : Int) t = _; rw [up_same], up_same _ _ _, trivial⟩
    · rw [upL_other L _ e]
      exact Seg.congr _ _ _ (hseg0 j hj e) (h.seg j hj)
  · rw [hcount, h.count]
    have := total_up L l (L l ++ [t]) hl
    simp only [List.length_append, List.length_singleton] at this
    omega

theorem lst_neg : ∀ (xs : List Nat), lst (-1) xs < 0 ↔ xs = []
  | [] => by simp [lst]
  | x :: xs => by
    obtain ⟨z, _, e⟩ := lst_mem (-1) (x :: xs) (by simp)
    rw [e]; simp
theorem hd_neg : ∀ (xs : List Nat), hd (-1) xs < 0 ↔ xs = []
  | [] => by simp [hd]
  | x :: xs => by simp [hd]
theorem filter_split {pre post : List Nat} {t : Nat} (h1 : t ∉ pre) (h2 : t ∉ post) : (pre ++ t :: post).filter (· != t) = pre ++ post := by
  rw [List.filter_append, List.filter_cons]
  have e1 : pre.filter (· != t) = pre := List.filter_eq_self.2 fun x hx => by simp; exact fun e => h1 (e ▸ hx)
  have e2 : post.filter (· != t) = post := List.filter_eq_self.2 fun x hx => by simp; exact fun e => h2 (e ▸ hx)
  rw [e1, e2]; simp

theorem rep_cut {s : QS} {L : Rows} {t l : Nat} (h : Rep s L) (hl : l < 32) (hm : t ∈ L l) : Rep (cutS s t) (upL L l ((L l).filter (· != t))) := by
  obtain ⟨ht, hlv⟩ := h.mem l hl t hm
  obtain ⟨pre, post, hL⟩ := List.append_of_mem hm
  have hnd := h.nodup l hl
  rw [hL] at hnd
  have hpre : t ∉ pre := fun hp => (List.nodup_append.1 hnd).2.2 t hp t (by simp) rfl
  have hpost : t ∉ post := (List.nodup_cons.1 (List.nodup_append.1 hnd).2.1).1
  have hnpre : pre.Nodup := (List.nodup_append.1 hnd).1
  have hnpost : post.Nodup := (List.nodup_cons.1 (List.nodup_append.1 hnd).2.1).2
  have hdis : ∀ x ∈ pre, x ∉ post := fun x hx hp => (List.nodup_append.1 hnd).2.2 x hx x (by simp [hp]) rfl
  have hseg := h.seg l hl
  rw [hL, Seg.append] at hseg
  obtain ⟨hsp, hA, hF, hsq⟩ := hseg
  have hl' : (s.level t - 1).toNat = l := by rw [hlv]; omega
  have hrow : (L l).filter (· != t) = pre ++ post := by rw [hL]; exact filter_split hpre hpost
  rw [hrow]
  have mpre : ∀ x ∈ pre, x ∈ L l := fun x hx => by rw [hL]; simp [hx]
  have mpost : ∀ x ∈ post, x ∈ L l := fun x hx => by rw [hL]; simp [hx]
  have hAneg : s.ahead t < 0 ↔ pre = [] := by rw [hA]; exact lst_neg pre
  have hFneg : s.after t < 0 ↔ post = [] := by rw [hF]; exact hd_neg post
  have hAm : pre ≠ [] → ∃ z : Nat, z ∈ pre ∧ s.ahead t = (z : Int) := fun hne => by
    obtain ⟨z, hz, e⟩ := lst_mem (-1) pre hne
    exact ⟨z, hz, hA.trans e⟩
  have hFm : post ≠ [] → ∃ z : Nat, z ∈ post ∧ s.after t = (z : Int) := fun hne => by
    obtain ⟨z, hz, e⟩ := hd_mem (-1) post hne
    exact ⟨z, hz, hF.trans e⟩
  have hlevel : (cutS s t).level = up s.level t 0 := rfl
  have hcount : (cutS s t).count = s.count - 1 := rfl
  have hahead : ∀ x : Nat, (post = [] ∨ ∀ z : Nat, s.after t = (z : Int) → x ≠ z) → (cutS s t).ahead x = s.ahead x := by
    intro x hx
    show (if s.after t < 0 then s.ahead else up s.ahead (s.after t).toNat (s.ahead t)) x = _
    by_cases hp : post = []
    · rw [if_pos (hFneg.2 hp)]
    · rw [if_neg (fun e => hp (hFneg.1 e))]
      obtain ⟨z, hz, e⟩ := hFm hp
      rw [e, Int.toNat_natCast]
      rcases hx with hx | hx
      · exact absurd hx hp
      · exact up_other _ _ _ (hx z e)
  have hafter : ∀ x : Nat, (pre = [] ∨ ∀ z : Nat, s.ahead t = (z : Int) → x ≠ z) → (cutS s t).after x = s.after x := by
    intro x hx
    show (if s.ahead t < 0 then s.after else up s.after (s.ahead t).toNat (s.after t)) x = _
    by_cases hp : pre = []
    · rw [if_pos (hAneg.2 hp)]
    · rw [if_neg (fun e => hp (hAneg.1 e))]
      obtain ⟨z, hz, e⟩ := hAm hp
      rw [e, Int.toNat_natCast]
      rcases hx with hx | hx
      · exact absurd hx hp
      · exact up_other _ _ _ (hx z e)
  refine ⟨?_, ?_, ?_, ?_, ?_, ?_, ?_, ?_⟩
  · intro j hj x hx
    rw [hlevel]
    by_cases e : j = l
    · subst e
      rw [upL_same] at hx
      have hx2 : x ∈ L j := by rcases List.mem_append.1 hx with h1 | h1; exact mpre x h1; exact mpost x h1
      have hxt : x ≠ t := fun e => by
        subst e
        rcases List.mem_append.1 hx with h1 | h1
        · exact hpre h1
        · exact hpost h1
      obtain ⟨a, b⟩ := h.mem j hj x hx2
      exact ⟨a, by rw [up_other _ _ _ hxt]; exact b⟩
    · rw [upL_other L _ e] at hx
      obtain ⟨a, b⟩ := h.mem j hj x hx
      exact ⟨a, by rw [up_other _ _ _ (fun e2 : x = t => h.apart hl hj hm e (e2 ▸ hx))]; exact b⟩
  · intro x hx
    rw [hlevel]
    by_cases e : x = t
    · subst e; exact .inl (up_same _ _ _)
    · rw [up_other _ _ _ e]
      rcases h.lev x hx with h0 | ⟨j, hj, h1, h2⟩
      · exact .inl h0
      · refine .inr ⟨j, hj, h1, ?_⟩
        by_cases e2 : j = l
        · subst e2
          rw [upL_same]
          rw [hL] at h2
          simp only [List.mem_append, List.mem_cons] at h2 ⊢
          rcases h2 with h2 | h2 | h2
          · exact .inl h2
          · exact absurd h2 e
          · exact .inr h2
        · rw [upL_other L _ e2]; exact h2
  · intro j hj
    by_cases e : j = l
    · subst e
      rw [upL_same, List.nodup_append]
      exact ⟨hnpre, hnpost, fun a ha b hb e => hdis a ha (e ▸ hb)⟩
    · rw [upL_other L _ e]; exact h.nodup j hj
  · intro j hj
    have e0 : (cutS s t).some = if s.ahead t < 0 ∧ s.after t < 0 then s.some &&& ~~~(1#32 <<< l) else s.some := by
      show (if s.ahead t < 0 ∧ s.after t < 0 then s.some &&& ~~~(1#32 <<< (s.level t - 1).toNat) else s.some) = _
      rw [hl']
    rw [e0]
    by_cases e : j = l
    · subst e
      rw [upL_same]
      by_cases hb : pre = [] ∧ post = []
      · rw [if_pos ⟨hAneg.2 hb.1, hFneg.2 hb.2⟩, bit_andnot _ _ _ hl hj]
        simp [hb.1, hb.2]
      · rw [if_neg (fun hc => hb ⟨hAneg.1 hc.1, hFneg.1 hc.2⟩)]
        have h1 : ¬ (s.some.getLsbD j = false) := fun hc => by
          have := (h.some j hj).1 hc
          rw [hL] at this; simp at this
        constructor
        · intro hc; exact absurd hc h1
        · intro hc; exact absurd (by simpa using hc) hb
    · rw [upL_other L _ e]
      split
      · rw [bit_andnot _ _ _ hl hj]
        simpa [e] using h.some j hj
      · exact h.some j hj
  · intro j hj hne
    have e0 : (cutS s t).front = if s.ahead t < 0 then up s.front l (s.after t) else s.front := by
      show (if s.ahead t < 0 then up s.front (s.level t - 1).toNat (s.after t) else s.front) = _
      rw [hl']
    rw [e0]
    by_cases e : j = l
    · subst e
      rw [upL_same] at hne ⊢
      by_cases hp : pre = []
      · rw [if_pos (hAneg.2 hp), up_same, hF, hp]; rfl
      · rw [if_neg (fun hc => hp (hAneg.1 hc)), h.front j hj (by rw [hL]; simp), hL, hd_append, hd_append]
        cases pre with
        | nil => exact absurd rfl hp
        | cons a b => rfl
    · rw [upL_other L _ e] at hne ⊢
      split
      · rw [up_other _ _ _ e]; exact h.front j hj hne
      · exact h.front j hj hne
  · intro j hj hne
    have e0 : (cutS s t).back = if s.after t < 0 then up s.back l (s.ahead t) else s.back := by
      show (if s.after t < 0 then up s.back (s.level t - 1).toNat (s.ahead t) else s.back) = _
      rw [hl']
    rw [e0]
    by_cases e : j = l
    · subst e
      rw [upL_same] at hne ⊢
      by_cases hp : post = []
      · rw [if_pos (hFneg.2 hp), up_same, hA, hp]; simp
      · rw [if_neg (fun hc => hp (hFneg.1 hc)), h.back j hj (by rw [hL]; simp), hL, lst_append, lst_append]
        exact lst_free t (lst (-1) pre) post hp
    · rw [upL_other L _ e] at hne ⊢
      split
      · rw [up_other _ _ _ e]; exact h.back j hj hne
      · exact h.back j hj hne
  · intro j hj
    by_cases e : j = l
    · subst e
      rw [upL_same, Seg.append]
      constructor
      · by_cases hp : pre = []
        · rw [hp]; trivial
        · obtain ⟨z, hz, ez⟩ := hAm hp
          have h1 := Seg.set_last (hd (-1) post) pre (-1) (hd (-1) (t :: post)) hnpre hsp z (hA.symm.trans ez) hp
          refine Seg.congr pre _ _ (fun x hx => ⟨?_, ?_⟩) h1
          · refine hahead x ?_
            by_cases hq : post = []
            · exact .inl hq
            · refine .inr fun y hy exy => ?_
              obtain ⟨u, hu, eu⟩ := hFm hq
              have : x = u := by omega
              exact hdis x hx (this ▸ hu)
          · show (if s.ahead t < 0 then s.after else up s.after (s.ahead t).toNat (s.after t)) x = _
            rw [if_neg (fun hc => hp (hAneg.1 hc)), ez, Int.toNat_natCast, hF]
      · by_cases hp : post = []
        · rw [hp]; trivial
        · obtain ⟨z, hz, ez⟩ := hFm hp
          have h1 := Seg.set_first (lst (-1) pre) post t (-1) hnpost hsq z (hF.symm.trans ez) hp
          refine Seg.congr post _ _ (fun x hx => ⟨?_, ?_⟩) h1
          · show (if s.after t < 0 then s.ahead else up s.ahead (s.after t).toNat (s.ahead t)) x = _
            rw [if_neg (fun hc => hp (hFneg.1 hc)), ez, Int.toNat_natCast, hA]
          · refine hafter x ?_
            by_cases hq : pre = []
            · exact .inl hq
            · refine .inr fun y hy exy => ?_
              obtain ⟨u, hu, eu⟩ := hAm hq
              have : x = u := by omega
              exact hdis u hu (this ▸ hx)
    · rw [upL_other L _ e]
      refine Seg.congr _ _ _ (fun x hx => ⟨?_, ?_⟩) (h.seg j hj)
      · refine hahead x ?_
        by_cases hq : post = []
        · exact .inl hq
        · refine .inr fun y hy exy => ?_
          obtain ⟨u, hu, eu⟩ := hFm hq
          have : x = u := by omega
          exact h.apart hl hj (mpost u hu) e (this ▸ hx)
      · refine hafter x ?_
        by_cases hq : pre = []
        · exact .inl hq
        · refine .inr fun y hy exy => ?_
          obtain ⟨u, hu, eu⟩ := hAm hq
          have : x = u := by omega
          exact h.apart hl hj (mpre u hu) e (this ▸ hx)
  · rw [hcount, h.count]
    have := total_up L l (pre ++ post) hl
    rw [hL] at this
    simp only [List.length_append, List.length_cons] at this
    omega
end Go.Proofs.YtdfadggdegojnaaDoor
