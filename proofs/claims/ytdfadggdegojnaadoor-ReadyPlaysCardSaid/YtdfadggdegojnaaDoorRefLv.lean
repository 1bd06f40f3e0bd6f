/- The reference's Level walked. -/
import Derived.Test.YtdfadggdegojnaaDoorRef
import Derived.Test.YtdfadggdegojnaaDoorRel
namespace Go.Proofs.YtdfadggdegojnaaDoor
open Go.RowKit
set_option linter.unusedVariables false
set_option linter.unusedSimpArgs false
set_option maxRecDepth 100000
theorem own_grow {w w' : World} {B n : Nat} {v : Value} {xs : List Value} (h : w.ownsRow B 3 1 v n xs) (hg : Grow w w') : w'.ownsRow B 3 1 v n xs := by
  refine ⟨h.1, ?_⟩
  rcases h.2 with h1 | ⟨g, cap, cur, h1, hB, hg', hr⟩
  · exact .inl h1
  · exact .inr ⟨g, cap, cur, h1, hB, hg.at hg', hr⟩
theorem RefV.grow {w w' : World} {m : Nat} {L : Rows} {V : Nat → Value} (h : RefV w m L V) (hg : Grow w w') : RefV w' m L V :=
  ⟨hg.at h.blk, fun j hj => own_grow (h.row j hj) hg, h.ap⟩
theorem but_len {t : Int} {xs : List Nat} : (but t xs).length = xs.length ↔ ¬ (0 ≤ t ∧ t.toNat ∈ xs) := by
  unfold but
  rw [List.length_filter_eq_length_iff]
  constructor
  · intro h ⟨h0, hm⟩
    have := h _ hm
    simp at this
    omega
  · intro h x hx
    simp only [decide_eq_true_eq]
    intro e
    exact h ⟨by omega, by rw [← e]; simpa using hx⟩
theorem lvl_first {L : Rows} {t : Int} {k : Nat} (hk : k < 32) (h0 : ∀ j, j < k → (but t (L j)).length = (L j).length) (h1 : (but t (L k)).length ≠ (L k).length) : lvl L t = k := by
  unfold lvl
  have h2 : 0 ≤ t ∧ t.toNat ∈ L k := Classical.not_not.1 fun h => h1 (but_len.2 h)
  have : (List.range 32).find? (fun l => decide (0 ≤ t) && decide (t.toNat ∈ L l)) = some k := by
    rw [List.find?_range_eq_some]
    refine ⟨by simp [h2], List.mem_range.2 hk, fun j hj => ?_⟩
    have h3 := but_len.1 (h0 j hj)
    simp only [Bool.not_eq_true', Bool.and_eq_false_iff, decide_eq_false_iff_not]
    by_cases h4 : 0 ≤ t
    · exact .inr fun hm => h3 ⟨h4, hm⟩
    · exact .inl h4
  rw [this]
theorem lvl_never {L : Rows} {t : Int} (h0 : ∀ j, j < 32 → (but t (L j)).length = (L j).length) : lvl L t = -1 := by
  rcases lvl_cases L t with ⟨e, _⟩ | ⟨l, hl, _, h1, h2⟩
  · exact e
  · exact absurd ⟨h1, h2⟩ (but_len.1 (h0 l hl))
attribute [local irreducible] ctz qCells lvl pushR cutR firstR total inR hd but refCells lead
attribute [local simp] RelKnown Is
set_option maxHeartbeats 2000000 in
theorem refLevel_any (w : World) (m : Nat) (L : Rows) (V : Nat → Value) (t : Int) (hlen : ∀ j, j < 32 → (L j).length ≤ 64) (h : RefV w m L V) : Calls Tryd.prog 28 #[.pointer (some ⟨m, 0, none⟩), .int .i64 t] w fun e w' => e = .returned (.int .i64 (lvl L t)) ∧ Grow w w' := by
  have HR := Lib.hid h; clear h
  go_enter Tryd.func28, Tryd.ntmps28
  go_wp2_with fail
  go_loopw [5] (fun i wr => ∃ k : Nat, k ≤ 32 ∧ i = .int .i64 k ∧ (∀ j, j < k → (but t (L j)).length = (L j).length) ∧ Grow w wr) (fun i _ => 32 - (intOf i).toNat)
  case atStart => exact ⟨0, by omega, rfl, fun j hj => by omega, Grow.refl _⟩
  case round =>
    obtain ⟨k, hk, rfl, he, hgr⟩ := hrel
    have HE := Lib.hid he; clear he
    have hGr := Lib.hid hgr; clear hgr
    by_cases hlt : k < 32
    · obtain ⟨A, cap, hv, hc, hM⟩ := HR.out.form k hlt
      have HM := Lib.hid hM; clear hM
      have hl := hlen k hlt
      have hl1 : ((L k).length : Int) ≤ 1000 := by omega
      have hc1 : ((L k).length : Int) ≤ cap := by omega
      have k0 : (0 : Int) ≤ (k : Int) := by omega
      have kn : (k : Int) < 32 := by omega
      have hV := Lib.hid hv; clear hv
      obtain ⟨nb, hnb'⟩ : ∃ nb, (but t (L k)).length = nb := ⟨_, rfl⟩
      have hnb := Lib.hid hnb'; clear hnb'
      go_wp2_with fail
      refine wp_region_rel _ Grow (fun w' => Grow wr w') [([(0, none)], none), ([(5, none)], none), ([(10, some 1)], none), ([(12, some 0)], none), ([(13, some 0), (11, some 2)], none), ([(14, some 0)], none), ([(1, none)], none), ([(15, some 1), (16, some 0)], none), ([(17, some 0)], none), ([(0, none)], none), ([(5, none)], none), ([(19, some 1)], none), ([(21, some 0)], none), ([(22, some 0), (20, some 2)], none), ([(23, some 0)], none), ([(24, some 0)], none), ([(18, some 7), (25, some 0)], none)] (by kernel_rfl) (by kernel_rfl) (Grow.drewN wr 1) ?_
      (refine rel_pure ?_; apply Exists.intro; refine ⟨fun aR wQ hF hk => ?_, ?_⟩; focus (first | exact rel_no hk.1 rfl rfl | ((first | (refine rel_none fun K hK => ?_) | (refine rel_yes hk.1 fun K hK => ?_)); (try simp at hk); go_simp; exact hK _ _ (Grow.refl _) hF rfl)))
      (refine rel_pure ?_; apply Exists.intro; refine ⟨fun aR wQ hF hk => ?_, ?_⟩; focus (first | exact rel_no hk.1 rfl rfl | ((first | (refine rel_none fun K hK => ?_) | (refine rel_yes hk.1 fun K hK => ?_)); (try simp at hk); go_simp; exact hK _ _ (Grow.refl _) hF rfl)))
      (refine rel_pure ?_; apply Exists.intro; refine ⟨fun aR wQ hF hk => ?_, ?_⟩; focus (first | exact rel_no hk.1 rfl rfl | ((first | (refine rel_none fun K hK => ?_) | (refine rel_yes hk.1 fun K hK => ?_)); (try simp at hk); go_simp; exact hK _ _ (Grow.refl _) hF rfl)))
      (refine rel_pure ?_; apply Exists.intro; refine ⟨fun aR wQ hF hk => ?_, ?_⟩; focus (first | exact rel_no hk.1 rfl rfl | ((first | (refine rel_none fun K hK => ?_) | (refine rel_yes hk.1 fun K hK => ?_)); (try simp at hk); go_simp; exact hK _ _ (Grow.refl _) hF rfl)))
      (refine rel_pure ?_; apply Exists.intro; refine ⟨fun aR wQ hF hk => ?_, ?_⟩; focus (first | exact rel_no hk.1 rfl rfl | ((first | (refine rel_none fun K hK => ?_) | (refine rel_yes hk.1 fun K hK => ?_)); (try simp at hk); go_simp; exact hK _ _ (Grow.refl _) hF rfl)))
      (refine rel_pure ?_; apply Exists.intro; refine ⟨fun aR wQ hF hk => ?_, ?_⟩; focus (refine rel_none fun K hK => ?_; (try simp at hk); have c1 := (HR.out.grow (hGr.out.trans hF)).cell k hlt; rw [hV.out] at c1; go_simp; exact hK _ _ (Grow.refl _) hF rfl))
      (refine rel_pure ?_; apply Exists.intro; refine ⟨fun aR wQ hF hk => ?_, ?_⟩; focus (first | exact rel_no hk.1 rfl rfl | ((first | (refine rel_none fun K hK => ?_) | (refine rel_yes hk.1 fun K hK => ?_)); (try simp at hk); go_simp; exact hK _ _ (Grow.refl _) hF rfl)))
      (refine rel_some (fun v _ => ∃ (A' : Option Addr) (c' : Nat), v = .slice A' nb c') (fun _ _ _ _ h => h) (fun aR wQ hF hk => ?_) ?_; focus (refine rel_none fun K hK => ?_; (try simp at hk); go_simp; refine (without_any wQ A cap (L k) t hl1 hc1 (HM.out.at.grow (hGr.out.trans hF))).mono ?_; rintro e w' ⟨v, rfl, hown, hg⟩; exact hK _ _ hg (Grow.trans hF hg) (by obtain ⟨A', c', rfl⟩ := own_form hown; exact ⟨_, _, by rw [hnb.out]⟩)))
      (refine rel_pure ?_; apply Exists.intro; refine ⟨fun aR wQ hF hk => ?_, ?_⟩; focus (refine rel_none fun K hK => ?_; obtain ⟨A', c', hA'⟩ := hk.1; (try simp at hA'); go_simp; exact hK _ _ (Grow.refl _) hF rfl))
      (refine rel_pure ?_; apply Exists.intro; refine ⟨fun aR wQ hF hk => ?_, ?_⟩; focus (first | exact rel_no hk.1 rfl rfl | ((first | (refine rel_none fun K hK => ?_) | (refine rel_yes hk.1 fun K hK => ?_)); (try simp at hk); go_simp; exact hK _ _ (Grow.refl _) hF rfl)))
      (refine rel_pure ?_; apply Exists.intro; refine ⟨fun aR wQ hF hk => ?_, ?_⟩; focus (first | exact rel_no hk.1 rfl rfl | ((first | (refine rel_none fun K hK => ?_) | (refine rel_yes hk.1 fun K hK => ?_)); (try simp at hk); go_simp; exact hK _ _ (Grow.refl _) hF rfl)))
      (refine rel_pure ?_; apply Exists.intro; refine ⟨fun aR wQ hF hk => ?_, ?_⟩; focus (first | exact rel_no hk.1 rfl rfl | ((first | (refine rel_none fun K hK => ?_) | (refine rel_yes hk.1 fun K hK => ?_)); (try simp at hk); go_simp; exact hK _ _ (Grow.refl _) hF rfl)))
      (refine rel_pure ?_; apply Exists.intro; refine ⟨fun aR wQ hF hk => ?_, ?_⟩; focus (first | exact rel_no hk.1 rfl rfl | ((first | (refine rel_none fun K hK => ?_) | (refine rel_yes hk.1 fun K hK => ?_)); (try simp at hk); go_simp; exact hK _ _ (Grow.refl _) hF rfl)))
      (refine rel_pure ?_; apply Exists.intro; refine ⟨fun aR wQ hF hk => ?_, ?_⟩; focus (first | exact rel_no hk.1 rfl rfl | ((first | (refine rel_none fun K hK => ?_) | (refine rel_yes hk.1 fun K hK => ?_)); (try simp at hk); go_simp; exact hK _ _ (Grow.refl _) hF rfl)))
      (refine rel_pure ?_; apply Exists.intro; refine ⟨fun aR wQ hF hk => ?_, ?_⟩; focus (refine rel_none fun K hK => ?_; (try simp at hk); have c1 := (HR.out.grow (hGr.out.trans hF)).cell k hlt; rw [hV.out] at c1; go_simp; exact hK _ _ (Grow.refl _) hF rfl))
      (refine rel_pure ?_; apply Exists.intro; refine ⟨fun aR wQ hF hk => ?_, ?_⟩; focus (first | exact rel_no hk.1 rfl rfl | ((first | (refine rel_none fun K hK => ?_) | (refine rel_yes hk.1 fun K hK => ?_)); (try simp at hk); go_simp; exact hK _ _ (Grow.refl _) hF rfl)))
      (refine rel_pure ?_; apply Exists.intro; refine ⟨fun aR wQ hF hk => ?_, ?_⟩; focus (first | exact rel_no hk.1 rfl rfl | ((first | (refine rel_none fun K hK => ?_) | (refine rel_yes hk.1 fun K hK => ?_)); (try simp at hk); go_simp; exact hK _ _ (Grow.refl _) hF rfl)))
      refine rel_done fun wR hF => ?_
      repeat (first | (refine fun v hv => ?_; obtain rfl : v = _ := hv) | (refine fun v hv => ?_))
      simp only [Act.put, List.setIfInBounds_toArray, List.set_cons_zero, List.set_cons_succ]
      refine rel_nil ?_

      by_cases hne : nb = (L k).length
      · have HN := Lib.hid (show ∀ j, j < k + 1 → (but t (L j)).length = (L j).length from fun j hj => by
          rcases Nat.lt_succ_iff_lt_or_eq.1 hj with h | h
          · exact HE.out j h
          · rw [h, hnb.out, hne])
        have hnf : ((nb : Int) != ((L k).length : Int)) = false := by simp [hne]
        have HGw := hF
        have HG2 := Lib.hid (hGr.out.trans HGw)
        clear hF
        go_wp2_with fail
        go_roundw
        case rel => exact ⟨k + 1, by omega, by go_num, HN.out, HG2.out⟩
        case measure => simp [intOf]; omega
      · have hnf : ((nb : Int) != ((L k).length : Int)) = true := by simp; omega
        have hlv := lvl_first hlt HE.out (by rw [hnb.out]; exact hne)
        have HLV := Lib.hid hlv; clear hlv
        have HG2 := Lib.hid (hGr.out.trans hF)
        clear hF
        go_wp2
        go_ret
        exact ⟨by rw [HLV.out]; rfl, HG2.out⟩
    · have kn : ¬ (k : Int) < 32 := by omega
      have hk32 : k = 32 := by omega
      subst hk32
      have HT := Lib.hid (lvl_never HE.out)
      go_wp2
      go_ret
      exact ⟨by rw [HT.out]; rfl, hGr.out⟩
end Go.Proofs.YtdfadggdegojnaaDoor
