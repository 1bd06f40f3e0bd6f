/- The walk of First. -/
import Derived.Test.YtdfadggdegojnaaDoorOps
namespace Go.Proofs.YtdfadggdegojnaaDoor
open Go.RowKit
set_option linter.unusedVariables false
theorem lead_some {L : Rows} {l : Nat} (h : lead L = some l) : l < 32 ∧ L l ≠ [] ∧ ∀ j, j < l → L j = [] := by
  unfold lead at h
  have h1 := List.find?_some h
  have h2 := List.mem_range.1 (List.mem_of_find?_eq_some h)
  refine ⟨h2, by simpa using h1, fun j hj => ?_⟩
  obtain ⟨_, as1, bs1, e, h3⟩ := List.find?_eq_some_iff_append.1 h
  have hlen : as1.length = l := by
    have := congrArg (fun xs => xs[as1.length]?) e
    simp only [List.getElem?_append_right (Nat.le_refl _), Nat.sub_self, List.getElem?_cons_zero] at this
    have hlt : as1.length < 32 := by
      refine Classical.byContradiction fun hn => ?_
      rw [List.getElem?_eq_none (by simp; omega)] at this; cases this
    rw [List.getElem?_range hlt] at this
    exact Option.some.inj this
  have hj2 : as1[j]? = some j := by
    have := congrArg (fun xs => xs[j]?) e
    simp only [List.getElem?_append_left (show j < as1.length by omega)] at this
    rw [List.getElem?_range (by omega)] at this
    exact this.symm
  have := h3 j (List.mem_of_getElem? hj2)
  simpa using this
theorem lead_none {L : Rows} (h : lead L = none) : ∀ j, j < 32 → L j = [] := fun j hj => by
  have := List.find?_eq_none.1 h j (List.mem_range.2 hj)
  simpa using this
theorem Rep.none0 {s : QS} {L : Rows} (h : Rep s L) (hl : lead L = none) : s.some = 0#32 := by
  apply BitVec.eq_of_getLsbD_eq
  intro i hi
  rw [(h.some i hi).2 (lead_none hl i hi)]; simp
theorem Rep.some1 {s : QS} {L : Rows} (h : Rep s L) {l : Nat} (hl : lead L = .some l) : s.some ≠ 0#32 ∧ ctz s.some = l ∧ s.front l = firstR L ∧ 0 ≤ firstR L ∧ firstR L < 64 := by
  obtain ⟨h1, h2, h3⟩ := lead_some hl
  have hb : s.some.getLsbD l = true := by
    cases e : s.some.getLsbD l with
    | true => rfl
    | false => exact absurd ((h.some l h1).1 e) h2
  have hf : firstR L = hd (-1) (L l) := by unfold firstR; rw [hl]
  obtain ⟨z, hz, e⟩ := hd_mem (-1) (L l) h2
  have hz64 := (h.mem l h1 z hz).1
  exact ⟨fun e => by rw [e] at hb; simp at hb, ctz_eq hb (fun j hj => (h.some j (by omega)).2 (h3 j hj)), by rw [hf]; exact h.front l h1 h2, by rw [hf, e]; omega, by rw [hf, e]; omega⟩
theorem firstR_none {L : Rows} (h : lead L = none) : firstR L = -1 := by unfold firstR; rw [h]
attribute [local irreducible] ctz qCells lvl pushR cutR firstR total inR lead
set_option maxRecDepth 100000
theorem first_no (w : World) (b : Nat) (L : Rows) (hl : lead L = none) (h : RQ w b L) : Calls Tryd.prog 11 #[.pointer (some ⟨b, 0, none⟩)] w fun e w' => e = .returned (.tuple #[.int .i64 0, .bool false]) ∧ w' = w := by
  obtain ⟨s, hq, hp⟩ := h
  have c := hq.c0
  rw [hp.none0 hl] at c
  simp only [BitVec.toNat_ofNat, Nat.zero_mod] at c
  clear hq hp hl
  go_enter Tryd.func11, Tryd.ntmps11
  go_wp2
  go_ret2
  exact ⟨rfl, rfl⟩
theorem first_yes (w : World) (b l : Nat) (L : Rows) (hl : lead L = some l) (hT : TabAt w) (h : RQ w b L) : Calls Tryd.prog 11 #[.pointer (some ⟨b, 0, none⟩)] w fun e w' => e = .returned (.tuple #[.int .i64 (firstR L), .bool true]) ∧ ∃ k, w' = w.drewN k := by
  obtain ⟨s, hq, hp⟩ := h
  obtain ⟨hne, hctz, hf, f0, f1⟩ := hp.some1 hl
  have hl32 := (lead_some hl).1
  have c := hq.c0
  have c1 := hq.front l hl32
  rw [hf] at c1
  have hsz : ((s.some.toNat : Int) == 0) = false := by
    have : s.some.toNat ≠ 0 := fun e => hne (BitVec.eq_of_toNat_eq (by simpa using e))
    simp; omega
  have hz := fun (n : Nat) => tz_any (w.drewN n) s.some hne (show TabAt (w.drewN n) from hT)
  rw [hctz] at hz
  have HZ := Lib.hid hz; clear hz
  have l0 : (0 : Int) ≤ (l : Int) := by omega
  have l1 : (l : Int) < 32 := by omega
  clear hq hp hl hctz hf hT
  generalize firstR L = fr at *
  go_enter Tryd.func11, Tryd.ntmps11
  go_wp2_with fail
  go_quiet (first | (go_at_call 26; refine Calls.quiet_of_same (HZ.out _)))
  go_wp2
  go_ret2
  exact ⟨rfl, _, rfl⟩
end Go.Proofs.YtdfadggdegojnaaDoor
