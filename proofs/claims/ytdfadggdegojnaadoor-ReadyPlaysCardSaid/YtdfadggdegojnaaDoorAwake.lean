/- The walk of awake, and of ReadyNil. -/
import Derived.Test.YtdfadggdegojnaaDoorFirst
namespace Go.Proofs.YtdfadggdegojnaaDoor
open Go.RowKit
set_option linter.unusedVariables false
attribute [local irreducible] ctz qCells
set_option maxRecDepth 100000
/-- All that was is as it was, and the queues lie at b, made since. -/
def Sr (w0 : World) (b : Nat) (L : Rows) (w : World) : Prop := Bl w0 w ∧ w0.heap.size ≤ b ∧ RQ w b L
theorem Sr.only {w0 w w' : World} {b : Nat} {L L' : Rows} (h : Sr w0 b L w) (ho : Only b w w') (hq : RQ w' b L') : Sr w0 b L' w' :=
  ⟨⟨h.1.1, h.1.2.trans (ho.below h.2.1 h.1.2.size)⟩, h.2.1, hq⟩
theorem Sr.drewN {w0 w : World} {b : Nat} {L : Rows} (h : Sr w0 b L w) (n : Nat) : Sr w0 b L (w.drewN n) := ⟨h.1.drewN n, h.2.1, h.2.2.drewN n⟩
section
variable {w0 : World} {b : Nat}
theorem put_st (w : World) (t l : Int) (L : Rows) (hok : putOk L t l) (h : Sr w0 b L w) : Calls Tryd.prog 9 #[.pointer (some ⟨b, 0, none⟩), .int .i64 t, .int .i64 l] w fun e w' => e = .returned (.int .i64 0) ∧ Sr w0 b (putR L t l) w' :=
  (put_ok w b t l L hok h.2.2).mono fun _ _ ⟨he, hq, ho⟩ => ⟨he, h.only ho hq⟩
theorem remove_st (w : World) (t : Int) (L : Rows) (hin : inR L t) (h : Sr w0 b L w) : Calls Tryd.prog 12 #[.pointer (some ⟨b, 0, none⟩), .int .i64 t] w fun e w' => e = .returned (.bool true) ∧ Sr w0 b (removeR L t) w' :=
  (remove_ok w b t L hin h.2.2).mono fun _ _ ⟨he, hq, ho⟩ => ⟨he, h.only ho hq⟩
theorem turn_st (w : World) (t : Int) (L : Rows) (hin : inR L t) (h : Sr w0 b L w) : Calls Tryd.prog 15 #[.pointer (some ⟨b, 0, none⟩), .int .i64 t] w fun e w' => e = .returned (.bool true) ∧ Sr w0 b (turnR L t) w' :=
  (turn_ok w b t L hin h.2.2).mono fun _ _ ⟨he, hq, ho⟩ => ⟨he, h.only ho hq⟩
theorem move_st (w : World) (t d : Int) (L : Rows) (hok : moveOk L t d) (h : Sr w0 b L w) : Calls Tryd.prog 17 #[.pointer (some ⟨b, 0, none⟩), .int .i64 t, .int .i64 d] w fun e w' => e = .returned (.bool true) ∧ Sr w0 b (moveR L t d) w' :=
  (move_ok w b t d L hok h.2.2).mono fun _ _ ⟨he, hq, ho⟩ => ⟨he, h.only ho hq⟩
theorem first_st (w : World) (L : Rows) (f : Int) (hf : firstR L = f) (h0 : 0 ≤ f) (h : Sr w0 b L w) : Calls Tryd.prog 11 #[.pointer (some ⟨b, 0, none⟩)] w fun e w' => e = .returned (.tuple #[.int .i64 f, .bool true]) ∧ Sr w0 b L w' := by
  cases hl : lead L with
  | none => rw [firstR_none hl] at hf; omega
  | some l =>
    subst hf
    exact (first_yes w b l L hl h.1.tab h.2.2).mono fun _ _ ⟨he, k, hk⟩ => ⟨he, by rw [hk]; exact h.drewN k⟩
end
/-! awake's rows -/
def r0 : Rows := fun _ => []
def r1 : Rows := putR r0 5 3
def r2 : Rows := putR r1 2 3
def r3 : Rows := putR r2 9 1
def r4 : Rows := removeR r3 9
def r5 : Rows := turnR r4 5
def r6 : Rows := moveR r5 5 0
theorem a1 : putOk r0 5 3 := by decide +kernel
theorem a2 : putOk r1 2 3 := by decide +kernel
theorem a3 : putOk r2 9 1 := by decide +kernel
theorem a4 : firstR r3 = 9 := by decide +kernel
theorem a5 : inR r3 9 := by decide +kernel
theorem a6 : inR r4 5 := by decide +kernel
theorem a7 : firstR r5 = 2 := by decide +kernel
theorem a8 : moveOk r5 5 0 := by decide +kernel
theorem a9 : firstR r6 = 5 := by decide +kernel
theorem a10 : ¬ putOk r6 2 1 := by decide +kernel
theorem a11 : (total r6 : Int) = 2 := by decide +kernel
attribute [local irreducible] r0 r1 r2 r3 r4 r5 r6
theorem zero29 (w : World) : (zeroValue 29).run Tryd.prog w = .ok (.agg (qCells zeroS)) w := by kernel_rfl
theorem new_st {w0 : World} (w : World) (h : Bl w0 w) : Sr w0 w.heap.size r0 (w.alloc (.cells (qCells zeroS) 29)) :=
  ⟨h.below (Grow.alloc w _), h.2.size, zeroS, heapAt_alloc_new w _, by unfold r0; exact rep_zero⟩
theorem awake_bl {w0 : World} (w : World) (h : Bl w0 w) : Calls Tryd.prog 8 #[] w fun e w' => e = .returned (.bool true) ∧ Bl w0 w' := by
  go_enter Tryd.func8, Tryd.ntmps8
  go_wp2_with fail
  rw [show Sem.run Tryd.prog (zeroValue 29) w = .ok (.agg (qCells zeroS)) w from zero29 w]
  have h0 := new_st w h
  have HS := Lib.hid (h.2.size)
  clear h
  go_wp2_with fail
  generalize w.alloc (.cells (qCells zeroS) 29) = w1 at h0 ⊢
  generalize w.heap.size = b at h0 HS ⊢
  refine (put_st _ 5 3 r0 a1 h0).mono ?_
  rintro e w2 ⟨rfl, h1⟩
  go_wp2_with fail
  refine (put_st _ 2 3 r1 a2 (by unfold r1; exact h1)).mono ?_
  rintro e w3 ⟨rfl, h2⟩
  clear h0 h1
  go_wp2_with fail
  refine (put_st _ 9 1 r2 a3 (by unfold r2; exact h2)).mono ?_
  rintro e w4 ⟨rfl, h3⟩
  clear h2
  replace h3 : Sr w0 b r3 w4 := by unfold r3; exact h3
  go_wp2_with fail
  refine (first_st _ r3 9 a4 (by omega) h3).mono ?_
  rintro e w5 ⟨rfl, h4⟩
  clear h3
  go_wp2_with fail
  refine (remove_st _ 9 r3 a5 h4).mono ?_
  rintro e w6 ⟨rfl, h5⟩
  clear h4
  replace h5 : Sr w0 b r4 w6 := by unfold r4; exact h5
  go_wp2_with fail
  refine (turn_st _ 5 r4 a6 h5).mono ?_
  rintro e w7 ⟨rfl, h6⟩
  clear h5
  replace h6 : Sr w0 b r5 w7 := by unfold r5; exact h6
  go_wp2_with fail
  refine (first_st _ r5 2 a7 (by omega) h6).mono ?_
  rintro e w8 ⟨rfl, h7⟩
  clear h6
  go_wp2_with fail
  refine (move_st _ 5 0 r5 a8 h7).mono ?_
  rintro e w9 ⟨rfl, h8⟩
  clear h7
  replace h8 : Sr w0 b r6 w9 := by unfold r6; exact h8
  go_wp2_with fail
  refine (first_st _ r6 5 a9 (by omega) h8).mono ?_
  rintro e w10 ⟨rfl, h9⟩
  clear h8
  go_wp2_with fail
  refine (put_no _ b 2 1 r6 a10 h9.2.2).mono ?_
  rintro e w' ⟨rfl, rfl⟩
  have hl := len_r _ b r6 h9.2.2
  rw [a11] at hl
  go_wp2_with fail
  refine hl.mono ?_
  rintro e w' ⟨rfl, rfl⟩
  go_wp2
  go_ret
  exact ⟨rfl, h9.1⟩
theorem readyNil_walk (t l : Int) (w : World) (h : TabAt w) : Calls Tryd.prog 7 #[.int .i64 t, .int .i64 l] w fun e w' => e = .returned (.bool true) ∧ Bl w w' := by
  have h := Bl.refl h
  go_enter Tryd.func7, Tryd.ntmps7
  go_wp2_with fail
  refine (first_nil _).mono ?_
  rintro e w' ⟨rfl, rfl⟩
  go_wp2_with fail
  refine (awake_bl _ h).mono ?_
  rintro e w2 ⟨rfl, h2⟩
  go_wp2_with fail
  refine (put_nil _ _ _).mono ?_
  rintro e w' ⟨rfl, rfl⟩
  go_wp2_with fail
  refine (remove_nil _ _).mono ?_
  rintro e w' ⟨rfl, rfl⟩
  go_wp2_with fail
  refine (turn_nil _ _).mono ?_
  rintro e w' ⟨rfl, rfl⟩
  go_wp2_with fail
  refine (move_nil _ _ _).mono ?_
  rintro e w' ⟨rfl, rfl⟩
  go_wp2_with fail
  refine (level_nil _ _).mono ?_
  rintro e w' ⟨rfl, rfl⟩
  go_wp2_with fail
  refine (at_nil _ _).mono ?_
  rintro e w' ⟨rfl, rfl⟩
  go_wp2_with fail
  refine (len_nil _).mono ?_
  rintro e w' ⟨rfl, rfl⟩
  go_wp2
  go_ret
  exact ⟨rfl, h2⟩
end Go.Proofs.YtdfadggdegojnaaDoor
