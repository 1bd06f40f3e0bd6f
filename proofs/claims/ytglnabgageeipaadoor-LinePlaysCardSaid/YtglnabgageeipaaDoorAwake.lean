/- The walk of awake, and of LineNil. -/
import Derived.Test.YtglnabgageeipaaDoorLine
namespace Go.Proofs.YtglnabgageeipaaDoor
open Go.RowKit
attribute [local irreducible] ctz

theorem cell_lt {w : World} {a : Addr} {v : Value} (h : w.cell? a = some v) : a.block < w.heap.size := by
  refine Classical.byContradiction fun hn => ?_
  have : w.heap[a.block]? = none := Array.getElem?_eq_none (by omega)
  simp [World.cell?, this] at h
theorem TabAt.pos {w : World} (h : TabAt w) : 0 < w.heap.size := cell_lt (h 0 (by omega))
theorem TabAt.below {w w' : World} (h : TabAt w) (hb : Below w.heap.size w w') : TabAt w' := fun j hj => (Below.cell (p := ⟨0, j, none⟩) hb h.pos).trans (h j hj)

/-- All that was is as it was; the table lay there. -/
def Bl (w0 w : World) : Prop := TabAt w0 ∧ Below w0.heap.size w0 w
theorem Bl.refl {w : World} (h : TabAt w) : Bl w w := ⟨h, Below.refl _ _⟩
theorem Bl.below {w0 w w' : World} (h : Bl w0 w) (hb : Below w.heap.size w w') : Bl w0 w' := ⟨h.1, Below.trans h.2 (hb.mono h.2.size)⟩
theorem Bl.tab {w0 w : World} (h : Bl w0 w) : TabAt w := h.1.below h.2
theorem Bl.drewN {w0 w : World} (h : Bl w0 w) (n : Nat) : Bl w0 (w.drewN n) := ⟨h.1, below_drewN h.2 n⟩
/-- And the lines lie at b, made since. -/
def St (w0 : World) (b : Nat) (A P M : BitVec 32) (act : Int) (w : World) : Prop := Bl w0 w ∧ w0.heap.size ≤ b ∧ LineAt w b A P M act
theorem St.only {w0 w w' : World} {b : Nat} {A P M A' P' M' : BitVec 32} {act act' : Int} (h : St w0 b A P M act w) (ho : Only b w w') (hl : LineAt w' b A' P' M' act') : St w0 b A' P' M' act' w' :=
  ⟨⟨h.1.1, h.1.2.trans (ho.below h.2.1 h.1.2.size)⟩, h.2.1, hl⟩
theorem St.below {w0 w w' : World} {b : Nat} {A P M : BitVec 32} {act : Int} (h : St w0 b A P M act w) (hb : Below w.heap.size w w') : St w0 b A P M act w' :=
  ⟨h.1.below hb, h.2.1, heapAt_below hb (heapAt_lt h.2.2) h.2.2⟩

section
variable {w0 : World} {b : Nat}
theorem new_st (w : World) (c : Nat) (hc : c ≤ 16) (m A : BitVec 32) (hA : A = BitVec.ofNat 32 (2 ^ c - 1)) (hm : m >>> c = 0#32) (h : Bl w0 w) : Calls Tryd.prog 7 #[.int .i64 c, .int .u32 m.toNat] w fun e w' =>
    ∃ b, e = .returned (.tuple #[.pointer (some ⟨b, 0, none⟩), .int .i64 0]) ∧ St w0 b A 0#32 m 255 w' :=
  (new_ok w c hc m A hA hm).mono fun _ _ ⟨b, he, hl, hb, _, hbel⟩ => ⟨b, he, h.below hbel, Nat.le_trans h.2.size hb, hl⟩
theorem raise_st (w : World) (A P M X C D E : BitVec 32) (act : Int) (hC : C = X &&& A) (hD : D = C &&& P) (hE : E = P ||| C) (h : St w0 b A P M act w) :
    Calls Tryd.prog 9 #[.pointer (some ⟨b, 0, none⟩), .int .u32 X.toNat] w fun e w' => e = .returned (.tuple #[.int .u32 C.toNat, .int .u32 D.toNat]) ∧ St w0 b A E M act w' :=
  (raise_any w b A P M X C D E act hC hD hE h.2.2).mono fun _ _ ⟨he, hl, ho⟩ => ⟨he, h.only ho hl⟩
theorem leave_st (w : World) (A P M : BitVec 32) (act : Int) (r : Bool) (hr : r = decide (act ≠ 255)) (h : St w0 b A P M act w) :
    Calls Tryd.prog 13 #[.pointer (some ⟨b, 0, none⟩)] w fun e w' => e = .returned (.bool r) ∧ St w0 b A P M 255 w' :=
  (leave_any w b A P M act h.2.2).mono fun _ _ ⟨he, hl, ho⟩ => ⟨by rw [he, hr], h.only ho hl⟩
theorem let_st (w : World) (A P M X C : BitVec 32) (act : Int) (hC : C = X &&& A) (h : St w0 b A P M act w) :
    Calls Tryd.prog 11 #[.pointer (some ⟨b, 0, none⟩), .int .u32 X.toNat] w fun e w' => e = .returned (.tuple #[]) ∧ St w0 b A P C act w' :=
  (let_any w b A P M X C act hC h.2.2).mono fun _ _ ⟨he, hl, ho⟩ => ⟨he, h.only ho hl⟩
theorem enter_no_st (w : World) (A P M : BitVec 32) (act : Int) (hno : act ≠ 255) (h : St w0 b A P M act w) :
    Calls Tryd.prog 10 #[.pointer (some ⟨b, 0, none⟩)] w fun e w' => e = .returned (.tuple #[.int .i64 0, .bool false]) ∧ St w0 b A P M act w' :=
  (enter_no w b A P M act hno h.2.2).mono fun _ _ ⟨he, hl, ho⟩ => ⟨he, h.only ho hl⟩
theorem enter_none_st (w : World) (A P M : BitVec 32) (act : Int) (ha : act = 255) (hno : P &&& M = 0#32) (h : St w0 b A P M act w) :
    Calls Tryd.prog 10 #[.pointer (some ⟨b, 0, none⟩)] w fun e w' => e = .returned (.tuple #[.int .i64 0, .bool false]) ∧ St w0 b A P M act w' :=
  (enter_none w b A P M act ha hno h.2.2).mono fun _ _ ⟨he, hl, ho⟩ => ⟨he, h.only ho hl⟩
theorem enter_one_st (w : World) (A P M Q E : BitVec 32) (act : Int) (k : Nat) (ha : act = 255) (hQ : P &&& M = Q) (hyes : Q ≠ 0#32) (hK : ctz Q = k) (hE : E = P &&& ~~~(1#32 <<< k)) (h : St w0 b A P M act w) :
    Calls Tryd.prog 10 #[.pointer (some ⟨b, 0, none⟩)] w fun e w' => e = .returned (.tuple #[.int .i64 k, .bool true]) ∧ St w0 b A E M k w' :=
  (enter_one w b A P M Q E act k ha hQ hyes hK hE h.1.tab h.2.2).mono fun _ _ ⟨he, hl, ho⟩ => ⟨he, h.only ho hl⟩
theorem pending_st (w : World) (A P M : BitVec 32) (act : Int) (h : St w0 b A P M act w) : Calls Tryd.prog 14 #[.pointer (some ⟨b, 0, none⟩)] w fun e w' => e = .returned (.int .u32 P.toNat) ∧ w' = w := by
  have h1 := cell_block h.2.2 1
  simp at h1
  go_enter Tryd.func14, Tryd.ntmps14
  go_wp2
  go_ret
  exact ⟨rfl, rfl⟩
theorem mask_st (w : World) (A P M : BitVec 32) (act : Int) (h : St w0 b A P M act w) : Calls Tryd.prog 22 #[.pointer (some ⟨b, 0, none⟩)] w fun e w' => e = .returned (.int .u32 M.toNat) ∧ w' = w := by
  have h1 := cell_block h.2.2 2
  simp at h1
  go_enter Tryd.func22, Tryd.ntmps22
  go_wp2
  go_ret
  exact ⟨rfl, rfl⟩
theorem active_st (w : World) (A P M : BitVec 32) (act : Int) (h : St w0 b A P M act w) : Calls Tryd.prog 21 #[.pointer (some ⟨b, 0, none⟩)] w fun e w' => e = .returned (.int .i64 act) ∧ w' = w := active_any w b A P M act h.2.2

/-! awake's own calls, with their numbers -/
theorem a_new (w : World) (h : Bl w0 w) : Calls Tryd.prog 7 #[.int .i64 3, .int .u32 6] w fun e w' => ∃ b, e = .returned (.tuple #[.pointer (some ⟨b, 0, none⟩), .int .i64 0]) ∧ St w0 b 7#32 0#32 6#32 255 w' := new_st w 3 (by omega) 6#32 7#32 (by decide) (by decide) h
theorem a_over (w : World) : Calls Tryd.prog 7 #[.int .i64 3, .int .u32 8] w fun e w' => e = .returned (.tuple #[.pointer none, .int .i64 1]) ∧ w' = w := new_over w 3 (by omega) 8#32 (by decide)
theorem a_raise (w : World) (h : St w0 b 7#32 0#32 6#32 255 w) : Calls Tryd.prog 9 #[.pointer (some ⟨b, 0, none⟩), .int .u32 15] w fun e w' => e = .returned (.tuple #[.int .u32 7, .int .u32 0]) ∧ St w0 b 7#32 7#32 6#32 255 w' := raise_st w 7#32 0#32 6#32 15#32 7#32 0#32 7#32 255 (by decide) (by decide) (by decide) h
theorem a_enter (w : World) (h : St w0 b 7#32 7#32 6#32 255 w) : Calls Tryd.prog 10 #[.pointer (some ⟨b, 0, none⟩)] w fun e w' => e = .returned (.tuple #[.int .i64 1, .bool true]) ∧ St w0 b 7#32 5#32 6#32 1 w' := enter_one_st w 7#32 7#32 6#32 6#32 5#32 255 1 rfl (by decide) (by decide) (by unfold ctz; decide +kernel) (by decide) h
theorem a_raise2 (w : World) (h : St w0 b 7#32 5#32 6#32 1 w) : Calls Tryd.prog 9 #[.pointer (some ⟨b, 0, none⟩), .int .u32 4] w fun e w' => e = .returned (.tuple #[.int .u32 4, .int .u32 4]) ∧ St w0 b 7#32 5#32 6#32 1 w' := raise_st w 7#32 5#32 6#32 4#32 4#32 4#32 5#32 1 (by decide) (by decide) (by decide) h
theorem a_pending (w : World) (h : St w0 b 7#32 5#32 6#32 255 w) : Calls Tryd.prog 14 #[.pointer (some ⟨b, 0, none⟩)] w fun e w' => e = .returned (.int .u32 5) ∧ w' = w := pending_st w 7#32 5#32 6#32 255 h

set_option maxRecDepth 100000 in
theorem awake_bl (w : World) (h : Bl w0 w) : Calls Tryd.prog 8 #[] w fun e w' => e = .returned (.bool true) ∧ Bl w0 w' := by
  go_enter Tryd.func8, Tryd.ntmps8
  go_wp2_with fail
  refine (a_new _ h).mono ?_
  rintro e w1 ⟨b, rfl, h1⟩
  clear h
  go_wp2_with fail
  refine (a_over _).mono ?_
  rintro e w' ⟨rfl, rfl⟩
  go_wp2_with fail
  refine (a_raise _ h1).mono ?_
  rintro e w2 ⟨rfl, h2⟩
  go_wp2_with fail
  refine (a_enter _ h2).mono ?_
  rintro e w3 ⟨rfl, h3⟩
  go_wp2_with fail
  refine (enter_no_st _ _ _ _ _ (by omega) h3).mono ?_
  rintro e w4 ⟨rfl, h4⟩
  go_wp2_with fail
  refine (a_raise2 _ h4).mono ?_
  rintro e w5 ⟨rfl, h5⟩
  go_wp2_with fail
  refine (leave_st _ _ _ _ _ true (by decide) h5).mono ?_
  rintro e w6 ⟨rfl, h6⟩
  go_wp2_with fail
  refine (leave_st _ _ _ _ _ false (by decide) h6).mono ?_
  rintro e w7 ⟨rfl, h7⟩
  go_wp2_with fail
  refine (a_pending _ h7).mono ?_
  rintro e w' ⟨rfl, rfl⟩
  go_wp2_with fail
  refine (active_st _ _ _ _ _ h7).mono ?_
  rintro e w' ⟨rfl, rfl⟩
  go_wp2
  go_ret
  exact ⟨rfl, h7.1⟩
end

set_option maxRecDepth 100000 in
theorem lineNil_walk (x : Int) (n : Int) (w : World) (h : TabAt w) : Calls Tryd.prog 6 #[.int .u32 x, .int .i64 n] w fun e w' => e = .returned (.bool true) ∧ Bl w w' := by
  have h := Bl.refl h
  go_enter Tryd.func6, Tryd.ntmps6
  go_wp2_with fail
  refine (nil_raise _ _).mono ?_
  rintro e w' ⟨rfl, rfl⟩
  go_wp2_with fail
  refine (nil_enter _).mono ?_
  rintro e w' ⟨rfl, k, rfl⟩
  have h1 := h.drewN k
  generalize World.drewN _ k = w1 at *
  go_wp2_with fail
  refine (nil_let _ _).mono ?_
  rintro e w' ⟨rfl, rfl⟩
  go_wp2_with fail
  refine (nil_bar _ _).mono ?_
  rintro e w' ⟨rfl, rfl⟩
  go_wp2_with fail
  refine (awake_bl _ h1).mono ?_
  rintro e w2 ⟨rfl, h2⟩
  go_wp2_with fail
  refine (nil_leave _).mono ?_
  rintro e w' ⟨rfl, rfl⟩
  go_wp2_with fail
  refine (active_nil _).mono ?_
  rintro e w' ⟨rfl, rfl⟩
  go_wp2_with fail
  refine (nil_pending _).mono ?_
  rintro e w' ⟨rfl, rfl⟩
  go_wp2_with fail
  refine (nil_mask _).mono ?_
  rintro e w' ⟨rfl, rfl⟩
  go_wp2
  go_ret
  exact ⟨rfl, h2⟩
end Go.Proofs.YtglnabgageeipaaDoor
