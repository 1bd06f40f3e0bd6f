/- The walks of the laws: each returns true and leaves all that was as it was. -/
import Derived.Test.YtnnmghhafjbioaaAwake
import Derived.Test.YtnnmghhafjbioaaRel
namespace Go.Proofs.Ytnnmghhafjbioaa
open Go.RowKit
attribute [local irreducible] CrcP.shN tab zeros tw mat CrcP.Sum holdsB CrcP.bytes CrcP.Turn sp CrcP.acc

/-- All that was is as it was. -/
def Bl (w0 w : World) : Prop := Below w0.heap.size w0 w
theorem Bl.refl (w : World) : Bl w w := Below.refl _ _
theorem Bl.below {w0 w w' : World} (h : Bl w0 w) (hb : Below w.heap.size w w') : Bl w0 w' := Below.trans h (hb.mono h.size)
theorem Bl.drewN {w0 w : World} (h : Bl w0 w) (n : Nat) : Bl w0 (w.drewN n) := below_drewN h n
theorem awake_bl {w0 : World} (w : World) (h : Bl w0 w) : Calls Try.prog 10 #[] w fun e w' => e = .returned (.bool true) ∧ Bl w0 w' :=
  (awake_any w).mono fun _ _ ⟨he, hb⟩ => ⟨he, h.below hb⟩
theorem make_bl {w0 : World} (w : World) (h : Bl w0 w) : Calls Try.prog 11 #[] w fun e w' => ∃ b, e = .returned (.pointer (some ⟨b, 0, none⟩)) ∧ Ok w0 b w' :=
  (make_ok w).mono fun _ _ ⟨he, hb⟩ => ⟨_, he, hb.1, hb.2.1, h.below hb.2.2⟩
theorem Ok.bl {w0 w : World} {b : Nat} (h : Ok w0 b w) : Bl w0 w := h.2.2

def CellAt (s : ByteArray) (v : Value) (w : World) : Prop := ∃ p, v = .slice (some ⟨p, 0, none⟩) 1 1 ∧ w.cell? ⟨p, 0, none⟩ = some (.string s)
attribute [local simp] RelKnown Is
theorem CellAt.grow (s : ByteArray) : ∀ v w w', Grow w w' → CellAt s v w → CellAt s v w' := fun _ _ _ hg ⟨p, hv, hc⟩ => ⟨p, hv, hg.cell hc⟩
theorem sum_gr {w0 : World} (w : World) (b pb cap : Nat) (s : ByteArray) (h : Ok w0 b w) (hc : w.cell? ⟨pb, 0, none⟩ = some (.string s)) (hs : (s.size : Int) ≤ 9223372036854775807) :
    Calls Try.prog 12 #[.pointer (some ⟨b, 0, none⟩), .slice (some ⟨pb, 0, none⟩) 1 cap] w fun e w' => e = .returned (.int .u32 (CrcP.Sum s.data.toList).toNat) ∧ Grow w w' :=
  (sum_one w b pb cap s h.1 hc hs).mono fun _ _ ⟨he, n, hn⟩ => ⟨he, by rw [hn]; exact Grow.drewN w n⟩
theorem refSum_gr (w : World) (s : ByteArray) (hs : (s.size : Int) ≤ 9223372036854775807) : Calls Try.prog 13 #[.string s] w fun e w' => e = .returned (.int .u32 (CrcP.Sum s.data.toList).toNat) ∧ Grow w w' :=
  (refSum_any w s hs).mono fun _ _ ⟨he, hw⟩ => ⟨he, by rw [← hw]; exact Grow.refl w⟩
theorem holds_gr {w0 : World} (w : World) (b : Nat) (s : ByteArray) (hs : (s.size : Int) ≤ 9223372036854775807) (h : Ok w0 b w) : Calls Try.prog 14 #[.pointer (some ⟨b, 0, none⟩), .string s] w fun e w' => e = .returned (.bool (holdsB s.data.toList)) ∧ Grow w w' :=
  holds_any w b s hs h.1 h.2.1

set_option maxRecDepth 100000 in
theorem crcNil_walk (s : ByteArray) (hs : (s.size : Int) ≤ 9223372036854775807) (w : World) : Calls Try.prog 9 #[.string s] w fun e w' => e = .returned (.bool true) ∧ Below w.heap.size w w' := by
  go_enter Try.func9, Try.ntmps9
  go_wp2_with fail
  refine (awake_bl (w0 := w) _ (Bl.refl w)).mono ?_
  rintro e w1 ⟨rfl, h1⟩
  go_wp2_with fail
  refine (sum_nil _ _).mono ?_
  rintro e w2 ⟨rfl, h2⟩
  have hb2 : Bl w w2 := by rw [h2]; exact h1.below ((Below.refl _ _).alloc (Nat.le_refl _) _)
  clear h2
  go_wp2_with fail
  refine (holds_nil _ s hs).mono ?_
  rintro e w3 ⟨rfl, n, h3⟩
  have hb3 : Bl w w3 := by rw [h3]; exact hb2.drewN n
  clear h3
  go_wp2
  go_ret
  exact ⟨rfl, hb3⟩

theorem sums_end (s : ByteArray) (h : (4 : Int) ≤ (s.size : Int)) : (holdsB s.data.toList == (CrcP.bytes (CrcP.Sum (List.take ((s.size : Int) - 4).toNat s.data.toList)) == (s.extract ((s.size : Int) - 4).toNat s.size).toList)) = true := by
  have := holds_eq s _ _ (by omega) rfl rfl
  rw [← this, ByteArray.toList_eq, ByteArray.data_extract]
  simp
theorem holds_short (s : ByteArray) (h : ¬ (4 : Int) ≤ (s.size : Int)) : holdsB s.data.toList = false := by
  unfold holdsB; rw [decide_eq_false (by simp; omega)]; rfl

set_option maxHeartbeats 1000000 in
set_option maxRecDepth 100000 in
theorem crcSums_short (s : ByteArray) (hs : (s.size : Int) ≤ 9223372036854775807) (w : World) (hlong : ¬ (2000 : Int) < (s.size : Int)) (h4 : ¬ (4 : Int) ≤ (s.size : Int)) : Calls Try.prog 3 #[.string s] w fun e w' => e = .returned (.bool true) ∧ Below w.heap.size w w' := by
  have hshort := holds_short s h4
  have hg : decide ((4 : Int) ≤ (s.size : Int)) = false := decide_eq_false h4
  go_enter Try.func3, Try.ntmps3
  go_wp2_with fail
  refine (awake_bl (w0 := w) _ (Bl.refl w)).mono ?_
  rintro e w1 ⟨rfl, h1⟩
  go_wp2_with fail
  refine (make_bl (w0 := w) _ h1).mono ?_
  rintro e w2 ⟨b, rfl, h2⟩
  go_wp2
  refine wp_region_rel _ Grow (Ok w b) [([(3, none)], none), ([(0, none)], none), ([(18, some 0)], none), ([(17, some 2), (19, some 0)], none), ([(0, none)], none), ([(21, some 0)], none), ([(20, some 2), (22, some 0)], none), ([(23, some 0)], none), ([(24, some 0), (3, none)], some (24, true)), ([(24, some 1), (0, none)], some (24, true)), ([(24, some 2), (25, some 1), (26, some 0)], some (24, true)), ([(24, some 3), (4, none)], some (24, true)), ([(24, some 4), (28, some 0)], some (24, true)), ([(24, some 5), (29, some 0)], some (24, true)), ([(30, some 0), (0, none)], some (30, true)), ([(30, some 1), (4, none)], some (30, true)), ([(30, some 2), (32, some 0)], some (30, true)), ([(30, some 3), (31, some 2), (33, some 0)], some (30, true)), ([(30, some 4), (34, some 0)], some (30, true)), ([(30, some 5), (35, some 0)], some (30, true)), ([(30, some 6), (0, none)], some (30, true)), ([(30, some 7), (4, none)], some (30, true)), ([(30, some 8), (38, some 0)], some (30, true)), ([(30, some 9), (37, some 2), (39, some 0)], some (30, true)), ([(30, some 10), (36, some 4), (40, some 0)], some (30, true)), ([(24, some 17), (30, some 11), (41, some 0)], some (24, true)), ([(24, some 18), (27, some 15), (42, some 0)], some (24, true)), ([(24, some 19), (43, some 0)], none), ([(44, some 0)], none)] (by kernel_rfl) (by kernel_rfl) (h2.drew) ?_
  repeat (first | (refine rel_pure ?_; apply Exists.intro; refine ⟨fun a w hF hk => ?_, ?_⟩; focus (first | exact rel_no hk.1 rfl rfl | ((first | (refine rel_none fun K hK => ?_) | (refine rel_yes hk.1 fun K hK => ?_)); (try simp at hk); go_simp; exact hK _ _ (Grow.refl _) hF rfl))) | (refine rel_some (CellAt s) (CellAt.grow s) (fun a w hF hk => ?_) ?_; focus ((first | (refine rel_none fun K hK => ?_) | (refine rel_yes hk.1 fun K hK => ?_)); (try simp at hk); go_simp; exact hK _ _ (Grow.alloc _ _) (hF.alloc _) ⟨_, rfl, World.cell?_alloc_mark _ _ _ _ _⟩)) | (refine rel_pure ?_; apply Exists.intro; refine ⟨fun a w hF hk => ?_, ?_⟩; focus ((first | (refine rel_none fun K hK => ?_) | (refine rel_yes hk.1 fun K hK => ?_)); (try simp at hk); obtain ⟨hk1, p, hkp, hkc⟩ := hk; go_simp; go_at_call 12; refine (sum_gr _ b p 1 s hF hkc hs).mono ?_; rintro e w' ⟨rfl, hg⟩; exact hK _ _ hg (hF.below hg) rfl)) | (refine rel_pure ?_; apply Exists.intro; refine ⟨fun a w hF hk => ?_, ?_⟩; focus ((first | (refine rel_none fun K hK => ?_) | (refine rel_yes hk.1 fun K hK => ?_)); (try simp at hk);  go_simp; go_at_call 13; refine (refSum_gr _ _ (by first | assumption | (simp; omega))).mono ?_; rintro e w' ⟨rfl, hg⟩; exact hK _ _ hg (hF.below hg) rfl)) | (refine rel_pure ?_; apply Exists.intro; refine ⟨fun a w hF hk => ?_, ?_⟩; focus ((first | (refine rel_none fun K hK => ?_) | (refine rel_yes hk.1 fun K hK => ?_)); (try simp at hk);  go_simp; go_at_call 14; refine (holds_gr _ b s hs hF).mono ?_; rintro e w' ⟨rfl, hg⟩; exact hK _ _ hg (hF.below hg) rfl)))
  refine rel_done fun wR hF => ?_
  repeat (first | (refine fun v hv => ?_; obtain rfl : v = _ := hv) | (refine fun v hv => ?_))
  simp only [Act.put, List.setIfInBounds_toArray, List.set_cons_zero, List.set_cons_succ]
  refine rel_nil ?_
  have hbl := hF.bl
  go_wp2
  go_ret
  exact ⟨rfl, hbl⟩

set_option maxHeartbeats 1000000 in
set_option maxRecDepth 100000 in
theorem crcSums_whole (s : ByteArray) (hs : (s.size : Int) ≤ 9223372036854775807) (w : World) (hlong : ¬ (2000 : Int) < (s.size : Int)) (h4 : (4 : Int) ≤ (s.size : Int)) : Calls Try.prog 3 #[.string s] w fun e w' => e = .returned (.bool true) ∧ Below w.heap.size w w' := by
  have HEnd := Lib.hid (sums_end s h4)
  have hmax : (if (s.size : Int) - 4 < 0 then (0 : Int) else (s.size : Int) - 4) = (s.size : Int) - 4 := if_neg (by omega)
  have hA3 : (0 : Int) ≤ (s.size : Int) - 4 := by omega
  have hA4 : (s.size : Int) - 4 ≤ (s.size : Int) := by omega
  go_enter Try.func3, Try.ntmps3
  go_wp2_with fail
  refine (awake_bl (w0 := w) _ (Bl.refl w)).mono ?_
  rintro e w1 ⟨rfl, h1⟩
  go_wp2_with fail
  refine (make_bl (w0 := w) _ h1).mono ?_
  rintro e w2 ⟨b, rfl, h2⟩
  go_wp2
  refine wp_region_rel _ Grow (Ok w b) [([(3, none)], none), ([(0, none)], none), ([(18, some 0)], none), ([(17, some 2), (19, some 0)], none), ([(0, none)], none), ([(21, some 0)], none), ([(20, some 2), (22, some 0)], none), ([(23, some 0)], none), ([(24, some 0), (3, none)], some (24, true)), ([(24, some 1), (0, none)], some (24, true)), ([(24, some 2), (25, some 1), (26, some 0)], some (24, true)), ([(24, some 3), (4, none)], some (24, true)), ([(24, some 4), (28, some 0)], some (24, true)), ([(24, some 5), (29, some 0)], some (24, true)), ([(30, some 0), (0, none)], some (30, true)), ([(30, some 1), (4, none)], some (30, true)), ([(30, some 2), (32, some 0)], some (30, true)), ([(30, some 3), (31, some 2), (33, some 0)], some (30, true)), ([(30, some 4), (34, some 0)], some (30, true)), ([(30, some 5), (35, some 0)], some (30, true)), ([(30, some 6), (0, none)], some (30, true)), ([(30, some 7), (4, none)], some (30, true)), ([(30, some 8), (38, some 0)], some (30, true)), ([(30, some 9), (37, some 2), (39, some 0)], some (30, true)), ([(30, some 10), (36, some 4), (40, some 0)], some (30, true)), ([(24, some 17), (30, some 11), (41, some 0)], some (24, true)), ([(24, some 18), (27, some 15), (42, some 0)], some (24, true)), ([(24, some 19), (43, some 0)], none), ([(44, some 0)], none)] (by kernel_rfl) (by kernel_rfl) (h2.drew) ?_
  repeat (first | (refine rel_pure ?_; apply Exists.intro; refine ⟨fun a w hF hk => ?_, ?_⟩; focus (first | exact rel_no hk.1 rfl rfl | ((first | (refine rel_none fun K hK => ?_) | (refine rel_yes hk.1 fun K hK => ?_)); (try simp at hk); go_simp; exact hK _ _ (Grow.refl _) hF rfl))) | (refine rel_some (CellAt s) (CellAt.grow s) (fun a w hF hk => ?_) ?_; focus ((first | (refine rel_none fun K hK => ?_) | (refine rel_yes hk.1 fun K hK => ?_)); (try simp at hk); go_simp; exact hK _ _ (Grow.alloc _ _) (hF.alloc _) ⟨_, rfl, World.cell?_alloc_mark _ _ _ _ _⟩)) | (refine rel_pure ?_; apply Exists.intro; refine ⟨fun a w hF hk => ?_, ?_⟩; focus ((first | (refine rel_none fun K hK => ?_) | (refine rel_yes hk.1 fun K hK => ?_)); (try simp at hk); obtain ⟨hk1, p, hkp, hkc⟩ := hk; go_simp; go_at_call 12; refine (sum_gr _ b p 1 s hF hkc hs).mono ?_; rintro e w' ⟨rfl, hg⟩; exact hK _ _ hg (hF.below hg) rfl)) | (refine rel_pure ?_; apply Exists.intro; refine ⟨fun a w hF hk => ?_, ?_⟩; focus ((first | (refine rel_none fun K hK => ?_) | (refine rel_yes hk.1 fun K hK => ?_)); (try simp at hk);  go_simp; go_at_call 13; refine (refSum_gr _ _ (by first | assumption | (simp; omega))).mono ?_; rintro e w' ⟨rfl, hg⟩; exact hK _ _ hg (hF.below hg) rfl)) | (refine rel_pure ?_; apply Exists.intro; refine ⟨fun a w hF hk => ?_, ?_⟩; focus ((first | (refine rel_none fun K hK => ?_) | (refine rel_yes hk.1 fun K hK => ?_)); (try simp at hk);  go_simp; go_at_call 14; refine (holds_gr _ b s hs hF).mono ?_; rintro e w' ⟨rfl, hg⟩; exact hK _ _ hg (hF.below hg) rfl)) | (refine rel_pure ?_; apply Exists.intro; refine ⟨fun a w hF hk => ?_, ?_⟩; focus ((first | (refine rel_none fun K hK => ?_) | (refine rel_yes hk.1 fun K hK => ?_)); (try simp at hk);  go_simp; go_at_call 15; refine (refBytes_any _ _).mono ?_; rintro e w' ⟨rfl, hg⟩; exact hK _ _ hg (hF.below hg) rfl)))
  refine rel_done fun wR hF => ?_
  repeat (first | (refine fun v hv => ?_; obtain rfl : v = _ := hv) | (refine fun v hv => ?_))
  simp only [Act.put, List.setIfInBounds_toArray, List.set_cons_zero, List.set_cons_succ]
  refine rel_nil ?_
  have hbl := hF.bl
  go_wp2
  go_ret
  exact ⟨congrArg (fun b => Ending.returned (.bool b)) HEnd.out, hbl⟩

set_option maxRecDepth 100000 in
theorem crcSums_walk (s : ByteArray) (hs : (s.size : Int) ≤ 9223372036854775807) (w : World) : Calls Try.prog 3 #[.string s] w fun e w' => e = .returned (.bool true) ∧ Below w.heap.size w w' := by
  by_cases hlong : (2000 : Int) < (s.size : Int)
  · go_enter Try.func3, Try.ntmps3
    go_wp2_with fail
    refine (awake_bl (w0 := w) _ (Bl.refl w)).mono ?_
    rintro e w1 ⟨rfl, h1⟩
    go_wp2_with fail
    refine (awake_bl (w0 := w) _ h1).mono ?_
    rintro e w2 ⟨rfl, h2⟩
    go_wp2
    go_ret
    exact ⟨rfl, h2⟩
  · by_cases h4 : (4 : Int) ≤ (s.size : Int)
    · exact crcSums_whole s hs w hlong h4
    · exact crcSums_short s hs w hlong h4
end Go.Proofs.Ytnnmghhafjbioaa
