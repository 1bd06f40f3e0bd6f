/- The walks of crc.Holds and of the references Noughts, Spoil. -/
import Derived.Test.YtnnmghhafjbioaaJoin
import Derived.Test.YtnnmghhafjbioaaKit
namespace Go.Proofs.Ytnnmghhafjbioaa
open Go.RowKit
attribute [local irreducible] CrcP.shN tab zeros tw mat

/-- Do the last four bytes tell the sum of the others? -/
def holdsB (l : List UInt8) : Bool := decide (4 ≤ l.length) && (CrcP.bytes (CrcP.Sum (l.take (l.length - 4))) == l.drop (l.length - 4))

theorem isTab_grown {w w' : World} {b : Nat} (h : IsTab w b) (hb : b < w.heap.size) (hB : Below w.heap.size w w') : IsTab w' b := fun i hi => (hB.cell (p := ⟨b, i, none⟩) hb).trans (h i hi)

set_option maxRecDepth 100000 in
theorem holds_nil (w : World) (s : ByteArray) (hs : (s.size : Int) ≤ 9223372036854775807) : Calls Try.prog 14 #[.pointer none, .string s] w fun e w' => e = .returned (.bool false) ∧ ∃ n, w' = w.drewN n := by
  go_enter Try.func14, Try.ntmps14
  go_wp2
  go_quiet (fail)
  go_wp2
  go_ret
  exact ⟨rfl, _, rfl⟩

theorem sum_one (w : World) (b pb cap : Nat) (s : ByteArray) (hT : IsTab w b) (hc : w.cell? ⟨pb, 0, none⟩ = some (.string s)) (hs : (s.size : Int) ≤ 9223372036854775807) :
    Calls Try.prog 12 #[.pointer (some ⟨b, 0, none⟩), .slice (some ⟨pb, 0, none⟩) 1 cap] w fun e w' => e = .returned (.int .u32 (CrcP.Sum s.data.toList).toNat) ∧ ∃ n, w' = w.drewN n := by
  have h := sum_any w b pb 0 cap [s] hT (fun i hi => by
    have : i = 0 := by simpa using hi
    subst this; simpa using hc) (by simp) (fun i hi => by
    have : i = 0 := by simpa using hi
    subst this; simpa using hs)
  simpa using h

/-- What stands while nothing but new memory comes: the table, and all that was. -/
def Ok (w : World) (b : Nat) (w' : World) : Prop := IsTab w' b ∧ b < w'.heap.size ∧ Below w.heap.size w w'
theorem Ok.drewN {w : World} {b : Nat} {w' : World} (h : Ok w b w') (n : Nat) : Ok w b (w'.drewN n) := ⟨h.1, h.2.1, below_drewN h.2.2 n⟩
theorem Ok.drew {w : World} {b : Nat} {w' : World} (h : Ok w b w') : Ok w b w'.drew := h.drewN 1
theorem Ok.below {w : World} {b : Nat} {w' w2 : World} (h : Ok w b w') (hb : Below w'.heap.size w' w2) : Ok w b w2 :=
  ⟨isTab_grown h.1 h.2.1 hb, Nat.lt_of_lt_of_le h.2.1 hb.size, h.2.2.trans (hb.mono h.2.2.size)⟩
theorem Ok.alloc {w : World} {b : Nat} {w' : World} (h : Ok w b w') (o : Obj) : Ok w b (w'.alloc o) := h.below ((Below.refl _ _).alloc (Nat.le_refl _) _)

theorem sum_ok {w0 : World} (w : World) (b pb cap : Nat) (s : ByteArray) (h : Ok w0 b w) (hc : w.cell? ⟨pb, 0, none⟩ = some (.string s)) (hs : (s.size : Int) ≤ 9223372036854775807) :
    Calls Try.prog 12 #[.pointer (some ⟨b, 0, none⟩), .slice (some ⟨pb, 0, none⟩) 1 cap] w fun e w' => e = .returned (.int .u32 (CrcP.Sum s.data.toList).toNat) ∧ Ok w0 b w' :=
  (sum_one w b pb cap s h.1 hc hs).mono fun _ _ ⟨he, n, hn⟩ => ⟨he, by rw [hn]; exact h.drewN n⟩
theorem bytes_ok {w0 : World} {b : Nat} (w : World) (x : BitVec 32) (h : Ok w0 b w) : Calls Try.prog 16 #[.int .u32 x.toNat] w fun e w' => e = .returned (.string ⟨(CrcP.bytes x).toArray⟩) ∧ Ok w0 b w' :=
  (bytes_any w x).mono fun _ _ ⟨he, hb⟩ => ⟨he, h.below hb⟩
theorem refBytes_ok {w0 : World} {b : Nat} (w : World) (x : BitVec 32) (h : Ok w0 b w) : Calls Try.prog 15 #[.int .u32 x.toNat] w fun e w' => e = .returned (.string ⟨(CrcP.bytes x).toArray⟩) ∧ Ok w0 b w' :=
  (refBytes_any w x).mono fun _ _ ⟨he, hb⟩ => ⟨he, h.below hb⟩
theorem refSum_ok {w0 : World} {b : Nat} (w : World) (s : ByteArray) (hs : (s.size : Int) ≤ 9223372036854775807) (h : Ok w0 b w) : Calls Try.prog 13 #[.string s] w fun e w' => e = .returned (.int .u32 (CrcP.Sum s.data.toList).toNat) ∧ Ok w0 b w' :=
  (refSum_any w s hs).mono fun _ _ ⟨he, hw⟩ => ⟨he, by rw [← hw]; exact h⟩
theorem join_ok {w0 : World} {b : Nat} (w : World) (x y : BitVec 32) (n : Int) (h1 : -9223372036854775808 ≤ n) (h2 : n ≤ 9223372036854775807) (h : Ok w0 b w) :
    Calls Try.prog 18 #[.int .u32 x.toNat, .int .u32 y.toNat, .int .i64 n] w fun e w' => e = .returned (.int .u32 (CrcP.shN (8 * n.toNat) x ^^^ y).toNat) ∧ Ok w0 b w' :=
  (join_any w x y n h1 h2).mono fun _ _ ⟨he, hb⟩ => ⟨he, h.below hb⟩

theorem holds_eq (s pre post : ByteArray) (h : 4 ≤ s.size) (h1 : pre = s.extract 0 ((s.size : Int) - 4).toNat) (h2 : post = s.extract ((s.size : Int) - 4).toNat s.size) :
    ((CrcP.bytes (CrcP.Sum pre.data.toList)) == post.data.toList) = holdsB s.data.toList := by
  have e1 : pre.data.toList = s.data.toList.take (s.data.toList.length - 4) := by
    rw [h1, show ((s.size : Int) - 4).toNat = s.size - 4 from by omega]; simp [ByteArray.data_extract]
  have e2 : post.data.toList = s.data.toList.drop (s.data.toList.length - 4) := by
    rw [h2, show ((s.size : Int) - 4).toNat = s.size - 4 from by omega]; simp [ByteArray.data_extract]
    rw [List.take_of_length_le (by simp)]
  unfold holdsB
  rw [e1, e2, decide_eq_true (by simpa using h)]; rfl

set_option maxRecDepth 100000 in
theorem holds_any (w : World) (b : Nat) (s : ByteArray) (hs : (s.size : Int) ≤ 9223372036854775807) (hT : IsTab w b) (hb : b < w.heap.size) : Calls Try.prog 14 #[.pointer (some ⟨b, 0, none⟩), .string s] w fun e w' => e = .returned (.bool (holdsB s.data.toList)) ∧ Below w.heap.size w w' := by
  by_cases h4 : s.size < 4
  · have hg : decide ((4 : Int) ≤ (s.size : Int)) = false := by rw [decide_eq_false_iff_not]; omega
    have HR := Lib.hid (show holdsB s.data.toList = false by unfold holdsB; rw [decide_eq_false (by simp; omega)]; rfl)
    go_enter Try.func14, Try.ntmps14
    go_wp2
    go_quiet (fail)
    go_wp2
    go_ret
    exact ⟨by rw [HR.out]; rfl, below_drewN (Below.refl _ _) _⟩
  · have hg : (4 : Int) ≤ (s.size : Int) := by omega
    obtain ⟨pre, hpre⟩ : ∃ pre, pre = s.extract 0 ((s.size : Int) - 4).toNat := ⟨_, rfl⟩
    obtain ⟨post, hpost⟩ : ∃ post, post = s.extract ((s.size : Int) - 4).toNat s.size := ⟨_, rfl⟩
    have hs1 : ∀ w, (Instr.slice 9 (.string s) none (some (.int .i64 ((s.size : Int) - 4))) none).run Try.prog w = .ok (.string pre) w := fun w => by
      rw [hpre]; exact run_slice_string_h w 9 s Try.underlying9 .i64 _ (by omega) (by omega)
    have hs2 : ∀ w, (Instr.slice 9 (.string s) (some (.int .i64 ((s.size : Int) - 4))) none none).run Try.prog w = .ok (.string post) w := fun w => by
      rw [hpost]; exact run_slice_string_l w 9 s Try.underlying9 .i64 _ (by omega) (by omega)
    have hpl : (pre.size : Int) ≤ 9223372036854775807 := by rw [hpre]; simp; omega
    have Hpre := Lib.hid hpre; clear hpre
    have Hpost := Lib.hid hpost; clear hpost
    have h0 : Ok w b w := ⟨hT, hb, Below.refl _ _⟩
    go_enter Try.func14, Try.ntmps14
    go_wp2
    go_region_held3 (fun w' => Ok w b w') (first | assumption | (exact Ok.drew (by assumption)) | (exact Ok.alloc (by assumption) _))
      (first | (go_at_call 12; refine (sum_ok (w0 := w) _ b _ _ pre (by assumption) (by simp) hpl).mono ?_; rintro e w1 ⟨rfl, hok⟩) | (go_at_call 16; refine (bytes_ok (w0 := w) (b := b) _ _ (by assumption)).mono ?_; rintro e w1 ⟨rfl, hok⟩))
    go_wp2
    go_ret
    exact ⟨congrArg (fun b => Ending.returned (.bool b)) (by rw [ByteArray.toList_eq]; exact holds_eq s pre post (by omega) Hpre.out Hpost.out), hok.2.2⟩
theorem holds_ok {w0 : World} (w : World) (b : Nat) (s : ByteArray) (hs : (s.size : Int) ≤ 9223372036854775807) (h : Ok w0 b w) : Calls Try.prog 14 #[.pointer (some ⟨b, 0, none⟩), .string s] w fun e w' => e = .returned (.bool (holdsB s.data.toList)) ∧ Ok w0 b w' :=
  (holds_any w b s hs h.1 h.2.1).mono fun _ _ ⟨he, hb⟩ => ⟨he, h.below hb⟩

/-! ### Bytes that the call gathers -/
theorem info5 : (Try.prog.info? 5).map (fun i => (i.zero, i.size, i.bytes)) = some (some (.int .u8 0), 1, 1) := by kernel_rfl

set_option maxRecDepth 100000 in
theorem noughts_any (w : World) (n : Int) (hn : n ≤ 100000) : Calls Try.prog 20 #[.int .i64 n] w fun e w' => e = .returned (.string ⟨(List.replicate n.toNat 0).toArray⟩) ∧ Below w.heap.size w w' := by
  obtain ⟨i0, hi, hz0, hz1, hz2⟩ := info_parts info5
  generalize hB : w.heap.size = B
  have HB := Lib.hid hB; clear hB
  go_enter Try.func20, Try.ntmps20
  go_wp2
  go_loopw [4, 3] (fun i v wr => ∃ k : Nat, (k = 0 ∨ (k : Int) ≤ n) ∧ i = .int .i64 k ∧ wr.ownsRow B 5 1 v k (List.replicate k (.int .u8 0)) ∧ Below B w wr) (fun i _ _ => n.toNat - (intOf i).toNat)
  case atStart => exact ⟨0, .inl rfl, rfl, World.ownsRow_made w #[] 0 (by rw [HB.out]; exact Nat.le_refl _) (by unfold maxLen; omega) rfl, below_alloc' (Below.refl _ _) (by rw [HB.out]; exact Nat.le_refl _) _⟩
  case round =>
    obtain ⟨k, hk, rfl, hown, hbel⟩ := hrel
    have hsz := hbel.size
    have HBw := Lib.hid (show B ≤ wr.heap.size by rw [HB.out] at hsz; exact hsz)
    clear hsz
    by_cases hlt : (k : Int) < n
    · go_wp2_with (first
        | (at_builtin; refine wpList_push rfl _ _ 41 rfl B 5 i0 (.int .u8 0) 1 Try.underlying41 hi hz0 hz1 hz2 rfl _ k _ wr.heap.size 1 (.int .u8 0) rfl (hown.alloc _) rfl ?c1 rfl ?c3 ?c4 ?c5 ?_))
      case c1 => exact World.cell?_alloc_mark _ _ _ _ _
      case c3 => unfold maxLen; omega
      case c4 => omega
      case c5 => have := HBw.out; simp; omega
      intro v' w1 hown1 hbel1 hnn
      have hbel2 := (hbel.alloc HBw.out (.cells #[.int .u8 0] 5)).trans hbel1
      have Hown := Lib.hid hown1; clear hown1 hbel1 hown
      go_wp2
      go_roundw
      case rel => exact ⟨k + 1, .inr (by omega), by go_num, by rw [List.replicate_succ']; exact Hown.out, hbel2⟩
      case measure => simp [intOf]; omega
    · have hkn : k = n.toNat := by omega
      have hc := conv_row (P := Try.prog) wr 41 9 5 Try.underlying41 Try.underlying5 Try.underlying9 B k u3 (List.replicate k 0) (by simp) (by simpa using hown)
      have Hkn := Lib.hid hkn; clear hkn hown
      go_wp2
      go_ret
      exact ⟨by rw [← Hkn.out]; rfl, by rw [← HB.out] at hbel ⊢; exact hbel⟩
end Go.Proofs.Ytnnmghhafjbioaa
