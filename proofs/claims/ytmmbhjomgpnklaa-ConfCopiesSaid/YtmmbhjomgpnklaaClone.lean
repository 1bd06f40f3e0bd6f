/- The four Clones. -/
import Derived.Test.YtmmbhjomgpnklaaSys
namespace Go.Proofs.Ytmmbhjomgpnklaa
open Go.RowKit
set_option linter.unusedVariables false
set_option linter.unusedSimpArgs false
set_option maxRecDepth 100000
theorem info_parts {o : Option TypeInfo} {z : Option Value} {s b : Nat} (h : o.map (fun i => (i.zero, i.size, i.bytes)) = some (z, s, b)) : ∃ i, o = some i ∧ i.zero = z ∧ i.size = s ∧ i.bytes = b := by
  cases o with
  | none => cases h
  | some i =>
    simp at h
    exact ⟨i, rfl, h.1, h.2.1, h.2.2⟩
/-- All cells of a row are single. -/
def Ones (f : Nat → List Value) : Prop := ∀ j, ∀ u ∈ f j, u.oneCell' = true
theorem row_ones {f : Nat → List Value} (h : Ones f) : ∀ n, ∀ u ∈ rowCells f n, u.oneCell' = true
  | 0, u, hu => by simp [rowCells] at hu
  | n + 1, u, hu => by
    rw [rowCells, List.mem_append] at hu
    rcases hu with hu | hu
    · exact row_ones h n u hu
    · exact h n u hu
theorem info39z : (Try.prog.info? 39).map (fun i => (i.zero, i.size, i.bytes)) = some (some (.agg #[.int .i64 0, .int .i64 0, .int .i64 0, .int .i64 0, .int .i64 0, .slice none 0 0]), 6, 64) := by kernel_rfl
set_option maxHeartbeats 2000000 in
theorem clone22_any (w : World) (A : Option Addr) (n cap : Nat) (f : Nat → List Value) (hf : ∀ j, (f j).length = 6) (ho : Ones f) (hn : (n : Int) ≤ 100000) (hR : RowAt w A n 6 f) :
    Calls Try.prog 23 #[.slice A n cap] w fun e w' => ∃ v, e = .returned v ∧ w'.ownsRow w.heap.size 39 6 v n (rowCells f n) ∧ Grow w w' := by
  cases A with
  | none =>
    have h0 : n = 0 := by
      rcases Nat.eq_zero_or_pos n with h | h
      · exact h
      · obtain ⟨a, h1, _⟩ := hR h; cases h1
    subst h0
    clear hR
    have hq : Sem.run Try.prog (binOp .eql 22 (.slice none 0 cap) (.slice none 0 0)) w = .ok (.bool true) w := by
      have := run_equal_slice_nil (P := Try.prog) w 22 39 none 0 cap Try.underlying22
      simp [binOp, this]
    go_enter Try.func23, Try.ntmps23
    go_wp2
    go_ret
    exact ⟨_, rfl, ⟨rfl, .inl ⟨rfl, rfl⟩⟩, Grow.refl _⟩
  | some ad =>
    obtain ⟨i0, hi, hz0, hz1, hz2⟩ := info_parts info39z
    have HR := Lib.hid (hR.reads hf (by decide)); clear hR
    have HO := Lib.hid ho; clear ho
    have HF := Lib.hid hf; clear hf
    have hq : Sem.run Try.prog (binOp .eql 22 (.slice (some ad) n cap) (.slice none 0 0)) w = .ok (.bool false) w := by
      have := run_equal_slice_nil (P := Try.prog) w 22 39 (some ad) n cap Try.underlying22
      simp [binOp, this]
    go_enter Try.func23, Try.ntmps23
    go_wp2_with (at_builtin; refine wpList_append_any _ rfl (.tmp 5) (.tmp 6) 22 rfl w.heap.size 39 i0 (.agg #[.int .i64 0, .int .i64 0, .int .i64 0, .int .i64 0, .int .i64 0, .slice none 0 0]) 6 64 Try.underlying22 hi hz0 hz1 hz2 rfl (by decide) _ 0 [] (by rfl) ?c1 w.heap.size (some ad) n cap (rowCells f n) (by rfl) ?c2 ?c3 ?c4 ?c5 ?c6 ?c7)
    case c1 => exact World.ownsRow_made (base := w.heap.size) (e := 39) (size := 6) w #[] 0 (Nat.le_refl _) (by unfold maxLen; omega) rfl
    case c2 => exact HR.out.alloc (Nat.le_refl _) _
    case c3 => exact row_ones HO.out n
    case c4 => unfold maxLen; omega
    case c5 => omega
    case c6 => simp
    case c7 =>
      intro v' w1 hown1 hgrow hblk
      have hg : Grow w w1 := Below.trans (Grow.alloc w (.cells #[] 39)) (below_grown hgrow (by simp) (fun k hk => by simp [Value.ownBlock] at hk; omega))
      go_wp2
      go_ret
      exact ⟨v', rfl, hown1, hg⟩
theorem info43z : (Try.prog.info? 43).map (fun i => (i.zero, i.size, i.bytes)) = some (some (.agg #[.int .i64 0, .slice none 0 0]), 2, 32) := by kernel_rfl
set_option maxHeartbeats 2000000 in
theorem clone23_any (w : World) (A : Option Addr) (n cap : Nat) (f : Nat → List Value) (hf : ∀ j, (f j).length = 2) (ho : Ones f) (hn : (n : Int) ≤ 100000) (hR : RowAt w A n 2 f) :
    Calls Try.prog 24 #[.slice A n cap] w fun e w' => ∃ v, e = .returned v ∧ w'.ownsRow w.heap.size 43 2 v n (rowCells f n) ∧ Grow w w' := by
  cases A with
  | none =>
    have h0 : n = 0 := by
      rcases Nat.eq_zero_or_pos n with h | h
      · exact h
      · obtain ⟨a, h1, _⟩ := hR h; cases h1
    subst h0
    clear hR
    have hq : Sem.run Try.prog (binOp .eql 23 (.slice none 0 cap) (.slice none 0 0)) w = .ok (.bool true) w := by
      have := run_equal_slice_nil (P := Try.prog) w 23 43 none 0 cap Try.underlying23
      simp [binOp, this]
    go_enter Try.func24, Try.ntmps24
    go_wp2
    go_ret
    exact ⟨_, rfl, ⟨rfl, .inl ⟨rfl, rfl⟩⟩, Grow.refl _⟩
  | some ad =>
    obtain ⟨i0, hi, hz0, hz1, hz2⟩ := info_parts info43z
    have HR := Lib.hid (hR.reads hf (by decide)); clear hR
    have HO := Lib.hid ho; clear ho
    have HF := Lib.hid hf; clear hf
    have hq : Sem.run Try.prog (binOp .eql 23 (.slice (some ad) n cap) (.slice none 0 0)) w = .ok (.bool false) w := by
      have := run_equal_slice_nil (P := Try.prog) w 23 43 (some ad) n cap Try.underlying23
      simp [binOp, this]
    go_enter Try.func24, Try.ntmps24
    go_wp2_with (at_builtin; refine wpList_append_any _ rfl (.tmp 5) (.tmp 6) 23 rfl w.heap.size 43 i0 (.agg #[.int .i64 0, .slice none 0 0]) 2 32 Try.underlying23 hi hz0 hz1 hz2 rfl (by decide) _ 0 [] (by rfl) ?c1 w.heap.size (some ad) n cap (rowCells f n) (by rfl) ?c2 ?c3 ?c4 ?c5 ?c6 ?c7)
    case c1 => exact World.ownsRow_made (base := w.heap.size) (e := 43) (size := 2) w #[] 0 (Nat.le_refl _) (by unfold maxLen; omega) rfl
    case c2 => exact HR.out.alloc (Nat.le_refl _) _
    case c3 => exact row_ones HO.out n
    case c4 => unfold maxLen; omega
    case c5 => omega
    case c6 => simp
    case c7 =>
      intro v' w1 hown1 hgrow hblk
      have hg : Grow w w1 := Below.trans (Grow.alloc w (.cells #[] 43)) (below_grown hgrow (by simp) (fun k hk => by simp [Value.ownBlock] at hk; omega))
      go_wp2
      go_ret
      exact ⟨v', rfl, hown1, hg⟩
theorem info41z : (Try.prog.info? 41).map (fun i => (i.zero, i.size, i.bytes)) = some (some (.agg #[.int .i64 0, .int .i64 0, .int .i64 0, .int .i64 0, .int .i64 0, .int .u32 0]), 6, 48) := by kernel_rfl
set_option maxHeartbeats 2000000 in
theorem clone37_any (w : World) (A : Option Addr) (n cap : Nat) (f : Nat → List Value) (hf : ∀ j, (f j).length = 6) (ho : Ones f) (hn : (n : Int) ≤ 100000) (hR : RowAt w A n 6 f) :
    Calls Try.prog 25 #[.slice A n cap] w fun e w' => ∃ v, e = .returned v ∧ w'.ownsRow w.heap.size 41 6 v n (rowCells f n) ∧ Grow w w' := by
  cases A with
  | none =>
    have h0 : n = 0 := by
      rcases Nat.eq_zero_or_pos n with h | h
      · exact h
      · obtain ⟨a, h1, _⟩ := hR h; cases h1
    subst h0
    clear hR
    have hq : Sem.run Try.prog (binOp .eql 37 (.slice none 0 cap) (.slice none 0 0)) w = .ok (.bool true) w := by
      have := run_equal_slice_nil (P := Try.prog) w 37 41 none 0 cap Try.underlying37
      simp [binOp, this]
    go_enter Try.func25, Try.ntmps25
    go_wp2
    go_ret
    exact ⟨_, rfl, ⟨rfl, .inl ⟨rfl, rfl⟩⟩, Grow.refl _⟩
  | some ad =>
    obtain ⟨i0, hi, hz0, hz1, hz2⟩ := info_parts info41z
    have HR := Lib.hid (hR.reads hf (by decide)); clear hR
    have HO := Lib.hid ho; clear ho
    have HF := Lib.hid hf; clear hf
    have hq : Sem.run Try.prog (binOp .eql 37 (.slice (some ad) n cap) (.slice none 0 0)) w = .ok (.bool false) w := by
      have := run_equal_slice_nil (P := Try.prog) w 37 41 (some ad) n cap Try.underlying37
      simp [binOp, this]
    go_enter Try.func25, Try.ntmps25
    go_wp2_with (at_builtin; refine wpList_append_any _ rfl (.tmp 5) (.tmp 6) 37 rfl w.heap.size 41 i0 (.agg #[.int .i64 0, .int .i64 0, .int .i64 0, .int .i64 0, .int .i64 0, .int .u32 0]) 6 48 Try.underlying37 hi hz0 hz1 hz2 rfl (by decide) _ 0 [] (by rfl) ?c1 w.heap.size (some ad) n cap (rowCells f n) (by rfl) ?c2 ?c3 ?c4 ?c5 ?c6 ?c7)
    case c1 => exact World.ownsRow_made (base := w.heap.size) (e := 41) (size := 6) w #[] 0 (Nat.le_refl _) (by unfold maxLen; omega) rfl
    case c2 => exact HR.out.alloc (Nat.le_refl _) _
    case c3 => exact row_ones HO.out n
    case c4 => unfold maxLen; omega
    case c5 => omega
    case c6 => simp
    case c7 =>
      intro v' w1 hown1 hgrow hblk
      have hg : Grow w w1 := Below.trans (Grow.alloc w (.cells #[] 41)) (below_grown hgrow (by simp) (fun k hk => by simp [Value.ownBlock] at hk; omega))
      go_wp2
      go_ret
      exact ⟨v', rfl, hown1, hg⟩
theorem info3z : (Try.prog.info? 3).map (fun i => (i.zero, i.size, i.bytes)) = some (some (.int .i64 0), 1, 8) := by kernel_rfl
set_option maxHeartbeats 2000000 in
theorem clone24_any (w : World) (A : Option Addr) (n cap : Nat) (f : Nat → List Value) (hf : ∀ j, (f j).length = 1) (ho : Ones f) (hn : (n : Int) ≤ 100000) (hR : RowAt w A n 1 f) :
    Calls Try.prog 26 #[.slice A n cap] w fun e w' => ∃ v, e = .returned v ∧ w'.ownsRow w.heap.size 3 1 v n (rowCells f n) ∧ Grow w w' := by
  cases A with
  | none =>
    have h0 : n = 0 := by
      rcases Nat.eq_zero_or_pos n with h | h
      · exact h
      · obtain ⟨a, h1, _⟩ := hR h; cases h1
    subst h0
    clear hR
    have hq : Sem.run Try.prog (binOp .eql 24 (.slice none 0 cap) (.slice none 0 0)) w = .ok (.bool true) w := by
      have := run_equal_slice_nil (P := Try.prog) w 24 3 none 0 cap Try.underlying24
      simp [binOp, this]
    go_enter Try.func26, Try.ntmps26
    go_wp2
    go_ret
    exact ⟨_, rfl, ⟨rfl, .inl ⟨rfl, rfl⟩⟩, Grow.refl _⟩
  | some ad =>
    obtain ⟨i0, hi, hz0, hz1, hz2⟩ := info_parts info3z
    have HR := Lib.hid (hR.reads hf (by decide)); clear hR
    have HO := Lib.hid ho; clear ho
    have HF := Lib.hid hf; clear hf
    have hq : Sem.run Try.prog (binOp .eql 24 (.slice (some ad) n cap) (.slice none 0 0)) w = .ok (.bool false) w := by
      have := run_equal_slice_nil (P := Try.prog) w 24 3 (some ad) n cap Try.underlying24
      simp [binOp, this]
    go_enter Try.func26, Try.ntmps26
    go_wp2_with (at_builtin; refine wpList_append_any _ rfl (.tmp 5) (.tmp 6) 24 rfl w.heap.size 3 i0 (.int .i64 0) 1 8 Try.underlying24 hi hz0 hz1 hz2 rfl (by decide) _ 0 [] (by rfl) ?c1 w.heap.size (some ad) n cap (rowCells f n) (by rfl) ?c2 ?c3 ?c4 ?c5 ?c6 ?c7)
    case c1 => exact World.ownsRow_made (base := w.heap.size) (e := 3) (size := 1) w #[] 0 (Nat.le_refl _) (by unfold maxLen; omega) rfl
    case c2 => exact HR.out.alloc (Nat.le_refl _) _
    case c3 => exact row_ones HO.out n
    case c4 => unfold maxLen; omega
    case c5 => omega
    case c6 => simp
    case c7 =>
      intro v' w1 hown1 hgrow hblk
      have hg : Grow w w1 := Below.trans (Grow.alloc w (.cells #[] 3)) (below_grown hgrow (by simp) (fun k hk => by simp [Value.ownBlock] at hk; omega))
      go_wp2
      go_ret
      exact ⟨v', rfl, hown1, hg⟩

end Go.Proofs.Ytmmbhjomgpnklaa
