/- The reference's without. -/
import Derived.Test.YtdfadggdegojnaaDoorAt
import Derived.Test.YtdfadggdegojnaaDoorPlainD
namespace Go.Proofs.YtdfadggdegojnaaDoor
open Go.RowKit
set_option linter.unusedVariables false
set_option maxRecDepth 100000
theorem but_take (task : Int) (xs : List Nat) (k : Nat) (h : k < xs.length) : but task (xs.take (k + 1)) = if ((xs[k] : Nat) : Int) = task then but task (xs.take k) else but task (xs.take k) ++ [xs[k]] := by
  rw [← List.take_append_getElem h]
  unfold but
  rw [List.filter_append]
  split
  · rename_i e; simp [e]
  · rename_i e; simp [e]
attribute [local irreducible] ctz qCells lvl pushR cutR firstR total inR hd but
set_option maxHeartbeats 1000000 in
theorem without_any (w : World) (A : Option Addr) (cap : Nat) (xs : List Nat) (task : Int) (hlen : (xs.length : Int) ≤ 1000) (hcap : (xs.length : Int) ≤ cap) (hM : MemAt w A xs.length (rowM xs)) :
    Calls Tryd.prog 29 #[.slice A xs.length cap, .int .i64 task] w fun e w' => ∃ v, e = .returned v ∧ w'.ownsRow w.heap.size 3 1 v (but task xs).length (ints (but task xs)) ∧ Grow w w' := by
  have HM := Lib.hid hM; clear hM
  obtain ⟨i0, hi, hz0, hz1, hz2⟩ := info_parts info3
  have HI := Lib.hid hi; clear hi
  have HZ0 := Lib.hid hz0; clear hz0
  have HZ1 := Lib.hid hz1; clear hz1
  have HZ2 := Lib.hid hz2; clear hz2
  go_enter Tryd.func29, Tryd.ntmps29
  go_wp2_with fail
  have hO0 := World.ownsRow_made (base := w.heap.size) (e := 3) (size := 1) w #[] 0 (Nat.le_refl _) (by unfold maxLen; omega) rfl
  have hG0 := Grow.alloc w (.cells #[] 3)
  have HO0 := Lib.hid hO0; clear hO0
  have HG0 := Lib.hid hG0; clear hG0
  generalize w.alloc (.cells #[] 3) = w0 at HO0 HG0 ⊢
  have hb0 : but task [] = [] := by unfold but; rfl
  go_loopw [5, 6] (fun o i wr => ∃ k : Nat, k ≤ xs.length ∧ i = .int .i64 k ∧ wr.ownsRow w.heap.size 3 1 o (but task (xs.take k)).length (ints (but task (xs.take k))) ∧ Grow w wr) (fun _ i _ => xs.length - (intOf i).toNat)
  case atStart => exact ⟨0, by omega, rfl, by rw [List.take_zero, hb0]; exact HO0.out, HG0.out⟩
  case round =>
    obtain ⟨k, hk, rfl, hown, hg⟩ := hrel
    obtain ⟨oA, oc, rfl⟩ := own_form hown
    have HGr := Lib.hid hg; clear hg
    have HOWN := Lib.hid hown; clear hown
    by_cases hlt : k < xs.length
    · obtain ⟨a, hA, hm⟩ := (HM.out.grow HGr.out) (by omega)
      have m1 := hm k hlt
      have hbt := but_take task xs k hlt
      have hr : rowM xs k = ((xs[k] : Nat) : Int) := by simp [rowM, hlt]
      rw [hr] at m1
      rw [hA]
      clear hm hA hr
      generalize xs[k] = x at *
      have k0 : (0 : Int) ≤ (k : Int) := by omega
      have kn : (k : Int) < (xs.length : Int) := by omega
      by_cases hx : (x : Int) = task
      · rw [if_pos hx] at hbt
        have HBT := Lib.hid hbt; clear hbt
        rw [hx] at m1
        go_wp2_with fail
        go_roundw
        case rel => exact ⟨k + 1, by omega, by go_num, by rw [HBT.out]; exact HOWN.out, HGr.out⟩
        case measure => simp [intOf]; omega
      · rw [if_neg hx] at hbt
        have HBT := Lib.hid hbt; clear hbt
        have hxb : ((x : Int) != task) = true := by simpa using hx
        have hyl : (but task (xs.take k)).length ≤ xs.length := by
          unfold but
          exact Nat.le_trans (List.length_filter_le _ _) (by rw [List.length_take]; omega)
        generalize but task (xs.take k) = ys at *
        go_wp2_with (at_builtin; refine wpList_append_any _ rfl (.tmp 20) (.tmp 25) 22 rfl w.heap.size 3 i0 (.int .i64 0) 1 8 Tryd.underlying22 HI.out HZ0.out HZ1.out HZ2.out rfl (by decide) _ ys.length (ints ys) (by rfl) ?c1 (wr.alloc (.cells #[.int .i64 (x : Int)] 3)).heap.size (some ⟨wr.heap.size, 0, none⟩) 1 1 [.int .i64 (x : Int)] (by rfl) ?c2 ?c3 ?c4 ?c5 ?c6 ?c7)
        case c1 => exact own_alloc HOWN.out _
        case c2 =>
          have := Reads.of_own (World.ownsRow_lit (base := wr.heap.size) (e := 3) (size := 1) wr #[.int .i64 (x : Int)] 1 (Nat.le_refl _) (by unfold maxLen; omega) rfl)
          simpa using this
        case c3 => simp [Value.oneCell']
        case c4 => unfold maxLen; omega
        case c5 => omega
        case c6 => have := HGr.out.size; simp; omega
        case c7 =>
        intro v' w1 hown1 hgrow hblk
        have hG1 : Grow w w1 := Below.trans (HGr.out.trans (Grow.alloc wr (.cells #[.int .i64 (x : Int)] 3))) (below_grown hgrow (by have := HGr.out.size; simp; omega) (fun j hj => by
          rcases HOWN.out.2 with ⟨h1, h2⟩ | ⟨g, c, cur, h1, hB, _⟩
          · injection h1 with h1; rw [h1] at hj; simp [Value.ownBlock] at hj
          · injection h1 with h1; rw [h1] at hj; simp [Value.ownBlock] at hj; omega))
        rw [ints_snoc] at hown1
        have HO1 := Lib.hid hown1
        have HG1 := Lib.hid hG1
        clear hown1 hgrow hblk hG1
        obtain ⟨oA2, oc2, rfl⟩ := own_form HO1.out
        go_wp2_with fail
        go_roundw
        case rel => exact ⟨k + 1, by omega, by go_num, by rw [HBT.out, List.length_append]; exact HO1.out, HG1.out⟩
        case measure => simp [intOf]; omega
    · have kn : ¬ (k : Int) < (xs.length : Int) := by omega
      have hkx : k = xs.length := by omega
      subst hkx
      rw [List.take_length] at HOWN
      go_wp2
      go_ret
      exact ⟨_, rfl, HOWN.out, HGr.out⟩
end Go.Proofs.YtdfadggdegojnaaDoor
