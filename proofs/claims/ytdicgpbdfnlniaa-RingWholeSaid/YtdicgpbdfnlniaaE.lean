/- New, text, and awake. -/
import Derived.Test.YtdicgpbdfnlniaaD
namespace Go.Proofs.Ytdicgpbdfnlniaa
open Go.RowKit
set_option linter.unusedVariables false
set_option linter.unusedSimpArgs false
set_option maxRecDepth 100000
theorem roomC_zero (n : Nat) : outC n 0 (fun _ => 0) = roomC n (fun _ => 0) := by
  unfold outC roomC
  simp
def s0 : RG := ⟨[], false, []⟩
theorem new_at (w : World) (cap : Nat) (pol : Int) (h1 : 179 ≤ cap) (h2 : cap ≤ 1048576) (w1 w2 : World) (e1 : w1 = w.alloc (.cells (outC cap 0 (fun _ => 0)) 5)) (e2 : w2 = w1.alloc (.cells #[.slice (some ⟨w.heap.size, 0, none⟩) cap cap, .int .i64 pol, .int .i64 0, .slice none 0 0, .int .i64 0, .bool false, .int .u64 0] 48)) (base : Nat) (hb : base ≤ w.heap.size) :
    RingAt w2 base w1.heap.size w.heap.size cap pol s0 ∧ Grow w w2 := by
  have hz : w1.heap.size = w.heap.size + 1 := by rw [e1]; simp
  refine ⟨⟨h1, h2, wf_start cap, 0, fun _ => 0, none, 0, ⟨by omega, hb, ?_, ?_, SzAt.nil _ _⟩, by omega, fun i hi => by simp [s0, RG.bytes] at hi⟩, ?_⟩
  · rw [e2]
    exact heapAt_alloc_new w1 _
  · rw [e2, heapAt_alloc_old w1 _ (by omega), e1, heapAt_alloc_new, roomC_zero]
  · rw [e2, e1]
    exact Grow.trans (Grow.alloc w _) (Grow.alloc _ _)
def ce (c : Nat) (n : Nat) : List UInt8 := List.replicate n (UInt8.ofNat c)
attribute [local irreducible] roomC ringC strOf outC RingAt
theorem new_bad (w : World) (cap pol : Int) (h : cap < 179 ∨ 1048576 < cap ∨ (pol ≠ 0 ∧ pol ≠ 1)) : Calls Try.prog 8 #[.int .i64 cap, .int .i64 pol] w fun e w' => e = .returned (.tuple #[.pointer none, .int .i64 1]) ∧ w' = w := by
  by_cases h1 : cap < 179
  · clear h
    go_enter Try.func8, Try.ntmps8
    go_wp2
    go_ret2
    exact ⟨rfl, rfl⟩
  by_cases h2 : 1048576 < cap
  · clear h
    go_enter Try.func8, Try.ntmps8
    go_wp2
    go_ret2
    exact ⟨rfl, rfl⟩
  have h3 : pol ≠ 0 := by omega
  have h4 : pol ≠ 1 := by omega
  have b3 : (pol != 0) = true := by simpa using h3
  have b4 : (pol != 1) = true := by simpa using h4
  clear h
  go_enter Try.func8, Try.ntmps8
  go_wp2
  go_ret2
  exact ⟨rfl, rfl⟩
theorem new_ok (w : World) (base cap : Nat) (pol : Int) (h1 : 179 ≤ cap) (h2 : cap ≤ 1048576) (hp : pol = 0 ∨ pol = 1) (hb : base ≤ w.heap.size) : Calls Try.prog 8 #[.int .i64 cap, .int .i64 pol] w fun e w' => ∃ r g, e = .returned (.tuple #[.pointer (some ⟨r, 0, none⟩), .int .i64 0]) ∧ RingAt w' base r g cap pol s0 ∧ Grow w w' := by
  have hn := Lib.hid (fun (w1 w2 : World) e1 e2 => new_at w cap pol h1 h2 w1 w2 e1 e2 base hb)
  have hmk := make_run cap (by omega) (fun _ => 0) w
  have i1 : ¬ (cap : Int) < 179 := by omega
  have i2 : ¬ (1048576 : Int) < (cap : Int) := by omega
  clear h1 h2
  rcases hp with rfl | rfl
  · go_enter Try.func8, Try.ntmps8
    go_wp2
    go_ret2
    have h := hn.out _ _ rfl rfl
    rw [show (w.alloc (.cells (outC cap 0 fun x => 0) 5)).heap.size = w.heap.size + 1 by simp] at h
    exact ⟨_, rfl, ⟨_, h.1⟩, h.2⟩
  · go_enter Try.func8, Try.ntmps8
    go_wp2
    go_ret2
    have h := hn.out _ _ rfl rfl
    rw [show (w.alloc (.cells (outC cap 0 fun x => 0) 5)).heap.size = w.heap.size + 1 by simp] at h
    exact ⟨_, rfl, ⟨_, h.1⟩, h.2⟩
set_option maxHeartbeats 2000000 in
theorem text_any (w : World) (c : Nat) (ci : Int) (n : Nat) (ni : Int) (hni : ni = (n : Int)) (hci : ci = ((UInt8.ofNat c).toNat : Int)) (hn : n ≤ 1000) : Calls Try.prog 20 #[.int .u8 ci, .int .i64 ni] w fun e w' => e = .returned (strOf (ce c n)) ∧ Grow w w' := by
  subst hni
  have hmk := make_run n (by omega) (fun i => UInt8.ofNat c) w
  have hg0 := heapAt_alloc_new w (.cells (outC n 0 fun i => UInt8.ofNat c) 5)
  have hgr := Grow.alloc w (.cells (outC n 0 fun i => UInt8.ofNat c) 5)
  have hpk : ce c n = (List.range n).map fun i => UInt8.ofNat c := by
    unfold ce
    apply List.ext_getElem
    · simp
    · intro i h1 h2; simp
  rw [hpk]
  clear hpk
  generalize UInt8.ofNat c = u at *
  go_enter Try.func20, Try.ntmps20
  go_wp2_with fail
  clear hmk
  generalize w.alloc _ = w0 at hg0 hgr ⊢
  have hlt : w.heap.size < w0.heap.size := heapAt_lt hg0
  have HGR0 := Lib.hid hgr; clear hgr
  have HG0 := Lib.hid hg0; clear hg0
  have HCI := Lib.hid hci
  generalize hbb : w.heap.size = b0 at *
  have HBB := Lib.hid hbb; clear hbb
  go_loopw [11, 6] (fun i _ wr => ∃ k : Nat, k ≤ n ∧ i = .int .i64 k ∧ wr.heap[b0]? = some (.cells (outC n k fun i => u) 5 (0, 0)) ∧ Grow w wr) (fun i _ _ => n - (intOf i).toNat)
  case atStart => exact ⟨0, by omega, rfl, HG0.out, HGR0.out⟩
  case round =>
    obtain ⟨k, hk, rfl, hout, hgr⟩ := hrel
    have HGR := Lib.hid hgr; clear hgr
    have HOUT := Lib.hid hout; clear hout
    by_cases hlt2 : k < n
    · have o1 := (cell_block HOUT.out k).trans (outC_at n k _ k hlt2)
      rw [if_neg (Nat.lt_irrefl k)] at o1
      have hfo := free_block HOUT.out k
      have k0 : (0 : Int) ≤ (k : Int) := by omega
      have kn : (k : Int) < (n : Int) := by omega
      have hset := set_block HOUT.out k (.int .u8 (u.toNat : Int))
      have hset2 : (wr.setCell ⟨b0, k, none⟩ (.int .u8 (u.toNat : Int))).heap[b0]? = some (.cells (outC n (k + 1) fun i => u) 5 (0, 0)) := by rw [hset]; exact congrArg (fun a => some (Obj.cells a 5 (0, 0))) (outC_set n k (fun _ => u))
      have hg3 : Grow w (wr.setCell ⟨b0, k, none⟩ (.int .u8 (u.toNat : Int))) := Below.setCell (p := ⟨b0, k, none⟩) HGR.out (by rw [HBB.out]; exact Nat.le_refl b0) _
      have HS2 := Lib.hid hset2
      have HG3 := Lib.hid hg3
      clear hset hset2 hg3
      go_wp2_with fail
      go_roundw
      case rel => exact ⟨k + 1, by omega, by go_num, HS2.out, HG3.out⟩
      case measure => simp [intOf]; omega
    · have kn : ¬ (k : Int) < (n : Int) := by omega
      have hkn : k = n := by omega
      subst hkn
      have hcv := conv_out wr b0 k _ (by unfold maxLen; omega) HOUT.out
      go_wp2
      go_ret
      exact ⟨rfl, HGR.out⟩
end Go.Proofs.Ytdicgpbdfnlniaa
