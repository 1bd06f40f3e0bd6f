/- Texts of the proof, merged: Pipe. -/
import Derived.Test.YtnhmdinpfcoebaaGreatDoorM17
import Derived.Conc.LoneSelect
import Derived.Laws.Rows
/-! === Pipe -/
section
/- A pipe's calls: the walks, step by step. -/
namespace Go.Proofs.YtnhmdinpfcoebaaGreatDoor
open Go.RowKit
set_option linter.unusedVariables false
set_option linter.unusedSimpArgs false
set_option maxRecDepth 100000
open Go.Conc
/-- Chunks, as the pipe holds them. -/
def chunks (l : List ByteArray) : Array Value := (l.map Value.string).toArray
/-- A pipe: its chunks, so many at most. -/
structure PipeAt (w : World) (p c cap : Nat) (l : List ByteArray) (s r : Nat) : Prop where
  b : w.heap[p]? = some (.cells #[.chan (some c), .bool false] 58 (0, 0))
  c : w.heap[c]? = some (.chan cap (chunks l) false s r false)
theorem PipeAt.lt {w : World} {p c cap s r : Nat} {l : List ByteArray} (h : PipeAt w p c cap l s r) : c < w.heap.size := heapAt_lt h.c
theorem PipeAt.ne {w : World} {p c cap s r : Nat} {l : List ByteArray} (h : PipeAt w p c cap l s r) : p ≠ c := fun e => by
  have h1 := h.b
  rw [e, h.c] at h1
  injection h1 with h1
  cases h1
theorem only_setChan (w : World) (c cap : Nat) (buf : Array Value) (cl : Bool) (s r : Nat) (tm : Bool) : Only c w (w.setChan c cap buf cl s r tm) :=
  ⟨rfl, rfl, rfl, by simp [World.setChan], fun k hk hne => by simp only [World.setChan]; rw [Array.getElem?_setIfInBounds_ne (Ne.symm hne)]⟩
theorem chunks_push (l : List ByteArray) (x : ByteArray) : (chunks l).push (.string x) = chunks (l ++ [x]) := by
  unfold chunks
  rw [List.push_toArray, List.map_append]; rfl
theorem chunks_tail (x : ByteArray) (l : List ByteArray) : (chunks (x :: l)).extract 1 (chunks (x :: l)).size = chunks l := by
  unfold chunks
  simp only [List.map_cons, List.size_toArray, List.length_cons, List.length_map, List.extract_toArray, List.extract_eq_take_drop, List.drop_succ_cons, List.drop_zero, Nat.add_sub_cancel]
  rw [List.take_of_length_le (by simp)]
set_option maxRecDepth 100000 in
theorem offer_any {w : World} {p c cap s r : Nat} {l : List ByteArray} (x : ByteArray) (h : PipeAt w p c cap l s r) (hr : l.length < cap) : Calls Tryz.prog 30 #[.pointer (some ⟨p, 0, none⟩), .string x] w fun e w' =>
    e = .returned (.bool true) ∧ PipeAt w' p c cap (l ++ [x]) (s + 1) r ∧ Only c w w' := by
  have c0 := cell_block h.b 0
  have c1 := cell_block h.b 1
  simp at c0 c1
  have HH := Lib.hid h; clear h
  refine calls_of_loneTo fun cs => ?_
  have e : Frame.enter Tryz.prog 30 #[.pointer (some ⟨p, 0, none⟩), .string x] .normal = (base 30).at ⟨#[.pointer (some ⟨p, 0, none⟩), .string x, undef, undef, undef, undef, undef, undef, undef, undef, undef, undef, undef, undef, undef, undef, undef, undef, undef, undef, undef], []⟩ [.code (Tryz.f30.body.getD .skip)] := by
    simp [Frame.enter, Frame.at, Tryz.func30, base, Tryz.f30]
  rw [e]
  refine LoneTo.goes (n := 31) ?_
  simp only [Tryz.f30, Option.getD_some]
  s_c stepG_seq
  s_reg
  s_op
  s_c stepG_region_end
  s_c stepG_seq
  s_c stepG_seq
  s_reg
  s_op
  s_op
  s_op
  s_op
  s_op
  s_op
  s_op
  s_op
  s_c stepG_region_end
  s_cond false
  s_c stepG_skip
  s_c stepG_seq
  s_c stepG_seq
  s_reg
  s_op
  s_op
  s_op
  s_op
  s_c stepG_region_end
  s_reg
  s_op
  s_c stepG_region_end
  s_c stepG_seq
  s_reg
  s_stop
  refine LoneTo.step (step_lone_select_send_room (c := c) (cap := cap) (buf := chunks l) (s := s) (r := r) (tm := false) (stepG_comm (cases := #[scase c (.string x) (.string ⟨#[]⟩)]) (blocking := false) (shape := .select) (w' := w) rfl rfl (by decide) (by simp [go_sem, execOp, scase, Act.eval])) HH.out.c (by unfold chunks; simpa using hr)) ?_
  rw [Frame.finish_at]
  walk_nrm
  have HP := Lib.hid (show PipeAt (w.setChan c cap ((chunks l).push (.string x)) false (s + 1) r false) p c cap (l ++ [x]) (s + 1) r from
    ⟨(only_setChan w c cap _ _ _ _ _).at HH.out.ne HH.out.b, by rw [← chunks_push]; exact heap_setChan _ _ _ _ _ _ _ _ HH.out.lt⟩)
  have HO := Lib.hid (only_setChan w c cap ((chunks l).push (.string x)) false (s + 1) r false)
  generalize w.setChan c cap ((chunks l).push (.string x)) false (s + 1) r false = w2 at HP HO ⊢
  refine LoneTo.goes (n := 10) ?_
  s_op
  s_op
  s_c stepG_region_end
  s_c stepG_block
  s_cond true
  s_c stepG_seq
  s_reg
  s_op
  s_c stepG_region_end
  s_c stepG_ret'
  s_stop
  exact LoneTo.done ⟨.returned (.bool true), _, rfl, ⟨rfl, HP.out, HO.out⟩, rfl, rfl, rfl, rfl, _, Tryz.func30, by simp [results, Tryz.f30, Frame.at]⟩
set_option maxRecDepth 100000 in
theorem take_some {w : World} {p c cap s r : Nat} {x : ByteArray} {l : List ByteArray} (h : PipeAt w p c cap (x :: l) s r) : Calls Tryz.prog 31 #[.pointer (some ⟨p, 0, none⟩)] w fun e w' =>
    e = .returned (.tuple #[.string x, .bool true]) ∧ PipeAt w' p c cap l s (r + 1) ∧ Only c w w' := by
  have c0 := cell_block h.b 0
  simp at c0
  have HH := Lib.hid h; clear h
  refine calls_of_loneTo fun cs => ?_
  have e : Frame.enter Tryz.prog 31 #[.pointer (some ⟨p, 0, none⟩)] .normal = (base 31).at ⟨#[.pointer (some ⟨p, 0, none⟩), undef, undef, undef, undef, undef, undef, undef, undef, undef, undef, undef, undef, undef, undef, undef, undef, undef, undef], []⟩ [.code (Tryz.f31.body.getD .skip)] := by
    simp [Frame.enter, Frame.at, Tryz.func31, base, Tryz.f31]
  rw [e]
  refine LoneTo.goes (n := 22) ?_
  simp only [Tryz.f31, Option.getD_some]
  s_c stepG_seq
  s_reg
  s_op
  s_op
  s_c stepG_region_end
  s_c stepG_seq
  s_c stepG_seq
  s_reg
  s_op
  s_op
  s_c stepG_region_end
  s_cond false
  s_c stepG_skip
  s_c stepG_seq
  s_reg
  s_op
  s_op
  s_op
  s_op
  s_c stepG_region_end
  s_c stepG_seq
  s_reg
  s_stop
  refine LoneTo.step (step_lone_select_recv_buf (c := c) (z := .string ⟨#[]⟩) (cap := cap) (buf := chunks (x :: l)) (closed := false) (s := s) (r := r) (tm := false) (stepG_comm (cases := #[rcase c (.string ⟨#[]⟩)]) (blocking := false) (shape := .select) (w' := w) rfl rfl (by decide) (by simp [go_sem, execOp, rcase, Act.eval])) HH.out.c (by unfold chunks; simp)) ?_
  rw [Frame.finish_at, chunks_tail, show (chunks (x :: l)).getD 0 undef = .string x from rfl]
  walk_nrm
  have HP := Lib.hid (show PipeAt (w.setChan c cap (chunks l) false s (r + 1) false) p c cap l s (r + 1) from
    ⟨(only_setChan w c cap _ _ _ _ _).at HH.out.ne HH.out.b, heap_setChan _ _ _ _ _ _ _ _ HH.out.lt⟩)
  have HO := Lib.hid (only_setChan w c cap (chunks l) false s (r + 1) false)
  generalize w.setChan c cap (chunks l) false s (r + 1) false = w2 at HP HO ⊢
  refine LoneTo.goes (n := 20) ?_
  s_op
  s_op
  s_c stepG_region_end
  s_c stepG_block
  s_cond true
  s_c stepG_seq
  s_reg
  s_op
  s_op
  s_op
  s_op
  s_c stepG_region_end
  s_c stepG_seq
  s_reg
  s_op
  s_op
  s_op
  s_op
  s_c stepG_region_end
  s_c stepG_ret'
  s_stop
  exact LoneTo.done ⟨.returned (.tuple #[.string x, .bool true]), _, rfl, ⟨rfl, HP.out, HO.out⟩, rfl, rfl, rfl, rfl, _, Tryz.func31, by simp [results, Tryz.f31, Frame.at]⟩
set_option maxRecDepth 100000 in
theorem take_none {w : World} {p c cap s r : Nat} (h : PipeAt w p c cap [] s r) : Calls Tryz.prog 31 #[.pointer (some ⟨p, 0, none⟩)] w fun e w' =>
    e = .returned (.tuple #[.string ⟨#[]⟩, .bool false]) ∧ w' = w := by
  have c0 := cell_block h.b 0
  simp at c0
  have HH := Lib.hid h; clear h
  refine calls_of_loneTo fun cs => ?_
  have e : Frame.enter Tryz.prog 31 #[.pointer (some ⟨p, 0, none⟩)] .normal = (base 31).at ⟨#[.pointer (some ⟨p, 0, none⟩), undef, undef, undef, undef, undef, undef, undef, undef, undef, undef, undef, undef, undef, undef, undef, undef, undef, undef], []⟩ [.code (Tryz.f31.body.getD .skip)] := by
    simp [Frame.enter, Frame.at, Tryz.func31, base, Tryz.f31]
  rw [e]
  refine LoneTo.goes (n := 22) ?_
  simp only [Tryz.f31, Option.getD_some]
  s_c stepG_seq
  s_reg
  s_op
  s_op
  s_c stepG_region_end
  s_c stepG_seq
  s_c stepG_seq
  s_reg
  s_op
  s_op
  s_c stepG_region_end
  s_cond false
  s_c stepG_skip
  s_c stepG_seq
  s_reg
  s_op
  s_op
  s_op
  s_op
  s_c stepG_region_end
  s_c stepG_seq
  s_reg
  s_stop
  refine LoneTo.step (step_lone_select_default (c := c) (z := .string ⟨#[]⟩) (cap := cap) (s := s) (r := r) (tm := false) (stepG_comm (cases := #[rcase c (.string ⟨#[]⟩)]) (blocking := false) (shape := .select) (w' := w) rfl rfl (by decide) (by simp [go_sem, execOp, rcase, Act.eval])) HH.out.c) ?_
  rw [Frame.finish_at]
  walk_nrm
  refine LoneTo.goes (n := 11) ?_
  s_op
  s_op
  s_c stepG_region_end
  s_c stepG_block
  s_cond false
  s_c stepG_seq
  s_reg
  s_op
  s_op
  s_c stepG_region_end
  s_c stepG_ret'
  s_stop
  exact LoneTo.done ⟨.returned (.tuple #[.string ⟨#[]⟩, .bool false]), _, rfl, ⟨rfl, rfl⟩, rfl, rfl, rfl, rfl, _, Tryz.func31, by simp [results, Tryz.f31, Frame.at]⟩
theorem bytes9 : ∃ i, Tryz.prog.info? 9 = some i ∧ i.bytes = 16 := by
  have h : (Tryz.prog.info? 9).map (·.bytes) = some 16 := by kernel_rfl
  obtain ⟨i, hi, hb⟩ := Option.map_eq_some_iff.1 h
  exact ⟨i, hi, hb⟩
theorem mkchan (w : World) (n : Nat) (hn : n ≤ 64) : (Instr.makeChan 56 (.int .i64 n)).run Tryz.prog w = .ok (.chan (some w.heap.size)) (w.alloc (.chan n #[] false 0 0 false)) := by
  obtain ⟨i, hi, hb⟩ := bytes9
  simpa using run_makeChan (P := Tryz.prog) (w := w) Tryz.underlying56 hi .i64 n (by omega) (by rw [hb]; omega)
theorem pnew_any (w : World) (n : Nat) (h1 : 1 ≤ n) (h2 : n ≤ 64) : Calls Tryz.prog 4 #[.int .i64 n] w fun e w' => e = .returned (.tuple #[.pointer (some ⟨w.heap.size + 1, 0, none⟩), .int .i64 0]) ∧ PipeAt w' (w.heap.size + 1) w.heap.size n [] 0 0 ∧ Grow w w' := by
  have hmc := mkchan w n h2
  have i1 : ¬ (n : Int) < 1 := by omega
  have i2 : ¬ (64 : Int) < (n : Int) := by omega
  go_enter Tryz.func4, Tryz.ntmps4
  go_wp2
  go_ret2
  have hg := Grow.alloc w (.chan n #[] false 0 0 false)
  refine ⟨by simp, ⟨?_, ?_⟩, hg.trans (Grow.alloc _ _)⟩
  · have h := heapAt_alloc_new (w.alloc (.chan n #[] false 0 0 false)) (.cells #[.chan (some w.heap.size), .bool false] 58)
    simpa using h
  · exact (Grow.alloc _ _).at (heapAt_alloc_new w (.chan n #[] false 0 0 false))
theorem pnew_no (w : World) (n : Int) (h : n < 1 ∨ 64 < n) : Calls Tryz.prog 4 #[.int .i64 n] w fun e w' => e = .returned (.tuple #[.pointer none, .int .i64 1]) ∧ w' = w := by
  rcases h with h | h
  · go_enter Tryz.func4, Tryz.ntmps4
    go_wp2
    go_ret2
    exact ⟨rfl, rfl⟩
  · have i1 : ¬ n < 1 := by omega
    go_enter Tryz.func4, Tryz.ntmps4
    go_wp2
    go_ret2
    exact ⟨rfl, rfl⟩
end Go.Proofs.YtnhmdinpfcoebaaGreatDoor
end
