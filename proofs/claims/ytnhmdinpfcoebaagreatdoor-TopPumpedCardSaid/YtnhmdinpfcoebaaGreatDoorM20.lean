/- Texts of the proof, merged: RingA, RingB, RingC, RingD, RingE. -/
import Derived.Test.YtnhmdinpfcoebaaGreatDoorM19
import Derived.StillTailTactics
import Derived.BigRegion
import Derived.Deep.DeepCutAuto
import Derived.WalkMore
/-! === RingA -/
section
/- The walks of rest, peek, lay and the small ones. -/
namespace Go.Proofs.YtnhmdinpfcoebaaGreatDoor.Rg
open Go.RowKit
set_option linter.unusedVariables false
set_option linter.unusedSimpArgs false
set_option maxRecDepth 100000
/-- A row of bytes of which k are laid. -/
def outC (n k : Nat) (f : Nat → UInt8) : Array Value := Array.ofFn (n := n) fun i => .int .u8 ((if i.val < k then f i.val else 0 : UInt8).toNat : Int)
theorem outC_set (n k : Nat) (f : Nat → UInt8) : (outC n k f).setIfInBounds k (.int .u8 ((f k).toNat : Int)) = outC n (k + 1) f := by
  apply Array.ext
  · simp [outC]
  · intro j h1 h2
    rw [Array.getElem_setIfInBounds (by simpa using h1)]
    by_cases e : k = j
    · subst e; simp [outC]
    · have : (j < k + 1) ↔ (j < k) := by omega
      simp [outC, e, this]
theorem outC_at (n k : Nat) (f : Nat → UInt8) (i : Nat) (h : i < n) : (outC n k f)[i]? = some (.int .u8 ((if i < k then f i else 0 : UInt8).toNat : Int)) := by simp [outC, h]
theorem made_cells (n : Nat) (f : Nat → UInt8) : madeCells (Value.cells (.int .u8 0)) n = outC n 0 f := by
  apply Array.ext
  · simp [madeCells, outC]
  · intro i h1 h2
    simp [madeCells, Value.cells, Nat.mod_one, outC]
theorem make_run (n : Nat) (hn : (n : Int) ≤ 10000000) (f : Nat → UInt8) (w : World) : (Instr.makeSlice 59 (.int .i64 (n : Int)) (.int .i64 (n : Int))).run Tryz.prog w = .ok (.slice (some ⟨w.heap.size, 0, none⟩) n n) (w.alloc (.cells (outC n 0 f) 5)) := by
  obtain ⟨i0, hi, hz0, hz1, hz2⟩ := info_parts info5
  have h := run_makeSlice (P := Tryz.prog) w 59 5 i0 (.int .u8 0) Tryz.underlying59 hi hz0 .i64 .i64 (n : Int) (n : Int) (by omega) (by omega) (by rw [hz1]; omega) (by rw [hz2]; omega) (by omega)
  rw [hz1, Int.toNat_natCast, Nat.mul_one, made_cells n f] at h
  exact h
/-- The string out of such a row. -/
def strOf (l : List UInt8) : Value := .string ⟨l.toArray⟩
theorem conv_out (w : World) (g n : Nat) (f : Nat → UInt8) (hn : n ≤ maxLen) (h : w.heap[g]? = some (.cells (outC n n f) 5 (0, 0))) : (convert 59 9 (.slice (some ⟨g, 0, none⟩) n n)).run Tryz.prog w = .ok (strOf ((List.range n).map f)) w := by
  refine conv_row w 59 9 5 Tryz.underlying59 Tryz.underlying5 Tryz.underlying9 0 n _ ((List.range n).map f) (by simp) ⟨by simp, .inr ⟨g, n, _, rfl, Nat.zero_le _, h, Nat.le_refl _, hn, by simp [outC], ?_⟩⟩
  apply List.ext_getElem
  · simp [outC]
  · intro i h1 h2
    simp [outC] at h1 ⊢
theorem ba_get (t : List UInt8) (k : Nat) (h : k < (ByteArray.mk t.toArray).size) : (ByteArray.mk t.toArray)[k]'h = t.getD k 0 := by
  have h' : k < t.length := by simpa [ByteArray.size] using h
  show t.toArray[k] = _
  simp [h']
attribute [local irreducible] outC roomC ringC peekR layR strOf
section
variable {w : World} {base r g cap head c used lost : Nat} {pol : Int} {R : Nat → UInt8} {A : Option Addr} {zs : List Nat} {begun : Bool}
theorem rest_any (h : RW w base r g cap pol head R A zs c used begun lost) (x : Nat) (hz : begun = true → 0 < zs.length) (hx : x = if begun then hd0 zs else 0) : Calls Tryz.prog 26 #[.pointer (some ⟨r, 0, none⟩)] w fun e w' => e = .returned (.int .i64 x) ∧ w' = w := by
  have c3 := h.c3
  have c5 := h.c5
  cases begun with
  | true =>
    obtain ⟨b, off, rfl, _, hc, _⟩ := h.sz.get (hz rfl)
    have c1 := hc 0 (hz rfl)
    have hx2 : x = zs.getD 0 0 := by rw [hx, if_pos rfl]; cases zs <;> rfl
    rw [← hx2, Nat.add_zero] at c1
    have hpos : (0 : Int) < (zs.length : Int) := by have := hz rfl; omega
    clear hx hx2 h hz hc
    go_enter Tryz.func26, Tryz.ntmps26
    go_wp2
    go_ret
    exact ⟨rfl, rfl⟩
  | false =>
    simp at hx
    subst hx
    clear h hz
    go_enter Tryz.func26, Tryz.ntmps26
    go_wp2
    go_ret
    exact ⟨rfl, rfl⟩
set_option maxHeartbeats 2000000 in
theorem peek_any (h : RW w base r g cap pol head R A zs c used begun lost) (at' n : Nat) (ai : Int) (ha : ai = (at' : Int)) (hcap : (cap : Int) ≤ 1048576) (hh : head < cap) (hat : at' ≤ cap) (hn : n ≤ cap) : Calls Tryz.prog 49 #[.pointer (some ⟨r, 0, none⟩), .int .i64 ai, .int .i64 n] w fun e w' => e = .returned (strOf (peekR cap (head + at') R n)) ∧ Grow w w' := by
  have HR := Lib.hid h; clear h
  have hmk := make_run n (by omega) (fun i => R ((head + at' + i) % cap)) w
  have hg0 := heapAt_alloc_new w (.cells (outC n 0 fun i => R ((head + at' + i) % cap)) 5)
  have hgr := Grow.alloc w (.cells (outC n 0 fun i => R ((head + at' + i) % cap)) 5)
  have hpk : peekR cap (head + at') R n = (List.range n).map fun i => R ((head + at' + i) % cap) := by unfold peekR; rfl
  rw [hpk]
  clear hpk
  have HA := Lib.hid ha; clear ha
  go_enter Tryz.func49, Tryz.ntmps49
  go_wp2_with fail
  clear hmk
  generalize w.alloc _ = w0 at hg0 hgr ⊢
  have hB : base ≤ w.heap.size := HR.out.base_le
  have hlt : w.heap.size < w0.heap.size := heapAt_lt hg0
  have HGR0 := Lib.hid hgr; clear hgr
  have HG0 := Lib.hid hg0; clear hg0
  generalize hbb : w.heap.size = b0 at *
  have HBB := Lib.hid hbb; clear hbb
  go_loopw [13, 8] (fun i _ wr => ∃ k : Nat, k ≤ n ∧ i = .int .i64 k ∧ wr.heap[b0]? = some (.cells (outC n k fun i => R ((head + at' + i) % cap)) 5 (0, 0)) ∧ Grow w wr) (fun i _ _ => n - (intOf i).toNat)
  case atStart => exact ⟨0, by omega, rfl, HG0.out, HGR0.out⟩
  case round =>
    obtain ⟨k, hk, rfl, hout, hgr⟩ := hrel
    have HGR := Lib.hid hgr; clear hgr
    have HOUT := Lib.hid hout; clear hout
    by_cases hlt2 : k < n
    · have HW := Lib.hid (HR.out.grow HGR.out)
      obtain ⟨p, hp⟩ : ∃ p, p = (head + at' + k) % cap := ⟨_, rfl⟩
      have hpc : p < cap := by rw [hp]; exact Nat.mod_lt _ (by omega)
      have c0 := HW.out.c0
      have c2 := HW.out.c2
      have hrm := HW.out.rm p hpc
      have o1 := (cell_block HOUT.out k).trans (outC_at n k _ k hlt2)
      rw [if_neg (Nat.lt_irrefl k)] at o1
      have hfo := free_block HOUT.out k
      have k0 : (0 : Int) ≤ (k : Int) := by omega
      have kn : (k : Int) < (n : Int) := by omega
      obtain ⟨q1, hq1⟩ : ∃ q : Nat, q = head + at' := ⟨_, rfl⟩
      obtain ⟨q2, hq2⟩ : ∃ q : Nat, q = head + at' + k := ⟨_, rfl⟩
      have hai : ai = (at' : Int) := HA.out
      have hs1 : IntKind.i64.wrap ((head : Int) + ai) = (q1 : Int) := by rw [IntKind.wrap_i64]; omega
      have hs2 : IntKind.i64.wrap ((q1 : Int) + (k : Int)) = (q2 : Int) := by rw [IntKind.wrap_i64]; omega
      have hs3 : (q2 : Int).tmod (cap : Int) = (p : Int) := by rw [hp, hq2]; rfl
      have hs4 : ((cap : Int) == 0) = false := by simp; omega
      have hc0 : ¬ cap = 0 := by omega
      have hp0 : (0 : Int) ≤ (p : Int) := by omega
      have hpc' : (p : Int) < (cap : Int) := by omega
      have HP := Lib.hid hp; clear hp hq1 hq2 hai
      go_wp2_with fail
      go_still_tail 22, (by kernel_rfl)
      change wpList _ _ _ _ _ wr.drew
      clear c0 c2 hrm o1 hfo hs1 hs2 hs3 hs4
      have hout2 : wr.drew.heap[b0]? = some (.cells (outC n k fun i => R ((head + at' + i) % cap)) 5 (0, 0)) := HOUT.out
      have hg2 : Grow w wr.drew := HGR.out.drew
      generalize wr.drew = w1 at hout2 hg2 ⊢
      have o1 := (cell_block hout2 k).trans (outC_at n k _ k hlt2)
      rw [if_neg (Nat.lt_irrefl k)] at o1
      have hfo := free_block hout2 k
      have hset := set_block hout2 k (.int .u8 ((R p).toNat : Int))
      have hRp : R p = (fun i => R ((head + at' + i) % cap)) k := by rw [HP.out]
      have hset2 : (w1.setCell ⟨b0, k, none⟩ (.int .u8 ((R p).toNat : Int))).heap[b0]? = some (.cells (outC n (k + 1) fun i => R ((head + at' + i) % cap)) 5 (0, 0)) := by rw [hset, hRp, outC_set]
      have hg3 : Grow w (w1.setCell ⟨b0, k, none⟩ (.int .u8 ((R p).toNat : Int))) := Below.setCell (p := ⟨b0, k, none⟩) hg2 (by rw [HBB.out]; exact Nat.le_refl b0) _
      have HS2 := Lib.hid hset2
      have HG3 := Lib.hid hg3
      clear hset hset2 hg3 hRp hout2 hg2
      go_wp2_with fail
      go_roundw
      case rel => exact ⟨k + 1, by omega, by go_num, HS2.out, HG3.out⟩
      case measure => simp [intOf]; omega
    · have kn : ¬ (k : Int) < (n : Int) := by omega
      have hkn : k = n := by omega
      subst hkn
      have hcv := conv_out wr b0 k _ (by unfold maxLen; omega) HOUT.out
      go_wp2
      go_ret
      exact ⟨rfl, HGR.out⟩
set_option maxHeartbeats 2000000 in
theorem lay_any (h : RW w base r g cap pol head R A zs c used begun lost) (at' : Nat) (ai : Int) (t : List UInt8) (ha : ai = (at' : Int)) (hcap : (cap : Int) ≤ 1048576) (hh : head < cap) (hat : at' ≤ cap) (hn : t.length ≤ cap) : Calls Tryz.prog 28 #[.pointer (some ⟨r, 0, none⟩), .int .i64 ai, .string ⟨t.toArray⟩] w fun e w' => e = .returned (.tuple #[]) ∧ RW w' base r g cap pol head (layR R cap (head + at') t t.length) A zs c used begun lost ∧ FarR base r g w w' := by
  have HR := Lib.hid h; clear h
  have HA := Lib.hid ha; clear ha
  go_enter Tryz.func28, Tryz.ntmps28
  go_wp2_with fail
  go_loopw [6] (fun i wr => ∃ k : Nat, k ≤ t.length ∧ i = .int .i64 k ∧ RW wr base r g cap pol head (layR R cap (head + at') t k) A zs c used begun lost ∧ FarR base r g w wr) (fun i _ => t.length - (intOf i).toNat)
  case atStart => exact ⟨0, by omega, rfl, by unfold layR; exact HR.out, Far.refl _ _ _ _⟩
  case round =>
    obtain ⟨k, hk, rfl, hw, hf⟩ := hrel
    have HW := Lib.hid hw; clear hw
    have HF := Lib.hid hf; clear hf
    by_cases hlt2 : k < t.length
    · obtain ⟨p, hp⟩ : ∃ p, p = (head + at' + k) % cap := ⟨_, rfl⟩
      have hpc : p < cap := by rw [hp]; exact Nat.mod_lt _ (by omega)
      have HX := Lib.hid (show layR R cap (head + at') t (k + 1) = upR (layR R cap (head + at') t k) p (t.getD k 0) by rw [layR, hp])
      have c0 := HW.out.c0
      have c2 := HW.out.c2
      have hrm := HW.out.rm p hpc
      have k0 : (0 : Int) ≤ (k : Int) := by omega
      have kn : (k : Int) < (t.length : Int) := by omega
      obtain ⟨q1, hq1⟩ : ∃ q : Nat, q = head + at' := ⟨_, rfl⟩
      obtain ⟨q2, hq2⟩ : ∃ q : Nat, q = head + at' + k := ⟨_, rfl⟩
      have hai : ai = (at' : Int) := HA.out
      have hs1 : IntKind.i64.wrap ((head : Int) + ai) = (q1 : Int) := by rw [IntKind.wrap_i64]; omega
      have hs2 : IntKind.i64.wrap ((q1 : Int) + (k : Int)) = (q2 : Int) := by rw [IntKind.wrap_i64]; omega
      have hs3 : (q2 : Int).tmod (cap : Int) = (p : Int) := by rw [hp, hq2]; rfl
      have hs4 : ((cap : Int) == 0) = false := by simp; omega
      have hc0 : ¬ cap = 0 := by omega
      have hp0 : (0 : Int) ≤ (p : Int) := by omega
      have hpc' : (p : Int) < (cap : Int) := by omega
      have HP := Lib.hid hp; clear hp hq1 hq2 hai
      go_wp2_with fail
      go_still_tail 22, (by kernel_rfl)
      change wpList _ _ _ _ _ wr.drew
      simp only [ba_get]
      generalize t.getD k 0 = bk at HX ⊢
      clear c0 c2 hrm hs1 hs2 hs3 hs4
      have hw2 : RW wr.drew base r g cap pol head (layR R cap (head + at') t k) A zs c used begun lost := HW.out.grow (Below.drew (Grow.refl wr))
      have hf2 : FarR base r g w wr.drew := Far.trans HF.out (Far.grow (Below.drew (Grow.refl wr)) HW.out.base_le)
      generalize wr.drew = w1 at hw2 hf2 ⊢
      have hrm := hw2.rm p hpc
      have hfg := hw2.frg p
      have hw3 := hw2.setRm p bk
      rw [← HX.out] at hw3
      have HW3 := Lib.hid hw3
      have HF3 := Lib.hid (show FarR base r g w (w1.setCell ⟨g, p, none⟩ (.int .u8 (bk.toNat : Int))) from hf2.set (Or.inr rfl) hw2.hg p _)
      clear hw3 hw2 hf2
      go_wp2_with fail
      go_roundw
      case rel => exact ⟨k + 1, by omega, by go_num, HW3.out, HF3.out⟩
      case measure => simp [intOf]; omega
    · have kn : ¬ (k : Int) < (t.length : Int) := by omega
      have hkn : k = t.length := by omega
      subst hkn
      go_wp2
      go_end0
      exact ⟨rfl, HW.out, HF.out⟩
theorem lay_str (h : RW w base r g cap pol head R A zs c used begun lost) (at' : Nat) (ai : Int) (t : List UInt8) (ha : ai = (at' : Int)) (hcap : (cap : Int) ≤ 1048576) (hh : head < cap) (hat : at' ≤ cap) (hn : t.length ≤ cap) : Calls Tryz.prog 28 #[.pointer (some ⟨r, 0, none⟩), .int .i64 ai, strOf t] w fun e w' => e = .returned (.tuple #[]) ∧ RW w' base r g cap pol head (layR R cap (head + at') t t.length) A zs c used begun lost ∧ FarR base r g w w' := by
  unfold strOf
  exact lay_any h at' ai t ha hcap hh hat hn
end
end Go.Proofs.YtnhmdinpfcoebaaGreatDoor.Rg
end

/-! === RingB -/
section
/- The walk of lose. -/
namespace Go.Proofs.YtnhmdinpfcoebaaGreatDoor.Rg
open Go.RowKit
set_option linter.unusedVariables false
set_option linter.unusedSimpArgs false
set_option maxRecDepth 100000
attribute [local irreducible] roomC ringC peekR layR strOf
section
variable {w : World} {base r g cap head c used lost : Nat} {pol : Int} {R : Nat → UInt8} {A : Option Addr} {zs : List Nat} {begun : Bool} {z0 z1 : Nat} {zr : List Nat}
theorem used_any (h : RW w base r g cap pol head R A zs c used begun lost) : Calls Tryz.prog 15 #[.pointer (some ⟨r, 0, none⟩)] w fun e w' => e = .returned (.int .i64 used) ∧ w' = w := by
  have c4 := h.c4
  clear h
  go_enter Tryz.func15, Tryz.ntmps15
  go_wp2
  go_ret
  exact ⟨rfl, rfl⟩
theorem lost_any (h : RW w base r g cap pol head R A zs c used begun lost) : Calls Tryz.prog 43 #[.pointer (some ⟨r, 0, none⟩)] w fun e w' => e = .returned (.int .u64 lost) ∧ w' = w := by
  have c6 := h.c6
  clear h
  go_enter Tryz.func43, Tryz.ntmps43
  go_wp2
  go_ret
  exact ⟨rfl, rfl⟩
theorem used_nil (w : World) : Calls Tryz.prog 15 #[.pointer none] w fun e w' => e = .returned (.int .i64 0) ∧ w' = w := by
  go_enter Tryz.func15, Tryz.ntmps15
  go_wp2
  go_ret
  exact ⟨rfl, rfl⟩
theorem lost_nil (w : World) : Calls Tryz.prog 43 #[.pointer none] w fun e w' => e = .returned (.int .u64 0) ∧ w' = w := by
  go_enter Tryz.func43, Tryz.ntmps43
  go_wp2
  go_ret
  exact ⟨rfl, rfl⟩
theorem put_nil (w : World) (s : ByteArray) : Calls Tryz.prog 10 #[.pointer none, .string s] w fun e w' => e = .returned (.int .i64 16) ∧ w' = w := by
  go_enter Tryz.func10, Tryz.ntmps10
  go_wp2_with fail
  go_step3
  go_wp2
  rw [Exit.noGoto_ret]
  go_ret
  exact ⟨rfl, rfl⟩
theorem drain_nil (w : World) (n : Int) : Calls Tryz.prog 29 #[.pointer none, .int .i64 n] w fun e w' => e = .returned (.string ⟨#[]⟩) ∧ w' = w := by
  go_enter Tryz.func29, Tryz.ntmps29
  go_wp2
  go_ret
  exact ⟨rfl, rfl⟩
set_option maxHeartbeats 4000000 in
theorem lose_plain (h : RW w base r g cap pol head R A (z0 :: zr) c used false lost) (hcap : (cap : Int) ≤ 1048576) (hh : head < cap) (hx : 0 ≤ cap) (hn : z0 ≤ used) (hu : used ≤ cap) (hl : lost < 4611686018427387904) :
    Calls Tryz.prog 27 #[.pointer (some ⟨r, 0, none⟩)] w fun e w' => e = .returned (.tuple #[]) ∧ RW w' base r g cap pol ((head + z0) % cap) (layR R cap ((head + z0) % cap) (peekR cap head R 0) 0) A (zr) c (used - z0) false (lost + 1) ∧ FarR base r g w w' := by
  obtain ⟨b, off, rfl, hbb, hc, hcf⟩ := h.sz.get (by simp)
  have cz := hc 0 (by simp)
  simp only [List.getD_cons_zero, List.getD_cons_succ, Nat.add_zero] at cz
  have c3 := h.c3
  have c5 := h.c5
  have HREST := Lib.hid (rest_any h 0 (fun _ => by simp) (by rfl))
  have HPEEK := Lib.hid fun (w1 : World) (hw : RW w1 base r g cap pol head R (some ⟨b, off, none⟩) (z0 :: zr) c used false lost) => peek_any hw 0 0 0 rfl hcap hh (Nat.zero_le _) hx
  obtain ⟨kk, hkk⟩ : ∃ kk, kk = peekR cap head R 0 := ⟨_, rfl⟩
  have hkl : kk.length = 0 := by rw [hkk]; exact peekR_len _ _ _ _
  obtain ⟨hd2, hhd⟩ : ∃ q, q = (head + z0) % cap := ⟨_, rfl⟩
  have hhc : hd2 < cap := by rw [hhd]; exact Nat.mod_lt _ (by omega)
  have HLAY := Lib.hid fun (w1 : World) (hw : RW w1 base r g cap pol hd2 R (some ⟨b, off, none⟩) (z0 :: zr) c used false lost) => lay_str hw 0 0 kk rfl hcap hhc (Nat.zero_le _) (by omega)
  simp only [Nat.add_zero, hkl] at HLAY
  simp only [Nat.add_zero, ← hkk] at HPEEK
  rw [← hkk, ← hhd]
  have HKK := Lib.hid hkk; clear hkk hkl
  have HS := Lib.hid h
  have HBL := Lib.hid h.base_le
  have hzc := h.sz.1
  have HSZ := Lib.hid h.sz
  clear h hc hcf hx
  obtain ⟨nz, hnz⟩ : ∃ q, q = (z0 :: zr).length := ⟨_, rfl⟩
  rw [← hnz] at c3 hzc
  simp only [List.length_cons] at hnz
  have hati : (0 : Int) < (nz : Int) := by omega
  have hatc : (0 : Int) ≤ (c : Int) := by omega
  have hat1 : (1 : Int) ≤ (nz : Int) := by omega
  have hnc : (nz : Int) ≤ (c : Int) := by omega
  have HNZ := Lib.hid hnz; clear hnz
  go_enter Tryz.func27, Tryz.ntmps27
  go_wp2_with fail
  refine HREST.out.mono ?_
  rintro e w0 ⟨rfl, hw1⟩
  subst hw1
  go_wp2_with fail
  refine (HPEEK.out _ HS.out).mono ?_
  rintro e w2 ⟨rfl, hg⟩
  have hs2 := HS.out.grow hg
  have HF := Lib.hid (show FarR base r g _ w2 from Far.grow hg HBL.out)
  clear hg c3 c5 cz HREST HPEEK
  have HS2 := Lib.hid hs2
  have c0 := hs2.c0
  have c2 := hs2.c2
  clear hs2
  obtain ⟨q1, hq1⟩ : ∃ q, q = head + z0 := ⟨_, rfl⟩
  have e1 : IntKind.i64.wrap ((head : Int) + (z0 : Int)) = (q1 : Int) := by rw [IntKind.wrap_i64]; omega
  have e2 : (q1 : Int).tmod (cap : Int) = (hd2 : Int) := by rw [hhd, hq1]; rfl
  have e3 : ((cap : Int) == 0) = false := by simp; omega
  have e4 : ¬ cap = 0 := by omega
  have HHD := Lib.hid hhd; clear hhd
  have HQ1 := Lib.hid hq1; clear hq1
  go_wp2_with fail
  go_still_tail 15, (by kernel_rfl)
  change wpList _ _ _ _ _ w2.drew
  clear c0 c2 e1 e2 e3
  have hs3 := HS2.out.grow (Below.drew (Grow.refl w2))
  have hf3 : FarR base r g _ w2.drew := Far.trans HF.out (Far.grow (Below.drew (Grow.refl w2)) HS2.out.base_le)
  generalize w2.drew = w3 at hs3 hf3 ⊢
  have c2 := hs3.c2
  have f2 := hs3.fr 2
  have HS3 := Lib.hid (hs3.set2 hd2)
  have HF3 := Lib.hid (hf3.set (Or.inl rfl) hs3.hr 2 (.int .i64 (hd2 : Nat)))
  clear hs3 hf3
  obtain ⟨w4, hw4⟩ : ∃ w4, w4 = w3.setCell ⟨r, 2, none⟩ (.int .i64 (hd2 : Nat)) := ⟨_, rfl⟩
  rw [← hw4] at HS3 HF3
  have HW4 := Lib.hid hw4; clear hw4
  go_wp2_with fail
  rw [← HW4.out]
  clear c2 f2 HW4
  refine (HLAY.out w4 HS3.out).mono ?_
  rintro e w5 ⟨rfl, hs5, hf5⟩
  have HS5 := Lib.hid hs5
  have HF5 := Lib.hid (Far.trans HF3.out hf5)
  have c3 := hs5.c3
  have f3 := hs5.fr 3
  have hrb : r ≠ b := fun e => by
    obtain ⟨_, cs, hb⟩ := hs5.sz.blk
    rw [← e] at hb
    exact ne3 _ _ _ _ (Option.some.inj (hb.symm.trans hs5.blk))
  have hd5 := hs5.grow (Below.drew (Grow.refl w5))
  have HFD := Lib.hid (show FarR base r g _ w5.drew from Far.trans HF5.out (Far.grow (Below.drew (Grow.refl w5)) hs5.base_le))
  have hnws : ∀ j u, (szVals (zr))[j]? = some u → w5.drew.cell? ⟨b, (off + 1) + j, none⟩ = some u := fun j u hu => by
    obtain ⟨b', off', e, _, hcc, _⟩ := hd5.sz.get (by simp)
    injection e with e; injection e with e e'
    subst e e'
    have hj : j < (zr).length := by rw [← szVals_len]; exact (List.getElem?_eq_some_iff.1 hu).1
    rw [szVals_at _ _ hj] at hu
    have := hcc (1 + j) (by simp only [List.length_cons]; omega)
    rw [Nat.add_assoc, this, ← hu]
    simp [Nat.add_comm]
  have hspare : ∀ j, j < (szVals (zr)).length → (w5.drew.cell? ⟨b, off + 0 * 1 + j, none⟩).isSome = true ∧ w5.drew.frozen? ⟨b, off + 0 * 1 + j, none⟩ = false := fun j hj => by
    rw [szVals_len] at hj
    obtain ⟨b', off', e, _, hcc, hff⟩ := hd5.sz.get (by simp)
    injection e with e; injection e with e e'
    subst e e'
    have := hcc (0 + j) (by simp only [List.length_cons]; omega)
    rw [Nat.zero_mul, Nat.add_zero]; rw [Nat.zero_add] at this; rw [this]
    exact ⟨rfl, hff _⟩
  have hcut := hd5.sz.cut 0 (by simp)
  rw [Nat.add_zero] at hcut
  simp only [List.take_succ_cons, List.take_zero, List.drop_succ_cons, List.drop_zero, List.cons_append, List.nil_append] at hcut
  have hoth : ∀ k, k ≠ b → (w5.drew.setCells b (off) (szVals (zr))).heap[k]? = w5.drew.heap[k]? := fun k hk => setCells_other hk _ _ _
  have hbk := (hoth r hrb).trans hd5.blk
  have hgb : g ≠ b := fun e => by
    obtain ⟨_, cs, hb⟩ := hd5.sz.blk
    rw [← e] at hb
    exact ne35 _ _ _ _ (Option.some.inj (hb.symm.trans hd5.room))
  have hrm := (hoth g hgb).trans hd5.room
  have HSET := Lib.hid (RW.set3 hd5.hr hd5.hg hbk hrm hcut)
  have HFAR := Lib.hid (show FarR base r g _ ((w5.drew.setCells b (off) (szVals (zr))).setCell ⟨r, 3, none⟩ (.slice (some ⟨b, off, none⟩) (zr).length c)) from by
    obtain ⟨hb0, cs, hb⟩ := hd5.sz.blk
    exact Far.set (setCells_far HFD.out hb hb0 _ _) (Or.inl rfl) hd5.hr 3 _)
  have cc3 : (w5.drew.setCells b (off) (szVals (zr))).cell? ⟨r, 3, none⟩ = some (.slice (some ⟨b, off, none⟩) nz c) := by rw [cell_block hbk, HNZ.out, ringC3]; rfl
  have ff3 : (w5.drew.setCells b (off) (szVals (zr))).frozen? ⟨r, 3, none⟩ = false := free_block hbk 3
  rw [show (z0 :: zr).length = nz from HNZ.out.symm] at c3
  have HNWS := Lib.hid hnws
  have HSPA := Lib.hid hspare
  clear hnws hspare hcut hoth hbk hrm hs5 hf5 hd5
  obtain ⟨i0, hi, hz0, hz1, hz2⟩ := info_parts info3
  have HI := Lib.hid hi; clear hi
  have HZ1 := Lib.hid hz1; clear hz1 hz0 hz2
  obtain ⟨m, hm⟩ : ∃ m, m = (zr).length := ⟨_, rfl⟩
  have hmz : nz - 1 = m := by have := HNZ.out; omega
  have hml : 0 + m + 1 = nz := by have := HNZ.out; omega
  have hzl : (zr).length = m := by (try simp only [List.length_cons]); omega
  rw [hzl] at HSET HFAR
  have HM := Lib.hid hm; clear hm hzl
  have hw1 : IntKind.i64.wrap 1 = 1 := by rw [IntKind.wrap_i64]; omega
  have hw2 : IntKind.i64.wrap 2 = 2 := by rw [IntKind.wrap_i64]; omega
  by_cases hcc : c = 1
  · subst hcc
    go_wp2_with fail
    go_region_law ((refine step_append_room rfl (.tmp 46) (.tmp 53) 60 rfl 3 i0 1 Tryz.underlying60 HI.out HZ1.out b off 0 1 (by simp [Act.eval, Act.put]) ⟨b, off, none⟩ m (0) (szVals (zr)) (by simp [Act.eval, Act.put]) (by rw [szVals_len, HM.out, Nat.mul_one]) (by rw [show zr = [] from List.eq_nil_of_length_eq_zero (by have := HM.out; omega)]; simp [szVals]) (one_szVals _) (by omega) HSPA.out ?_))
    all_goals (
      clear cc3 ff3 c3 f3 hw1 hw2
      have hs6 := HSET.out
      have hf6 := HFAR.out
      clear HSET HFAR
      generalize (w5.drew.setCells b (off) (szVals (zr))).setCell ⟨r, 3, none⟩ (.slice (some ⟨b, off, none⟩) (m) 1) = w6 at hs6 hf6 ⊢
      obtain ⟨u2, hu2⟩ : ∃ q, q = used - z0 := ⟨_, rfl⟩
      obtain ⟨l2, hl2⟩ : ∃ q, q = lost + 1 := ⟨_, rfl⟩
      have e5 : IntKind.i64.wrap ((used : Int) - (z0 : Int)) = (u2 : Int) := by rw [IntKind.wrap_i64]; omega
      have e6 : IntKind.u64.wrap ((lost : Int) + 1) = (l2 : Int) := by rw [IntKind.wrap_u64]; omega
      have c4 := hs6.c4
      have c6 := hs6.c6
      have f4 := hs6.fr 4
      have f6 := hs6.fr 6
      have HS7 := Lib.hid ((hs6.set4 u2).set6 l2)
      have HF7 := Lib.hid (show FarR base r g _ ((w6.setCell ⟨r, 4, none⟩ (.int .i64 (u2 : Nat))).setCell ⟨r, 6, none⟩ (.int .u64 (l2 : Nat))) from Far.set (Far.set hf6 (Or.inl rfl) hs6.hr 4 _) (Or.inl rfl) hs6.hr 6 _)
      have HU2 := Lib.hid hu2
      have HL2 := Lib.hid hl2
      clear hs6 hf6 hu2 hl2
      go_wp2
      go_end0
      refine ⟨rfl, ?_, HF7.out⟩
      rw [← HU2.out, ← HL2.out]
      exact HS7.out)
  · go_wp2_with fail
    go_region_law ((refine step_append_room rfl (.tmp 46) (.tmp 53) 60 rfl 3 i0 1 Tryz.underlying60 HI.out HZ1.out b off 0 c (by simp [Act.eval, Act.put]) ⟨b, off + 1, none⟩ m (c - 1) (szVals (zr)) (by simp [Act.eval, Act.put]) (by rw [szVals_len, HM.out, Nat.mul_one]) (news_at HNWS.out) (one_szVals _) (by omega) HSPA.out ?_))
    all_goals (
      clear cc3 ff3 c3 f3 hw1 hw2
      have hs6 := HSET.out
      have hf6 := HFAR.out
      clear HSET HFAR
      generalize (w5.drew.setCells b (off) (szVals (zr))).setCell ⟨r, 3, none⟩ (.slice (some ⟨b, off, none⟩) (m) c) = w6 at hs6 hf6 ⊢
      obtain ⟨u2, hu2⟩ : ∃ q, q = used - z0 := ⟨_, rfl⟩
      obtain ⟨l2, hl2⟩ : ∃ q, q = lost + 1 := ⟨_, rfl⟩
      have e5 : IntKind.i64.wrap ((used : Int) - (z0 : Int)) = (u2 : Int) := by rw [IntKind.wrap_i64]; omega
      have e6 : IntKind.u64.wrap ((lost : Int) + 1) = (l2 : Int) := by rw [IntKind.wrap_u64]; omega
      have c4 := hs6.c4
      have c6 := hs6.c6
      have f4 := hs6.fr 4
      have f6 := hs6.fr 6
      have HS7 := Lib.hid ((hs6.set4 u2).set6 l2)
      have HF7 := Lib.hid (show FarR base r g _ ((w6.setCell ⟨r, 4, none⟩ (.int .i64 (u2 : Nat))).setCell ⟨r, 6, none⟩ (.int .u64 (l2 : Nat))) from Far.set (Far.set hf6 (Or.inl rfl) hs6.hr 4 _) (Or.inl rfl) hs6.hr 6 _)
      have HU2 := Lib.hid hu2
      have HL2 := Lib.hid hl2
      clear hs6 hf6 hu2 hl2
      go_wp2
      go_end0
      refine ⟨rfl, ?_, HF7.out⟩
      rw [← HU2.out, ← HL2.out]
      exact HS7.out)
set_option maxHeartbeats 4000000 in
theorem lose_begun (h : RW w base r g cap pol head R A (z0 :: z1 :: zr) c used true lost) (hcap : (cap : Int) ≤ 1048576) (hh : head < cap) (hx : z0 ≤ cap) (hn : z1 ≤ used) (hu : used ≤ cap) (hl : lost < 4611686018427387904) :
    Calls Tryz.prog 27 #[.pointer (some ⟨r, 0, none⟩)] w fun e w' => e = .returned (.tuple #[]) ∧ RW w' base r g cap pol ((head + z1) % cap) (layR R cap ((head + z1) % cap) (peekR cap head R z0) z0) A (z0 :: zr) c (used - z1) true (lost + 1) ∧ FarR base r g w w' := by
  obtain ⟨b, off, rfl, hbb, hc, hcf⟩ := h.sz.get (by simp)
  have cz := hc 1 (by simp)
  simp only [List.getD_cons_zero, List.getD_cons_succ, Nat.add_zero] at cz
  have c3 := h.c3
  have c5 := h.c5
  have HREST := Lib.hid (rest_any h z0 (fun _ => by simp) (by rfl))
  have HPEEK := Lib.hid fun (w1 : World) (hw : RW w1 base r g cap pol head R (some ⟨b, off, none⟩) (z0 :: z1 :: zr) c used true lost) => peek_any hw 0 z0 0 rfl hcap hh (Nat.zero_le _) hx
  obtain ⟨kk, hkk⟩ : ∃ kk, kk = peekR cap head R z0 := ⟨_, rfl⟩
  have hkl : kk.length = z0 := by rw [hkk]; exact peekR_len _ _ _ _
  obtain ⟨hd2, hhd⟩ : ∃ q, q = (head + z1) % cap := ⟨_, rfl⟩
  have hhc : hd2 < cap := by rw [hhd]; exact Nat.mod_lt _ (by omega)
  have HLAY := Lib.hid fun (w1 : World) (hw : RW w1 base r g cap pol hd2 R (some ⟨b, off, none⟩) (z0 :: z1 :: zr) c used true lost) => lay_str hw 0 0 kk rfl hcap hhc (Nat.zero_le _) (by omega)
  simp only [Nat.add_zero, hkl] at HLAY
  simp only [Nat.add_zero, ← hkk] at HPEEK
  rw [← hkk, ← hhd]
  have HKK := Lib.hid hkk; clear hkk hkl
  have HS := Lib.hid h
  have HBL := Lib.hid h.base_le
  have hzc := h.sz.1
  have HSZ := Lib.hid h.sz
  clear h hc hcf hx
  obtain ⟨nz, hnz⟩ : ∃ q, q = (z0 :: z1 :: zr).length := ⟨_, rfl⟩
  rw [← hnz] at c3 hzc
  simp only [List.length_cons] at hnz
  have hati : (1 : Int) < (nz : Int) := by omega
  have hatc : (1 : Int) ≤ (c : Int) := by omega
  have hat1 : (2 : Int) ≤ (nz : Int) := by omega
  have hnc : (nz : Int) ≤ (c : Int) := by omega
  have HNZ := Lib.hid hnz; clear hnz
  go_enter Tryz.func27, Tryz.ntmps27
  go_wp2_with fail
  refine HREST.out.mono ?_
  rintro e w0 ⟨rfl, hw1⟩
  subst hw1
  go_wp2_with fail
  refine (HPEEK.out _ HS.out).mono ?_
  rintro e w2 ⟨rfl, hg⟩
  have hs2 := HS.out.grow hg
  have HF := Lib.hid (show FarR base r g _ w2 from Far.grow hg HBL.out)
  clear hg c3 c5 cz HREST HPEEK
  have HS2 := Lib.hid hs2
  have c0 := hs2.c0
  have c2 := hs2.c2
  clear hs2
  obtain ⟨q1, hq1⟩ : ∃ q, q = head + z1 := ⟨_, rfl⟩
  have e1 : IntKind.i64.wrap ((head : Int) + (z1 : Int)) = (q1 : Int) := by rw [IntKind.wrap_i64]; omega
  have e2 : (q1 : Int).tmod (cap : Int) = (hd2 : Int) := by rw [hhd, hq1]; rfl
  have e3 : ((cap : Int) == 0) = false := by simp; omega
  have e4 : ¬ cap = 0 := by omega
  have HHD := Lib.hid hhd; clear hhd
  have HQ1 := Lib.hid hq1; clear hq1
  go_wp2_with fail
  go_still_tail 15, (by kernel_rfl)
  change wpList _ _ _ _ _ w2.drew
  clear c0 c2 e1 e2 e3
  have hs3 := HS2.out.grow (Below.drew (Grow.refl w2))
  have hf3 : FarR base r g _ w2.drew := Far.trans HF.out (Far.grow (Below.drew (Grow.refl w2)) HS2.out.base_le)
  generalize w2.drew = w3 at hs3 hf3 ⊢
  have c2 := hs3.c2
  have f2 := hs3.fr 2
  have HS3 := Lib.hid (hs3.set2 hd2)
  have HF3 := Lib.hid (hf3.set (Or.inl rfl) hs3.hr 2 (.int .i64 (hd2 : Nat)))
  clear hs3 hf3
  obtain ⟨w4, hw4⟩ : ∃ w4, w4 = w3.setCell ⟨r, 2, none⟩ (.int .i64 (hd2 : Nat)) := ⟨_, rfl⟩
  rw [← hw4] at HS3 HF3
  have HW4 := Lib.hid hw4; clear hw4
  go_wp2_with fail
  rw [← HW4.out]
  clear c2 f2 HW4
  refine (HLAY.out w4 HS3.out).mono ?_
  rintro e w5 ⟨rfl, hs5, hf5⟩
  have HS5 := Lib.hid hs5
  have HF5 := Lib.hid (Far.trans HF3.out hf5)
  have c3 := hs5.c3
  have f3 := hs5.fr 3
  have hrb : r ≠ b := fun e => by
    obtain ⟨_, cs, hb⟩ := hs5.sz.blk
    rw [← e] at hb
    exact ne3 _ _ _ _ (Option.some.inj (hb.symm.trans hs5.blk))
  have hd5 := hs5.grow (Below.drew (Grow.refl w5))
  have HFD := Lib.hid (show FarR base r g _ w5.drew from Far.trans HF5.out (Far.grow (Below.drew (Grow.refl w5)) hs5.base_le))
  have hnws : ∀ j u, (szVals (zr))[j]? = some u → w5.drew.cell? ⟨b, (off + 2) + j, none⟩ = some u := fun j u hu => by
    obtain ⟨b', off', e, _, hcc, _⟩ := hd5.sz.get (by simp)
    injection e with e; injection e with e e'
    subst e e'
    have hj : j < (zr).length := by rw [← szVals_len]; exact (List.getElem?_eq_some_iff.1 hu).1
    rw [szVals_at _ _ hj] at hu
    have := hcc (2 + j) (by simp only [List.length_cons]; omega)
    rw [Nat.add_assoc, this, ← hu]
    simp [Nat.add_comm]
  have hspare : ∀ j, j < (szVals (zr)).length → (w5.drew.cell? ⟨b, off + 1 * 1 + j, none⟩).isSome = true ∧ w5.drew.frozen? ⟨b, off + 1 * 1 + j, none⟩ = false := fun j hj => by
    rw [szVals_len] at hj
    obtain ⟨b', off', e, _, hcc, hff⟩ := hd5.sz.get (by simp)
    injection e with e; injection e with e e'
    subst e e'
    have := hcc (1 + j) (by simp only [List.length_cons]; omega)
    rw [Nat.mul_one, Nat.add_assoc, this]
    exact ⟨rfl, hff _⟩
  have hcut := hd5.sz.cut 1 (by simp)
  skip
  simp only [List.take_succ_cons, List.take_zero, List.drop_succ_cons, List.drop_zero, List.cons_append, List.nil_append] at hcut
  have hoth : ∀ k, k ≠ b → (w5.drew.setCells b (off + 1) (szVals (zr))).heap[k]? = w5.drew.heap[k]? := fun k hk => setCells_other hk _ _ _
  have hbk := (hoth r hrb).trans hd5.blk
  have hgb : g ≠ b := fun e => by
    obtain ⟨_, cs, hb⟩ := hd5.sz.blk
    rw [← e] at hb
    exact ne35 _ _ _ _ (Option.some.inj (hb.symm.trans hd5.room))
  have hrm := (hoth g hgb).trans hd5.room
  have HSET := Lib.hid (RW.set3 hd5.hr hd5.hg hbk hrm hcut)
  have HFAR := Lib.hid (show FarR base r g _ ((w5.drew.setCells b (off + 1) (szVals (zr))).setCell ⟨r, 3, none⟩ (.slice (some ⟨b, off, none⟩) (z0 :: zr).length c)) from by
    obtain ⟨hb0, cs, hb⟩ := hd5.sz.blk
    exact Far.set (setCells_far HFD.out hb hb0 _ _) (Or.inl rfl) hd5.hr 3 _)
  have cc3 : (w5.drew.setCells b (off + 1) (szVals (zr))).cell? ⟨r, 3, none⟩ = some (.slice (some ⟨b, off, none⟩) nz c) := by rw [cell_block hbk, HNZ.out, ringC3]; rfl
  have ff3 : (w5.drew.setCells b (off + 1) (szVals (zr))).frozen? ⟨r, 3, none⟩ = false := free_block hbk 3
  rw [show (z0 :: z1 :: zr).length = nz from HNZ.out.symm] at c3
  have HNWS := Lib.hid hnws
  have HSPA := Lib.hid hspare
  clear hnws hspare hcut hoth hbk hrm hs5 hf5 hd5
  obtain ⟨i0, hi, hz0, hz1, hz2⟩ := info_parts info3
  have HI := Lib.hid hi; clear hi
  have HZ1 := Lib.hid hz1; clear hz1 hz0 hz2
  obtain ⟨m, hm⟩ : ∃ m, m = (zr).length := ⟨_, rfl⟩
  have hmz : nz - 2 = m := by have := HNZ.out; omega
  have hml : 1 + m + 1 = nz := by have := HNZ.out; omega
  have hzl : (z0 :: zr).length = 1 + m := by (try simp only [List.length_cons]); omega
  rw [hzl] at HSET HFAR
  have HM := Lib.hid hm; clear hm hzl
  have hw1 : IntKind.i64.wrap 1 = 1 := by rw [IntKind.wrap_i64]; omega
  have hw2 : IntKind.i64.wrap 2 = 2 := by rw [IntKind.wrap_i64]; omega
  by_cases hcc : c = 2
  · subst hcc
    go_wp2_with fail
    go_region_law ((refine step_append_room rfl (.tmp 46) (.tmp 53) 60 rfl 3 i0 1 Tryz.underlying60 HI.out HZ1.out b off 1 2 (by simp [Act.eval, Act.put]) ⟨b, off, none⟩ m (0) (szVals (zr)) (by simp [Act.eval, Act.put]) (by rw [szVals_len, HM.out, Nat.mul_one]) (by rw [show zr = [] from List.eq_nil_of_length_eq_zero (by have := HM.out; omega)]; simp [szVals]) (one_szVals _) (by omega) HSPA.out ?_))
    all_goals (
      clear cc3 ff3 c3 f3 hw1 hw2
      have hs6 := HSET.out
      have hf6 := HFAR.out
      clear HSET HFAR
      generalize (w5.drew.setCells b (off + 1) (szVals (zr))).setCell ⟨r, 3, none⟩ (.slice (some ⟨b, off, none⟩) (1 + m) 2) = w6 at hs6 hf6 ⊢
      obtain ⟨u2, hu2⟩ : ∃ q, q = used - z1 := ⟨_, rfl⟩
      obtain ⟨l2, hl2⟩ : ∃ q, q = lost + 1 := ⟨_, rfl⟩
      have e5 : IntKind.i64.wrap ((used : Int) - (z1 : Int)) = (u2 : Int) := by rw [IntKind.wrap_i64]; omega
      have e6 : IntKind.u64.wrap ((lost : Int) + 1) = (l2 : Int) := by rw [IntKind.wrap_u64]; omega
      have c4 := hs6.c4
      have c6 := hs6.c6
      have f4 := hs6.fr 4
      have f6 := hs6.fr 6
      have HS7 := Lib.hid ((hs6.set4 u2).set6 l2)
      have HF7 := Lib.hid (show FarR base r g _ ((w6.setCell ⟨r, 4, none⟩ (.int .i64 (u2 : Nat))).setCell ⟨r, 6, none⟩ (.int .u64 (l2 : Nat))) from Far.set (Far.set hf6 (Or.inl rfl) hs6.hr 4 _) (Or.inl rfl) hs6.hr 6 _)
      have HU2 := Lib.hid hu2
      have HL2 := Lib.hid hl2
      clear hs6 hf6 hu2 hl2
      go_wp2
      go_end0
      refine ⟨rfl, ?_, HF7.out⟩
      rw [← HU2.out, ← HL2.out]
      exact HS7.out)
  · go_wp2_with fail
    go_region_law ((refine step_append_room rfl (.tmp 46) (.tmp 53) 60 rfl 3 i0 1 Tryz.underlying60 HI.out HZ1.out b off 1 c (by simp [Act.eval, Act.put]) ⟨b, off + 2, none⟩ m (c - 2) (szVals (zr)) (by simp [Act.eval, Act.put]) (by rw [szVals_len, HM.out, Nat.mul_one]) (news_at HNWS.out) (one_szVals _) (by omega) HSPA.out ?_))
    all_goals (
      clear cc3 ff3 c3 f3 hw1 hw2
      have hs6 := HSET.out
      have hf6 := HFAR.out
      clear HSET HFAR
      generalize (w5.drew.setCells b (off + 1) (szVals (zr))).setCell ⟨r, 3, none⟩ (.slice (some ⟨b, off, none⟩) (1 + m) c) = w6 at hs6 hf6 ⊢
      obtain ⟨u2, hu2⟩ : ∃ q, q = used - z1 := ⟨_, rfl⟩
      obtain ⟨l2, hl2⟩ : ∃ q, q = lost + 1 := ⟨_, rfl⟩
      have e5 : IntKind.i64.wrap ((used : Int) - (z1 : Int)) = (u2 : Int) := by rw [IntKind.wrap_i64]; omega
      have e6 : IntKind.u64.wrap ((lost : Int) + 1) = (l2 : Int) := by rw [IntKind.wrap_u64]; omega
      have c4 := hs6.c4
      have c6 := hs6.c6
      have f4 := hs6.fr 4
      have f6 := hs6.fr 6
      have HS7 := Lib.hid ((hs6.set4 u2).set6 l2)
      have HF7 := Lib.hid (show FarR base r g _ ((w6.setCell ⟨r, 4, none⟩ (.int .i64 (u2 : Nat))).setCell ⟨r, 6, none⟩ (.int .u64 (l2 : Nat))) from Far.set (Far.set hf6 (Or.inl rfl) hs6.hr 4 _) (Or.inl rfl) hs6.hr 6 _)
      have HU2 := Lib.hid hu2
      have HL2 := Lib.hid hl2
      clear hs6 hf6 hu2 hl2
      go_wp2
      go_end0
      refine ⟨rfl, ?_, HF7.out⟩
      rw [← HU2.out, ← HL2.out]
      exact HS7.out)
end
end Go.Proofs.YtnhmdinpfcoebaaGreatDoor.Rg
end

/-! === RingC -/
section
/- The ring's calls in the frames' words: lose, Put. -/
namespace Go.Proofs.YtnhmdinpfcoebaaGreatDoor.Rg
open Go.RowKit
set_option linter.unusedVariables false
set_option linter.unusedSimpArgs false
set_option maxRecDepth 100000
theorem putG_step {cap : Nat} {pol : Int} {t : List UInt8} {s : RG} (h : WF cap s) (h1 : t.length ≤ cap) :
    putG cap pol t s.L.length s = if t.length ≤ cap - s.used then (0, ⟨s.L ++ [t], s.begun, s.gone⟩) else if pol = 0 ∨ cap < t.length + s.rest then (7, ⟨s.L, s.begun, s.gone ++ [t]⟩) else putG cap pol t s.lose.L.length s.lose := by
  cases hL : s.L.length with
  | zero =>
    have : s.used = 0 := by
      have e : s.L = [] := List.eq_nil_of_length_eq_zero hL
      unfold RG.used RG.bytes
      rw [e]; rfl
    rw [if_pos (by omega)]
    rfl
  | succ n =>
    conv => lhs; unfold putG
    split
    · rfl
    · rename_i ha
      split
      · rfl
      · rename_i hb
        have := (lose_len (h.can ha (fun hc => hb (.inr hc)))).1
        have e : s.lose.L.length = n := by omega
        rw [e]
/-- The ring lies there: it holds these frames. -/
def RingAt (w : World) (base r g cap : Nat) (pol : Int) (s : RG) : Prop := 179 ≤ cap ∧ cap ≤ 1048576 ∧ WF cap s ∧ ∃ head R A c, RW w base r g cap pol head R A s.sizes c s.used s.begun s.gone.length ∧ head < cap ∧ RoomAt cap head R s.bytes
theorem rest_le {cap : Nat} {s : RG} (h : WF cap s) : s.rest ≤ cap := by
  have := h.room
  rw [used_len] at this
  unfold RG.rest
  split
  · generalize s.sizes = zs at this ⊢
    cases zs with
    | nil => simp [hd0]
    | cons z zs => simp only [List.sum_cons] at this; show z ≤ cap; omega
  · omega
theorem full_ring {w : World} {base r g cap : Nat} {pol : Int} {s : RG} {t : List UInt8} {hd c gl g2 : Nat} {R : Nat → UInt8} {A : Option Addr} (hcap : 179 ≤ cap) (hcap2 : cap ≤ 1048576) (hwf : WF cap s) (hhd : hd < cap) (hrm : RoomAt cap hd R s.bytes) (hgl : gl = s.gone.length) (hg2 : g2 = gl + 1)
    (h : RW w base r g cap pol hd R A s.sizes c s.used s.begun g2) : RingAt w base r g cap pol ⟨s.L, s.begun, s.gone ++ [t]⟩ := by
  refine ⟨hcap, hcap2, ⟨hwf.1, hwf.2, hwf.3⟩, hd, R, A, c, ?_, hhd, hrm⟩
  have e : (RG.gone ⟨s.L, s.begun, s.gone ++ [t]⟩).length = g2 := by simp; omega
  rw [e]
  exact h
def lenAt (r : Nat) (w : World) : Nat := match w.cell? ⟨r, 3, none⟩ with
  | some (.slice _ n _) => n
  | _ => 0
section
variable {w w' : World} {base r g cap : Nat} {pol : Int} {s : RG}
theorem RingAt.grow (h : RingAt w base r g cap pol s) (hg : Grow w w') : RingAt w' base r g cap pol s := by
  obtain ⟨h1, h2, h3, hd, R, A, c, h4, h5, h6⟩ := h
  exact ⟨h1, h2, h3, hd, R, A, c, h4.grow hg, h5, h6⟩
theorem RingAt.base_le (h : RingAt w base r g cap pol s) : base ≤ w.heap.size := by
  obtain ⟨h1, h2, h3, hd, R, A, c, h4, h5, h6⟩ := h
  exact h4.base_le
theorem RingAt.lenAt (h : RingAt w base r g cap pol s) : lenAt r w = s.L.length := by
  obtain ⟨h1, h2, h3, hd, R, A, c, h4, h5, h6⟩ := h
  unfold Rg.lenAt
  rw [h4.c3]
  simp [RG.sizes]
theorem sizes_len (s : RG) : s.sizes.length = s.L.length := by simp [RG.sizes]
theorem lose_ring (h : RingAt w base r g cap pol s) (hcan : (s.begun = true ∧ ∃ f f1 l, s.L = f :: f1 :: l) ∨ (s.begun = false ∧ ∃ f l, s.L = f :: l)) (hl : s.gone.length < 4611686018427387904) :
    Calls Tryz.prog 27 #[.pointer (some ⟨r, 0, none⟩)] w fun e w' => e = .returned (.tuple #[]) ∧ RingAt w' base r g cap pol s.lose ∧ FarR base r g w w' := by
  obtain ⟨h1, h2, h3, hd, R, A, c, h4, h5, h6⟩ := h
  have h3' := h3.lose
  have hroom := h3.room
  rcases hcan with ⟨hb, f, f1, l, hL⟩ | ⟨hb, f, l, hL⟩
  · obtain ⟨L, b, go⟩ := s
    simp only at hb hL
    subst hb hL
    have hu : (RG.used ⟨f :: f1 :: l, true, go⟩) = f.length + (f1.length + l.flatten.length) := by simp [RG.used, RG.bytes]
    have hbytes : (RG.bytes ⟨f :: f1 :: l, true, go⟩) = f ++ f1 ++ l.flatten := by simp [RG.bytes]
    rw [hbytes] at h6
    refine (lose_begun (z0 := f.length) (z1 := f1.length) (zr := l.map List.length) h4 (by omega) h5 (by omega) (by omega) (by omega) hl).mono ?_
    rintro e w2 ⟨rfl, hw, hf⟩
    refine ⟨rfl, ⟨h1, h2, h3', (hd + f1.length) % cap, layR R cap ((hd + f1.length) % cap) (peekR cap hd R f.length) f.length, A, c, ?_, Nat.mod_lt _ (by omega), ?_⟩, hf⟩
    · have e1 : (RG.lose ⟨f :: f1 :: l, true, go⟩).used = (RG.used ⟨f :: f1 :: l, true, go⟩) - f1.length := by
        rw [hu]; simp [RG.lose, RG.used, RG.bytes]; try omega
      have e2 : (RG.lose ⟨f :: f1 :: l, true, go⟩).gone.length = go.length + 1 := by simp [RG.lose]
      rw [e1, e2]
      exact hw
    · have e3 : (RG.lose ⟨f :: f1 :: l, true, go⟩).bytes = f ++ l.flatten := by simp [RG.lose, RG.bytes]
      rw [e3, peekR_take h6 (by simp only [List.length_append]; omega)]
      have e4 : (f ++ f1 ++ l.flatten).take f.length = f := by simp
      rw [e4]
      exact RoomAt.lose h6 (by simp only [List.length_append]; omega)
  · obtain ⟨L, b, go⟩ := s
    simp only at hb hL
    subst hb hL
    have hu : (RG.used ⟨f :: l, false, go⟩) = f.length + l.flatten.length := by simp [RG.used, RG.bytes]
    have hbytes : (RG.bytes ⟨f :: l, false, go⟩) = f ++ l.flatten := by simp [RG.bytes]
    rw [hbytes] at h6
    refine (lose_plain (z0 := f.length) (zr := l.map List.length) h4 (by omega) h5 (by omega) (by omega) (by omega) hl).mono ?_
    rintro e w2 ⟨rfl, hw, hf⟩
    refine ⟨rfl, ⟨h1, h2, h3', (hd + f.length) % cap, layR R cap ((hd + f.length) % cap) (peekR cap hd R 0) 0, A, c, ?_, Nat.mod_lt _ (by omega), ?_⟩, hf⟩
    · have e1 : (RG.lose ⟨f :: l, false, go⟩).used = (RG.used ⟨f :: l, false, go⟩) - f.length := by
        rw [hu]; simp [RG.lose, RG.used, RG.bytes]
      have e2 : (RG.lose ⟨f :: l, false, go⟩).gone.length = go.length + 1 := by simp [RG.lose]
      rw [e1, e2]
      exact hw
    · have e3 : (RG.lose ⟨f :: l, false, go⟩).bytes = (f ++ l.flatten).drop f.length := by simp [RG.lose, RG.bytes]
      rw [e3]
      exact RoomAt.drop h6 _
theorem rest_ring (h : RingAt w base r g cap pol s) (x : Nat) (hx : s.rest = x) : Calls Tryz.prog 26 #[.pointer (some ⟨r, 0, none⟩)] w fun e w' => e = .returned (.int .i64 x) ∧ w' = w := by
  obtain ⟨h1, h2, h3, hd, R, A, c, h4, h5, h6⟩ := h
  refine rest_any h4 x (fun hb => ?_) (by rw [← hx]; rfl)
  rw [sizes_len]
  exact List.length_pos_iff.2 (h3.beg hb)
theorem used_ring (h : RingAt w base r g cap pol s) (x : Nat) (hx : s.used = x) : Calls Tryz.prog 15 #[.pointer (some ⟨r, 0, none⟩)] w fun e w' => e = .returned (.int .i64 x) ∧ w' = w := by
  obtain ⟨h1, h2, h3, hd, R, A, c, h4, h5, h6⟩ := h
  rw [← hx]
  exact used_any h4
theorem lost_ring (h : RingAt w base r g cap pol s) (x : Nat) (hx : s.gone.length = x) : Calls Tryz.prog 43 #[.pointer (some ⟨r, 0, none⟩)] w fun e w' => e = .returned (.int .u64 x) ∧ w' = w := by
  obtain ⟨h1, h2, h3, hd, R, A, c, h4, h5, h6⟩ := h
  rw [← hx]
  exact lost_any h4
end
theorem push_ring {w : World} {base r g cap : Nat} {pol : Int} {s : RG} {t : List UInt8} {fr us u2 hd c : Nat} {R : Nat → UInt8} {A : Option Addr} (hcap : 179 ≤ cap) (hcap2 : cap ≤ 1048576) (hwf : WF cap s) (ha : t.length ≤ fr) (hfr : fr = cap - us) (hus : us = s.used) (hu2 : u2 = us + t.length) (h1 : 1 ≤ t.length) (hhd : hd < cap) (hrm : RoomAt cap hd R s.bytes) (gl : Nat)
    (h : RW w base r g cap pol hd (layR R cap (hd + us) t t.length) A (s.sizes ++ [t.length]) c u2 s.begun s.gone.length) : RingAt w base r g cap pol ⟨s.L ++ [t], s.begun, s.gone⟩ := by
  subst hfr hus hu2
  refine ⟨hcap, hcap2, hwf.push ha h1, hd, layR R cap (hd + s.used) t t.length, A, c, ?_, hhd, ?_⟩
  · have e1 : RG.sizes ⟨s.L ++ [t], s.begun, s.gone⟩ = s.sizes ++ [t.length] := by simp [RG.sizes]
    have e2 : RG.used ⟨s.L ++ [t], s.begun, s.gone⟩ = s.used + t.length := by simp [RG.used, RG.bytes]
    rw [e1, e2]
    exact h
  · have e3 : RG.bytes ⟨s.L ++ [t], s.begun, s.gone⟩ = s.bytes ++ t := by simp [RG.bytes]
    rw [e3]
    have := hwf.room
    exact RoomAt.push hrm t (by unfold RG.used at ha this; omega)
theorem wpList_append_sz {ops : Array Oper} {rest : List Oper} {o : Oper} {a : Act} {Q : Exit → Act → World → Prop} {w : World} (hgd : o.guard = none) (s x : Operand)
    (ho : o.op = .call { callee := .builtin .append, args := #[s, x], argTypes := #[60, 60] }) {base : Nat} {A : Option Addr} {zs : List Nat} {c : Nat} (h : SzAt w base A zs c) (hbase : base ≤ w.heap.size) (hlen : zs.length < 2000000) (p z : Nat) (hp : w.cell? ⟨p, 0, none⟩ = some (.int .i64 (z : Nat)))
    (hs : a.eval s = .slice A zs.length c) (hx : a.eval x = .slice (some ⟨p, 0, none⟩) 1 1)
    (hK : ∀ A' c' w', SzAt w' base A' (zs ++ [z]) c' → Far (fun _ => False) 3 base w w' → wpList Tryz.prog ops Q rest (a.put o.dst (.slice A' (zs.length + 1) c')) w') : wpList Tryz.prog ops Q (o :: rest) a w := by
  refine wpList_plain hgd fun K hK' => ?_
  obtain ⟨A', c', w', hrun, h1, h2⟩ := h.append_run hbase hlen p z hp o.type (fun _ => False)
  unfold Oper.wp execOp
  simp only [ho, resolve, invoke, builtin, Sem.run_bind, Sem.run_pure, Result.andThen_ok, List.map_toArray, List.map_cons, List.map_nil, hs, hx, hrun]
  exact hK' _ _ (hK A' c' w' h1 h2)
attribute [local irreducible] roomC ringC peekR layR strOf putG RG.used RG.rest RG.lose RG.sizes RG.bytes RingAt
section
variable {w : World} {base r g cap : Nat} {pol : Int} {s : RG}
theorem put_bad (h : RingAt w base r g cap pol s) (t : List UInt8) (ht : ¬ (1 ≤ t.length ∧ t.length ≤ 179)) : Calls Tryz.prog 10 #[.pointer (some ⟨r, 0, none⟩), .string ⟨t.toArray⟩] w fun e w' => e = .returned (.int .i64 1) ∧ w' = w := by
  clear h
  by_cases h1 : (t.length : Int) < 1
  · clear ht
    go_enter Tryz.func10, Tryz.ntmps10
    go_wp2_with fail
    go_step3
    go_wp2
    rw [Exit.noGoto_ret]
    go_ret
    exact ⟨rfl, rfl⟩
  · have h2 : (179 : Int) < (t.length : Int) := by omega
    clear ht
    go_enter Tryz.func10, Tryz.ntmps10
    go_wp2_with fail
    go_step3
    go_wp2
    rw [Exit.noGoto_ret]
    go_ret
    exact ⟨rfl, rfl⟩
set_option maxHeartbeats 4000000 in
theorem put_walk (h : RingAt w base r g cap pol s) (t : List UInt8) (x : Int) (s2 : RG) (hp : putG cap pol t s.L.length s = (x, s2)) (ht1 : 1 ≤ t.length) (ht2 : t.length ≤ 179) (hl : s.gone.length + s.L.length < 4611686018427387900) :
    Calls Tryz.prog 10 #[.pointer (some ⟨r, 0, none⟩), .string ⟨t.toArray⟩] w fun e w' => e = .returned (.int .i64 x) ∧ RingAt w' base r g cap pol s2 ∧ FarR base r g w w' := by
  have HR := Lib.hid h
  have HP := Lib.hid hp
  have HL := Lib.hid hl
  have hcap : 179 ≤ cap := by unfold RingAt at h; exact h.1
  have hcap2 : cap ≤ 1048576 := by unfold RingAt at h; exact h.2.1
  clear h hp hl
  go_enter Tryz.func10, Tryz.ntmps10
  go_wp2_with fail
  go_step3
  go_wp2_with fail
  go_step3
  go_wp2_with fail
  go_loopw [30] (fun _ wr => ∃ s', RingAt wr base r g cap pol s' ∧ FarR base r g w wr ∧ s'.gone.length + s'.L.length ≤ s.gone.length + s.L.length ∧ putG cap pol t s.L.length s = putG cap pol t s'.L.length s') (fun _ wq => lenAt r wq)
  case atStart => exact ⟨s, HR.out, Far.refl _ _ _ _, Nat.le_refl _, rfl⟩
  case round =>
    obtain ⟨s', h', hf, hl, hp⟩ := hrel
    have hwf : WF cap s' := by unfold RingAt at h'; exact h'.2.2.1
    have hroom := hwf.room
    have hst := putG_step (t := t) (pol := pol) hwf (by omega)
    rw [← hp, HP.out] at hst
    have hl2 := HL.out
    have HR' := Lib.hid h'
    have HF := Lib.hid hf
    obtain ⟨hd, R, A, c, hw, hhd, hrm⟩ : ∃ hd R A c, RW wr base r g cap pol hd R A s'.sizes c s'.used s'.begun s'.gone.length ∧ hd < cap ∧ RoomAt cap hd R s'.bytes := by unfold RingAt at h'; exact h'.2.2.2
    have HW := Lib.hid hw
    have HRM := Lib.hid hrm
    have c0 := hw.c0
    have c1 := hw.c1
    have c4 := hw.c4
    have c6 := hw.c6
    have f6 := hw.fr 6
    obtain ⟨us, hus⟩ : ∃ q, q = s'.used := ⟨_, rfl⟩
    obtain ⟨fr, hfr⟩ : ∃ q, q = cap - us := ⟨_, rfl⟩
    obtain ⟨gl, hgl⟩ : ∃ q, q = s'.gone.length := ⟨_, rfl⟩
    rw [← hus] at c4 hst hroom
    rw [← hgl] at c6 hl
    rw [← hfr] at hst
    have e1 : IntKind.i64.wrap ((cap : Int) - (us : Int)) = (fr : Int) := by rw [IntKind.wrap_i64]; omega
    have HUS := Lib.hid hus
    have HFR := Lib.hid hfr
    have HGL := Lib.hid hgl
    have HWF := Lib.hid hwf
    clear hw hrm h' hf hp hus hfr hgl hwf
    by_cases ha : t.length ≤ fr
    · rw [if_pos ha] at hst
      obtain ⟨rfl, rfl⟩ := Prod.mk.inj hst
      clear hst
      have ha' : ¬ (fr : Int) < (t.length : Int) := by omega
      go_wp2_with fail
      go_quiet (fail)
      have hw1 := HW.out.grow (Grow.drewN wr nq)
      have hf1 : FarR base r g w (wr.drewN nq) := Far.trans HF.out (Far.grow (Grow.drewN wr nq) HW.out.base_le)
      clear c0 c1 c4 c6 f6 e1
      generalize wr.drewN nq = w1 at hw1 hf1 ⊢
      rw [← HUS.out] at hw1
      have c4 := hw1.c4
      have hfrr : fr = cap - us := HFR.out
      have HLAY := Lib.hid (lay_any hw1 us (us : Int) t rfl (by omega) hhd (by omega) (by omega))
      have HF1 := Lib.hid hf1
      clear hw1 hf1
      obtain ⟨u2, hu2⟩ : ∃ q, q = us + t.length := ⟨_, rfl⟩
      have e5 : IntKind.i64.wrap ((us : Int) + (t.length : Int)) = (u2 : Int) := by rw [IntKind.wrap_i64]; omega
      have HU2 := Lib.hid hu2; clear hu2
      have HFRR := Lib.hid hfrr; clear hfrr
      go_wp2_with fail
      refine HLAY.out.mono ?_
      rintro e w2 ⟨rfl, hw2, hf2⟩
      clear c4 HLAY
      have c4 := hw2.c4
      have f4 := hw2.fr 4
      have HW3 := Lib.hid (hw2.set4 u2)
      have HF3 := Lib.hid (show FarR base r g w (w2.setCell ⟨r, 4, none⟩ (.int .i64 (u2 : Nat))) from Far.set (Far.trans HF1.out hf2) (Or.inl rfl) hw2.hr 4 _)
      clear hw2 hf2
      obtain ⟨w3, hw3⟩ : ∃ w3, w3 = w2.setCell ⟨r, 4, none⟩ (.int .i64 (u2 : Nat)) := ⟨_, rfl⟩
      rw [← hw3] at HW3 HF3
      have HQ3 := Lib.hid hw3; clear hw3
      go_upto_region 14 with fail
      rw [← HQ3.out]
      clear c4 f4 e5 HQ3
      have c3 := HW3.out.c3
      obtain ⟨nz, hnz⟩ : ∃ q, q = s'.sizes.length := ⟨_, rfl⟩
      rw [← hnz] at c3
      have hszc : nz ≤ 1048576 := by
        have h1 := HWF.out.len
        have h2 := sizes_len s'
        omega
      have HNZ := Lib.hid hnz; clear hnz
      go_wp2_with (at_builtin; refine wpList_append_sz rfl (.tmp 82) (.tmp 85) rfl (HW3.out.sz.keep fun k cs hk => (Grow.alloc w3 (.cells #[.int .i64 (t.length : Int)] 3)).at hk) (by have := HW3.out.base_le; simp; omega) (by rw [← HNZ.out]; omega) w3.heap.size t.length (cell_block (heapAt_alloc_new w3 _) 0) (by rw [← HNZ.out]; rfl) (by rfl) ?k1)
      case k1 =>
      intro A' c' w4 hsz4 hf4
      have hb4 := hf4.2 r _ ((Grow.alloc w3 (.cells #[.int .i64 (t.length : Int)] 3)).at HW3.out.blk) (fun h => h) (fun cs f e => ne3 _ _ _ _ e.symm)
      have hm4 := hf4.2 g _ ((Grow.alloc w3 (.cells #[.int .i64 (t.length : Int)] 3)).at HW3.out.room) (fun h => h) (fun cs f e => ne35 _ _ _ _ e.symm)
      have c3' := cell_block hb4 3
      rw [ringC3, ← HNZ.out] at c3'
      have f3' := free_block hb4 3
      have hfin := RW.set3 HW3.out.hr HW3.out.hg hb4 hm4 hsz4
      have hff : FarR base r g w w4 := Far.trans HF3.out (Far.trans (Far.grow (Grow.alloc w3 (.cells #[.int .i64 (t.length : Int)] 3)) HW3.out.base_le) ⟨hf4.1, fun k o hk _ ho => hf4.2 k o hk (fun h => h) ho⟩)
      have hlen : (s'.sizes ++ [t.length]).length = nz + 1 := by rw [List.length_append, ← HNZ.out]; rfl
      rw [hlen] at hfin
      have HFIN := Lib.hid hfin
      have HFF := Lib.hid (show FarR base r g w (w4.setCell ⟨r, 3, none⟩ (.slice A' (nz + 1) c')) from Far.set hff (Or.inl rfl) HW3.out.hr 3 _)
      rw [← HNZ.out]
      clear hfin hff hlen hsz4 hf4 hb4 hm4 c3
      go_wp2
      rw [Exit.noGoto_ret]
      go_ret
      refine ⟨rfl, push_ring hcap hcap2 HWF.out ha HFRR.out HUS.out HU2.out ht1 hhd HRM.out 0 HFIN.out, HFF.out⟩
    · rw [if_neg ha] at hst
      have ha' : (fr : Int) < (t.length : Int) := by omega
      obtain ⟨rs, hrs⟩ : ∃ q, s'.rest = q := ⟨_, rfl⟩
      have HREST := Lib.hid fun (n : Nat) => rest_ring (HR'.out.grow (Grow.drewN wr n)) rs hrs
      obtain ⟨g2, hg2⟩ : ∃ q, q = gl + 1 := ⟨_, rfl⟩
      have e6 : IntKind.u64.wrap ((gl : Int) + 1) = (g2 : Int) := by rw [IntKind.wrap_u64]; omega
      have hrsle : rs ≤ 1048576 := by have := rest_le HWF.out; omega
      obtain ⟨sm, hsm⟩ : ∃ q, q = t.length + rs := ⟨_, rfl⟩
      have e2 : IntKind.i64.wrap ((t.length : Int) + (rs : Int)) = (sm : Int) := by rw [IntKind.wrap_i64]; omega
      have HG2 := Lib.hid hg2; clear hg2
      go_wp2_with fail
      go_quiet (fail)
      replace HREST := Lib.hid fun (n2 : Nat) => rest_ring ((HR'.out.grow (Grow.drewN wr nq)).grow (Grow.drewN (wr.drewN nq) n2)) rs hrs
      by_cases hpol : pol = 0
      · rw [if_pos (Or.inl hpol)] at hst
        have hpb : (pol == 0) = true := by simp [hpol]
        clear e2 hsm hrs
        obtain ⟨rfl, rfl⟩ := Prod.mk.inj hst
        clear hst
        have hw1 := HW.out.grow (Grow.drewN wr nq)
        have hf1 : FarR base r g w (wr.drewN nq) := Far.trans HF.out (Far.grow (Grow.drewN wr nq) HW.out.base_le)
        clear c0 c1 c4 c6 f6 e1
        generalize wr.drewN nq = w1 at hw1 hf1 ⊢
        have c0 := hw1.c0
        have c1 := hw1.c1
        have c4 := hw1.c4
        have c6 := hw1.c6
        rw [← HUS.out] at c4
        rw [← HGL.out] at c6
        have f6 := hw1.fr 6
        have HW7 := Lib.hid (hw1.set6 g2)
        have HF7 := Lib.hid (show FarR base r g w (w1.setCell ⟨r, 6, none⟩ (.int .u64 (g2 : Nat))) from Far.set hf1 (Or.inl rfl) hw1.hr 6 _)
        clear hw1 hf1
        go_wp2
        rw [Exit.noGoto_ret]
        go_ret
        exact ⟨rfl, full_ring hcap hcap2 HWF.out hhd HRM.out HGL.out HG2.out HW7.out, HF7.out⟩
      · have hpb : (pol == 0) = false := by simp [hpol]
        clear HREST e1
        have hw1 := HW.out.grow (Grow.drewN wr nq)
        have hr1 := HR'.out.grow (Grow.drewN wr nq)
        have hf1 : FarR base r g w (wr.drewN nq) := Far.trans HF.out (Far.grow (Grow.drewN wr nq) HW.out.base_le)
        clear c0 c1 c4 c6 f6
        generalize wr.drewN nq = w1 at hw1 hr1 hf1 ⊢
        have c0 := hw1.c0
        have c1 := hw1.c1
        have c4 := hw1.c4
        have c6 := hw1.c6
        rw [← HUS.out] at c4
        rw [← HGL.out] at c6
        have f6 := hw1.fr 6
        have HW1 := Lib.hid hw1
        have HR1 := Lib.hid hr1
        have HF1 := Lib.hid hf1
        clear hw1 hr1 hf1
        have HRQ := Lib.hid fun (n : Nat) => rest_ring (HR1.out.grow (Grow.drewN w1 n)) rs hrs
        by_cases hbig : cap < t.length + rs
        · rw [if_pos (Or.inr (by rw [hrs]; exact hbig))] at hst
          obtain ⟨rfl, rfl⟩ := Prod.mk.inj hst
          have hbi : (cap : Int) < (sm : Int) := by omega
          clear hrs hsm hbig hst
          go_wp2_with fail
          go_quiet ((go_at_call 26; exact Calls.quiet_of_same (HRQ.out _)))
          have hw1 := HW1.out.grow (Grow.drewN w1 nq)
          have hr1 := HR1.out.grow (Grow.drewN w1 nq)
          have hf1 : FarR base r g w (w1.drewN nq) := Far.trans HF1.out (Far.grow (Grow.drewN w1 nq) HW1.out.base_le)
          clear c0 c1 c4 c6 f6
          generalize w1.drewN nq = w2 at hw1 hr1 hf1 ⊢
          have c0 := hw1.c0
          have c1 := hw1.c1
          have c4 := hw1.c4
          have c6 := hw1.c6
          rw [← HUS.out] at c4
          rw [← HGL.out] at c6
          have f6 := hw1.fr 6
          have HW2 := Lib.hid hw1
          have HR2 := Lib.hid hr1
          have HF2 := Lib.hid hf1
          clear hw1 hr1 hf1
          have HW7 := Lib.hid (HW2.out.set6 g2)
          have HF7 := Lib.hid (show FarR base r g w (w2.setCell ⟨r, 6, none⟩ (.int .u64 (g2 : Nat))) from Far.set HF2.out (Or.inl rfl) HW2.out.hr 6 _)
          go_wp2
          rw [Exit.noGoto_ret]
          go_ret
          exact ⟨rfl, full_ring hcap hcap2 HWF.out hhd HRM.out HGL.out HG2.out HW7.out, HF7.out⟩
        · have hbi : ¬ (cap : Int) < (sm : Int) := by omega
          have hcan := HWF.out.can (t := t) (by rw [← HUS.out, ← HFR.out]; exact ha) (by rw [hrs]; exact hbig)
          rw [if_neg (by rw [hrs]; intro h; rcases h with h | h; exact hpol h; exact hbig h)] at hst
          have husp : ((us : Int) == 0) = false := by have := HFR.out; simp; omega
          have hlens := lose_len hcan
          have HLO := Lib.hid fun (w5 : World) (h5 : RingAt w5 base r g cap pol s') => lose_ring h5 hcan (by rw [← HGL.out]; omega)
          have HCAN := Lib.hid hlens
          have HST := Lib.hid hst
          clear hrs hsm hbig hst hcan hlens
          go_wp2_with fail
          go_quiet ((go_at_call 26; exact Calls.quiet_of_same (HRQ.out _)))
          have hw1 := HW1.out.grow (Grow.drewN w1 nq)
          have hr1 := HR1.out.grow (Grow.drewN w1 nq)
          have hf1 : FarR base r g w (w1.drewN nq) := Far.trans HF1.out (Far.grow (Grow.drewN w1 nq) HW1.out.base_le)
          clear c0 c1 c4 c6 f6
          generalize w1.drewN nq = w2 at hw1 hr1 hf1 ⊢
          have c0 := hw1.c0
          have c1 := hw1.c1
          have c4 := hw1.c4
          have c6 := hw1.c6
          rw [← HUS.out] at c4
          rw [← HGL.out] at c6
          have f6 := hw1.fr 6
          have HW2 := Lib.hid hw1
          have HR2 := Lib.hid hr1
          have HF2 := Lib.hid hf1
          clear hw1 hr1 hf1
          go_wp2_with fail
          refine (HLO.out w2 HR2.out).mono ?_
          rintro e w3 ⟨rfl, hr3, hf3⟩
          have HR3 := Lib.hid hr3
          have HF3 := Lib.hid (show FarR base r g w w3 from Far.trans HF2.out hf3)
          clear hr3 hf3
          go_wp2_with fail
          go_roundw
          case rel => exact ⟨s'.lose, HR3.out, HF3.out, by have := HCAN.out; have := HGL.out; omega, by rw [HP.out]; exact HST.out⟩
          case measure =>
            rw [HR3.out.lenAt, HR'.out.lenAt]
            have := HCAN.out
            omega

end
end Go.Proofs.YtnhmdinpfcoebaaGreatDoor.Rg
end

/-! === RingD -/
section
/- The walk of Drain. -/
namespace Go.Proofs.YtnhmdinpfcoebaaGreatDoor.Rg
open Go.RowKit
set_option linter.unusedVariables false
set_option linter.unusedSimpArgs false
set_option maxRecDepth 100000
theorem dr_whole {n : Nat} {f : List UInt8} {l : List (List UInt8)} {b : Bool} (h0 : 0 < n) (h : f.length ≤ n) : dr n (f :: l) b = dr (n - f.length) l false := by
  conv => lhs; unfold dr
  rw [if_neg (by omega), if_pos h]
theorem dr_part {n : Nat} {f : List UInt8} {l : List (List UInt8)} {b : Bool} (h0 : 0 < n) (h : ¬ f.length ≤ n) : dr n (f :: l) b = dr 0 (f.drop n :: l) true := by
  conv => lhs; unfold dr
  rw [if_neg (by omega), if_neg h]
  unfold dr
  rw [if_pos rfl]
theorem dr_zero (l : List (List UInt8)) (b : Bool) : dr 0 l b = (l, b) := by
  cases l <;> simp [dr]
attribute [local irreducible] roomC ringC peekR layR strOf putG RG.used RG.rest RG.lose RG.sizes RG.bytes RingAt dr
section
variable {w : World} {base r g cap : Nat} {pol : Int} {s : RG}
set_option maxHeartbeats 4000000 in
theorem drain_ring (h : RingAt w base r g cap pol s) (most : Int) (n : Nat) (hn : n = min most.toNat s.used) : Calls Tryz.prog 29 #[.pointer (some ⟨r, 0, none⟩), .int .i64 most] w fun e w' => e = .returned (strOf (s.bytes.take n)) ∧ RingAt w' base r g cap pol (drain s n) ∧ FarR base r g w w' := by
  obtain ⟨hcap, hcap2, hwf, hd, R, A, c, hw, hhd, hrm⟩ : 179 ≤ cap ∧ cap ≤ 1048576 ∧ WF cap s ∧ ∃ hd R A c, RW w base r g cap pol hd R A s.sizes c s.used s.begun s.gone.length ∧ hd < cap ∧ RoomAt cap hd R s.bytes := by unfold RingAt at h; exact h
  have hroom := hwf.room
  have hpk : peekR cap hd R n = s.bytes.take n := peekR_take hrm (by show n ≤ s.bytes.length; unfold RG.used at hn; omega)
  obtain ⟨us, hus⟩ : ∃ q, q = s.used := ⟨_, rfl⟩
  rw [← hus] at hw hn hroom
  have hnu : n ≤ us := by omega
  have HPEEK := Lib.hid (peek_any hw 0 n 0 rfl (by omega) hhd (Nat.zero_le _) (by omega))
  rw [Nat.add_zero, hpk] at HPEEK
  have hmx : min (max most 0) (us : Int) = (n : Int) := by omega
  have c4 := hw.c4
  have HW := Lib.hid hw
  have HUS := Lib.hid hus
  have HWF := Lib.hid hwf
  have HRM := Lib.hid hrm
  clear h hw hus hwf hrm hpk hn
  go_enter Tryz.func29, Tryz.ntmps29
  go_upto_region 3 with fail
  go_cut [5] (fun v wx => v = .int .i64 n ∧ wx = w)
  case first => as_aux_lemma =>
    go_wp2
    all_goals (as_aux_lemma => (go_meet; exact ⟨by congr 1; omega, rfl⟩))
  case rest =>
  obtain ⟨rfl, hwx⟩ := hcut
  subst hwx
  go_wp2_with fail
  refine HPEEK.out.mono ?_
  rintro e w1 ⟨rfl, hg⟩
  clear c4
  have HW1 := Lib.hid (HW.out.grow hg)
  have HF1 := Lib.hid (show FarR base r g _ w1 from Far.grow hg HW.out.base_le)
  clear hg hmx
  have c0 := HW1.out.c0
  have c2 := HW1.out.c2
  obtain ⟨hd2, hhd2⟩ : ∃ q, q = (hd + n) % cap := ⟨_, rfl⟩
  have hhc : hd2 < cap := by rw [hhd2]; exact Nat.mod_lt _ (by omega)
  obtain ⟨q1, hq1⟩ : ∃ q, q = hd + n := ⟨_, rfl⟩
  have e1 : IntKind.i64.wrap ((hd : Int) + (n : Int)) = (q1 : Int) := by rw [IntKind.wrap_i64]; omega
  have e2 : (q1 : Int).tmod (cap : Int) = (hd2 : Int) := by rw [hhd2, hq1]; rfl
  have e3 : ((cap : Int) == 0) = false := by simp; omega
  have e4 : ¬ cap = 0 := by omega
  have HHD := Lib.hid hhd2; clear hhd2 hq1
  go_wp2_with fail
  go_still_tail 15, (by kernel_rfl)
  change wpList _ _ _ _ _ w1.drew
  clear c0 c2 e1 e2 e3
  have hs3 := HW1.out.grow (Below.drew (Grow.refl w1))
  have hf3 : FarR base r g _ w1.drew := Far.trans HF1.out (Far.grow (Below.drew (Grow.refl w1)) HW1.out.base_le)
  generalize w1.drew = w3 at hs3 hf3 ⊢
  obtain ⟨u2, hu2⟩ : ∃ q, q = us - n := ⟨_, rfl⟩
  have e5 : IntKind.i64.wrap ((us : Int) - (n : Int)) = (u2 : Int) := by rw [IntKind.wrap_i64]; omega
  have c2 := hs3.c2
  have c4 := hs3.c4
  have f2 := hs3.fr 2
  have f4 := hs3.fr 4
  have HS3 := Lib.hid ((hs3.set2 hd2).set4 u2)
  have HF3 := Lib.hid (Far.set (hf3.set (Or.inl rfl) hs3.hr 2 (.int .i64 (hd2 : Nat))) (Or.inl rfl) hs3.hr 4 (.int .i64 (u2 : Nat)))
  have HU2 := Lib.hid hu2
  clear hs3 hf3 hu2
  obtain ⟨w4, hw4⟩ : ∃ w4, w4 = (w3.setCell ⟨r, 2, none⟩ (.int .i64 (hd2 : Nat))).setCell ⟨r, 4, none⟩ (.int .i64 (u2 : Nat)) := ⟨_, rfl⟩
  rw [← hw4] at HS3 HF3
  have HQ4 := Lib.hid hw4; clear hw4
  go_wp2_with fail
  rw [← HQ4.out]
  clear c2 c4 f2 f4 e5 HQ4
  go_loopw [5, 7] (fun i _ wr => ∃ k L' b' A' c', i = .int .i64 (k : Nat) ∧ RW wr base r g cap pol hd2 R A' (L'.map List.length) c' u2 b' s.gone.length ∧ dr k L' b' = dr n s.L s.begun ∧ k ≤ L'.flatten.length ∧ L'.flatten.length ≤ cap ∧ (∀ f ∈ L', 0 < f.length) ∧ FarR base r g wc wr) (fun i _ _ => (intOf i).toNat)
  case atStart => exact ⟨n, s.L, s.begun, A, c, rfl, by have := HS3.out; unfold RG.sizes at this; exact this, rfl, by have := HUS.out; unfold RG.used RG.bytes at this; omega, by have := HWF.out.room; unfold RG.used RG.bytes at this; exact this, HWF.out.pos, HF3.out⟩
  case round =>
    obtain ⟨k, L', b', A', c', rfl, hw, hdr, hk, hlc, hpos, hf⟩ := hrel
    have HF := Lib.hid hf; clear hf
    by_cases h0 : 0 < k
    · match L' with
      | [] => simp at hk; omega
      | f :: l =>
        obtain ⟨b, off, rfl, hbb, hcc, hcf⟩ := hw.sz.get (by simp)
        have z1 := hcc 0 (by simp)
        have c3 := hw.c3
        have f0 := hpos f (by simp)
        obtain ⟨z, hz⟩ : ∃ q, q = f.length := ⟨_, rfl⟩
        obtain ⟨m, hm⟩ : ∃ q, q = l.map List.length := ⟨_, rfl⟩
        simp only [List.map_cons, ← hz, ← hm, List.getD_cons_zero, Nat.add_zero, List.length_cons] at hw z1 c3 f0
        obtain ⟨nl, hnl⟩ : ∃ q, q = m.length := ⟨_, rfl⟩
        have hlc2 : nl + 1 ≤ c' := by have := hw.sz.1; simp only [List.length_cons] at this; omega
        rw [← hnl] at c3
        obtain ⟨_, cs, hbk⟩ := hw.sz.blk
        have fz := hcf off
        have hdl : dr k (f :: l) b' = dr n s.L s.begun := hdr
        have hkf : k ≤ z + l.flatten.length := by simp only [List.flatten_cons, List.length_append] at hk; omega
        have hzc : z + l.flatten.length ≤ cap := by simp only [List.flatten_cons, List.length_append] at hlc; omega
        have np : (0 : Int) < (nl : Int) + 1 := by omega
        have hkc : k ≤ cap := by omega
        have HDL := Lib.hid hdl
        have HKF := Lib.hid hkf
        have HPOS := Lib.hid hpos
        have HNL := Lib.hid hnl
        have HM := Lib.hid hm
        have HZ := Lib.hid hz
        clear hnl hm hz
        clear hdl hkf hdr hk hlc hpos hcc hcf
        by_cases hle : z ≤ k
        · by_cases heq : k = z
          · have h0' : (0 : Int) < (z : Int) := by omega
            have ez : IntKind.i64.wrap ((z : Int) - (z : Int)) = 0 := by rw [IntKind.wrap_i64]; omega
            have ez0 : IntKind.i64.wrap 0 = 0 := by rw [IntKind.wrap_i64]; omega
            subst heq
            have hs9 := RW.setSz hw (zs' := 0 :: m) rfl rfl off (.int .i64 (0 : Nat)) (hw.sz.set0 0)
            have hf9 : FarR base r g wc (wr.setCell ⟨b, off, none⟩ (.int .i64 (0 : Nat))) := Far.setT HF.out hbk hbb off _
            obtain ⟨w5, hw5⟩ : ∃ w5, w5 = wr.setCell ⟨b, off, none⟩ (.int .i64 0) := ⟨_, rfl⟩
            have hw5' : w5 = wr.setCell ⟨b, off, none⟩ (.int .i64 (0 : Nat)) := hw5
            rw [← hw5'] at hs9 hf9
            have HS9 := Lib.hid hs9
            have HF9 := Lib.hid hf9
            have HQ5 := Lib.hid hw5
            clear hs9 hf9 hw5 hw5' hw hbk
            go_upto_region 10 with fail
            rw [← HQ5.out]
            clear z1 fz c3 HQ5
            have c3 := HS9.out.c3
            simp only [List.length_cons] at c3
            rw [← HNL.out] at c3
            obtain ⟨b9, off9, e9, _, hcc9, _⟩ := HS9.out.sz.get (by simp)
            injection e9 with e9; injection e9 with e9 e9'
            subst e9 e9'
            have z1 := hcc9 0 (by simp)
            simp only [List.getD_cons_zero, Nat.add_zero] at z1
            have f5 := HS9.out.fr 5
            have c5 := HS9.out.c5
            have HS10 := Lib.hid (HS9.out.set5 false)
            have HF10 := Lib.hid (show FarR base r g wc (w5.setCell ⟨r, 5, none⟩ (.bool false)) from Far.set HF9.out (Or.inl rfl) HS9.out.hr 5 _)
            obtain ⟨w6, hw6⟩ : ∃ w6, w6 = w5.setCell ⟨r, 5, none⟩ (.bool false) := ⟨_, rfl⟩
            rw [← hw6] at HS10 HF10
            have HQ6 := Lib.hid hw6; clear hw6 hcc9
            go_upto_region 11 with fail
            rw [← HQ6.out]
            clear z1 c3 c5 f5 HQ6 HS9 HF9
            have c3 := HS10.out.c3
            simp only [List.length_cons] at c3
            rw [← HNL.out] at c3
            have c5 := HS10.out.c5
            have f3 := HS10.out.fr 3
            have hw1 : IntKind.i64.wrap 1 = 1 := by rw [IntKind.wrap_i64]; omega
            have htl := HS10.out.sz.tail
            by_cases hc1 : c' = 1
            · subst hc1
              have hnl0 : nl = 0 := by omega
              subst hnl0
              have hfin := RW.set3 HS10.out.hr HS10.out.hg HS10.out.blk HS10.out.room (htl.1 rfl)
              rw [← HNL.out] at hfin
              have HFIN := Lib.hid hfin
              have HFF := Lib.hid (show FarR base r g wc (w6.setCell ⟨r, 3, none⟩ (.slice (some ⟨b, off, none⟩) 0 0)) from Far.set HF10.out (Or.inl rfl) HS10.out.hr 3 _)
              clear hfin htl
              go_wp2_with fail
              go_roundw
              case rel => exact ⟨0, l, false, _, _, by rfl, by have := HFIN.out; rw [HM.out] at this; exact this, by rw [← HDL.out, dr_whole f0 (by have := HZ.out; omega), ← HZ.out, Nat.sub_self], by have := HKF.out; (try have := HK2.out); omega, by omega, fun x hx => HPOS.out x (by simp [hx]), HFF.out⟩
              case measure => simp [intOf]; omega
            · have hfin := RW.set3 HS10.out.hr HS10.out.hg HS10.out.blk HS10.out.room htl.2
              rw [← HNL.out] at hfin
              have HFIN := Lib.hid hfin
              have HFF := Lib.hid (show FarR base r g wc (w6.setCell ⟨r, 3, none⟩ (.slice (some ⟨b, off + 1, none⟩) nl (c' - 1))) from Far.set HF10.out (Or.inl rfl) HS10.out.hr 3 _)
              clear hfin htl
              go_wp2_with fail
              go_roundw
              case rel => exact ⟨0, l, false, _, _, by rfl, by have := HFIN.out; rw [HM.out] at this; exact this, by rw [← HDL.out, dr_whole f0 (by have := HZ.out; omega), ← HZ.out, Nat.sub_self], by have := HKF.out; (try have := HK2.out); omega, by omega, fun x hx => HPOS.out x (by simp [hx]), HFF.out⟩
              case measure => simp [intOf]; omega
          · have h0' : (0 : Int) < (k : Int) := by omega
            have hgt : ¬ (k : Int) ≤ (z : Int) := by omega
            obtain ⟨k2, hk2⟩ : ∃ q, q = k - z := ⟨_, rfl⟩
            have ez : IntKind.i64.wrap ((z : Int) - (z : Int)) = 0 := by rw [IntKind.wrap_i64]; omega
            have ez0 : IntKind.i64.wrap 0 = 0 := by rw [IntKind.wrap_i64]; omega
            have ek : IntKind.i64.wrap ((k : Int) - (z : Int)) = (k2 : Int) := by rw [IntKind.wrap_i64]; omega
            have HK2 := Lib.hid hk2; clear hk2
            have hs9 := RW.setSz hw (zs' := 0 :: m) rfl rfl off (.int .i64 (0 : Nat)) (hw.sz.set0 0)
            have hf9 : FarR base r g wc (wr.setCell ⟨b, off, none⟩ (.int .i64 (0 : Nat))) := Far.setT HF.out hbk hbb off _
            obtain ⟨w5, hw5⟩ : ∃ w5, w5 = wr.setCell ⟨b, off, none⟩ (.int .i64 0) := ⟨_, rfl⟩
            have hw5' : w5 = wr.setCell ⟨b, off, none⟩ (.int .i64 (0 : Nat)) := hw5
            rw [← hw5'] at hs9 hf9
            have HS9 := Lib.hid hs9
            have HF9 := Lib.hid hf9
            have HQ5 := Lib.hid hw5
            clear hs9 hf9 hw5 hw5' hw hbk
            go_upto_region 10 with fail
            rw [← HQ5.out]
            clear z1 fz c3 HQ5
            have c3 := HS9.out.c3
            simp only [List.length_cons] at c3
            rw [← HNL.out] at c3
            obtain ⟨b9, off9, e9, _, hcc9, _⟩ := HS9.out.sz.get (by simp)
            injection e9 with e9; injection e9 with e9 e9'
            subst e9 e9'
            have z1 := hcc9 0 (by simp)
            simp only [List.getD_cons_zero, Nat.add_zero] at z1
            have f5 := HS9.out.fr 5
            have c5 := HS9.out.c5
            have HS10 := Lib.hid (HS9.out.set5 false)
            have HF10 := Lib.hid (show FarR base r g wc (w5.setCell ⟨r, 5, none⟩ (.bool false)) from Far.set HF9.out (Or.inl rfl) HS9.out.hr 5 _)
            obtain ⟨w6, hw6⟩ : ∃ w6, w6 = w5.setCell ⟨r, 5, none⟩ (.bool false) := ⟨_, rfl⟩
            rw [← hw6] at HS10 HF10
            have HQ6 := Lib.hid hw6; clear hw6 hcc9
            go_upto_region 11 with fail
            rw [← HQ6.out]
            clear z1 c3 c5 f5 HQ6 HS9 HF9
            have c3 := HS10.out.c3
            simp only [List.length_cons] at c3
            rw [← HNL.out] at c3
            have c5 := HS10.out.c5
            have f3 := HS10.out.fr 3
            have hw1 : IntKind.i64.wrap 1 = 1 := by rw [IntKind.wrap_i64]; omega
            have htl := HS10.out.sz.tail
            by_cases hc1 : c' = 1
            · subst hc1
              have hnl0 : nl = 0 := by omega
              subst hnl0
              have hfin := RW.set3 HS10.out.hr HS10.out.hg HS10.out.blk HS10.out.room (htl.1 rfl)
              rw [← HNL.out] at hfin
              have HFIN := Lib.hid hfin
              have HFF := Lib.hid (show FarR base r g wc (w6.setCell ⟨r, 3, none⟩ (.slice (some ⟨b, off, none⟩) 0 0)) from Far.set HF10.out (Or.inl rfl) HS10.out.hr 3 _)
              clear hfin htl
              go_wp2_with fail
              go_roundw
              case rel => exact ⟨k2, l, false, _, _, by rfl, by have := HFIN.out; rw [HM.out] at this; exact this, by rw [← HDL.out, dr_whole h0 (by have := HZ.out; omega), ← HZ.out, HK2.out], by have := HKF.out; (try have := HK2.out); omega, by omega, fun x hx => HPOS.out x (by simp [hx]), HFF.out⟩
              case measure => simp [intOf]; (try have := HK2.out); omega
            · have hfin := RW.set3 HS10.out.hr HS10.out.hg HS10.out.blk HS10.out.room htl.2
              rw [← HNL.out] at hfin
              have HFIN := Lib.hid hfin
              have HFF := Lib.hid (show FarR base r g wc (w6.setCell ⟨r, 3, none⟩ (.slice (some ⟨b, off + 1, none⟩) nl (c' - 1))) from Far.set HF10.out (Or.inl rfl) HS10.out.hr 3 _)
              clear hfin htl
              go_wp2_with fail
              go_roundw
              case rel => exact ⟨k2, l, false, _, _, by rfl, by have := HFIN.out; rw [HM.out] at this; exact this, by rw [← HDL.out, dr_whole h0 (by have := HZ.out; omega), ← HZ.out, HK2.out], by have := HKF.out; (try have := HK2.out); omega, by omega, fun x hx => HPOS.out x (by simp [hx]), HFF.out⟩
              case measure => simp [intOf]; (try have := HK2.out); omega
        · have h0' : (0 : Int) < (k : Int) := by omega
          have hkz : (k : Int) ≤ (z : Int) := by omega
          obtain ⟨z2, hz2⟩ : ∃ q, q = z - k := ⟨_, rfl⟩
          have ez : IntKind.i64.wrap ((z : Int) - (k : Int)) = (z2 : Int) := by rw [IntKind.wrap_i64]; omega
          have ez0 : IntKind.i64.wrap 0 = 0 := by rw [IntKind.wrap_i64]; omega
          have ek : IntKind.i64.wrap ((k : Int) - (k : Int)) = 0 := by rw [IntKind.wrap_i64]; omega
          have hz20 : (0 : Int) < (z2 : Int) := by omega
          have hz2n : 0 < z2 := by omega
          have HZ2 := Lib.hid hz2; clear hz2
          have hs9 := RW.setSz hw (zs' := z2 :: m) rfl rfl off (.int .i64 (z2 : Nat)) (hw.sz.set0 z2)
          have hf9 : FarR base r g wc (wr.setCell ⟨b, off, none⟩ (.int .i64 (z2 : Nat))) := Far.setT HF.out hbk hbb off _
          obtain ⟨w5, hw5⟩ : ∃ w5, w5 = wr.setCell ⟨b, off, none⟩ (.int .i64 (z2 : Nat)) := ⟨_, rfl⟩
          have hw5' : w5 = wr.setCell ⟨b, off, none⟩ (.int .i64 (z2 : Nat)) := hw5
          rw [← hw5'] at hs9 hf9
          have HS9 := Lib.hid hs9
          have HF9 := Lib.hid hf9
          have HQ5 := Lib.hid hw5
          clear hs9 hf9 hw5 hw5' hw hbk
          go_upto_region 10 with fail
          rw [← HQ5.out]
          clear z1 fz c3 HQ5
          have c3 := HS9.out.c3
          simp only [List.length_cons] at c3
          rw [← HNL.out] at c3
          obtain ⟨b9, off9, e9, _, hcc9, _⟩ := HS9.out.sz.get (by simp)
          injection e9 with e9; injection e9 with e9 e9'
          subst e9 e9'
          have z1 := hcc9 0 (by simp)
          simp only [List.getD_cons_zero, Nat.add_zero] at z1
          have f5 := HS9.out.fr 5
          have c5 := HS9.out.c5
          have hfin := HS9.out.set5 true
          have HFIN := Lib.hid (show RW (w5.setCell ⟨r, 5, none⟩ (.bool true)) base r g cap pol hd2 R (some ⟨b, off, none⟩) ((f.drop k :: l).map List.length) c' u2 true s.gone.length by
            have e : (f.drop k :: l).map List.length = z2 :: m := by
              simp only [List.map_cons, List.length_drop, HM.out]
              have := HZ.out
              have := HZ2.out
              congr 1; omega
            rw [e]; exact hfin)
          have HFF := Lib.hid (show FarR base r g wc (w5.setCell ⟨r, 5, none⟩ (.bool true)) from Far.set HF9.out (Or.inl rfl) HS9.out.hr 5 _)
          clear hfin hcc9
          go_wp2_with fail
          go_roundw
          case rel => exact ⟨0, f.drop k :: l, true, _, _, rfl, HFIN.out, by rw [← HDL.out]; exact (dr_part h0 (by have := HZ.out; omega)).symm, Nat.zero_le _, by simp only [List.flatten_cons, List.length_append, List.length_drop]; have := HZ.out; omega, fun x hx => by
            simp at hx
            rcases hx with hx | hx
            · rw [hx, List.length_drop]; have := HZ.out; omega
            · exact HPOS.out x (by simp [hx]), HFF.out⟩
          case measure => simp [intOf]; (try have := HK2.out); omega
    · have hk0 : k = 0 := by omega
      subst hk0
      rw [dr_zero] at hdr
      have HWE := Lib.hid hw
      have HDR := Lib.hid hdr
      clear hw hdr hk hlc hpos
      go_wp2
      go_ret
      refine ⟨rfl, ?_, HF.out⟩
      have e1 : drain s n = ⟨L', b', s.gone⟩ := by unfold drain; rw [← HDR.out]
      have hwd := HWF.out.drain n
      rw [e1] at hwd ⊢
      unfold RingAt
      have hby := dr_bytes n s.L s.begun
      rw [← HDR.out] at hby
      refine ⟨hcap, hcap2, hwd, hd2, R, A', c', ?_, hhc, ?_⟩
      · have e2 : RG.used ⟨L', b', s.gone⟩ = u2 := by
          have h1 := HUS.out
          have h2 := HU2.out
          unfold RG.used RG.bytes at h1 ⊢
          show L'.flatten.length = u2
          rw [hby, List.length_drop]; omega
        have e3 : RG.sizes ⟨L', b', s.gone⟩ = L'.map List.length := by unfold RG.sizes; rfl
        rw [e2, e3]
        exact HWE.out
      · have e4 : RG.bytes ⟨L', b', s.gone⟩ = s.bytes.drop n := by unfold RG.bytes; exact hby
        rw [e4, HHD.out]
        exact RoomAt.drop HRM.out n
end
end Go.Proofs.YtnhmdinpfcoebaaGreatDoor.Rg
end

/-! === RingE -/
section
/- New, text, and awake. -/
namespace Go.Proofs.YtnhmdinpfcoebaaGreatDoor.Rg
open Go.RowKit
set_option linter.unusedVariables false
set_option linter.unusedSimpArgs false
set_option maxRecDepth 100000
theorem roomC_zero (n : Nat) : outC n 0 (fun _ => 0) = roomC n (fun _ => 0) := by
  unfold outC roomC
  simp
def s0 : RG := ⟨[], false, []⟩
theorem new_at (w : World) (cap : Nat) (pol : Int) (h1 : 179 ≤ cap) (h2 : cap ≤ 1048576) (w1 w2 : World) (e1 : w1 = w.alloc (.cells (outC cap 0 (fun _ => 0)) 5)) (e2 : w2 = w1.alloc (.cells #[.slice (some ⟨w.heap.size, 0, none⟩) cap cap, .int .i64 pol, .int .i64 0, .slice none 0 0, .int .i64 0, .bool false, .int .u64 0] 62)) (base : Nat) (hb : base ≤ w.heap.size) :
    RingAt w2 base w1.heap.size w.heap.size cap pol s0 ∧ Grow w w2 := by
  have hz : w1.heap.size = w.heap.size + 1 := by rw [e1]; simp
  refine ⟨⟨h1, h2, wf_start cap, 0, fun _ => 0, none, 0, ⟨by omega, hb, ?_, ?_, SzAt.nil _ _⟩, by omega, fun i hi => by simp [s0, RG.bytes] at hi⟩, ?_⟩
  · rw [e2]
    exact heapAt_alloc_new w1 _
  · rw [e2, heapAt_alloc_old w1 _ (by omega), e1, heapAt_alloc_new, roomC_zero]
  · rw [e2, e1]
    exact Grow.trans (Grow.alloc w _) (Grow.alloc _ _)
def ce (c : Nat) (n : Nat) : List UInt8 := List.replicate n (UInt8.ofNat c)
attribute [local irreducible] roomC ringC strOf outC RingAt
theorem new_bad (w : World) (cap pol : Int) (h : cap < 179 ∨ 1048576 < cap ∨ (pol ≠ 0 ∧ pol ≠ 1)) : Calls Tryz.prog 5 #[.int .i64 cap, .int .i64 pol] w fun e w' => e = .returned (.tuple #[.pointer none, .int .i64 1]) ∧ w' = w := by
  by_cases h1 : cap < 179
  · clear h
    go_enter Tryz.func5, Tryz.ntmps5
    go_wp2
    go_ret2
    exact ⟨rfl, rfl⟩
  by_cases h2 : 1048576 < cap
  · clear h
    go_enter Tryz.func5, Tryz.ntmps5
    go_wp2
    go_ret2
    exact ⟨rfl, rfl⟩
  have h3 : pol ≠ 0 := by omega
  have h4 : pol ≠ 1 := by omega
  have b3 : (pol != 0) = true := by simpa using h3
  have b4 : (pol != 1) = true := by simpa using h4
  clear h
  go_enter Tryz.func5, Tryz.ntmps5
  go_wp2
  go_ret2
  exact ⟨rfl, rfl⟩
theorem new_ok (w : World) (base cap : Nat) (pol : Int) (h1 : 179 ≤ cap) (h2 : cap ≤ 1048576) (hp : pol = 0 ∨ pol = 1) (hb : base ≤ w.heap.size) : Calls Tryz.prog 5 #[.int .i64 cap, .int .i64 pol] w fun e w' => ∃ r g, e = .returned (.tuple #[.pointer (some ⟨r, 0, none⟩), .int .i64 0]) ∧ RingAt w' base r g cap pol s0 ∧ Grow w w' := by
  have hn := Lib.hid (fun (w1 w2 : World) e1 e2 => new_at w cap pol h1 h2 w1 w2 e1 e2 base hb)
  have hmk := make_run cap (by omega) (fun _ => 0) w
  have i1 : ¬ (cap : Int) < 179 := by omega
  have i2 : ¬ (1048576 : Int) < (cap : Int) := by omega
  clear h1 h2
  rcases hp with rfl | rfl
  · go_enter Tryz.func5, Tryz.ntmps5
    go_wp2
    go_ret2
    have h := hn.out _ _ rfl rfl
    rw [show (w.alloc (.cells (outC cap 0 fun x => 0) 5)).heap.size = w.heap.size + 1 by simp] at h
    exact ⟨_, rfl, ⟨_, h.1⟩, h.2⟩
  · go_enter Tryz.func5, Tryz.ntmps5
    go_wp2
    go_ret2
    have h := hn.out _ _ rfl rfl
    rw [show (w.alloc (.cells (outC cap 0 fun x => 0) 5)).heap.size = w.heap.size + 1 by simp] at h
    exact ⟨_, rfl, ⟨_, h.1⟩, h.2⟩
end Go.Proofs.YtnhmdinpfcoebaaGreatDoor.Rg
end
