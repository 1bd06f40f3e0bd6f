/- The walks of rest, peek, lay and the small ones. -/
import Derived.Test.YtdicgpbdfnlniaaMem
import Derived.StillTailTactics
import Derived.BigRegion
import Derived.Deep.DeepCutAuto
namespace Go.Proofs.Ytdicgpbdfnlniaa
open Go.RowKit
set_option linter.unusedVariables false
set_option linter.unusedSimpArgs false
set_option maxRecDepth 100000
/-- A row of bytes of which k are laid. -/
def outC (n k : Nat) (f : Nat → UInt8) : Array Value := Array.ofFn (n := n) fun i => .int .u8 ((if i.val < k then f i.val else 0 : UInt8).toNat : Int)
theorem outC_set (n k : Nat) (f : Nat → UInt8) : (outC n k f).setIfInBounds k (.int .u8 ((f k).toNat : Int)) = outC n (k + 1) f := by
  apply Array.ext
  · simp [outC]
  · intro j h1 h2
    rw [Array.getElem_setIfInBounds (by simpa using h1)]
    by_cases e : k = j
    · subst e; simp [outC]
    · have : (j < k + 1) ↔ (j < k) := by omega
      simp [outC, e, this]
theorem outC_at (n k : Nat) (f : Nat → UInt8) (i : Nat) (h : i < n) : (outC n k f)[i]? = some (.int .u8 ((if i < k then f i else 0 : UInt8).toNat : Int)) := by simp [outC, h]
theorem made_cells (n : Nat) (f : Nat → UInt8) : madeCells (Value.cells (.int .u8 0)) n = outC n 0 f := by
  apply Array.ext
  · simp [madeCells, outC]
  · intro i h1 h2
    simp [madeCells, Value.cells, Nat.mod_one, outC]
theorem make_run (n : Nat) (hn : (n : Int) ≤ 10000000) (f : Nat → UInt8) (w : World) : (Instr.makeSlice 45 (.int .i64 (n : Int)) (.int .i64 (n : Int))).run Try.prog w = .ok (.slice (some ⟨w.heap.size, 0, none⟩) n n) (w.alloc (.cells (outC n 0 f) 5)) := by
  obtain ⟨i0, hi, hz0, hz1, hz2⟩ := info_parts info5
  have h := run_makeSlice (P := Try.prog) w 45 5 i0 (.int .u8 0) Try.underlying45 hi hz0 .i64 .i64 (n : Int) (n : Int) (by omega) (by omega) (by rw [hz1]; omega) (by rw [hz2]; omega) (by omega)
  rw [hz1, Int.toNat_natCast, Nat.mul_one, made_cells n f] at h
  exact h
/-- The string out of such a row. -/
def strOf (l : List UInt8) : Value := .string ⟨l.toArray⟩
theorem conv_out (w : World) (g n : Nat) (f : Nat → UInt8) (hn : n ≤ maxLen) (h : w.heap[g]? = some (.cells (outC n n f) 5 (0, 0))) : (convert 45 9 (.slice (some ⟨g, 0, none⟩) n n)).run Try.prog w = .ok (strOf ((List.range n).map f)) w := by
  refine conv_row w 45 9 5 Try.underlying45 Try.underlying5 Try.underlying9 0 n _ ((List.range n).map f) (by simp) ⟨by simp, .inr ⟨g, n, _, rfl, Nat.zero_le _, h, Nat.le_refl _, hn, by simp [outC], ?_⟩⟩
  apply List.ext_getElem
  · simp [outC]
  · intro i h1 h2
    simp [outC] at h1 ⊢
theorem ba_get (t : List UInt8) (k : Nat) (h : k < (ByteArray.mk t.toArray).size) : (ByteArray.mk t.toArray)[k]'h = t.getD k 0 := by
  have h' : k < t.length := by simpa [ByteArray.size] using h
  show t.toArray[k] = _
  simp [h']
attribute [local irreducible] outC roomC ringC peekR layR strOf
section
variable {w : World} {base r g cap head c used lost : Nat} {pol : Int} {R : Nat → UInt8} {A : Option Addr} {zs : List Nat} {begun : Bool}
theorem rest_any (h : RW w base r g cap pol head R A zs c used begun lost) (x : Nat) (hz : begun = true → 0 < zs.length) (hx : x = if begun then hd0 zs else 0) : Calls Try.prog 21 #[.pointer (some ⟨r, 0, none⟩)] w fun e w' => e = .returned (.int .i64 x) ∧ w' = w := by
  have c3 := h.c3
  have c5 := h.c5
  cases begun with
  | true =>
    obtain ⟨b, off, rfl, _, hc, _⟩ := h.sz.get (hz rfl)
    have c1 := hc 0 (hz rfl)
    have hx2 : x = zs.getD 0 0 := by rw [hx, if_pos rfl]; cases zs <;> rfl
    rw [← hx2, Nat.add_zero] at c1
    have hpos : (0 : Int) < (zs.length : Int) := by have := hz rfl; omega
    clear hx hx2 h hz hc
    go_enter Try.func21, Try.ntmps21
    go_wp2
    go_ret
    exact ⟨rfl, rfl⟩
  | false =>
    simp at hx
    subst hx
    clear h hz
    go_enter Try.func21, Try.ntmps21
    go_wp2
    go_ret
    exact ⟨rfl, rfl⟩
set_option maxHeartbeats 2000000 in
theorem peek_any (h : RW w base r g cap pol head R A zs c used begun lost) (at' n : Nat) (ai : Int) (ha : ai = (at' : Int)) (hcap : (cap : Int) ≤ 1048576) (hh : head < cap) (hat : at' ≤ cap) (hn : n ≤ cap) : Calls Try.prog 25 #[.pointer (some ⟨r, 0, none⟩), .int .i64 ai, .int .i64 n] w fun e w' => e = .returned (strOf (peekR cap (head + at') R n)) ∧ Grow w w' := by
  have HR := Lib.hid h; clear h
  have hmk := make_run n (by omega) (fun i => R ((head + at' + i) % cap)) w
  have hg0 := heapAt_alloc_new w (.cells (outC n 0 fun i => R ((head + at' + i) % cap)) 5)
  have hgr := Grow.alloc w (.cells (outC n 0 fun i => R ((head + at' + i) % cap)) 5)
  have hpk : peekR cap (head + at') R n = (List.range n).map fun i => R ((head + at' + i) % cap) := by unfold peekR; rfl
  rw [hpk]
  clear hpk
  have HA := Lib.hid ha; clear ha
  go_enter Try.func25, Try.ntmps25
  go_wp2_with fail
  clear hmk
  generalize w.alloc _ = w0 at hg0 hgr ⊢
  have hB : base ≤ w.heap.size := HR.out.base_le
  have hlt : w.heap.size < w0.heap.size := heapAt_lt hg0
  have HGR0 := Lib.hid hgr; clear hgr
  have HG0 := Lib.hid hg0; clear hg0
  generalize hbb : w.heap.size = b0 at *
  have HBB := Lib.hid hbb; clear hbb
  go_loopw [13, 8] (fun i _ wr => ∃ k : Nat, k ≤ n ∧ i = .int .i64 k ∧ wr.heap[b0]? = some (.cells (outC n k fun i => R ((head + at' + i) % cap)) 5 (0, 0)) ∧ Grow w wr) (fun i _ _ => n - (intOf i).toNat)
  case atStart => exact ⟨0, by omega, rfl, HG0.out, HGR0.out⟩
  case round =>
    obtain ⟨k, hk, rfl, hout, hgr⟩ := hrel
    have HGR := Lib.hid hgr; clear hgr
    have HOUT := Lib.hid hout; clear hout
    by_cases hlt2 : k < n
    · have HW := Lib.hid (HR.out.grow HGR.out)
      obtain ⟨p, hp⟩ : ∃ p, p = (head + at' + k) % cap := ⟨_, rfl⟩
      have hpc : p < cap := by rw [hp]; exact Nat.mod_lt _ (by omega)
      have c0 := HW.out.c0
      have c2 := HW.out.c2
      have hrm := HW.out.rm p hpc
      have o1 := (cell_block HOUT.out k).trans (outC_at n k _ k hlt2)
      rw [if_neg (Nat.lt_irrefl k)] at o1
      have hfo := free_block HOUT.out k
      have k0 : (0 : Int) ≤ (k : Int) := by omega
      have kn : (k : Int) < (n : Int) := by omega
      obtain ⟨q1, hq1⟩ : ∃ q : Nat, q = head + at' := ⟨_, rfl⟩
      obtain ⟨q2, hq2⟩ : ∃ q : Nat, q = head + at' + k := ⟨_, rfl⟩
      have hai : ai = (at' : Int) := HA.out
      have hs1 : IntKind.i64.wrap ((head : Int) + ai) = (q1 : Int) := by rw [IntKind.wrap_i64]; omega
      have hs2 : IntKind.i64.wrap ((q1 : Int) + (k : Int)) = (q2 : Int) := by rw [IntKind.wrap_i64]; omega
      have hs3 : (q2 : Int).tmod (cap : Int) = (p : Int) := by rw [hp, hq2]; rfl
      have hs4 : ((cap : Int) == 0) = false := by simp; omega
      have hc0 : ¬ cap = 0 := by omega
      have hp0 : (0 : Int) ≤ (p : Int) := by omega
      have hpc' : (p : Int) < (cap : Int) := by omega
      have HP := Lib.hid hp; clear hp hq1 hq2 hai
      go_wp2_with fail
      go_still_tail 22, (by kernel_rfl)
      change wpList _ _ _ _ _ wr.drew
      clear c0 c2 hrm o1 hfo hs1 hs2 hs3 hs4
      have hout2 : wr.drew.heap[b0]? = some (.cells (outC n k fun i => R ((head + at' + i) % cap)) 5 (0, 0)) := HOUT.out
      have hg2 : Grow w wr.drew := HGR.out.drew
      generalize wr.drew = w1 at hout2 hg2 ⊢
      have o1 := (cell_block hout2 k).trans (outC_at n k _ k hlt2)
      rw [if_neg (Nat.lt_irrefl k)] at o1
      have hfo := free_block hout2 k
      have hset := set_block hout2 k (.int .u8 ((R p).toNat : Int))
      have hRp : R p = (fun i => R ((head + at' + i) % cap)) k := by rw [HP.out]
      have hset2 : (w1.setCell ⟨b0, k, none⟩ (.int .u8 ((R p).toNat : Int))).heap[b0]? = some (.cells (outC n (k + 1) fun i => R ((head + at' + i) % cap)) 5 (0, 0)) := by rw [hset, hRp, outC_set]
      have hg3 : Grow w (w1.setCell ⟨b0, k, none⟩ (.int .u8 ((R p).toNat : Int))) := Below.setCell (p := ⟨b0, k, none⟩) hg2 (by rw [HBB.out]; exact Nat.le_refl b0) _
      have HS2 := Lib.hid hset2
      have HG3 := Lib.hid hg3
      clear hset hset2 hg3 hRp hout2 hg2
      go_wp2_with fail
      go_roundw
      case rel => exact ⟨k + 1, by omega, by go_num, HS2.out, HG3.out⟩
      case measure => simp [intOf]; omega
    · have kn : ¬ (k : Int) < (n : Int) := by omega
      have hkn : k = n := by omega
      subst hkn
      have hcv := conv_out wr b0 k _ (by unfold maxLen; omega) HOUT.out
      go_wp2
      go_ret
      exact ⟨rfl, HGR.out⟩
set_option maxHeartbeats 2000000 in
theorem lay_any (h : RW w base r g cap pol head R A zs c used begun lost) (at' : Nat) (ai : Int) (t : List UInt8) (ha : ai = (at' : Int)) (hcap : (cap : Int) ≤ 1048576) (hh : head < cap) (hat : at' ≤ cap) (hn : t.length ≤ cap) : Calls Try.prog 23 #[.pointer (some ⟨r, 0, none⟩), .int .i64 ai, .string ⟨t.toArray⟩] w fun e w' => e = .returned (.tuple #[]) ∧ RW w' base r g cap pol head (layR R cap (head + at') t t.length) A zs c used begun lost ∧ FarR base r g w w' := by
  have HR := Lib.hid h; clear h
  have HA := Lib.hid ha; clear ha
  go_enter Try.func23, Try.ntmps23
  go_wp2_with fail
  go_loopw [6] (fun i wr => ∃ k : Nat, k ≤ t.length ∧ i = .int .i64 k ∧ RW wr base r g cap pol head (layR R cap (head + at') t k) A zs c used begun lost ∧ FarR base r g w wr) (fun i _ => t.length - (intOf i).toNat)
  case atStart => exact ⟨0, by omega, rfl, by unfold layR; exact HR.out, Far.refl _ _ _ _⟩
  case round =>
    obtain ⟨k, hk, rfl, hw, hf⟩ := hrel
    have HW := Lib.hid hw; clear hw
    have HF := Lib.hid hf; clear hf
    by_cases hlt2 : k < t.length
    · obtain ⟨p, hp⟩ : ∃ p, p = (head + at' + k) % cap := ⟨_, rfl⟩
      have hpc : p < cap := by rw [hp]; exact Nat.mod_lt _ (by omega)
      have HX := Lib.hid (show layR R cap (head + at') t (k + 1) = upR (layR R cap (head + at') t k) p (t.getD k 0) by rw [layR, hp])
      have c0 := HW.out.c0
      have c2 := HW.out.c2
      have hrm := HW.out.rm p hpc
      have k0 : (0 : Int) ≤ (k : Int) := by omega
      have kn : (k : Int) < (t.length : Int) := by omega
      obtain ⟨q1, hq1⟩ : ∃ q : Nat, q = head + at' := ⟨_, rfl⟩
      obtain ⟨q2, hq2⟩ : ∃ q : Nat, q = head + at' + k := ⟨_, rfl⟩
      have hai : ai = (at' : Int) := HA.out
      have hs1 : IntKind.i64.wrap ((head : Int) + ai) = (q1 : Int) := by rw [IntKind.wrap_i64]; omega
      have hs2 : IntKind.i64.wrap ((q1 : Int) + (k : Int)) = (q2 : Int) := by rw [IntKind.wrap_i64]; omega
      have hs3 : (q2 : Int).tmod (cap : Int) = (p : Int) := by rw [hp, hq2]; rfl
      have hs4 : ((cap : Int) == 0) = false := by simp; omega
      have hc0 : ¬ cap = 0 := by omega
      have hp0 : (0 : Int) ≤ (p : Int) := by omega
      have hpc' : (p : Int) < (cap : Int) := by omega
      have HP := Lib.hid hp; clear hp hq1 hq2 hai
      go_wp2_with fail
      go_still_tail 22, (by kernel_rfl)
      change wpList _ _ _ _ _ wr.drew
      simp only [ba_get]
      generalize t.getD k 0 = bk at HX ⊢
      clear c0 c2 hrm hs1 hs2 hs3 hs4
      have hw2 : RW wr.drew base r g cap pol head (layR R cap (head + at') t k) A zs c used begun lost := HW.out.grow (Below.drew (Grow.refl wr))
      have hf2 : FarR base r g w wr.drew := Far.trans HF.out (Far.grow (Below.drew (Grow.refl wr)) HW.out.base_le)
      generalize wr.drew = w1 at hw2 hf2 ⊢
      have hrm := hw2.rm p hpc
      have hfg := hw2.frg p
      have hw3 := hw2.setRm p bk
      rw [← HX.out] at hw3
      have HW3 := Lib.hid hw3
      have HF3 := Lib.hid (show FarR base r g w (w1.setCell ⟨g, p, none⟩ (.int .u8 (bk.toNat : Int))) from hf2.set (Or.inr rfl) hw2.hg p _)
      clear hw3 hw2 hf2
      go_wp2_with fail
      go_roundw
      case rel => exact ⟨k + 1, by omega, by go_num, HW3.out, HF3.out⟩
      case measure => simp [intOf]; omega
    · have kn : ¬ (k : Int) < (t.length : Int) := by omega
      have hkn : k = t.length := by omega
      subst hkn
      go_wp2
      go_end0
      exact ⟨rfl, HW.out, HF.out⟩
theorem lay_str (h : RW w base r g cap pol head R A zs c used begun lost) (at' : Nat) (ai : Int) (t : List UInt8) (ha : ai = (at' : Int)) (hcap : (cap : Int) ≤ 1048576) (hh : head < cap) (hat : at' ≤ cap) (hn : t.length ≤ cap) : Calls Try.prog 23 #[.pointer (some ⟨r, 0, none⟩), .int .i64 ai, strOf t] w fun e w' => e = .returned (.tuple #[]) ∧ RW w' base r g cap pol head (layR R cap (head + at') t t.length) A zs c used begun lost ∧ FarR base r g w w' := by
  unfold strOf
  exact lay_any h at' ai t ha hcap hh hat hn
end
end Go.Proofs.Ytdicgpbdfnlniaa
