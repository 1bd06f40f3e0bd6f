/- Programs run: plainly, and the walk of Run. -/
import Derived.Test.YtkjacmnocbdghaaDoAll
namespace Go.Proofs.Ytkjacmnocbdghaa
open Go.RowKit
set_option linter.unusedVariables false

structure Ins where
  op : Int
  a : Int
  b : Int
  c : Int
  d : Int
  k : BitVec 32
instance : Inhabited Ins := ⟨⟨0, 0, 0, 0, 0, 0⟩⟩
def insV (i : Ins) : Value := .agg #[.int .i64 i.op, .int .i64 i.a, .int .i64 i.b, .int .i64 i.c, .int .i64 i.d, .int .u32 i.k.toNat]
/-- A program that is read. -/
def CodeAt (w : World) (A : Option Addr) (len : Nat) (C : Nat → Ins) : Prop := 0 < len → ∃ a, A = some a ∧ ∀ j, j < len →
  w.cell? (a.add (j * 6)) = some (.int .i64 (C j).op) ∧ w.cell? ⟨(a.add (j * 6)).block, (a.add (j * 6)).off + 1, none⟩ = some (.int .i64 (C j).a) ∧ w.cell? ⟨(a.add (j * 6)).block, (a.add (j * 6)).off + 2, none⟩ = some (.int .i64 (C j).b) ∧
  w.cell? ⟨(a.add (j * 6)).block, (a.add (j * 6)).off + 3, none⟩ = some (.int .i64 (C j).c) ∧ w.cell? ⟨(a.add (j * 6)).block, (a.add (j * 6)).off + 4, none⟩ = some (.int .i64 (C j).d) ∧ w.cell? ⟨(a.add (j * 6)).block, (a.add (j * 6)).off + 5, none⟩ = some (.int .u32 (C j).k.toNat)
theorem add_block (a : Addr) (i : Nat) : (a.add i).block = a.block := by unfold Addr.add; split <;> rfl
/-- The program's block is none of these. -/
def Clear (S : Nat → Prop) (A : Option Addr) (len : Nat) : Prop := ∀ a, A = some a → 0 < len → ¬ S a.block
theorem CodeAt.kept {S : Nat → Prop} {w w' : World} {A : Option Addr} {len : Nat} {C : Nat → Ins} (h : CodeAt w A len C) (hk : Kept S w w') (hS : Clear S A len) : CodeAt w' A len C := fun hl => by
  obtain ⟨a, hA, hc⟩ := h hl
  have hlt := cell_lt (hc 0 hl).1
  rw [add_block] at hlt
  have hb := hk.2.2.2.2 a.block hlt (hS a hA hl)
  refine ⟨a, hA, fun j hj => ?_⟩
  obtain ⟨h0, h1, h2, h3, h4, h5⟩ := hc j hj
  refine ⟨?_, ?_, ?_, ?_, ?_, ?_⟩ <;> exact (World.cell?_of_block (by simp only [add_block]; exact hb)).trans (by assumption)
theorem CodeAt.grow {w w' : World} {A : Option Addr} {len : Nat} {C : Nat → Ins} (h : CodeAt w A len C) (hg : Grow w w') : CodeAt w' A len C :=
  h.kept ((Kept.refl (fun _ => False) w).grow hg) (fun _ _ _ h => h)

def live (len : Nat) (s : CS) : Prop := 0 ≤ s.at_ ∧ s.at_ < len
instance (len : Nat) (s : CS) : Decidable (live len s) := by unfold live; infer_instance
def goS (n : Nat) (C : Nat → Ins) (s : CS) : CS := stepP s.at_ s.R s.M n (C s.at_.toNat).op (C s.at_.toNat).a (C s.at_.toNat).b (C s.at_.toNat).c (C s.at_.toNat).d (C s.at_.toNat).k
def okS (s : CS) : CS := ⟨0, s.at_, s.R, s.M⟩
def runP (n len : Nat) (C : Nat → Ins) : Nat → CS → Nat × CS
  | 0, s => (0, okS s)
  | f + 1, s => if live len s then (if (goS n C s).err = 0 then ((runP n len C f (goS n C s)).1 + 1, (runP n len C f (goS n C s)).2) else (0, goS n C s)) else (0, okS s)
theorem runP_zero (n len : Nat) (C : Nat → Ins) (s : CS) : runP n len C 0 s = (0, okS s) := rfl
theorem runP_dead {n len : Nat} {C : Nat → Ins} {s : CS} (f : Nat) (h : ¬ live len s) : runP n len C f s = (0, okS s) := by
  cases f with
  | zero => rfl
  | succ f => rw [runP, if_neg h]
theorem runP_bad {n len : Nat} {C : Nat → Ins} {s : CS} (f : Nat) (h : live len s) (hb : (goS n C s).err ≠ 0) : runP n len C (f + 1) s = (0, goS n C s) := by
  rw [runP, if_pos h, if_neg hb]
theorem runP_step {n len : Nat} {C : Nat → Ins} {s : CS} (f : Nat) (h : live len s) (hb : (goS n C s).err = 0) : runP n len C (f + 1) s = ((runP n len C f (goS n C s)).1 + 1, (runP n len C f (goS n C s)).2) := by
  rw [runP, if_pos h, if_pos hb]
theorem runP_add (n len : Nat) (C : Nat → Ins) : ∀ (a b : Nat) (s : CS), runP n len C (a + b) s = if (runP n len C a s).2.err = 0 then ((runP n len C a s).1 + (runP n len C b (runP n len C a s).2).1, (runP n len C b (runP n len C a s).2).2) else runP n len C a s
  | 0, b, s => by
    rw [runP_zero, if_pos (show (okS s).err = 0 from rfl), Nat.zero_add]
    have : runP n len C b (okS s) = runP n len C b s := by
      cases b with
      | zero => rfl
      | succ b => rfl
    rw [this]; simp
  | a + 1, b, s => by
    by_cases hl : live len s
    · by_cases he : (goS n C s).err = 0
      · have ih := runP_add n len C a b (goS n C s)
        rw [show a + 1 + b = (a + b) + 1 by omega, runP_step _ hl he, runP_step _ hl he, ih]
        split
        · simp; omega
        · rfl
      · rw [show a + 1 + b = (a + b) + 1 by omega, runP_bad _ hl he, runP_bad _ hl he, if_neg he]
    · rw [runP_dead _ hl, runP_dead a.succ hl, if_pos (show (okS s).err = 0 from rfl)]
      have : runP n len C b (okS s) = (0, okS s) := runP_dead b (s := okS s) hl
      rw [this]; simp
theorem runP_ok {n len : Nat} {C : Nat → Ins} : ∀ (f : Nat) (s : CS), (runP n len C f s).1 ≤ f
  | 0, s => Nat.le_refl _
  | f + 1, s => by
    rw [runP]
    split
    · split
      · have := runP_ok (n := n) (len := len) (C := C) f (goS n C s)
        simp; exact this
      · simp
    · simp
section
attribute [local irreducible] hasA hasB hasC hasD hasK bitsOf regP hasStr letter formP bad4 bad6 bad8 bad10 valW valE words upd
theorem stepP_bad {at_ : Int} {R M : Nat → BitVec 32} {n : Nat} {op a b c d : Int} {k : BitVec 32} (h : (stepP at_ R M n op a b c d k).err ≠ 0) : (stepP at_ R M n op a b c d k).at_ = at_ ∧ (stepP at_ R M n op a b c d k).R = R ∧ (stepP at_ R M n op a b c d k).M = M := by
  revert h
  unfold stepP
  repeat' split
  all_goals simp
end
/-- An error leaves all as it was. -/
theorem goS_bad {n : Nat} {C : Nat → Ins} {s : CS} (h : (goS n C s).err ≠ 0) : (goS n C s).at_ = s.at_ ∧ (goS n C s).R = s.R ∧ (goS n C s).M = s.M := stepP_bad h
attribute [local irreducible] hasA hasB hasC hasD hasK bitsOf regP hasStr letter formP bad4 bad6 bad8 bad10 ctxCells regArr valW valE words upd stepP goS runP
theorem run_nil (w : World) (v : Value) (most : Int) : Calls Try.prog 14 #[.pointer none, v, .int .i64 most] w fun e w' => e = .returned (.tuple #[.int .i64 0, .int .i64 16]) ∧ w' = w := by
  go_enter Try.func14, Try.ntmps14
  go_wp2
  go_ret2
  exact ⟨rfl, rfl⟩
set_option maxRecDepth 100000 in
set_option maxHeartbeats 1000000 in
theorem run_anyM (w : World) (B g n cap len ccap most : Nat) (s : CS) (A CA : Option Addr) (C : Nat → Ins) (hn : (n : Int) ≤ 300) (hcap : (n : Int) ≤ cap) (hlen : (len : Int) ≤ 300) (hcl : (len : Int) ≤ ccap) (hmost : (most : Int) ≤ 1000) (mo : Int) (hmo : ∀ k : Nat, (k : Int) < mo ↔ k < most)
    (hC : CodeAt w CA len C) (hfar : Clear (Mine g A) CA len) (hst : St w B g s.at_ s.R A n cap s.M) :
    Calls Try.prog 14 #[.pointer (some ⟨g, 0, none⟩), .slice CA len ccap, .int .i64 mo] w fun e w' => e = .returned (.tuple #[.int .i64 (runP n len C most s).1, .int .i64 (runP n len C most s).2.err]) ∧
      St w' B g (runP n len C most s).2.at_ (runP n len C most s).2.R A n cap (runP n len C most s).2.M ∧ Kept (Mine g A) w w' := by
  go_enter Try.func14, Try.ntmps14
  go_wp2_with fail
  have HS := Lib.hid hst; clear hst
  have HC := Lib.hid hC; clear hC
  have HF := Lib.hid hfar; clear hfar
  have HMO := Lib.hid hmo; clear hmo
  go_loopw [8] (fun i wr => ∃ (k : Nat) (t : CS), k ≤ most ∧ i = .int .i64 k ∧ St wr B g t.at_ t.R A n cap t.M ∧ Kept (Mine g A) w wr ∧ runP n len C most s = (k + (runP n len C (most - k) t).1, (runP n len C (most - k) t).2)) (fun i _ => most - (intOf i).toNat)
  case atStart => exact ⟨0, s, by omega, rfl, HS.out, Kept.refl _ _, by simp⟩
  case round =>
    obtain ⟨k, t, hk, rfl, hs, hkept, hrun⟩ := hrel
    have HR := Lib.hid hrun; clear hrun
    have HK := Lib.hid hkept; clear hkept
    have c0 := hs.1.c0
    have HT := Lib.hid hs; clear hs
    by_cases hkm : k < most
    · by_cases hl : live len t
      · have hl0 := hl.1
        have hl1 := hl.2
        obtain ⟨q, hq⟩ := Int.eq_ofNat_of_zero_le hl0
        rw [hq] at c0 hl0 hl1
        obtain ⟨ca, hCA, hcc⟩ := (HC.out.kept HK.out HF.out) (by omega)
        obtain ⟨c0', c1', c2', c3', c4', c5'⟩ := hcc q (by omega)
        clear hcc
        have HCA := Lib.hid hCA; clear hCA
        have HCA' := HCA.out
        rw [HCA']
        clear HCA'
        have k0 : (0 : Int) ≤ (k : Int) := by omega
        have km : (k : Int) < mo := (HMO.out k).2 hkm
        have HL := Lib.hid hl; clear hl
        have HQ := Lib.hid hq; clear hq
        have hgo : stepP t.at_ t.R t.M n (C q).op (C q).a (C q).b (C q).c (C q).d (C q).k = goS n C t := by
          unfold goS; rw [HQ.out, Int.toNat_natCast]
        have hdo := do_any wr B g n cap t.at_ t.R t.M A (C q).op (C q).a (C q).b (C q).c (C q).d (C q).k hn hcap HL.out.1 (by have := HL.out.2; omega) HT.out
        rw [hgo] at hdo
        have HDO := Lib.hid hdo
        clear hdo hgo
        go_wp2_with fail
        refine HDO.out.mono ?_
        rintro e w' ⟨rfl, hs', hk'⟩
        have HS' := Lib.hid hs'; clear hs'
        have HK' := Lib.hid (HK.out.trans hk'); clear hk'
        clear HDO
        by_cases he : (goS n C t).err = 0
        · rw [he]
          have HE := Lib.hid he; clear he
          go_wp2_with fail
          go_roundw
          case rel =>
            refine ⟨k + 1, goS n C t, by omega, by go_num, HS'.out, HK'.out, ?_⟩
            have h1 := HR.out
            rw [show most - k = (most - (k + 1)) + 1 by omega, runP_step _ HL.out HE.out] at h1
            rw [h1]; simp; omega
          case measure => simp [intOf]; omega
        · have hb : ((goS n C t).err != 0) = true := by simpa using he
          have hR2 : runP n len C most s = (k, goS n C t) := by
            have h1 := HR.out
            rw [show most - k = (most - (k + 1)) + 1 by omega, runP_bad _ HL.out he] at h1
            simpa using h1
          have HR2 := Lib.hid hR2; clear HR hR2
          have HE := Lib.hid he; clear he
          go_wp2
          go_ret2
          rw [HR2.out]
          exact ⟨rfl, HS'.out, HK'.out⟩
      · have hR2 : runP n len C most s = (k, okS t) := by
          have h1 := HR.out
          rw [runP_dead _ hl] at h1
          simpa using h1
        have HR2 := Lib.hid hR2; clear HR hR2
        have km : (k : Int) < mo := (HMO.out k).2 hkm
        have fin : ∀ w' : World, w' = wr → St w' B g (okS t).at_ (okS t).R A n cap (okS t).M ∧ Kept (Mine g A) w w' := by
          rintro w' rfl
          exact ⟨HT.out, HK.out⟩
        have FIN := Lib.hid fin; clear fin
        by_cases h0 : 0 ≤ t.at_
        · have h1 : ¬ t.at_ < (len : Int) := fun h => hl ⟨h0, h⟩
          clear hl
          generalize t.at_ = x at *
          go_wp2
          go_ret2
          rw [HR2.out]
          exact ⟨rfl, FIN.out _ rfl⟩
        · clear hl
          generalize t.at_ = x at *
          go_wp2
          go_ret2
          rw [HR2.out]
          exact ⟨rfl, FIN.out _ rfl⟩
    · have hR2 : runP n len C most s = (k, okS t) := by
        have h1 := HR.out
        rw [show most - k = 0 by omega, runP_zero] at h1
        simpa using h1
      have HR2 := Lib.hid hR2; clear HR hR2
      have km : ¬ (k : Int) < mo := fun h => hkm ((HMO.out k).1 h)
      have fin : ∀ w' : World, w' = wr → St w' B g (okS t).at_ (okS t).R A n cap (okS t).M ∧ Kept (Mine g A) w w' := by
        rintro w' rfl
        exact ⟨HT.out, HK.out⟩
      have FIN := Lib.hid fin; clear fin
      go_wp2
      go_ret2
      rw [HR2.out]
      exact ⟨rfl, FIN.out _ rfl⟩
theorem run_any (w : World) (B g n cap len ccap most : Nat) (s : CS) (A CA : Option Addr) (C : Nat → Ins) (hn : (n : Int) ≤ 300) (hcap : (n : Int) ≤ cap) (hlen : (len : Int) ≤ 300) (hcl : (len : Int) ≤ ccap) (hmost : (most : Int) ≤ 1000)
    (hC : CodeAt w CA len C) (hfar : Clear (Mine g A) CA len) (hst : St w B g s.at_ s.R A n cap s.M) :
    Calls Try.prog 14 #[.pointer (some ⟨g, 0, none⟩), .slice CA len ccap, .int .i64 most] w fun e w' => e = .returned (.tuple #[.int .i64 (runP n len C most s).1, .int .i64 (runP n len C most s).2.err]) ∧
      St w' B g (runP n len C most s).2.at_ (runP n len C most s).2.R A n cap (runP n len C most s).2.M ∧ Kept (Mine g A) w w' :=
  run_anyM w B g n cap len ccap most s A CA C hn hcap hlen hcl hmost most (fun k => by omega) hC hfar hst
end Go.Proofs.Ytkjacmnocbdghaa
