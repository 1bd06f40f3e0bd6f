/- The walk of CpuRuns. -/
import Derived.Test.YtkjacmnocbdghaaLawC
import Derived.Test.YtkjacmnocbdghaaRelFloat
import Derived.Test.YtkjacmnocbdghaaCode
namespace Go.Proofs.Ytkjacmnocbdghaa
open Go.RowKit
set_option linter.unusedVariables false
attribute [local irreducible] hasA hasB hasC hasD hasK bitsOf regP hasStr letter formP bad4 bad6 bad8 bad10 ctxCells regArr valW valE words upd stepP goS runP codeCells
attribute [local simp] RelKnown Is
theorem kept_of_only {b : Nat} {w w' : World} (h : Only b w w') : Kept (fun k => k = b) w w' := h
theorem MemAt.only {w w' : World} {A : Option Addr} {n b : Nat} {M : Nat → BitVec 32} (h : MemAt w A n M) (ho : Only b w w') (hne : 0 < n → ∀ a, A = some a → a.block ≠ b) : MemAt w' A n M := fun hn => by
  obtain ⟨a, hA, hc⟩ := h hn
  have hlt := cell_lt (hc 0 hn)
  rw [add_block] at hlt
  have hb := ho.2.2.2.2 a.block hlt (hne hn a hA)
  exact ⟨a, hA, fun j hj => (World.cell?_of_block (by rw [add_block]; exact hb)).trans (hc j hj)⟩
/-- A new block that a value owns. -/
def bl3 (B : Nat) (v : Value) (g : Nat) : Prop := B ≤ g ∧ (v = .pointer (some ⟨g, 0, none⟩) ∨ ∃ cs A n cap, (v = .agg cs ∨ ∃ e, v = .tuple #[.agg cs, e]) ∧ cs[9]? = some (.slice A n cap) ∧ 0 < n ∧ A = some ⟨g, 0, none⟩)
/-- It owns no block that is not there. -/
def Old (u : Value) (w : World) : Prop := ∀ g, bl3 0 u g → g < w.heap.size
theorem Old.no {u : Value} {w : World} (h : Old u w) (g : Nat) : ¬ bl3 w.heap.size u g := fun hb => by
  have := h g ⟨Nat.zero_le _, hb.2⟩
  have := hb.1
  omega
theorem bl3_undef (B g : Nat) : ¬ bl3 B undef g := by
  rintro ⟨_, h | ⟨cs, A, n, cap, h | ⟨e, h⟩, _⟩⟩ <;> simp [undef] at h
theorem bl3_ptr {B m g : Nat} (h : bl3 B (.pointer (some ⟨m, 0, none⟩)) g) : g = m := by
  rcases h with ⟨_, h | ⟨cs, A, n, cap, h | ⟨e, h⟩, _⟩⟩
  · injection h with h; injection h with h; injection h with h; exact h.symm
  · cases h
  · cases h
theorem bl3_agg {B : Nat} {at_ : Int} {R : Nat → BitVec 32} {A : Option Addr} {n cap g : Nat} (h : bl3 B (.agg (ctxCells at_ R (.slice A n cap))) g) : B ≤ g ∧ 0 < n ∧ A = some ⟨g, 0, none⟩ := by
  rcases h with ⟨hB, h | ⟨cs, A', n', cap', h | ⟨e, h⟩, h9, hn, hA⟩⟩
  · cases h
  · injection h with h
    rw [← h, ctx_9] at h9
    injection h9 with h9; injection h9 with h9 h10
    rw [h9, h10]; exact ⟨hB, hn, hA⟩
  · cases h
theorem bl3_tup {B : Nat} {at_ : Int} {R : Nat → BitVec 32} {A : Option Addr} {n cap g : Nat} {e : Value} (h : bl3 B (.tuple #[.agg (ctxCells at_ R (.slice A n cap)), e]) g) : B ≤ g ∧ 0 < n ∧ A = some ⟨g, 0, none⟩ := by
  rcases h with ⟨hB, h | ⟨cs, A', n', cap', h | ⟨e', h⟩, h9, hn, hA⟩⟩
  · cases h
  · cases h
  · injection h with h
    simp only [Array.mk.injEq, List.cons.injEq, Value.agg.injEq] at h
    rw [← h.1, ctx_9] at h9
    injection h9 with h9; injection h9 with h9 h10
    rw [h9, h10]; exact ⟨hB, hn, hA⟩
theorem bl3_of_agg {B : Nat} {at_ : Int} {R : Nat → BitVec 32} {A : Option Addr} {n cap g : Nat} (hB : B ≤ g) (hn : 0 < n) (hA : A = some ⟨g, 0, none⟩) : bl3 B (.agg (ctxCells at_ R (.slice A n cap))) g :=
  ⟨hB, .inr ⟨_, A, n, cap, .inl rfl, ctx_9 _ _ _, hn, hA⟩⟩
theorem bl3_of_tup {B : Nat} {at_ : Int} {R : Nat → BitVec 32} {A : Option Addr} {n cap g : Nat} {e : Value} (hB : B ≤ g) (hn : 0 < n) (hA : A = some ⟨g, 0, none⟩) : bl3 B (.tuple #[.agg (ctxCells at_ R (.slice A n cap)), e]) g :=
  ⟨hB, .inr ⟨_, A, n, cap, .inr ⟨e, rfl⟩, ctx_9 _ _ _, hn, hA⟩⟩
/-- Two groups of slots whose blocks are none the same. -/
structure Two (bl : Value → Nat → Prop) (B : Nat) (S1 S2 : List Nat) (a : Act) (w : World) : Prop where
  base : B ≤ w.heap.size
  l1 : ∀ i ∈ S1, ∀ g, bl (a.tmps.getD i undef) g → g < w.heap.size
  l2 : ∀ i ∈ S2, ∀ g, bl (a.tmps.getD i undef) g → g < w.heap.size
  ne : ∀ i ∈ S1, ∀ j ∈ S2, ∀ g, bl (a.tmps.getD i undef) g → ¬ bl (a.tmps.getD j undef) g
theorem Two.put1 {bl : Value → Nat → Prop} {B : Nat} {S1 S2 : List Nat} {a : Act} {w w' : World} (h : Two bl B S1 S2 a w) (hsz : w.heap.size ≤ w'.heap.size) (d : Nat) (hd : d ∉ S2) (v : Value) (hv : ∀ g, bl v g → (w.heap.size ≤ g ∧ g < w'.heap.size) ∨ ∃ i ∈ S1, bl (a.tmps.getD i undef) g) : Two bl B S1 S2 (a.put (some d) v) w' := by
  have e2 : ∀ j ∈ S2, (a.put (some d) v).tmps.getD j undef = a.tmps.getD j undef := fun j hj => getD_put_ne _ _ _ _ (fun e => hd (e ▸ hj))
  refine ⟨Nat.le_trans h.base hsz, fun i hi g hg => ?_, fun j hj g hg => ?_, fun i hi j hj g hg hg2 => ?_⟩
  · rcases getD_put_cases a d i v with e | ⟨_, e⟩ <;> rw [e] at hg
    · have := h.l1 i hi g hg; omega
    · rcases hv g hg with h1 | ⟨k, hk, h1⟩
      · exact h1.2
      · have := h.l1 k hk g h1; omega
  · rw [e2 j hj] at hg; have := h.l2 j hj g hg; omega
  · rw [e2 j hj] at hg2
    rcases getD_put_cases a d i v with e | ⟨_, e⟩ <;> rw [e] at hg
    · exact h.ne i hi j hj g hg hg2
    · rcases hv g hg with h1 | ⟨k, hk, h1⟩
      · have := h.l2 j hj g hg2; omega
      · exact h.ne k hk j hj g h1 hg2
theorem Two.put2 {bl : Value → Nat → Prop} {B : Nat} {S1 S2 : List Nat} {a : Act} {w w' : World} (h : Two bl B S1 S2 a w) (hsz : w.heap.size ≤ w'.heap.size) (d : Nat) (hd : d ∉ S1) (v : Value) (hv : ∀ g, bl v g → w.heap.size ≤ g ∧ g < w'.heap.size) : Two bl B S1 S2 (a.put (some d) v) w' := by
  have e1 : ∀ j ∈ S1, (a.put (some d) v).tmps.getD j undef = a.tmps.getD j undef := fun j hj => getD_put_ne _ _ _ _ (fun e => hd (e ▸ hj))
  refine ⟨Nat.le_trans h.base hsz, fun i hi g hg => ?_, fun j hj g hg => ?_, fun i hi j hj g hg hg2 => ?_⟩
  · rw [e1 i hi] at hg; have := h.l1 i hi g hg; omega
  · rcases getD_put_cases a d j v with e | ⟨_, e⟩ <;> rw [e] at hg
    · have := h.l2 j hj g hg; omega
    · exact (hv g hg).2
  · rw [e1 i hi] at hg
    rcases getD_put_cases a d j v with e | ⟨_, e⟩ <;> rw [e] at hg2
    · exact h.ne i hi j hj g hg hg2
    · have := h.l1 i hi g hg; have := hv g hg2; omega
theorem Two.skip {bl : Value → Nat → Prop} {B : Nat} {S1 S2 : List Nat} {a : Act} {w w' : World} (h : Two bl B S1 S2 a w) (hsz : w.heap.size ≤ w'.heap.size) (d : Nat) (h1 : d ∉ S1) (h2 : d ∉ S2) (v : Value) : Two bl B S1 S2 (a.put (some d) v) w' := by
  have e1 : ∀ j ∈ S1, (a.put (some d) v).tmps.getD j undef = a.tmps.getD j undef := fun j hj => getD_put_ne _ _ _ _ (fun e => h1 (e ▸ hj))
  have e2 : ∀ j ∈ S2, (a.put (some d) v).tmps.getD j undef = a.tmps.getD j undef := fun j hj => getD_put_ne _ _ _ _ (fun e => h2 (e ▸ hj))
  refine ⟨Nat.le_trans h.base hsz, fun i hi g hg => ?_, fun j hj g hg => ?_, fun i hi j hj g hg => ?_⟩
  · rw [e1 i hi] at hg; have := h.l1 i hi g hg; omega
  · rw [e2 j hj] at hg; have := h.l2 j hj g hg; omega
  · rw [e1 i hi] at hg; rw [e2 j hj]; exact h.ne i hi j hj g hg
theorem Two.first {bl : Value → Nat → Prop} (S1 S2 : List Nat) (a : Act) (w : World) (B : Nat) (hB : B ≤ w.heap.size) (h1 : ∀ i ∈ S1, ∀ g, ¬ bl (a.tmps.getD i undef) g) (h2 : ∀ i ∈ S2, ∀ g, ¬ bl (a.tmps.getD i undef) g) : Two bl B S1 S2 a w :=
  ⟨hB, fun i hi g hg => absurd hg (h1 i hi g), fun i hi g hg => absurd hg (h2 i hi g), fun i hi j hj g hg => absurd hg (h1 i hi g)⟩
def FD (w0 : World) (xb : Nat) (t : CS) (A : Option Addr) (n cap : Nat) (a : Act) (w : World) : Prop := (w.heap[xb]? = some (.cells (ctxCells t.at_ t.R (.slice A n cap)) 26 (0, 0)) ∧ Grow w0 w) ∧ Two (bl3 w0.heap.size) w0.heap.size [64, 57, 65] [12] a w
def DL (w0 : World) (A : Option Addr) (n : Nat) (s : CS) (v : Value) (w : World) : Prop := ∃ A' cap', v = .tuple #[.agg (ctxCells s.at_ s.R (.slice A' n cap')), .int .i64 s.err] ∧ MemAt w A' n s.M ∧ (0 < n → A' = A ∨ ∃ g, A' = some ⟨g, 0, none⟩ ∧ w0.heap.size ≤ g) ∧ (n : Int) ≤ cap'
def DE (w0 : World) (A : Option Addr) (n : Nat) (s : CS) (v : Value) (w : World) : Prop := ∃ A' cap', v = .agg (ctxCells s.at_ s.R (.slice A' n cap')) ∧ MemAt w A' n s.M ∧ (0 < n → A' = A ∨ ∃ g, A' = some ⟨g, 0, none⟩ ∧ w0.heap.size ≤ g) ∧ (n : Int) ≤ cap'
/-- What the law's loop holds. -/
structure Lp (w1 : World) (xb n len : Nat) (C : Nat → Ins) (most : Nat) (s0 : CS) (e i : Value) (wr : World) (m : Nat) (t : CS) (A' : Option Addr) (cap' : Nat) : Prop where
  hm : m ≤ most
  he : e = .int .i64 t.err
  hi : i = .int .i64 m
  hx : wr.heap[xb]? = some (.cells (ctxCells t.at_ t.R (.slice A' n cap')) 26 (0, 0))
  mem : MemAt wr A' n t.M
  far : 0 < n → ∀ a, A' = some a → a.block ≠ xb
  hcap : (n : Int) ≤ cap'
  only : Only xb w1 wr
  run : t.err = 0 → runP n len C most s0 = (m + (runP n len C (most - m) t).1, (runP n len C (most - m) t).2)
  bad : t.err ≠ 0 → runP n len C most s0 = (m, t)
theorem old_ptr {g : Nat} {w : World} (h : g < w.heap.size) : Old (.pointer (some ⟨g, 0, none⟩)) w := fun k hk => by rw [bl3_ptr hk]; exact h
theorem old_mid {B : Nat} {v : Value} {w w' : World} (h : ∀ g, bl3 B v g → g < w.heap.size) (hB : B ≤ w.heap.size) (hw : w.heap.size ≤ w'.heap.size) : Old v w' := fun g hg => by
  rcases Nat.lt_or_ge g B with h1 | h1
  · omega
  · have := h g ⟨h1, hg.2⟩; omega
/-- One round: what the law's loop holds behind it. -/
theorem lp_next {w1 wr wR wS wT : World} {xb gN n len : Nat} {C : Nat → Ins} {most : Nat} {s0 t t2 : CS} {m cap2 : Nat} {A' A2 : Option Addr} (hm : m < most) (hx : xb < wr.heap.size) (hmem : MemAt wr A' n t.M)
    (hfar : 0 < n → ∀ a, A' = some a → a.block ≠ xb) (honly : Only xb w1 wr) (hlv : live len t) (he : t.err = 0) (hrun : runP n len C most s0 = (m + (runP n len C (most - m) t).1, (runP n len C (most - m) t).2)) (ht2 : goS n C t = t2)
    (gw : Grow wr wR) (hbN : wr.heap.size ≤ gN) (hm2 : MemAt wR A2 n t2.M) (hl2 : 0 < n → A2 = A' ∨ ∃ g, A2 = some ⟨g, 0, none⟩ ∧ wr.heap.size ≤ g) (hne : ∀ g, A2 = some ⟨g, 0, none⟩ → wr.heap.size ≤ g → 0 < n → g ≠ gN) (hc2 : (n : Int) ≤ cap2)
    (ho1 : Only gN wR wS) (ho2 : Only xb wS wT) (hb2 : wT.heap[xb]? = some (.cells (ctxCells t2.at_ t2.R (.slice A2 n cap2)) 26 (0, 0))) :
    (t2.err ≠ 0 → Lp w1 xb n len C most s0 (.int .i64 t2.err) (.int .i64 m) wT m t2 A2 cap2) ∧ (t2.err = 0 → Lp w1 xb n len C most s0 (.int .i64 0) (.int .i64 ((m : Int) + 1)) wT (m + 1) t2 A2 cap2) := by
  have fx : 0 < n → ∀ a, A2 = some a → a.block ≠ xb := fun hn a hA => by
    rcases hl2 hn with h | ⟨g, h, hg⟩
    · exact hfar hn a (h ▸ hA)
    · rw [hA] at h; injection h with h; rw [h]; simp only; omega
  have fg : 0 < n → ∀ a, A2 = some a → a.block ≠ gN := fun hn a hA => by
    rcases hl2 hn with h | ⟨g, h, hg⟩
    · obtain ⟨a', hA', hc⟩ := hmem hn
      rw [← h, hA] at hA'; injection hA' with hA'; subst hA'
      have hlt := cell_lt (hc 0 hn)
      rw [add_block] at hlt
      omega
    · have := hne g h hg hn
      rw [hA] at h; injection h with h; rw [h]; exact this
  have hM : MemAt wT A2 n t2.M := (hm2.only ho1 fg).only ho2 fx
  have hoR : Only xb w1 wR := honly.of_below gw
  have hoS : Only xb w1 wS := ⟨ho1.1.trans hoR.1, ho1.2.1.trans hoR.2.1, ho1.2.2.1.trans hoR.2.2.1, Nat.le_trans hoR.2.2.2.1 ho1.2.2.2.1, fun k hk hkx => by
    have h1 := hoR.2.2.2.2 k hk hkx
    have h2 := ho1.2.2.2.2 k (Nat.lt_of_lt_of_le hk hoR.2.2.2.1) (by have := honly.2.2.2.1; omega)
    exact h2.trans h1⟩
  have hoT : Only xb w1 wT := hoS.trans ho2
  obtain ⟨f, hf⟩ : ∃ f, most - m = f + 1 := ⟨most - m - 1, by omega⟩
  rw [hf] at hrun
  refine ⟨fun hb => ⟨by omega, rfl, rfl, hb2, hM, fx, hc2, hoT, fun h => absurd h hb, fun _ => ?_⟩, fun hz => ⟨by omega, by rw [hz], by simp, hb2, hM, fx, hc2, hoT, fun _ => ?_, fun h => absurd hz h⟩⟩
  · rw [hrun, runP_bad f hlv (by rw [ht2]; exact hb), ht2]; simp
  · rw [hrun, runP_step f hlv (by rw [ht2]; exact hz), ht2, show most - (m + 1) = f by omega]; simp only [Prod.mk.injEq, and_true]; omega
set_option maxRecDepth 100000 in
set_option maxHeartbeats 1000000 in
theorem cpuRuns_great (at_ : Int) (R M : Nat → BitVec 32) (A : Option Addr) (n cap : Nat) (CA : Option Addr) (len ccap : Nat) (C : Nat → Ins) (mst : Int) (w : World) (hcap : (n : Int) ≤ cap) (hM : MemAt w A n M) (hgr : 300 < (n : Int) ∨ at_ < 0 ∨ 1099511627776 < at_) :
    Calls Try.prog 5 #[.agg (ctxCells at_ R (.slice A n cap)), .slice CA len ccap, .int .i64 mst] w fun e w' => e = .returned (.bool true) ∧ Below w.heap.size w w' := by
  have hX := heapAt_alloc_new w (.cells (ctxCells at_ R (.slice A n cap)) 26)
  have hG : Grow w (w.alloc (.cells (ctxCells at_ R (.slice A n cap)) 26)) := Grow.alloc w _
  go_enter Try.func5, Try.ntmps5
  go_wp2_with fail
  generalize w.alloc (.cells (ctxCells at_ R (.slice A n cap)) 26) = w1 at hX hG ⊢
  refine (awake_any _).mono ?_
  rintro e w2 ⟨rfl, hg⟩
  replace hX := hg.at hX
  replace hG := hG.trans hg
  have HG := Lib.hid hG; clear hg hG
  have HX := Lib.hid hX; clear hX
  have HINF := Lib.hid (info26c at_ R (.slice A n cap))
  have HGR := Lib.hid hgr; clear hgr
  go_wp2_with (first | ((with_reducible refine wpList_load_blk_if ?_ 26 (.tmp 3) rfl w.heap.size 26 (ctxCells at_ R (.slice A n cap)) _ ?_ HX.out Try.underlying26 ?_ HINF.out ?_); (· rfl); (· rfl); (· rfl)))
  refine (great_yes _ at_ R A n cap HGR.out).mono ?_
  rintro e w3 ⟨rfl, hg⟩
  replace HG := Lib.hid (HG.out.trans hg)
  clear hg
  go_wp2_with fail
  refine (awake_any _).mono ?_
  rintro e w4 ⟨rfl, hg⟩
  replace HG := Lib.hid (HG.out.trans hg)
  clear hg
  go_wp2
  go_ret
  exact ⟨rfl, HG.out⟩
set_option maxRecDepth 100000 in
set_option maxHeartbeats 1000000 in
theorem cpuRuns_long (at_ : Int) (R M : Nat → BitVec 32) (A : Option Addr) (n cap : Nat) (CA : Option Addr) (len ccap : Nat) (C : Nat → Ins) (mst : Int) (w : World) (hcap : (n : Int) ≤ cap) (hM : MemAt w A n M) (hn : (n : Int) ≤ 300) (h0 : 0 ≤ at_) (h1 : at_ ≤ 1099511627776) (hlen : 300 < (len : Int)) :
    Calls Try.prog 5 #[.agg (ctxCells at_ R (.slice A n cap)), .slice CA len ccap, .int .i64 mst] w fun e w' => e = .returned (.bool true) ∧ Below w.heap.size w w' := by
  have hX := heapAt_alloc_new w (.cells (ctxCells at_ R (.slice A n cap)) 26)
  have hG : Grow w (w.alloc (.cells (ctxCells at_ R (.slice A n cap)) 26)) := Grow.alloc w _
  go_enter Try.func5, Try.ntmps5
  go_wp2_with fail
  generalize w.alloc (.cells (ctxCells at_ R (.slice A n cap)) 26) = w1 at hX hG ⊢
  refine (awake_any _).mono ?_
  rintro e w2 ⟨rfl, hg⟩
  replace hX := hg.at hX
  replace hG := hG.trans hg
  have HG := Lib.hid hG; clear hg hG
  have HX := Lib.hid hX; clear hX
  have HINF := Lib.hid (info26c at_ R (.slice A n cap))
  go_wp2_with (first | ((with_reducible refine wpList_load_blk_if ?_ 26 (.tmp 3) rfl w.heap.size 26 (ctxCells at_ R (.slice A n cap)) _ ?_ HX.out Try.underlying26 ?_ HINF.out ?_); (· rfl); (· rfl); (· rfl)))
  refine (great_no _ at_ R A n cap hn h0 h1).mono ?_
  rintro e w3 ⟨rfl, hg⟩
  replace HX := Lib.hid (hg.at HX.out)
  replace HG := Lib.hid (HG.out.trans hg)
  clear hg
  go_wp2_with fail
  refine (awake_any _).mono ?_
  rintro e w4 ⟨rfl, hg⟩
  replace HG := Lib.hid (HG.out.trans hg)
  clear hg
  go_wp2
  go_ret
  exact ⟨rfl, HG.out⟩
set_option maxRecDepth 100000 in
set_option maxHeartbeats 1000000 in
theorem cpuRuns_walk (at_ : Int) (R M : Nat → BitVec 32) (A : Option Addr) (n cap : Nat) (CA : Option Addr) (len ccap : Nat) (C : Nat → Ins) (mst : Int) (w : World) (hcap : (n : Int) ≤ cap) (hM : MemAt w A n M) (hn : (n : Int) ≤ 300) (h0 : 0 ≤ at_) (h1 : at_ ≤ 1099511627776) (hlen : (len : Int) ≤ 300) (hcl : (len : Int) ≤ ccap) (hC : CodeAt w CA len C) :
    Calls Try.prog 5 #[.agg (ctxCells at_ R (.slice A n cap)), .slice CA len ccap, .int .i64 mst] w fun e w' => e = .returned (.bool true) ∧ Below w.heap.size w w' := by
  have hX := heapAt_alloc_new w (.cells (ctxCells at_ R (.slice A n cap)) 26)
  have hG : Grow w (w.alloc (.cells (ctxCells at_ R (.slice A n cap)) 26)) := Grow.alloc w _
  go_enter Try.func5, Try.ntmps5
  go_wp2_with fail
  generalize w.alloc (.cells (ctxCells at_ R (.slice A n cap)) 26) = w1 at hX hG ⊢
  refine (awake_any _).mono ?_
  rintro e w2 ⟨rfl, hg⟩
  replace hX := hg.at hX
  replace hG := hG.trans hg
  have HG := Lib.hid hG; clear hg hG
  have HX := Lib.hid hX; clear hX
  have HINF := Lib.hid (info26c at_ R (.slice A n cap))
  go_wp2_with (first | ((with_reducible refine wpList_load_blk_if ?_ 26 (.tmp 3) rfl w.heap.size 26 (ctxCells at_ R (.slice A n cap)) _ ?_ HX.out Try.underlying26 ?_ HINF.out ?_); (· rfl); (· rfl); (· rfl)))
  refine (great_no _ at_ R A n cap hn h0 h1).mono ?_
  rintro e w3 ⟨rfl, hg⟩
  replace HX := Lib.hid (hg.at HX.out)
  replace HG := Lib.hid (HG.out.trans hg)
  clear hg
  obtain ⟨mo, hmo0⟩ : ∃ mo, (if 300 < mst then 300 else mst) = mo := ⟨_, rfl⟩
  have hmoB : mo ≤ 300 := by rw [← hmo0]; split <;> omega
  go_wp2_with (first | ((with_reducible refine wpList_load_blk_if ?_ 26 (.tmp 3) rfl w.heap.size 26 (ctxCells at_ R (.slice A n cap)) _ ?_ HX.out Try.underlying26 ?_ HINF.out ?_); (· rfl); (· rfl); (· rfl)))
  clear hmo0
  refine (copy_new2 _ at_ R A n cap M hn hcap (hM.grow HG.out)).mono ?_
  rintro e w4 ⟨A1, cap1, rfl, hown, hcap1, hg, hold1⟩

  have HX0 := HX
  have hold2 := hold1
  have HOLD1 := Lib.hid (show ∀ m, A1 = some ⟨m, 0, none⟩ → w3.heap.size ≤ m from fun m hm => (hold1 m hm).1); clear hold1
  have hs10_w4 : (#[.int .i64 0, .int .u32 0, .int .u32 0, .int .u32 0, .int .u32 0, .int .u32 0, .int .u32 0, .int .u32 0, .int .u32 0, .slice none 0 0] : Array Value).size = (ctxCells at_ R (.slice A1 n cap1)).size := by rw [ctxCells_size]; rfl
  have HN_w4 := Lib.hid (heapAt_alloc_new w4 (.cells #[.int .i64 0, .int .u32 0, .int .u32 0, .int .u32 0, .int .u32 0, .int .u32 0, .int .u32 0, .int .u32 0, .int .u32 0, .slice none 0 0] 26))
  have HS_w4 := Lib.hid hs10_w4
  have HI_w4 := Lib.hid (info26c at_ R (.slice A1 n cap1))
  have HO_w4 := Lib.hid (ctx_one at_ R (.slice A1 n cap1) rfl)
  clear hs10_w4
  go_wp2_with ((with_reducible refine wpList_store_blk rfl 26 (.tmp 7) (.tmp 29) rfl w4.heap.size 26 _ (ctxCells at_ R (.slice A1 n cap1)) ?kx ?ky HN_w4.out HS_w4.out HI_w4.out HO_w4.out ?kk))
  case kx => rfl
  case ky => rfl
  case kk =>
  intro w5 hb5 ho5
  clear HN_w4 HS_w4 HI_w4 HO_w4
  obtain ⟨hst5, hg2⟩ := st_made hown hg.size _ hb5 ho5

  have HLT1 := Lib.hid (show ∀ m, A1 = some ⟨m, 0, none⟩ → m < w4.heap.size from fun m hm => (hold2 m hm).2)
  replace HX := Lib.hid (hg2.at (hg.at HX.out))
  replace HG := Lib.hid (HG.out.trans (hg.trans hg2))
  have HB := Lib.hid (show w.heap.size < w3.heap.size ∧ w3.heap.size ≤ w4.heap.size from ⟨heapAt_lt HX0.out, hg.size⟩)
  have HSZ5 := Lib.hid (show w4.heap.size < w5.heap.size from heapAt_lt hst5.1)
  clear hg hg2 hb5 ho5 hown HX0 hold2
  have HST := Lib.hid hst5
  clear hst5
  have HM := Lib.hid hM; clear hM
  have HC := Lib.hid hC; clear hC
  obtain ⟨i0, hi0, hz0, hz1, hz2⟩ := info_parts info28
  go_wp2_with (at_builtin; refine wpList_append_any _ rfl (.tmp 31) (.tmp 32) 39 rfl w5.heap.size 28 i0 _ 6 48 Try.underlying39 hi0 hz0 hz1 hz2 rfl (by decide) _ 0 [] (by rfl) ?c1 (w5.alloc (.cells #[] 28)).heap.size CA len ccap (codeCells C len) (by rfl) ?c2 ?c3 ?c4 ?c5 ?c6 ?c7)
  case c1 => exact World.ownsRow_made (base := w5.heap.size) (e := 28) (size := 6) w5 #[] 0 (Nat.le_refl _) (by unfold maxLen; omega) rfl
  case c2 => exact ((HC.out.grow HG.out).grow (Grow.alloc w5 _)).reads
  case c3 => exact code_one C len
  case c4 => unfold maxLen; omega
  case c5 => omega
  case c6 => simp
  case c7 =>
  intro v' w6 hown1 hgrow hblk
  have hG6 : Grow w5 w6 := Below.trans (Grow.alloc w5 (.cells #[] 28)) (below_grown hgrow (by simp) (fun k hk => by
    simp [Value.ownBlock] at hk; omega))
  obtain ⟨CB, ccb, rfl, hccb, hCB, hnewC⟩ := own_code hown1
  have hfarC : Clear (Mine w4.heap.size A1) CB len := fun a hA hl => by
    have h1 := hnewC a hA
    rintro (h | ⟨m, hm, h⟩)
    · have := HSZ5.out; omega
    · have := HLT1.out m hm; have := HSZ5.out; omega
  clear hown1 hgrow hblk hnewC
  replace HX := Lib.hid (hG6.at HX.out)
  replace HST := Lib.hid (HST.out.grow hG6)
  replace HG := Lib.hid (HG.out.trans hG6)
  clear hG6
  have hmo : ∀ k : Nat, (k : Int) < mo ↔ k < mo.toNat := fun k => by omega
  go_wp2_with fail
  refine (run_anyM _ w3.heap.size w4.heap.size n cap1 len ccb mo.toNat ⟨0, at_, R, M⟩ A1 CB C hn hcap1 hlen (by omega) (by omega) mo hmo hCB hfarC HST.out).mono ?_
  generalize hrun : runP n len C mo.toNat ⟨0, at_, R, M⟩ = r1
  obtain ⟨k1, s1⟩ := r1
  simp only
  rintro e w7 ⟨rfl, hy1, hy2⟩
  have HX7 := Lib.hid (hy2.at (mine_old HB.out.2 HOLD1.out HB.out.1) HX.out)
  have HG7 := Lib.hid (kept_grow hy2 HG.out (Nat.le_of_lt HB.out.1) HB.out.2 HOLD1.out)
  replace HST := Lib.hid hy1
  clear hy1 hy2 hCB hfarC HX HG
  have HRUN := Lib.hid hrun; clear hrun
  have HMO := Lib.hid hmo; clear hmo
  have HXG : Hid (w.heap.size ≠ w4.heap.size ∧ ∀ m, A1 = some ⟨m, 0, none⟩ → m ≠ w.heap.size) := Lib.hid ⟨by have := HB.out; omega, fun m hm => by have := HOLD1.out m hm; have := HB.out; omega⟩
  have HINF0 := HINF
  clear HINF HSZ5 HLT1
  generalize hmost : mo.toNat = most at *
  have HMOST := Lib.hid hmost; clear hmost
  generalize hgy : w4.heap.size = gy at *
  have HGY := Lib.hid hgy; clear hgy
  have HMN := Lib.hid hmoB
  clear hmoB
  go_wp2_with fail
  obtain ⟨xb, hxb⟩ : ∃ xb, xb = w.heap.size := ⟨_, rfl⟩
  rw [← hxb] at HX7 HXG ⊢
  have HXB := Lib.hid hxb; clear hxb
  go_loopw [10, 11, 12, 57, 64, 65] (fun e i u12 u57 u64 u65 wr => ∃ (m : Nat) (t : CS) (A' : Option Addr) (cap' : Nat), Lp w7 xb n len C most ⟨0, at_, R, M⟩ e i wr m t A' cap' ∧ Old u12 wr ∧ Old u57 wr ∧ Old u64 wr ∧ Old u65 wr) (fun e i _ _ _ _ _ => 2 * (most - (intOf i).toNat) + (if intOf e = 0 then 1 else 0))
  case atStart => exact ⟨0, ⟨0, at_, R, M⟩, A, cap, ⟨by omega, rfl, rfl, HX7.out, HM.out.grow HG7.out, fun hn0 a hA => (by
      obtain ⟨a', hA', hc⟩ := HM.out hn0
      rw [hA] at hA'
      injection hA' with hA'
      subst hA'
      have hlt := cell_lt (hc 0 hn0)
      rw [add_block] at hlt
      have := HXB.out
      omega), hcap, Only.refl _ _, fun _ => by simp, fun h => absurd rfl h⟩, fun g h => absurd h (bl3_undef _ _), fun g h => absurd h (bl3_undef _ _), fun g h => absurd h (bl3_undef _ _), fun g h => absurd h (bl3_undef _ _)⟩
  case round =>
    obtain ⟨m, t, A', cap', hL, o12, o57, o64, o65⟩ := hrel
    obtain ⟨hm, rfl, rfl, hx, hmem, hfar, hcap', honly, hrun, hbad⟩ := hL
    have HXR := Lib.hid (show wr.heap[xb]? = some (.cells (ctxCells t.at_ t.R (.slice A' n cap')) 26 (0, 0)) from hx)
    have c0 := CtxAt.c0 hx
    have HMEM := Lib.hid hmem
    have HFAR := Lib.hid hfar
    have HONLY := Lib.hid honly
    have HRUNL := Lib.hid hrun
    have HBAD := Lib.hid hbad
    clear hx hmem hfar honly hrun hbad
    have HO12 := Lib.hid o12
    have HO57 := Lib.hid o57
    have HO64 := Lib.hid o64
    have HO65 := Lib.hid o65
    clear o12 o57 o64 o65
    by_cases hmm : m < most
    · have km : (m : Int) < mo := (HMO.out m).2 hmm
      by_cases hlv : live len t
      · by_cases he : t.err = 0
        · have l0 := hlv.1
          have l1 := hlv.2
          obtain ⟨q, hq⟩ := Int.eq_ofNat_of_zero_le l0
          have hgr : Grow w wr := Grow.only HG7.out HONLY.out (Nat.le_of_eq HXB.out.symm)
          obtain ⟨ca, hCA, hcc⟩ := (HC.out.grow hgr) (by omega)
          have HCC := Lib.hid (hcc q (by omega)); clear hcc
          have hgo : stepP t.at_ t.R t.M n (C q).op (C q).a (C q).b (C q).c (C q).d (C q).k = goS n C t := by
            unfold goS; rw [hq, Int.toNat_natCast]
          have hdo := fun (w' : World) (hM' : MemAt w' A' n t.M) => doRef_any w' n cap' t.at_ t.R t.M A' (C q).op (C q).a (C q).b (C q).c (C q).d (C q).k hn hcap' l0 (by omega) hM'
          rw [hgo] at hdo
          have HDO := Lib.hid hdo
          have HLV := Lib.hid hlv
          rw [hq] at c0 l0 l1
          have HQ := Lib.hid hq
          rw [hCA]
          clear hgo hdo hlv hq hCA
          rw [he]
          go_wp2_with fail
          have HIT := Lib.hid (info26c t.at_ t.R (.slice A' n cap'))
          refine wp_region_rel_float 11 9 (_) (_) _ Grow (FD wr xb t A' n cap') [([(3, none)], none), ([(1, none)], none), ([(3, none)], none), ([(60, some 0)], none), ([(59, some 2), (61, some 0)], none), ([(62, some 0)], none), ([(58, some 5), (63, some 0)], none), ([(64, some 0)], none), ([(57, some 0)], none), ([(57, some 1)], none), ([], none)] (by kernel_rfl) (by decide +kernel) rfl rfl (by kernel_rfl) ⟨⟨HXR.out, Grow.drewN wr 1⟩, Two.first _ _ _ _ _ (Nat.le_refl _) ?i1 ?i2⟩ ?_
          case i1 =>
            intro i hi g
            simp at hi
            rcases hi with rfl | rfl | rfl
            · exact HO64.out.no g
            · exact HO57.out.no g
            · exact HO65.out.no g
          case i2 =>
            intro i hi g
            simp at hi
            subst hi; exact HO12.out.no g
          refine relF_pure ⟨.agg (ctxCells t.at_ t.R (.slice A' n cap')), fun a wQ hF hk => relT_none fun K hK => wp_load_row 26 (.tmp 3) (by rfl) xb (by exact hk.1) 26 _ (0, 0) _ hF.1.1 Try.underlying26 rfl HIT.out (hK _ _ (Grow.refl _) ⟨hF.1, hF.2.skip (Nat.le_refl _) 58 (by decide) (by decide) _⟩ rfl), ?_⟩
          refine relF_pure ⟨.slice (some ca) len ccap, fun a wQ hF hk => relT_none fun K hK => ?_, ?_⟩
          · (try simp at hk)
            go_simp
            exact hK _ _ (Grow.refl _) ⟨hF.1, hF.2.skip (Nat.le_refl _) 59 (by decide) (by decide) _⟩ rfl
          refine relF_pure ⟨.pointer (some ⟨xb, 0, none⟩), fun a wQ hF hk => relT_none fun K hK => ?_, ?_⟩
          · (try simp at hk)
            go_simp
            exact hK _ _ (Grow.refl _) ⟨hF.1, hF.2.skip (Nat.le_refl _) 60 (by decide) (by decide) _⟩ rfl
          refine relF_pure ⟨.int .i64 q, fun a wQ hF hk => relT_none fun K hK => ?_, ?_⟩
          · (try simp at hk)
            have c0Q := CtxAt.c0 hF.1.1
            rw [HQ.out] at c0Q
            go_simp
            exact hK _ _ (Grow.refl _) ⟨hF.1, hF.2.skip (Nat.le_refl _) 61 (by decide) (by decide) _⟩ rfl
          refine relF_pure ⟨.pointer (some (ca.add (q * 6))), fun a wQ hF hk => relT_none fun K hK => ?_, ?_⟩
          · (try simp at hk)
            go_simp
            exact hK _ _ (Grow.refl _) ⟨hF.1, hF.2.skip (Nat.le_refl _) 62 (by decide) (by decide) _⟩ rfl
          refine relF_pure ⟨.agg #[.int .i64 (C q).op, .int .i64 (C q).a, .int .i64 (C q).b, .int .i64 (C q).c, .int .i64 (C q).d, .int .u32 (C q).k.toNat], fun a wQ hF hk => relT_none fun K hK => ?_, ?_⟩
          · (try simp at hk)
            obtain ⟨d0, d1, d2, d3, d4, d5⟩ := HCC.out
            have gw := hF.1.2
            replace d0 := (Below.cell gw (cell_lt d0)).trans d0
            replace d1 := (Below.cell gw (cell_lt d1)).trans d1
            replace d2 := (Below.cell gw (cell_lt d2)).trans d2
            replace d3 := (Below.cell gw (cell_lt d3)).trans d3
            replace d4 := (Below.cell gw (cell_lt d4)).trans d4
            replace d5 := (Below.cell gw (cell_lt d5)).trans d5
            clear gw
            go_simp
            exact hK _ _ (Grow.refl _) ⟨hF.1, hF.2.skip (Nat.le_refl _) 63 (by decide) (by decide) _⟩ rfl
          refine relF_some (DL wr A' n (goS n C t)) (fun v w1 w2 hg ⟨A2, c2, e1, e2, e3⟩ => ⟨A2, c2, e1, e2.grow hg, e3⟩) (fun a wQ hF hk => relT_none fun K hK => ?_) ?_
          · (try simp at hk)
            go_simp
            refine (HDO.out wQ (HMEM.out.grow hF.1.2)).mono ?_
            rintro e w' ⟨A2, cap2, rfl, ⟨hm2, hl2⟩, hc2, hg⟩
            refine hK _ _ hg ⟨⟨hg.at hF.1.1, hF.1.2.trans hg⟩, hF.2.put1 hg.size 64 (by decide) _ (fun g h => .inl ?_)⟩ ⟨A2, cap2, rfl, hm2, fun hn0 => ?_, hc2⟩
            · obtain ⟨hB, hn0, hA⟩ := bl3_tup h
              have h1 : g < w'.heap.size := by
                obtain ⟨a2, hA2, hcc⟩ := hm2 hn0
                rw [hA] at hA2; injection hA2 with hA2; subst hA2
                exact cell_lt (hcc 0 hn0)
              rcases hl2 hn0 with h2 | ⟨g2, h2, h3⟩
              · exfalso
                obtain ⟨a2, hA2, hcc⟩ := HMEM.out hn0
                rw [← h2, hA] at hA2; injection hA2 with hA2; subst hA2
                have := cell_lt (hcc 0 hn0)
                simp only [add_block] at this
                omega
              · rw [hA] at h2; injection h2 with h2; injection h2 with h2; subst h2
                exact ⟨h3, h1⟩
            · rcases hl2 hn0 with h2 | ⟨g2, h2, h3⟩
              · exact .inl h2
              · exact .inr ⟨g2, h2, Nat.le_trans hF.1.2.size h3⟩
          refine relF_some (DL wr A' n (goS n C t)) (fun v w1 w2 hg ⟨A2, c2, e1, e2, e3⟩ => ⟨A2, c2, e1, e2.grow hg, e3⟩) (fun a wQ hF hk => relT_none fun K hK => ?_) ?_
          · have hk1 : DL wr A' n (goS n C t) (a.tmps.getD 64 undef) wQ := hk.1
            rw [Array.getD_eq_getD_getElem?] at hk1
            go_simp
            exact hK _ _ (Grow.refl _) ⟨hF.1, hF.2.put1 (Nat.le_refl _) 57 (by decide) _ (fun g h => .inr ⟨64, by simp, by simpa [Array.getD_eq_getD_getElem?] using h⟩)⟩ hk1
          refine relF_some (DE wr A' n (goS n C t)) (fun v w1 w2 hg ⟨A2, c2, e1, e2, e3⟩ => ⟨A2, c2, e1, e2.grow hg, e3⟩) (fun a wQ hF hk => relT_none fun K hK => ?_) ?_
          · obtain ⟨A2, c2, e1, e2, e3⟩ := hk.1
            have e1' := e1
            simp at e1
            go_simp
            exact hK _ _ (Grow.refl _) ⟨hF.1, hF.2.put1 (Nat.le_refl _) 65 (by decide) _ (fun g h => .inr ⟨57, by simp, by rw [show a.tmps.getD 57 undef = _ from e1']; obtain ⟨x1, x2, x3⟩ := bl3_agg h; exact bl3_of_tup x1 x2 x3⟩)⟩ ⟨A2, c2, rfl, e2, e3⟩
          refine relF_pure ⟨.int .i64 (goS n C t).err, fun a wQ hF hk => relT_none fun K hK => ?_, ?_⟩
          · obtain ⟨A2, c2, e1, e2, e3⟩ := hk.1
            simp at e1
            go_simp
            exact hK _ _ (Grow.refl _) ⟨hF.1, hF.2.skip (Nat.le_refl _) 66 (by decide) (by decide) _⟩ rfl
          refine relF_some (DA wr.heap.size) (fun v w1 w2 hg ⟨g, h1, h2, h3⟩ => ⟨g, h1, hg.at h2, h3⟩) (fun a wQ hF hk => relT_none fun K hK => ?_) ?_
          · go_simp
            exact hK _ _ (Grow.alloc _ _) ⟨⟨(Grow.alloc _ _).at hF.1.1, hF.1.2.trans (Grow.alloc _ _)⟩, hF.2.put2 (by simp) 12 (by decide) _ (fun g h => by have := bl3_ptr h; subst this; simp)⟩ ⟨_, rfl, heapAt_alloc_new _ _, hF.2.base⟩
          refine relF_done (fun wR => ?_) (fun wR => ?_)
          · refine fun v hv => ?_; obtain rfl : v = _ := hv
            refine fun v hv => ?_; obtain rfl : v = _ := hv
            refine fun v hv => ?_; obtain rfl : v = _ := hv
            refine fun v hv => ?_; obtain rfl : v = _ := hv
            refine fun v hv => ?_; obtain rfl : v = _ := hv
            refine fun v hv => ?_; obtain rfl : v = _ := hv
            refine fun v1 hv1 => ?_
            refine fun v2 hv2 => ?_
            refine fun v3 hv3 => ?_
            refine fun v hv => ?_; obtain rfl : v = _ := hv
            refine fun v4 hv4 => ?_
            clear hv2
            clear hv1
            obtain ⟨A2, cap2, rfl, hm2, hl2, hc2⟩ := hv3
            obtain ⟨gN, rfl, hgN, hbN⟩ := hv4
            simp only [Act.put, List.setIfInBounds_toArray, List.set_cons_zero, List.set_cons_succ]
            refine relT_nil fun hF => ?_
            have hne2 : ∀ g, A2 = some ⟨g, 0, none⟩ → wr.heap.size ≤ g → 0 < n → g ≠ gN := fun g h1 h2 h3 e => hF.2.ne 65 (by simp) 12 (by simp) g (bl3_of_agg h2 h3 h1) ⟨h2, .inl (by rw [e]; rfl)⟩
            have HP64 := Lib.hid (show ∀ g, bl3 wr.heap.size v1 g → g < wR.heap.size from fun g h => hF.2.l1 64 (by simp) g h)
            have HP57 := Lib.hid (show ∀ g, bl3 wr.heap.size v2 g → g < wR.heap.size from fun g h => hF.2.l1 57 (by simp) g h)
            have HP65 := Lib.hid (show ∀ g, bl3 wr.heap.size (.agg (ctxCells (goS n C t).at_ (goS n C t).R (.slice A2 n cap2))) g → g < wR.heap.size from fun g h => hF.2.l1 65 (by simp) g h)
            have gw : Grow wr wR := hF.1.2
            have hxR := hF.1.1
            clear hF
            simp only [List.drop_succ_cons, List.drop_zero]
            have hsz : Zc.size = (ctxCells (goS n C t).at_ (goS n C t).R (.slice A2 n cap2)).size := by rw [ctxCells_size]; rfl
            refine wpList_store_blk rfl 26 (.tmp 12) (.tmp 65) rfl gN 26 _ (ctxCells (goS n C t).at_ (goS n C t).R (.slice A2 n cap2)) rfl rfl hgN hsz (info26c _ _ _) (ctx_one _ _ _ rfl) ?_
            intro wS hb1 ho1
            have hxlt := heapAt_lt HXR.out
            have hxS := ho1.at (show xb ≠ gN by omega) hxR
            have hnext := fun (wT : World) => lp_next (wT := wT) hmm hxlt HMEM.out HFAR.out HONLY.out HLV.out he (HRUNL.out he) rfl gw hbN hm2 hl2 hne2 hc2 ho1
            have HNEXT := Lib.hid hnext
            have HS1 := Lib.hid hb1
            have HSX := Lib.hid hxS
            have HI1 := Lib.hid (info26c (goS n C t).at_ (goS n C t).R (.slice A2 n cap2))
            have HO1 := Lib.hid (ctx_one (goS n C t).at_ (goS n C t).R (.slice A2 n cap2) rfl)
            have HZ1 := Lib.hid (show (ctxCells t.at_ t.R (.slice A' n cap')).size = (ctxCells (goS n C t).at_ (goS n C t).R (.slice A2 n cap2)).size by rw [ctxCells_size, ctxCells_size])
            have HSZ1 := Lib.hid (show wR.heap.size ≤ wS.heap.size from ho1.2.2.2.1)
            have HGW := Lib.hid (show wr.heap.size ≤ wR.heap.size from gw.size)
            have HGN := Lib.hid (show gN < wR.heap.size from heapAt_lt hgN)
            clear hnext hb1 hxS hsz hm2 hl2 hne2 ho1 hxR hgN gw
            have hm300 : (m : Int) < 300 := by have := HMN.out; omega
            have hm00 : (0 : Int) ≤ m := by omega
            clear c0 l0 l1
            generalize goS n C t = t2 at *
            by_cases hge : t2.err = 0
            · first | rw [hge] at HP57 ⊢ | rw [hge]
              go_wp2_with (first
                | ((with_reducible refine wpList_load_blk_if ?_ 26 (.tmp 12) rfl gN 26 (ctxCells t2.at_ t2.R (.slice A2 n cap2)) _ ?_ HS1.out Try.underlying26 ?_ HI1.out ?_); (· rfl); (· rfl); (· rfl))
                | ((with_reducible refine wpList_store_blk rfl 26 (.tmp 3) (.tmp 68) rfl xb 26 _ (ctxCells t2.at_ t2.R (.slice A2 n cap2)) ?kx1 ?ky1 HSX.out HZ1.out HI1.out HO1.out ?kk1)))
              case kk1 =>
              intro wT hb2 ho2
              have HN := Lib.hid ((HNEXT.out wT ho2 hb2).2 hge)
              have HSZ2 := Lib.hid (show wS.heap.size ≤ wT.heap.size from ho2.2.2.2.1)
              clear hb2 ho2 hge
              go_wp2_with fail
              go_roundw
              case rel => exact ⟨m + 1, t2, A2, cap2, HN.out, old_ptr (by have := HSZ1.out; have := HSZ2.out; have := HGN.out; omega), old_mid HP57.out HGW.out (Nat.le_trans HSZ1.out HSZ2.out), old_mid HP64.out HGW.out (Nat.le_trans HSZ1.out HSZ2.out), old_mid HP65.out HGW.out (Nat.le_trans HSZ1.out HSZ2.out)⟩
              case measure => simp [intOf]; omega
            · have hgb : (t2.err == 0) = false := by simpa using hge
              go_wp2_with (first
                | ((with_reducible refine wpList_load_blk_if ?_ 26 (.tmp 12) rfl gN 26 (ctxCells t2.at_ t2.R (.slice A2 n cap2)) _ ?_ HS1.out Try.underlying26 ?_ HI1.out ?_); (· rfl); (· rfl); (· rfl))
                | ((with_reducible refine wpList_store_blk rfl 26 (.tmp 3) (.tmp 68) rfl xb 26 _ (ctxCells t2.at_ t2.R (.slice A2 n cap2)) ?kx2 ?ky2 HSX.out HZ1.out HI1.out HO1.out ?kk2)))
              case kk2 =>
              intro wT hb2 ho2
              have HN := Lib.hid ((HNEXT.out wT ho2 hb2).1 hge)
              have HSZ2 := Lib.hid (show wS.heap.size ≤ wT.heap.size from ho2.2.2.2.1)
              clear hb2 ho2
              go_wp2_with fail
              go_roundw
              case rel => exact ⟨m, t2, A2, cap2, HN.out, old_ptr (by have := HSZ1.out; have := HSZ2.out; have := HGN.out; omega), old_mid HP57.out HGW.out (Nat.le_trans HSZ1.out HSZ2.out), old_mid HP64.out HGW.out (Nat.le_trans HSZ1.out HSZ2.out), old_mid HP65.out HGW.out (Nat.le_trans HSZ1.out HSZ2.out)⟩
              case measure => simp [intOf, hge]
          · refine fun v hv => ?_; obtain rfl : v = _ := hv
            refine fun v hv => ?_; obtain rfl : v = _ := hv
            refine fun v hv => ?_; obtain rfl : v = _ := hv
            refine fun v hv => ?_; obtain rfl : v = _ := hv
            refine fun v hv => ?_; obtain rfl : v = _ := hv
            refine fun v hv => ?_; obtain rfl : v = _ := hv
            refine fun v1 hv1 => ?_
            refine fun v2 hv2 => ?_
            refine fun v3 hv3 => ?_
            refine fun v4 hv4 => ?_
            obtain ⟨A3, cap3, rfl, _⟩ := hv2
            clear hv1
            obtain ⟨A2, cap2, rfl, hm2, hl2, hc2⟩ := hv3
            obtain ⟨gN, rfl, hgN, hbN⟩ := hv4
            simp only [Act.put, List.setIfInBounds_toArray, List.set_cons_zero, List.set_cons_succ]
            refine relT_nil fun hF => ?_
            have hne2 : ∀ g, A2 = some ⟨g, 0, none⟩ → wr.heap.size ≤ g → 0 < n → g ≠ gN := fun g h1 h2 h3 e => hF.2.ne 65 (by simp) 12 (by simp) g (bl3_of_agg h2 h3 h1) ⟨h2, .inl (by rw [e]; rfl)⟩
            have HP64 := Lib.hid (show ∀ g, bl3 wr.heap.size v1 g → g < wR.heap.size from fun g h => hF.2.l1 64 (by simp) g h)
            have HP57 := Lib.hid (show ∀ g, bl3 wr.heap.size (.tuple #[.agg (ctxCells (goS n C t).at_ (goS n C t).R (.slice A3 n cap3)), .int .i64 (goS n C t).err]) g → g < wR.heap.size from fun g h => hF.2.l1 57 (by simp) g h)
            have HP65 := Lib.hid (show ∀ g, bl3 wr.heap.size (.agg (ctxCells (goS n C t).at_ (goS n C t).R (.slice A2 n cap2))) g → g < wR.heap.size from fun g h => hF.2.l1 65 (by simp) g h)
            have gw : Grow wr wR := hF.1.2
            have hxR := hF.1.1
            clear hF
            simp only [List.drop_succ_cons, List.drop_zero]
            have hsz : Zc.size = (ctxCells (goS n C t).at_ (goS n C t).R (.slice A2 n cap2)).size := by rw [ctxCells_size]; rfl
            refine wpList_store_blk rfl 26 (.tmp 12) (.tmp 65) rfl gN 26 _ (ctxCells (goS n C t).at_ (goS n C t).R (.slice A2 n cap2)) rfl rfl hgN hsz (info26c _ _ _) (ctx_one _ _ _ rfl) ?_
            intro wS hb1 ho1
            have hxlt := heapAt_lt HXR.out
            have hxS := ho1.at (show xb ≠ gN by omega) hxR
            have hnext := fun (wT : World) => lp_next (wT := wT) hmm hxlt HMEM.out HFAR.out HONLY.out HLV.out he (HRUNL.out he) rfl gw hbN hm2 hl2 hne2 hc2 ho1
            have HNEXT := Lib.hid hnext
            have HS1 := Lib.hid hb1
            have HSX := Lib.hid hxS
            have HI1 := Lib.hid (info26c (goS n C t).at_ (goS n C t).R (.slice A2 n cap2))
            have HO1 := Lib.hid (ctx_one (goS n C t).at_ (goS n C t).R (.slice A2 n cap2) rfl)
            have HZ1 := Lib.hid (show (ctxCells t.at_ t.R (.slice A' n cap')).size = (ctxCells (goS n C t).at_ (goS n C t).R (.slice A2 n cap2)).size by rw [ctxCells_size, ctxCells_size])
            have HSZ1 := Lib.hid (show wR.heap.size ≤ wS.heap.size from ho1.2.2.2.1)
            have HGW := Lib.hid (show wr.heap.size ≤ wR.heap.size from gw.size)
            have HGN := Lib.hid (show gN < wR.heap.size from heapAt_lt hgN)
            clear hnext hb1 hxS hsz hm2 hl2 hne2 ho1 hxR hgN gw
            have hm300 : (m : Int) < 300 := by have := HMN.out; omega
            have hm00 : (0 : Int) ≤ m := by omega
            clear c0 l0 l1
            generalize goS n C t = t2 at *
            by_cases hge : t2.err = 0
            · first | rw [hge] at HP57 ⊢ | rw [hge]
              go_wp2_with (first
                | ((with_reducible refine wpList_load_blk_if ?_ 26 (.tmp 12) rfl gN 26 (ctxCells t2.at_ t2.R (.slice A2 n cap2)) _ ?_ HS1.out Try.underlying26 ?_ HI1.out ?_); (· rfl); (· rfl); (· rfl))
                | ((with_reducible refine wpList_store_blk rfl 26 (.tmp 3) (.tmp 68) rfl xb 26 _ (ctxCells t2.at_ t2.R (.slice A2 n cap2)) ?kx3 ?ky3 HSX.out HZ1.out HI1.out HO1.out ?kk3)))
              case kk3 =>
              intro wT hb2 ho2
              have HN := Lib.hid ((HNEXT.out wT ho2 hb2).2 hge)
              have HSZ2 := Lib.hid (show wS.heap.size ≤ wT.heap.size from ho2.2.2.2.1)
              clear hb2 ho2 hge
              go_wp2_with fail
              go_roundw
              case rel => exact ⟨m + 1, t2, A2, cap2, HN.out, old_ptr (by have := HSZ1.out; have := HSZ2.out; have := HGN.out; omega), old_mid HP57.out HGW.out (Nat.le_trans HSZ1.out HSZ2.out), old_mid HP64.out HGW.out (Nat.le_trans HSZ1.out HSZ2.out), old_mid HP65.out HGW.out (Nat.le_trans HSZ1.out HSZ2.out)⟩
              case measure => simp [intOf]; omega
            · have hgb : (t2.err == 0) = false := by simpa using hge
              go_wp2_with (first
                | ((with_reducible refine wpList_load_blk_if ?_ 26 (.tmp 12) rfl gN 26 (ctxCells t2.at_ t2.R (.slice A2 n cap2)) _ ?_ HS1.out Try.underlying26 ?_ HI1.out ?_); (· rfl); (· rfl); (· rfl))
                | ((with_reducible refine wpList_store_blk rfl 26 (.tmp 3) (.tmp 68) rfl xb 26 _ (ctxCells t2.at_ t2.R (.slice A2 n cap2)) ?kx4 ?ky4 HSX.out HZ1.out HI1.out HO1.out ?kk4)))
              case kk4 =>
              intro wT hb2 ho2
              have HN := Lib.hid ((HNEXT.out wT ho2 hb2).1 hge)
              have HSZ2 := Lib.hid (show wS.heap.size ≤ wT.heap.size from ho2.2.2.2.1)
              clear hb2 ho2
              go_wp2_with fail
              go_roundw
              case rel => exact ⟨m, t2, A2, cap2, HN.out, old_ptr (by have := HSZ1.out; have := HSZ2.out; have := HGN.out; omega), old_mid HP57.out HGW.out (Nat.le_trans HSZ1.out HSZ2.out), old_mid HP64.out HGW.out (Nat.le_trans HSZ1.out HSZ2.out), old_mid HP65.out HGW.out (Nat.le_trans HSZ1.out HSZ2.out)⟩
              case measure => simp [intOf, hge]
        · have hfin : k1 = m ∧ s1.err = t.err ∧ s1.at_ = t.at_ ∧ s1.R = t.R ∧ s1.M = t.M := by
            have h1 := HBAD.out he
            rw [HRUN.out] at h1
            simp only [Prod.mk.injEq] at h1
            rw [h1.1, h1.2]; exact ⟨rfl, rfl, rfl, rfl, rfl⟩
          have l0 := hlv.1
          have l1 := hlv.2
          have heb : (t.err == 0) = false := by simpa using he
          clear hlv
          obtain ⟨q0, q1, q2, q3, q4⟩ := hfin
          have hstr := st_grow_only HST.out (kept_of_only HONLY.out) (fun e => HXG.out.1 e.symm) (fun m hm e => HXG.out.2 m hm e)
          rw [q2, q3, q4] at hstr
          rw [q0, q1]
          have HSTR := Lib.hid hstr; clear hstr
          have HGE := Lib.hid (Grow.only HG7.out HONLY.out (Nat.le_of_eq HXB.out.symm))
          have HXE := HXR
          have HI1 := Lib.hid (info26c t.at_ t.R (.slice A1 n cap1))
          have HI2 := Lib.hid (info26c t.at_ t.R (.slice A' n cap'))
          have HC1 := Lib.hid (show wr.heap[gy]? = some (.cells (ctxCells t.at_ t.R (.slice A1 n cap1)) 26 (0, 0)) from HSTR.out.1)
          clear q0 q1 q2 q3 q4
          go_wp2_with (first
            | ((with_reducible refine wpList_load_blk_if ?_ 26 (.tmp 7) rfl gy 26 (ctxCells t.at_ t.R (.slice A1 n cap1)) _ ?_ HC1.out Try.underlying26 ?_ HI1.out ?_); (· rfl); (· rfl); (· rfl))
            | ((with_reducible refine wpList_load_blk_if ?_ 26 (.tmp 3) rfl xb 26 (ctxCells t.at_ t.R (.slice A' n cap')) _ ?_ HXE.out Try.underlying26 ?_ HI2.out ?_); (· rfl); (· rfl); (· rfl)))
          refine (same_yes _ t.at_ t.R A1 A' n cap1 cap' t.M hn hcap1 hcap' HSTR.out.2.1.at HMEM.out).mono ?_
          rintro e w9 ⟨rfl, hg⟩
          go_wp2
          go_ret
          exact ⟨rfl, HGE.out.trans hg⟩
      · by_cases l0 : 0 ≤ t.at_
        · have l1 : ¬ t.at_ < (len : Int) := fun h => hlv ⟨l0, h⟩
          have hfin : k1 = m ∧ s1.err = t.err ∧ s1.at_ = t.at_ ∧ s1.R = t.R ∧ s1.M = t.M := by
            by_cases he : t.err = 0
            · have h1 := HRUNL.out he
              rw [HRUN.out, runP_dead _ hlv] at h1
              simp only [Prod.mk.injEq] at h1
              rw [h1.1, h1.2]; exact ⟨by omega, he.symm, rfl, rfl, rfl⟩
            · have h1 := HBAD.out he
              rw [HRUN.out] at h1
              simp only [Prod.mk.injEq] at h1
              rw [h1.1, h1.2]; exact ⟨rfl, rfl, rfl, rfl, rfl⟩
          clear hlv
          obtain ⟨q0, q1, q2, q3, q4⟩ := hfin
          have hstr := st_grow_only HST.out (kept_of_only HONLY.out) (fun e => HXG.out.1 e.symm) (fun m hm e => HXG.out.2 m hm e)
          rw [q2, q3, q4] at hstr
          rw [q0, q1]
          have HSTR := Lib.hid hstr; clear hstr
          have HGE := Lib.hid (Grow.only HG7.out HONLY.out (Nat.le_of_eq HXB.out.symm))
          have HXE := HXR
          have HI1 := Lib.hid (info26c t.at_ t.R (.slice A1 n cap1))
          have HI2 := Lib.hid (info26c t.at_ t.R (.slice A' n cap'))
          have HC1 := Lib.hid (show wr.heap[gy]? = some (.cells (ctxCells t.at_ t.R (.slice A1 n cap1)) 26 (0, 0)) from HSTR.out.1)
          clear q0 q1 q2 q3 q4
          go_wp2_with (first
            | ((with_reducible refine wpList_load_blk_if ?_ 26 (.tmp 7) rfl gy 26 (ctxCells t.at_ t.R (.slice A1 n cap1)) _ ?_ HC1.out Try.underlying26 ?_ HI1.out ?_); (· rfl); (· rfl); (· rfl))
            | ((with_reducible refine wpList_load_blk_if ?_ 26 (.tmp 3) rfl xb 26 (ctxCells t.at_ t.R (.slice A' n cap')) _ ?_ HXE.out Try.underlying26 ?_ HI2.out ?_); (· rfl); (· rfl); (· rfl)))
          refine (same_yes _ t.at_ t.R A1 A' n cap1 cap' t.M hn hcap1 hcap' HSTR.out.2.1.at HMEM.out).mono ?_
          rintro e w9 ⟨rfl, hg⟩
          go_wp2
          go_ret
          exact ⟨rfl, HGE.out.trans hg⟩
        · have hfin : k1 = m ∧ s1.err = t.err ∧ s1.at_ = t.at_ ∧ s1.R = t.R ∧ s1.M = t.M := by
            by_cases he : t.err = 0
            · have h1 := HRUNL.out he
              rw [HRUN.out, runP_dead _ hlv] at h1
              simp only [Prod.mk.injEq] at h1
              rw [h1.1, h1.2]; exact ⟨by omega, he.symm, rfl, rfl, rfl⟩
            · have h1 := HBAD.out he
              rw [HRUN.out] at h1
              simp only [Prod.mk.injEq] at h1
              rw [h1.1, h1.2]; exact ⟨rfl, rfl, rfl, rfl, rfl⟩
          clear hlv
          obtain ⟨q0, q1, q2, q3, q4⟩ := hfin
          have hstr := st_grow_only HST.out (kept_of_only HONLY.out) (fun e => HXG.out.1 e.symm) (fun m hm e => HXG.out.2 m hm e)
          rw [q2, q3, q4] at hstr
          rw [q0, q1]
          have HSTR := Lib.hid hstr; clear hstr
          have HGE := Lib.hid (Grow.only HG7.out HONLY.out (Nat.le_of_eq HXB.out.symm))
          have HXE := HXR
          have HI1 := Lib.hid (info26c t.at_ t.R (.slice A1 n cap1))
          have HI2 := Lib.hid (info26c t.at_ t.R (.slice A' n cap'))
          have HC1 := Lib.hid (show wr.heap[gy]? = some (.cells (ctxCells t.at_ t.R (.slice A1 n cap1)) 26 (0, 0)) from HSTR.out.1)
          clear q0 q1 q2 q3 q4
          go_wp2_with (first
            | ((with_reducible refine wpList_load_blk_if ?_ 26 (.tmp 7) rfl gy 26 (ctxCells t.at_ t.R (.slice A1 n cap1)) _ ?_ HC1.out Try.underlying26 ?_ HI1.out ?_); (· rfl); (· rfl); (· rfl))
            | ((with_reducible refine wpList_load_blk_if ?_ 26 (.tmp 3) rfl xb 26 (ctxCells t.at_ t.R (.slice A' n cap')) _ ?_ HXE.out Try.underlying26 ?_ HI2.out ?_); (· rfl); (· rfl); (· rfl)))
          refine (same_yes _ t.at_ t.R A1 A' n cap1 cap' t.M hn hcap1 hcap' HSTR.out.2.1.at HMEM.out).mono ?_
          rintro e w9 ⟨rfl, hg⟩
          go_wp2
          go_ret
          exact ⟨rfl, HGE.out.trans hg⟩
    · have hfin : k1 = m ∧ s1.err = t.err ∧ s1.at_ = t.at_ ∧ s1.R = t.R ∧ s1.M = t.M := by
        by_cases he : t.err = 0
        · have h1 := HRUNL.out he
          rw [HRUN.out, show most - m = 0 by omega, runP_zero] at h1
          simp only [Prod.mk.injEq] at h1
          rw [h1.1, h1.2]; exact ⟨by omega, he.symm, rfl, rfl, rfl⟩
        · have h1 := HBAD.out he
          rw [HRUN.out] at h1
          simp only [Prod.mk.injEq] at h1
          rw [h1.1, h1.2]; exact ⟨rfl, rfl, rfl, rfl, rfl⟩
      have km : ¬ (m : Int) < mo := fun h => hmm ((HMO.out m).1 h)
      obtain ⟨q0, q1, q2, q3, q4⟩ := hfin
      have hstr := st_grow_only HST.out (kept_of_only HONLY.out) (fun e => HXG.out.1 e.symm) (fun m hm e => HXG.out.2 m hm e)
      rw [q2, q3, q4] at hstr
      rw [q0, q1]
      have HSTR := Lib.hid hstr; clear hstr
      have HGE := Lib.hid (Grow.only HG7.out HONLY.out (Nat.le_of_eq HXB.out.symm))
      have HXE := HXR
      have HI1 := Lib.hid (info26c t.at_ t.R (.slice A1 n cap1))
      have HI2 := Lib.hid (info26c t.at_ t.R (.slice A' n cap'))
      have HC1 := Lib.hid (show wr.heap[gy]? = some (.cells (ctxCells t.at_ t.R (.slice A1 n cap1)) 26 (0, 0)) from HSTR.out.1)
      clear q0 q1 q2 q3 q4
      go_wp2_with (first
        | ((with_reducible refine wpList_load_blk_if ?_ 26 (.tmp 7) rfl gy 26 (ctxCells t.at_ t.R (.slice A1 n cap1)) _ ?_ HC1.out Try.underlying26 ?_ HI1.out ?_); (· rfl); (· rfl); (· rfl))
        | ((with_reducible refine wpList_load_blk_if ?_ 26 (.tmp 3) rfl xb 26 (ctxCells t.at_ t.R (.slice A' n cap')) _ ?_ HXE.out Try.underlying26 ?_ HI2.out ?_); (· rfl); (· rfl); (· rfl)))
      refine (same_yes _ t.at_ t.R A1 A' n cap1 cap' t.M hn hcap1 hcap' HSTR.out.2.1.at HMEM.out).mono ?_
      rintro e w9 ⟨rfl, hg⟩
      go_wp2
      go_ret
      exact ⟨rfl, HGE.out.trans hg⟩
end Go.Proofs.Ytkjacmnocbdghaa
