/- What an instruction does to a context, plainly; and the walks of move and Do. -/
import Derived.Test.YtkjacmnocbdghaaCopy
import Derived.StillTailTactics
import Derived.Deep.QuietTactic
import Derived.BigQuiet
namespace Go.Proofs.Ytkjacmnocbdghaa
open Go.RowKit
set_option linter.unusedVariables false
attribute [local irreducible] hasA hasB hasC hasD hasK bitsOf regP hasStr letter formP bad4 bad6 bad8 bad10 ctxCells regArr valW valE words upd

/-- Blocks but some are as they were. -/
def Kept (S : Nat → Prop) (w w' : World) : Prop := w'.os = w.os ∧ w'.tape = w.tape ∧ w'.output = w.output ∧ w.heap.size ≤ w'.heap.size ∧ ∀ k, k < w.heap.size → ¬ S k → w'.heap[k]? = w.heap[k]?
theorem Kept.refl (S : Nat → Prop) (w : World) : Kept S w w := ⟨rfl, rfl, rfl, Nat.le_refl _, fun _ _ _ => rfl⟩
theorem Kept.trans {S : Nat → Prop} {w w1 w2 : World} (h : Kept S w w1) (g : Kept S w1 w2) : Kept S w w2 :=
  ⟨g.1.trans h.1, g.2.1.trans h.2.1, g.2.2.1.trans h.2.2.1, Nat.le_trans h.2.2.2.1 g.2.2.2.1, fun k hk hne => (g.2.2.2.2 k (Nat.lt_of_lt_of_le hk h.2.2.2.1) hne).trans (h.2.2.2.2 k hk hne)⟩
theorem Kept.grow {S : Nat → Prop} {w w1 w2 : World} (h : Kept S w w1) (g : Grow w1 w2) : Kept S w w2 :=
  ⟨g.os.trans h.1, g.tape.trans h.2.1, g.output.trans h.2.2.1, Nat.le_trans h.2.2.2.1 g.size, fun k hk hne => (g.block k (Nat.lt_of_lt_of_le hk h.2.2.2.1)).trans (h.2.2.2.2 k hk hne)⟩
theorem Kept.drewN {S : Nat → Prop} {w w1 : World} (h : Kept S w w1) (n : Nat) : Kept S w (w1.drewN n) := h.grow (Grow.drewN w1 n)
theorem Kept.set {S : Nat → Prop} {w w1 : World} (h : Kept S w w1) {b : Nat} (hb : S b) (j : Nat) (v : Value) : Kept S w (w1.setCell ⟨b, j, none⟩ v) :=
  h.trans ⟨rfl, rfl, rfl, by simp [World.setCell], fun k _ hne => set_block_other (by rintro rfl; exact hne hb) j v⟩
theorem Kept.below {S : Nat → Prop} {w w1 : World} (h : Kept S w w1) {B : Nat} (hB : B ≤ w.heap.size) (hS : ∀ k, S k → B ≤ k) : Below B w w1 :=
  ⟨h.1, h.2.1, h.2.2.1, h.2.2.2.1, fun k hk => h.2.2.2.2 k (by omega) (fun hs => by have := hS k hs; omega)⟩
theorem Kept.at {S : Nat → Prop} {k : Nat} {w w1 : World} {o : Obj} (h : Kept S w w1) (hne : ¬ S k) (ho : w.heap[k]? = some o) : w1.heap[k]? = some o := (h.2.2.2.2 k (heapAt_lt ho) hne).trans ho
/-- The blocks of a context: its own, and its memory's. -/
def Mine (g : Nat) (A : Option Addr) (k : Nat) : Prop := k = g ∨ ∃ m, A = some ⟨m, 0, none⟩ ∧ k = m
/-- A context of the call's own lies at g. -/
def St (w : World) (B g : Nat) (at_ : Int) (R : Nat → BitVec 32) (A : Option Addr) (n cap : Nat) (M : Nat → BitVec 32) : Prop :=
  CtxAt w g at_ R (.slice A n cap) ∧ MemOwn w B A n M ∧ B ≤ g ∧ (0 < n → A ≠ some ⟨g, 0, none⟩)
section
variable {w w' : World} {B g n cap : Nat} {at_ : Int} {R : Nat → BitVec 32} {A : Option Addr} {M : Nat → BitVec 32}
theorem St.grow (h : St w B g at_ R A n cap M) (hg : Grow w w') : St w' B g at_ R A n cap M := ⟨h.1.grow hg, h.2.1.grow hg, h.2.2.1, h.2.2.2⟩
theorem St.only (h : St w B g at_ R A n cap M) (ho : Only g w w') {at' : Int} {R' : Nat → BitVec 32} (hc : CtxAt w' g at' R' (.slice A n cap)) : St w' B g at' R' A n cap M :=
  ⟨hc, h.2.1.only ho (fun m hm hn e => h.2.2.2 hn (by rw [hm, e])), h.2.2.1, h.2.2.2⟩
theorem St.set0 (h : St w B g at_ R A n cap M) (a : Int) : St (w.setCell ⟨g, 0, none⟩ (.int .i64 a)) B g a R A n cap M := h.only ((Only.refl g w).setCell 0 _) (h.1.set0 a)
theorem St.setR (h : St w B g at_ R A n cap M) (i : Nat) (v : BitVec 32) (hi : i < 8) : St (w.setCell ⟨g, 1 + i, none⟩ (.int .u32 v.toNat)) B g at_ (upd R i v) A n cap M := h.only ((Only.refl g w).setCell (1 + i) _) (h.1.setR i v hi)
end
/-- What comes of it: an error, the place, the registers, the memory. -/
structure CS where
  err : Int
  at_ : Int
  R : Nat → BitVec 32
  M : Nat → BitVec 32
def stepP (at_ : Int) (R M : Nat → BitVec 32) (n : Nat) (op a b c d : Int) (k : BitVec 32) : CS :=
  if 20 < op ∨ formP op a b c d k.toNat ≠ 0 then ⟨14, at_, R, M⟩
  else if op = 1 then ⟨0, at_ + 1, upd R a.toNat k, M⟩
  else if op = 2 then ⟨0, at_ + 1, upd R a.toNat (R b.toNat), M⟩
  else if op = 15 then (if n ≤ (R b.toNat + k).toNat then ⟨12, at_, R, M⟩ else ⟨0, at_ + 1, upd R a.toNat (M (R b.toNat + k).toNat), M⟩)
  else if op = 16 then (if n ≤ (R b.toNat + k).toNat then ⟨12, at_, R, M⟩ else ⟨0, at_ + 1, R, upd M (R b.toNat + k).toNat (R a.toNat)⟩)
  else if op = 17 then ⟨0, k.toNat, R, M⟩
  else if op = 18 then (if R a.toNat = 0#32 then ⟨0, k.toNat, R, M⟩ else ⟨0, at_ + 1, R, M⟩)
  else if op = 19 then (if R a.toNat = 0#32 then ⟨0, at_ + 1, R, M⟩ else ⟨0, k.toNat, R, M⟩)
  else if op = 20 then ⟨0, at_ + 1, R, M⟩
  else if valE op (R c.toNat) ≠ 0 then ⟨valE op (R c.toNat), at_, R, M⟩
  else ⟨0, at_ + 1, upd R a.toNat (valW op (R b.toNat) (R c.toNat)), M⟩
theorem form_regs (op a b c d k : Int) (h : formP op a b c d k = 0) : (0 ≤ a ∧ a < 8) ∧ (0 ≤ b ∧ b < 8) ∧ (0 ≤ c ∧ c < 8) ∧ 1 ≤ op ∧ op ≤ 38 := by
  unfold formP regP at h
  grind
set_option maxRecDepth 100000 in
theorem do_bad (w : World) (g : Nat) (op a b c d : Int) (k : BitVec 32) (h : 20 < op ∨ formP op a b c d k.toNat ≠ 0) :
    Calls Try.prog 11 #[.pointer (some ⟨g, 0, none⟩), .agg #[.int .i64 op, .int .i64 a, .int .i64 b, .int .i64 c, .int .i64 d, .int .u32 k.toNat]] w fun e w' => e = .returned (.int .i64 14) ∧ Grow w w' := by
  by_cases h20 : 20 < op
  · go_enter Try.func11, Try.ntmps11
    go_wp2
    go_ret
    exact ⟨rfl, Grow.alloc _ _⟩
  · have hf : formP op a b c d k.toNat ≠ 0 := by
      rcases h with h | h
      · exact absurd h h20
      · exact h
    clear h
    have hG := Grow.alloc w (.cells #[.int .i64 op, .int .i64 a, .int .i64 b, .int .i64 c, .int .i64 d, .int .u32 k.toNat] 28)
    go_enter Try.func11, Try.ntmps11
    go_wp2_with fail
    generalize w.alloc (.cells #[.int .i64 op, .int .i64 a, .int .i64 b, .int .i64 c, .int .i64 d, .int .u32 k.toNat] 28) = w1 at hG ⊢
    refine (form_any op a b c d k.toNat _).mono ?_
    rintro e w2 ⟨rfl, hg⟩
    have HG := Lib.hid (hG.trans hg)
    clear hG hg
    generalize formP op a b c d k.toNat = f at *
    have hne : (f != 0) = true := by simp [hf]
    go_wp2
    go_ret
    exact ⟨rfl, HG.out⟩
end Go.Proofs.Ytkjacmnocbdghaa
