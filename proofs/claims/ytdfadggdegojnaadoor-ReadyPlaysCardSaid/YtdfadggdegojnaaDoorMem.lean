/- The queues in memory. -/
import Derived.Test.YtdfadggdegojnaaDoorRows
import Derived.Test.YtdfadggdegojnaaDoorStore
import Derived.Test.YtdfadggdegojnaaDoorPlain
import Derived.Lib.TrailingZeros
import Derived.StillTailTactics
import Derived.Lib.Hide
namespace Go.Proofs.YtdfadggdegojnaaDoor
open Go.RowKit
set_option linter.unusedVariables false

/-- The library's table lies in its variable. -/
def TabAt (w : World) : Prop := ∀ j, j < 32 → w.cell? ⟨0, j, none⟩ = some (.int .u8 (Lib.deBruijn32tab.getD j 0))

theorem tz_core (x k idx : Nat) (w : World) (hx0 : ((x : Int) == 0) = false)
    (key : bits BinOp.and IntKind.u32 (x : Int) (-(x : Int) % 4294967296) * 125613361 % 4294967296 / 134217728 = (idx : Int))
    (hi : idx < 32) (hk : k < 32) (hcell : w.cell? ⟨0, idx, none⟩ = some (.int .u8 k)) :
    Calls Tryd.prog 26 #[.int .u32 x] w fun e w' => e = .returned (.int .i64 k) ∧ w' = w := by
  go_enter Tryd.func26, Tryd.ntmps26
  go_wp2_with (simp only [key])
  go_ret
  exact ⟨rfl, rfl⟩


theorem tz32_key (x a : Nat) (hx : x < 4294967296) (hlow : x &&& (4294967296 - x) = a) (h0 : x ≠ 0) :
    bits BinOp.and IntKind.u32 (x : Int) (-(x : Int) % 4294967296) * 125613361 % 4294967296 / 134217728 = ((a * 125613361 % 4294967296 / 134217728 : Nat) : Int) := by
  have e1 : -(x : Int) % 4294967296 = ((4294967296 - x : Nat) : Int) := by omega
  have e2 : bits .and .u32 (x : Int) ((4294967296 - x : Nat) : Int) = ((x &&& (4294967296 - x) : Nat) : Int) := by
    have h := bits_and32 (BitVec.ofNat 32 x) (BitVec.ofNat 32 (4294967296 - x))
    rw [BitVec.toNat_and, BitVec.toNat_ofNat, BitVec.toNat_ofNat, Nat.mod_eq_of_lt (show x < 2 ^ 32 by omega), Nat.mod_eq_of_lt (show 4294967296 - x < 2 ^ 32 by omega)] at h
    exact h
  rw [e1, e2, hlow]
  omega
/-- The place of the lowest one bit. -/
def ctz (x : BitVec 32) : Nat := Lib.ctz 32 x.toNat
theorem ctz_lt {x : BitVec 32} (h : x ≠ 0#32) : ctz x < 32 := (Lib.lowest_bit 32 x.toNat (fun e => h (BitVec.eq_of_toNat_eq (by simpa using e))) x.isLt).2
theorem tz_any (w : World) (x : BitVec 32) (h : x ≠ 0#32) (hT : TabAt w) : Calls Tryd.prog 26 #[.int .u32 x.toNat] w fun e w' => e = .returned (.int .i64 (ctz x)) ∧ w' = w := by
  have h0 : x.toNat ≠ 0 := fun e => h (BitVec.eq_of_toNat_eq (by simpa using e))
  obtain ⟨hlow, hk⟩ := Lib.lowest_bit 32 x.toNat h0 x.isLt
  obtain ⟨hi, htab⟩ := Lib.deBruijn32_at _ hk
  have hcell := hT _ hi
  rw [htab] at hcell
  exact tz_core x.toNat _ _ w (by simp; omega) (tz32_key x.toNat _ x.isLt hlow h0) hi hk hcell

theorem ctz_spec {x : BitVec 32} (h : x ≠ 0#32) : x.getLsbD (ctz x) = true ∧ ∀ j, j < ctz x → x.getLsbD j = false := by
  have h0 : 0 < x.toNat := by
    refine Nat.pos_of_ne_zero fun e => h (BitVec.eq_of_toNat_eq (by simpa using e))
  obtain ⟨m, hm, _⟩ := Lib.ctzFrom_spec 32 x.toNat h0 x.isLt
  have he : ctz x = Lib.ctzFrom 32 x.toNat := by
    unfold ctz Lib.ctz
    rw [if_neg (by omega)]
  rw [← he] at hm
  refine ⟨?_, fun j hj => ?_⟩
  · rw [← BitVec.testBit_toNat, hm, Nat.testBit_two_pow_mul]; simp
  · rw [← BitVec.testBit_toNat, hm, Nat.testBit_two_pow_mul]; simp; omega
theorem ctz_eq {x : BitVec 32} {k : Nat} (hk : x.getLsbD k = true) (hlow : ∀ j, j < k → x.getLsbD j = false) : ctz x = k := by
  have hx : x ≠ 0#32 := fun e => by rw [e] at hk; simp at hk
  obtain ⟨h1, h2⟩ := ctz_spec hx
  rcases Nat.lt_trichotomy (ctz x) k with h | h | h
  · rw [hlow _ h] at h1; cases h1
  · exact h
  · rw [h2 _ h] at hk; cases hk

theorem cell_lt {w : World} {a : Addr} {v : Value} (h : w.cell? a = some v) : a.block < w.heap.size := by
  refine Classical.byContradiction fun hn => ?_
  have : w.heap[a.block]? = none := Array.getElem?_eq_none (by omega)
  simp [World.cell?, this] at h
theorem TabAt.pos {w : World} (h : TabAt w) : 0 < w.heap.size := cell_lt (h 0 (by omega))
theorem TabAt.below {w w' : World} (h : TabAt w) (hb : Below w.heap.size w w') : TabAt w' := fun j hj => (Below.cell (p := ⟨0, j, none⟩) hb h.pos).trans (h j hj)

/-- All that was is as it was; the table lay there. -/
def Bl (w0 w : World) : Prop := TabAt w0 ∧ Below w0.heap.size w0 w
theorem Bl.refl {w : World} (h : TabAt w) : Bl w w := ⟨h, Below.refl _ _⟩
theorem Bl.below {w0 w w' : World} (h : Bl w0 w) (hb : Below w.heap.size w w') : Bl w0 w' := ⟨h.1, Below.trans h.2 (hb.mono h.2.size)⟩
theorem Bl.tab {w0 w : World} (h : Bl w0 w) : TabAt w := h.1.below h.2
theorem Bl.drewN {w0 w : World} (h : Bl w0 w) (n : Nat) : Bl w0 (w.drewN n) := ⟨h.1, below_drewN h.2 n⟩
attribute [local irreducible] ctz
def cellQ (s : QS) (i : Nat) : Value :=
  if i = 0 then .int .u32 s.some.toNat else if i < 33 then .int .i8 (s.front (i - 1)) else if i < 65 then .int .i8 (s.back (i - 33)) else if i < 129 then .int .i8 (s.ahead (i - 65)) else
  if i < 193 then .int .i8 (s.after (i - 129)) else if i < 257 then .int .i8 (s.level (i - 193)) else .int .i64 s.count
def qCells (s : QS) : Array Value := Array.ofFn (n := 258) fun i => cellQ s i
theorem qCells_size (s : QS) : (qCells s).size = 258 := by simp [qCells]
theorem qCells_at (s : QS) (i : Nat) (h : i < 258) : (qCells s)[i]? = some (cellQ s i) := by simp [qCells, h]
attribute [local irreducible] qCells
/-- The queues lie at b. -/
def QAt (w : World) (b : Nat) (s : QS) : Prop := w.heap[b]? = some (.cells (qCells s) 29 (0, 0))
theorem QAt.cell {w : World} {b : Nat} {s : QS} (h : QAt w b s) (i : Nat) (hi : i < 258) (v : Value) (hv : cellQ s i = v) : w.cell? ⟨b, i, none⟩ = some v := by
  rw [cell_block h i, qCells_at s i hi, hv]
theorem QAt.free {w : World} {b : Nat} {s : QS} (h : QAt w b s) (i : Nat) : w.frozen? ⟨b, i, none⟩ = false := free_block h i
theorem QAt.c0 {w : World} {b : Nat} {s : QS} (h : QAt w b s) : w.cell? ⟨b, 0, none⟩ = some (.int .u32 s.some.toNat) := h.cell 0 (by omega) _ rfl
theorem QAt.front {w : World} {b : Nat} {s : QS} (h : QAt w b s) (l : Nat) (hl : l < 32) : w.cell? ⟨b, 1 + l, none⟩ = some (.int .i8 (s.front l)) :=
  h.cell _ (by omega) _ (by unfold cellQ; rw [if_neg (by omega), if_pos (by omega), show 1 + l - 1 = l by omega])
theorem QAt.back {w : World} {b : Nat} {s : QS} (h : QAt w b s) (l : Nat) (hl : l < 32) : w.cell? ⟨b, 33 + l, none⟩ = some (.int .i8 (s.back l)) :=
  h.cell _ (by omega) _ (by unfold cellQ; rw [if_neg (by omega), if_neg (by omega), if_pos (by omega), show 33 + l - 33 = l by omega])
theorem QAt.ahead {w : World} {b : Nat} {s : QS} (h : QAt w b s) (t : Nat) (ht : t < 64) : w.cell? ⟨b, 65 + t, none⟩ = some (.int .i8 (s.ahead t)) :=
  h.cell _ (by omega) _ (by unfold cellQ; rw [if_neg (by omega), if_neg (by omega), if_neg (by omega), if_pos (by omega), show 65 + t - 65 = t by omega])
theorem QAt.after {w : World} {b : Nat} {s : QS} (h : QAt w b s) (t : Nat) (ht : t < 64) : w.cell? ⟨b, 129 + t, none⟩ = some (.int .i8 (s.after t)) :=
  h.cell _ (by omega) _ (by unfold cellQ; rw [if_neg (by omega), if_neg (by omega), if_neg (by omega), if_neg (by omega), if_pos (by omega), show 129 + t - 129 = t by omega])
theorem QAt.level {w : World} {b : Nat} {s : QS} (h : QAt w b s) (t : Nat) (ht : t < 64) : w.cell? ⟨b, 193 + t, none⟩ = some (.int .i8 (s.level t)) :=
  h.cell _ (by omega) _ (by unfold cellQ; rw [if_neg (by omega), if_neg (by omega), if_neg (by omega), if_neg (by omega), if_neg (by omega), if_pos (by omega), show 193 + t - 193 = t by omega])
set_option maxRecDepth 10000 in
theorem QAt.count {w : World} {b : Nat} {s : QS} (h : QAt w b s) : w.cell? ⟨b, 257, none⟩ = some (.int .i64 s.count) := h.cell 257 (by omega) _ rfl
set_option maxRecDepth 10000 in
theorem QAt.set {w : World} {b : Nat} {s s' : QS} (h : QAt w b s) (i : Nat) (hi : i < 258) (v : Value) (hs : ∀ j, j < 258 → cellQ s' j = if j = i then v else cellQ s j) : QAt (w.setCell ⟨b, i, none⟩ v) b s' := by
  have e : (qCells s).setIfInBounds i v = qCells s' := by
    apply Array.ext_getElem?
    intro j
    rw [Array.getElem?_setIfInBounds, qCells_size]
    by_cases hj : j < 258
    · rw [qCells_at s' j hj, hs j hj]
      by_cases e : i = j
      · rw [if_pos e, if_pos (by omega), if_pos e.symm]
      · rw [if_neg e, if_neg (fun h => e h.symm), qCells_at s j hj]
    · rw [if_neg (by omega), Array.getElem?_eq_none (by rw [qCells_size]; omega), Array.getElem?_eq_none (by rw [qCells_size]; omega)]
  show (w.setCell ⟨b, i, none⟩ v).heap[b]? = _
  rw [set_block h, e]
set_option maxRecDepth 10000 in
theorem QAt.set_front {w : World} {b : Nat} {s : QS} (h : QAt w b s) (k : Nat) (hk : k < 32) (x : Int) : QAt (w.setCell ⟨b, 1 + k, none⟩ (.int .i8 x)) b { s with front := up s.front k x } :=
  h.set _ (by omega) _ fun j hj => by
    by_cases e : j = 1 + k
    · rw [if_pos e, e]
      unfold cellQ
      simp only [show ¬ 1 + k = 0 by omega, if_false, show 1 + k - 1 = k by omega, up_same]
      rw [if_pos (show 1 + k < 33 by omega)]
    · rw [if_neg e]
      unfold cellQ
      by_cases g : 1 ≤ j ∧ j < 33
      · simp only [up_other s.front k x (show j - 1 ≠ k by omega)]
      · by_cases g0 : j = 0
        · rw [if_pos g0, if_pos g0]
        · rw [if_neg g0, if_neg g0]
          repeat (first | rfl | omega | (split; first | rfl | omega))
set_option maxRecDepth 10000 in
theorem QAt.set_back {w : World} {b : Nat} {s : QS} (h : QAt w b s) (k : Nat) (hk : k < 32) (x : Int) : QAt (w.setCell ⟨b, 33 + k, none⟩ (.int .i8 x)) b { s with back := up s.back k x } :=
  h.set _ (by omega) _ fun j hj => by
    by_cases e : j = 33 + k
    · rw [if_pos e, e]
      unfold cellQ
      simp only [show ¬ 33 + k = 0 by omega, if_false, show 33 + k - 33 = k by omega, up_same]
      rw [if_neg (show ¬ 33 + k < 33 by omega)]; rw [if_pos (show 33 + k < 65 by omega)]
    · rw [if_neg e]
      unfold cellQ
      by_cases g : 33 ≤ j ∧ j < 65
      · simp only [up_other s.back k x (show j - 33 ≠ k by omega)]
      · by_cases g0 : j = 0
        · rw [if_pos g0, if_pos g0]
        · rw [if_neg g0, if_neg g0]
          repeat (first | rfl | omega | (split; first | rfl | omega))
set_option maxRecDepth 10000 in
theorem QAt.set_ahead {w : World} {b : Nat} {s : QS} (h : QAt w b s) (k : Nat) (hk : k < 64) (x : Int) : QAt (w.setCell ⟨b, 65 + k, none⟩ (.int .i8 x)) b { s with ahead := up s.ahead k x } :=
  h.set _ (by omega) _ fun j hj => by
    by_cases e : j = 65 + k
    · rw [if_pos e, e]
      unfold cellQ
      simp only [show ¬ 65 + k = 0 by omega, if_false, show 65 + k - 65 = k by omega, up_same]
      rw [if_neg (show ¬ 65 + k < 33 by omega)]; rw [if_neg (show ¬ 65 + k < 65 by omega)]; rw [if_pos (show 65 + k < 129 by omega)]
    · rw [if_neg e]
      unfold cellQ
      by_cases g : 65 ≤ j ∧ j < 129
      · simp only [up_other s.ahead k x (show j - 65 ≠ k by omega)]
      · by_cases g0 : j = 0
        · rw [if_pos g0, if_pos g0]
        · rw [if_neg g0, if_neg g0]
          repeat (first | rfl | omega | (split; first | rfl | omega))
set_option maxRecDepth 10000 in
theorem QAt.set_after {w : World} {b : Nat} {s : QS} (h : QAt w b s) (k : Nat) (hk : k < 64) (x : Int) : QAt (w.setCell ⟨b, 129 + k, none⟩ (.int .i8 x)) b { s with after := up s.after k x } :=
  h.set _ (by omega) _ fun j hj => by
    by_cases e : j = 129 + k
    · rw [if_pos e, e]
      unfold cellQ
      simp only [show ¬ 129 + k = 0 by omega, if_false, show 129 + k - 129 = k by omega, up_same]
      rw [if_neg (show ¬ 129 + k < 33 by omega)]; rw [if_neg (show ¬ 129 + k < 65 by omega)]; rw [if_neg (show ¬ 129 + k < 129 by omega)]; rw [if_pos (show 129 + k < 193 by omega)]
    · rw [if_neg e]
      unfold cellQ
      by_cases g : 129 ≤ j ∧ j < 193
      · simp only [up_other s.after k x (show j - 129 ≠ k by omega)]
      · by_cases g0 : j = 0
        · rw [if_pos g0, if_pos g0]
        · rw [if_neg g0, if_neg g0]
          repeat (first | rfl | omega | (split; first | rfl | omega))
set_option maxRecDepth 10000 in
theorem QAt.set_level {w : World} {b : Nat} {s : QS} (h : QAt w b s) (k : Nat) (hk : k < 64) (x : Int) : QAt (w.setCell ⟨b, 193 + k, none⟩ (.int .i8 x)) b { s with level := up s.level k x } :=
  h.set _ (by omega) _ fun j hj => by
    by_cases e : j = 193 + k
    · rw [if_pos e, e]
      unfold cellQ
      simp only [show ¬ 193 + k = 0 by omega, if_false, show 193 + k - 193 = k by omega, up_same]
      rw [if_neg (show ¬ 193 + k < 33 by omega)]; rw [if_neg (show ¬ 193 + k < 65 by omega)]; rw [if_neg (show ¬ 193 + k < 129 by omega)]; rw [if_neg (show ¬ 193 + k < 193 by omega)]; rw [if_pos (show 193 + k < 257 by omega)]
    · rw [if_neg e]
      unfold cellQ
      by_cases g : 193 ≤ j ∧ j < 257
      · simp only [up_other s.level k x (show j - 193 ≠ k by omega)]
      · by_cases g0 : j = 0
        · rw [if_pos g0, if_pos g0]
        · rw [if_neg g0, if_neg g0]
          repeat (first | rfl | omega | (split; first | rfl | omega))
theorem QAt.set_some {w : World} {b : Nat} {s : QS} (h : QAt w b s) (x : BitVec 32) : QAt (w.setCell ⟨b, 0, none⟩ (.int .u32 x.toNat)) b { s with some := x } :=
  h.set _ (by omega) _ fun j hj => by
    by_cases e : j = 0
    · rw [if_pos e, e]; rfl
    · rw [if_neg e]; unfold cellQ; rw [if_neg e, if_neg e]
set_option maxRecDepth 10000 in
theorem QAt.set_count {w : World} {b : Nat} {s : QS} (h : QAt w b s) (x : Int) : QAt (w.setCell ⟨b, 257, none⟩ (.int .i64 x)) b { s with count := x } :=
  h.set _ (by omega) _ fun j hj => by
    by_cases e : j = 257
    · rw [if_pos e, e]; rfl
    · rw [if_neg e]; unfold cellQ
      have : j < 257 := by omega
      simp only [if_pos this]
theorem QAt.only {w w' : World} {b c : Nat} {s : QS} (h : QAt w b s) (ho : Only c w w') (hne : b ≠ c) : QAt w' b s := ho.at hne h
theorem QAt.below {w w' : World} {b : Nat} {s : QS} (h : QAt w b s) (hb : Below w.heap.size w w') : QAt w' b s := heapAt_below hb (heapAt_lt h) h
theorem QAt.drewN {w : World} {b : Nat} {s : QS} (h : QAt w b s) (n : Nat) : QAt (w.drewN n) b s := h
theorem QAt.drew {w : World} {b : Nat} {s : QS} (h : QAt w b s) : QAt w.drew b s := h
set_option maxRecDepth 10000 in
theorem qzero : qCells zeroS = Array.ofFn (n := 258) fun i => if i.val = 0 then Value.int .u32 0 else if i.val < 257 then .int .i8 0 else .int .i64 0 := by
  unfold qCells
  congr 1
  funext i
  unfold cellQ zeroS
  by_cases h : i.val = 0
  · rw [if_pos h, if_pos h]; rfl
  · rw [if_neg h, if_neg h]
    by_cases g : i.val < 257
    · rw [if_pos g]
      repeat (first | rfl | (split; first | rfl | omega))
    · rw [if_neg g]
      repeat (first | rfl | (split; first | rfl | omega))
end Go.Proofs.YtdfadggdegojnaaDoor
