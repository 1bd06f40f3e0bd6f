/- Texts of the proof, merged: KAt. -/
import Derived.Test.YtnhmdinpfcoebaaGreatDoorRows
import Derived.Test.YtnhmdinpfcoebaaGreatDoorM06
import Derived.Test.YtnhmdinpfcoebaaGreatDoorM04
import Derived.Lib.TrailingZeros
import Derived.StillTailTactics
import Derived.Lib.Hide
/-! === KAt -/
section
/- The kernel's block in memory: 550 cells by one function; the queues within it. -/
namespace Go.Proofs.YtnhmdinpfcoebaaGreatDoor.Qu
open Go.RowKit
set_option linter.unusedVariables false
/-- The library's table lies in its variable. -/
def TabAt (w : World) : Prop := ∀ j, j < 32 → w.cell? ⟨0, j, none⟩ = some (.int .u8 (Lib.deBruijn32tab.getD j 0))

theorem tz_core (x k idx : Nat) (w : World) (hx0 : ((x : Int) == 0) = false)
    (key : bits BinOp.and IntKind.u32 (x : Int) (-(x : Int) % 4294967296) * 125613361 % 4294967296 / 134217728 = (idx : Int))
    (hi : idx < 32) (hk : k < 32) (hcell : w.cell? ⟨0, idx, none⟩ = some (.int .u8 k)) :
    Calls Tryz.prog 153 #[.int .u32 x] w fun e w' => e = .returned (.int .i64 k) ∧ w' = w := by
  go_enter Tryz.func153, Tryz.ntmps153
  go_wp2_with (simp only [key])
  go_ret
  exact ⟨rfl, rfl⟩


theorem tz32_key (x a : Nat) (hx : x < 4294967296) (hlow : x &&& (4294967296 - x) = a) (h0 : x ≠ 0) :
    bits BinOp.and IntKind.u32 (x : Int) (-(x : Int) % 4294967296) * 125613361 % 4294967296 / 134217728 = ((a * 125613361 % 4294967296 / 134217728 : Nat) : Int) := by
  have e1 : -(x : Int) % 4294967296 = ((4294967296 - x : Nat) : Int) := by omega
  have e2 : bits .and .u32 (x : Int) ((4294967296 - x : Nat) : Int) = ((x &&& (4294967296 - x) : Nat) : Int) := by
    have h := bits_and32 (BitVec.ofNat 32 x) (BitVec.ofNat 32 (4294967296 - x))
    rw [BitVec.toNat_and, BitVec.toNat_ofNat, BitVec.toNat_ofNat, Nat.mod_eq_of_lt (show x < 2 ^ 32 by omega), Nat.mod_eq_of_lt (show 4294967296 - x < 2 ^ 32 by omega)] at h
    exact h
  rw [e1, e2, hlow]
  omega
/-- The place of the lowest one bit. -/
def ctz (x : BitVec 32) : Nat := Lib.ctz 32 x.toNat
theorem ctz_lt {x : BitVec 32} (h : x ≠ 0#32) : ctz x < 32 := (Lib.lowest_bit 32 x.toNat (fun e => h (BitVec.eq_of_toNat_eq (by simpa using e))) x.isLt).2
theorem tz_any (w : World) (x : BitVec 32) (h : x ≠ 0#32) (hT : TabAt w) : Calls Tryz.prog 153 #[.int .u32 x.toNat] w fun e w' => e = .returned (.int .i64 (ctz x)) ∧ w' = w := by
  have h0 : x.toNat ≠ 0 := fun e => h (BitVec.eq_of_toNat_eq (by simpa using e))
  obtain ⟨hlow, hk⟩ := Lib.lowest_bit 32 x.toNat h0 x.isLt
  obtain ⟨hi, htab⟩ := Lib.deBruijn32_at _ hk
  have hcell := hT _ hi
  rw [htab] at hcell
  exact tz_core x.toNat _ _ w (by simp; omega) (tz32_key x.toNat _ x.isLt hlow h0) hi hk hcell

theorem ctz_spec {x : BitVec 32} (h : x ≠ 0#32) : x.getLsbD (ctz x) = true ∧ ∀ j, j < ctz x → x.getLsbD j = false := by
  have h0 : 0 < x.toNat := by
    refine Nat.pos_of_ne_zero fun e => h (BitVec.eq_of_toNat_eq (by simpa using e))
  obtain ⟨m, hm, _⟩ := Lib.ctzFrom_spec 32 x.toNat h0 x.isLt
  have he : ctz x = Lib.ctzFrom 32 x.toNat := by
    unfold ctz Lib.ctz
    rw [if_neg (by omega)]
  rw [← he] at hm
  refine ⟨?_, fun j hj => ?_⟩
  · rw [← BitVec.testBit_toNat, hm, Nat.testBit_two_pow_mul]; simp
  · rw [← BitVec.testBit_toNat, hm, Nat.testBit_two_pow_mul]; simp; omega
theorem ctz_eq {x : BitVec 32} {k : Nat} (hk : x.getLsbD k = true) (hlow : ∀ j, j < k → x.getLsbD j = false) : ctz x = k := by
  have hx : x ≠ 0#32 := fun e => by rw [e] at hk; simp at hk
  obtain ⟨h1, h2⟩ := ctz_spec hx
  rcases Nat.lt_trichotomy (ctz x) k with h | h | h
  · rw [hlow _ h] at h1; cases h1
  · exact h
  · rw [h2 _ h] at hk; cases hk

theorem TabAt.pos {w : World} (h : TabAt w) : 0 < w.heap.size := cell_lt (h 0 (by omega))
theorem TabAt.below {w w' : World} (h : TabAt w) (hb : Below w.heap.size w w') : TabAt w' := fun j hj => (Below.cell (p := ⟨0, j, none⟩) hb h.pos).trans (h j hj)

/-- All that was is as it was; the table lay there. -/
def Bl (w0 w : World) : Prop := TabAt w0 ∧ Below w0.heap.size w0 w
theorem Bl.refl {w : World} (h : TabAt w) : Bl w w := ⟨h, Below.refl _ _⟩
theorem Bl.below {w0 w w' : World} (h : Bl w0 w) (hb : Below w.heap.size w w') : Bl w0 w' := ⟨h.1, Below.trans h.2 (hb.mono h.2.size)⟩
theorem Bl.tab {w0 w : World} (h : Bl w0 w) : TabAt w := h.1.below h.2
theorem Bl.drewN {w0 w : World} (h : Bl w0 w) (n : Nat) : Bl w0 (w.drewN n) := ⟨h.1, below_drewN h.2 n⟩
attribute [local irreducible] ctz
def cellQ (s : QS) (i : Nat) : Value :=
  if i = 0 then .int .u32 s.some.toNat else if i < 33 then .int .i8 (s.front (i - 1)) else if i < 65 then .int .i8 (s.back (i - 33)) else if i < 129 then .int .i8 (s.ahead (i - 65)) else
  if i < 193 then .int .i8 (s.after (i - 129)) else if i < 257 then .int .i8 (s.level (i - 193)) else .int .i64 s.count
/-- The kernel, cell by cell. -/
structure KS where
  count : Nat
  cycle : Nat
  row : Value
  runs : Nat → Bool
  table : Int
  q : QS
  cf : Nat → Value
  running : Int
  isr : Nat → Value
  mems : Value
  tasks : Value
  locks : Value
  sems : Value
  mails : Value
  lines : Value
  reads : Nat
  stopped : Bool
  told : Value
def upB (f : Nat → Bool) (i : Nat) (v : Bool) : Nat → Bool := fun j => if j = i then v else f j
theorem upB_same (f : Nat → Bool) (i : Nat) (v : Bool) : upB f i v i = v := by simp [upB]
theorem upB_other (f : Nat → Bool) (i : Nat) (v : Bool) {j : Nat} (h : j ≠ i) : upB f i v j = f j := by simp [upB, h]
def cellK (s : KS) (i : Nat) : Value :=
  if i = 0 then .int .u64 s.count else if i = 1 then .int .u64 s.cycle else if i = 2 then s.row else if i < 259 then .bool (s.runs (i - 3)) else if i = 259 then .int .i64 s.table else if i < 518 then cellQ s.q (i - 260) else
  if i < 530 then s.cf (i - 518) else if i = 530 then .int .i64 s.running else if i < 541 then s.isr (i - 531) else if i = 541 then s.mems else if i = 542 then s.tasks else if i = 543 then s.locks else
  if i = 544 then s.sems else if i = 545 then s.mails else if i = 546 then s.lines else if i = 547 then .int .u64 s.reads else if i = 548 then .bool s.stopped else if i = 549 then s.told else undef
def kCells (s : KS) : Array Value := Array.ofFn (n := 550) fun i => cellK s i
theorem kCells_size (s : KS) : (kCells s).size = 550 := by simp [kCells]
theorem kCells_at (s : KS) (i : Nat) (h : i < 550) : (kCells s)[i]? = some (cellK s i) := by simp [kCells, h]
attribute [local irreducible] kCells
/-- The kernel lies at b. -/
def KAt (w : World) (b : Nat) (s : KS) : Prop := w.heap[b]? = some (.cells (kCells s) 187 (0, 0))
theorem KAt.cell {w : World} {b : Nat} {s : KS} (h : KAt w b s) (i : Nat) (hi : i < 550) (v : Value) (hv : cellK s i = v) : w.cell? ⟨b, i, none⟩ = some v := by
  rw [cell_block h i, kCells_at s i hi, hv]
theorem KAt.free {w : World} {b : Nat} {s : KS} (h : KAt w b s) (i : Nat) : w.frozen? ⟨b, i, none⟩ = false := free_block h i
theorem kset {s s' : KS} (i : Nat) (hi : i < 550) (v : Value) (hs : ∀ j, j < 550 → cellK s' j = if j = i then v else cellK s j) : (kCells s).setIfInBounds i v = kCells s' := by
  apply Array.ext_getElem?
  intro j
  rw [Array.getElem?_setIfInBounds, kCells_size]
  by_cases hj : j < 550
  · rw [kCells_at s' j hj, hs j hj]
    by_cases e : i = j
    · rw [if_pos e, if_pos (by omega), if_pos e.symm]
    · rw [if_neg e, if_neg (fun h => e h.symm), kCells_at s j hj]
  · rw [if_neg (by omega), Array.getElem?_eq_none (by rw [kCells_size]; omega), Array.getElem?_eq_none (by rw [kCells_size]; omega)]
theorem KAt.set {w : World} {b : Nat} {s s' : KS} (h : KAt w b s) (i : Nat) (hi : i < 550) (v : Value) (hs : ∀ j, j < 550 → cellK s' j = if j = i then v else cellK s j) : KAt (w.setCell ⟨b, i, none⟩ v) b s' := by
  show (w.setCell ⟨b, i, none⟩ v).heap[b]? = _
  rw [set_block h, kset i hi v hs]
theorem KAt.only {w w' : World} {b c : Nat} {s : KS} (h : KAt w b s) (ho : Only c w w') (hne : b ≠ c) : KAt w' b s := ho.at hne h
theorem KAt.below {w w' : World} {b : Nat} {s : KS} (h : KAt w b s) (hb : Below w.heap.size w w') : KAt w' b s := heapAt_below hb (heapAt_lt h) h
set_option maxRecDepth 10000 in
theorem KAt.count {w : World} {b : Nat} {s : KS} (h : KAt w b s) : w.cell? ⟨b, 0, none⟩ = some (.int .u64 s.count) := h.cell 0 (by omega) _ rfl
set_option maxRecDepth 10000 in
theorem k_count (s : KS) (x : Nat) : (kCells s).setIfInBounds 0 (.int .u64 x) = kCells { s with count := x } :=
  kset 0 (by omega) _ fun j hj => by
    by_cases e : j = 0
    · rw [if_pos e, e]; rfl
    · rw [if_neg e]
      unfold cellK
      simp only [if_neg e]
theorem KAt.set_count {w : World} {b : Nat} {s : KS} (h : KAt w b s) (x : Nat) : KAt (w.setCell ⟨b, 0, none⟩ (.int .u64 x)) b { s with count := x } := by
  show (w.setCell ⟨b, 0, none⟩ _).heap[b]? = _
  rw [set_block h, k_count]
set_option maxRecDepth 10000 in
theorem KAt.cycle {w : World} {b : Nat} {s : KS} (h : KAt w b s) : w.cell? ⟨b, 1, none⟩ = some (.int .u64 s.cycle) := h.cell 1 (by omega) _ rfl
set_option maxRecDepth 10000 in
theorem k_cycle (s : KS) (x : Nat) : (kCells s).setIfInBounds 1 (.int .u64 x) = kCells { s with cycle := x } :=
  kset 1 (by omega) _ fun j hj => by
    by_cases e : j = 1
    · rw [if_pos e, e]; rfl
    · rw [if_neg e]
      unfold cellK
      simp only [if_neg e]
theorem KAt.set_cycle {w : World} {b : Nat} {s : KS} (h : KAt w b s) (x : Nat) : KAt (w.setCell ⟨b, 1, none⟩ (.int .u64 x)) b { s with cycle := x } := by
  show (w.setCell ⟨b, 1, none⟩ _).heap[b]? = _
  rw [set_block h, k_cycle]
set_option maxRecDepth 10000 in
theorem KAt.row {w : World} {b : Nat} {s : KS} (h : KAt w b s) : w.cell? ⟨b, 2, none⟩ = some (s.row) := h.cell 2 (by omega) _ rfl
set_option maxRecDepth 10000 in
theorem k_row (s : KS) (x : Value) : (kCells s).setIfInBounds 2 (x) = kCells { s with row := x } :=
  kset 2 (by omega) _ fun j hj => by
    by_cases e : j = 2
    · rw [if_pos e, e]; rfl
    · rw [if_neg e]
      unfold cellK
      simp only [if_neg e]
theorem KAt.set_row {w : World} {b : Nat} {s : KS} (h : KAt w b s) (x : Value) : KAt (w.setCell ⟨b, 2, none⟩ (x)) b { s with row := x } := by
  show (w.setCell ⟨b, 2, none⟩ _).heap[b]? = _
  rw [set_block h, k_row]
set_option maxRecDepth 10000 in
theorem KAt.table {w : World} {b : Nat} {s : KS} (h : KAt w b s) : w.cell? ⟨b, 259, none⟩ = some (.int .i64 s.table) := h.cell 259 (by omega) _ rfl
set_option maxRecDepth 10000 in
theorem k_table (s : KS) (x : Int) : (kCells s).setIfInBounds 259 (.int .i64 x) = kCells { s with table := x } :=
  kset 259 (by omega) _ fun j hj => by
    by_cases e : j = 259
    · rw [if_pos e, e]; rfl
    · rw [if_neg e]
      unfold cellK
      simp only [if_neg e]
theorem KAt.set_table {w : World} {b : Nat} {s : KS} (h : KAt w b s) (x : Int) : KAt (w.setCell ⟨b, 259, none⟩ (.int .i64 x)) b { s with table := x } := by
  show (w.setCell ⟨b, 259, none⟩ _).heap[b]? = _
  rw [set_block h, k_table]
set_option maxRecDepth 10000 in
theorem KAt.running {w : World} {b : Nat} {s : KS} (h : KAt w b s) : w.cell? ⟨b, 530, none⟩ = some (.int .i64 s.running) := h.cell 530 (by omega) _ rfl
set_option maxRecDepth 10000 in
theorem k_running (s : KS) (x : Int) : (kCells s).setIfInBounds 530 (.int .i64 x) = kCells { s with running := x } :=
  kset 530 (by omega) _ fun j hj => by
    by_cases e : j = 530
    · rw [if_pos e, e]; rfl
    · rw [if_neg e]
      unfold cellK
      simp only [if_neg e]
theorem KAt.set_running {w : World} {b : Nat} {s : KS} (h : KAt w b s) (x : Int) : KAt (w.setCell ⟨b, 530, none⟩ (.int .i64 x)) b { s with running := x } := by
  show (w.setCell ⟨b, 530, none⟩ _).heap[b]? = _
  rw [set_block h, k_running]
set_option maxRecDepth 10000 in
theorem KAt.mems {w : World} {b : Nat} {s : KS} (h : KAt w b s) : w.cell? ⟨b, 541, none⟩ = some (s.mems) := h.cell 541 (by omega) _ rfl
set_option maxRecDepth 10000 in
theorem k_mems (s : KS) (x : Value) : (kCells s).setIfInBounds 541 (x) = kCells { s with mems := x } :=
  kset 541 (by omega) _ fun j hj => by
    by_cases e : j = 541
    · rw [if_pos e, e]; rfl
    · rw [if_neg e]
      unfold cellK
      simp only [if_neg e]
theorem KAt.set_mems {w : World} {b : Nat} {s : KS} (h : KAt w b s) (x : Value) : KAt (w.setCell ⟨b, 541, none⟩ (x)) b { s with mems := x } := by
  show (w.setCell ⟨b, 541, none⟩ _).heap[b]? = _
  rw [set_block h, k_mems]
set_option maxRecDepth 10000 in
theorem KAt.tasks {w : World} {b : Nat} {s : KS} (h : KAt w b s) : w.cell? ⟨b, 542, none⟩ = some (s.tasks) := h.cell 542 (by omega) _ rfl
set_option maxRecDepth 10000 in
theorem k_tasks (s : KS) (x : Value) : (kCells s).setIfInBounds 542 (x) = kCells { s with tasks := x } :=
  kset 542 (by omega) _ fun j hj => by
    by_cases e : j = 542
    · rw [if_pos e, e]; rfl
    · rw [if_neg e]
      unfold cellK
      simp only [if_neg e]
theorem KAt.set_tasks {w : World} {b : Nat} {s : KS} (h : KAt w b s) (x : Value) : KAt (w.setCell ⟨b, 542, none⟩ (x)) b { s with tasks := x } := by
  show (w.setCell ⟨b, 542, none⟩ _).heap[b]? = _
  rw [set_block h, k_tasks]
set_option maxRecDepth 10000 in
theorem KAt.locks {w : World} {b : Nat} {s : KS} (h : KAt w b s) : w.cell? ⟨b, 543, none⟩ = some (s.locks) := h.cell 543 (by omega) _ rfl
set_option maxRecDepth 10000 in
theorem k_locks (s : KS) (x : Value) : (kCells s).setIfInBounds 543 (x) = kCells { s with locks := x } :=
  kset 543 (by omega) _ fun j hj => by
    by_cases e : j = 543
    · rw [if_pos e, e]; rfl
    · rw [if_neg e]
      unfold cellK
      simp only [if_neg e]
theorem KAt.set_locks {w : World} {b : Nat} {s : KS} (h : KAt w b s) (x : Value) : KAt (w.setCell ⟨b, 543, none⟩ (x)) b { s with locks := x } := by
  show (w.setCell ⟨b, 543, none⟩ _).heap[b]? = _
  rw [set_block h, k_locks]
set_option maxRecDepth 10000 in
theorem KAt.sems {w : World} {b : Nat} {s : KS} (h : KAt w b s) : w.cell? ⟨b, 544, none⟩ = some (s.sems) := h.cell 544 (by omega) _ rfl
set_option maxRecDepth 10000 in
theorem k_sems (s : KS) (x : Value) : (kCells s).setIfInBounds 544 (x) = kCells { s with sems := x } :=
  kset 544 (by omega) _ fun j hj => by
    by_cases e : j = 544
    · rw [if_pos e, e]; rfl
    · rw [if_neg e]
      unfold cellK
      simp only [if_neg e]
theorem KAt.set_sems {w : World} {b : Nat} {s : KS} (h : KAt w b s) (x : Value) : KAt (w.setCell ⟨b, 544, none⟩ (x)) b { s with sems := x } := by
  show (w.setCell ⟨b, 544, none⟩ _).heap[b]? = _
  rw [set_block h, k_sems]
set_option maxRecDepth 10000 in
theorem KAt.mails {w : World} {b : Nat} {s : KS} (h : KAt w b s) : w.cell? ⟨b, 545, none⟩ = some (s.mails) := h.cell 545 (by omega) _ rfl
set_option maxRecDepth 10000 in
theorem k_mails (s : KS) (x : Value) : (kCells s).setIfInBounds 545 (x) = kCells { s with mails := x } :=
  kset 545 (by omega) _ fun j hj => by
    by_cases e : j = 545
    · rw [if_pos e, e]; rfl
    · rw [if_neg e]
      unfold cellK
      simp only [if_neg e]
theorem KAt.set_mails {w : World} {b : Nat} {s : KS} (h : KAt w b s) (x : Value) : KAt (w.setCell ⟨b, 545, none⟩ (x)) b { s with mails := x } := by
  show (w.setCell ⟨b, 545, none⟩ _).heap[b]? = _
  rw [set_block h, k_mails]
set_option maxRecDepth 10000 in
theorem KAt.lines {w : World} {b : Nat} {s : KS} (h : KAt w b s) : w.cell? ⟨b, 546, none⟩ = some (s.lines) := h.cell 546 (by omega) _ rfl
set_option maxRecDepth 10000 in
theorem k_lines (s : KS) (x : Value) : (kCells s).setIfInBounds 546 (x) = kCells { s with lines := x } :=
  kset 546 (by omega) _ fun j hj => by
    by_cases e : j = 546
    · rw [if_pos e, e]; rfl
    · rw [if_neg e]
      unfold cellK
      simp only [if_neg e]
theorem KAt.set_lines {w : World} {b : Nat} {s : KS} (h : KAt w b s) (x : Value) : KAt (w.setCell ⟨b, 546, none⟩ (x)) b { s with lines := x } := by
  show (w.setCell ⟨b, 546, none⟩ _).heap[b]? = _
  rw [set_block h, k_lines]
set_option maxRecDepth 10000 in
theorem KAt.reads {w : World} {b : Nat} {s : KS} (h : KAt w b s) : w.cell? ⟨b, 547, none⟩ = some (.int .u64 s.reads) := h.cell 547 (by omega) _ rfl
set_option maxRecDepth 10000 in
theorem k_reads (s : KS) (x : Nat) : (kCells s).setIfInBounds 547 (.int .u64 x) = kCells { s with reads := x } :=
  kset 547 (by omega) _ fun j hj => by
    by_cases e : j = 547
    · rw [if_pos e, e]; rfl
    · rw [if_neg e]
      unfold cellK
      simp only [if_neg e]
theorem KAt.set_reads {w : World} {b : Nat} {s : KS} (h : KAt w b s) (x : Nat) : KAt (w.setCell ⟨b, 547, none⟩ (.int .u64 x)) b { s with reads := x } := by
  show (w.setCell ⟨b, 547, none⟩ _).heap[b]? = _
  rw [set_block h, k_reads]
set_option maxRecDepth 10000 in
theorem KAt.stopped {w : World} {b : Nat} {s : KS} (h : KAt w b s) : w.cell? ⟨b, 548, none⟩ = some (.bool s.stopped) := h.cell 548 (by omega) _ rfl
set_option maxRecDepth 10000 in
theorem k_stopped (s : KS) (x : Bool) : (kCells s).setIfInBounds 548 (.bool x) = kCells { s with stopped := x } :=
  kset 548 (by omega) _ fun j hj => by
    by_cases e : j = 548
    · rw [if_pos e, e]; rfl
    · rw [if_neg e]
      unfold cellK
      simp only [if_neg e]
theorem KAt.set_stopped {w : World} {b : Nat} {s : KS} (h : KAt w b s) (x : Bool) : KAt (w.setCell ⟨b, 548, none⟩ (.bool x)) b { s with stopped := x } := by
  show (w.setCell ⟨b, 548, none⟩ _).heap[b]? = _
  rw [set_block h, k_stopped]
set_option maxRecDepth 10000 in
theorem KAt.told {w : World} {b : Nat} {s : KS} (h : KAt w b s) : w.cell? ⟨b, 549, none⟩ = some (s.told) := h.cell 549 (by omega) _ rfl
set_option maxRecDepth 10000 in
theorem k_told (s : KS) (x : Value) : (kCells s).setIfInBounds 549 (x) = kCells { s with told := x } :=
  kset 549 (by omega) _ fun j hj => by
    by_cases e : j = 549
    · rw [if_pos e, e]; rfl
    · rw [if_neg e]
      unfold cellK
      simp only [if_neg e]
theorem KAt.set_told {w : World} {b : Nat} {s : KS} (h : KAt w b s) (x : Value) : KAt (w.setCell ⟨b, 549, none⟩ (x)) b { s with told := x } := by
  show (w.setCell ⟨b, 549, none⟩ _).heap[b]? = _
  rw [set_block h, k_told]
set_option maxRecDepth 10000 in
theorem KAt.runs {w : World} {b : Nat} {s : KS} (h : KAt w b s) (i : Nat) (hi : i < 256) : w.cell? ⟨b, 3 + i, none⟩ = some (.bool (s.runs i)) :=
  h.cell (3 + i) (by omega) _ (by unfold cellK; rw [if_neg (by omega), if_neg (by omega), if_neg (by omega), if_pos (by omega), show 3 + i - 3 = i by omega])
set_option maxRecDepth 10000 in
theorem runs_set (s : KS) (i : Nat) (hi : i < 256) (x : Bool) : (kCells s).setIfInBounds (3 + i) (.bool x) = kCells { s with runs := upB s.runs i x } :=
  kset (3 + i) (by omega) _ fun j hj => by
    by_cases e : j = 3 + i
    · rw [if_pos e, e]
      unfold cellK
      rw [if_neg (by omega), if_neg (by omega), if_neg (by omega), if_pos (by omega)]
      simp only [show 3 + i - 3 = i by omega, upB_same]
    · rw [if_neg e]
      unfold cellK
      by_cases g : 3 ≤ j ∧ j < 259
      · simp only [upB_other s.runs i x (show j - 3 ≠ i by omega)]
      · by_cases g0 : j < 3
        · obtain rfl | rfl | rfl : j = 0 ∨ j = 1 ∨ j = 2 := by omega
          all_goals rfl
        · simp only [if_neg (show ¬ j < 259 by omega)]
theorem KAt.set_runs {w : World} {b : Nat} {s : KS} (h : KAt w b s) (i : Nat) (hi : i < 256) (x : Bool) : KAt (w.setCell ⟨b, 3 + i, none⟩ (.bool x)) b { s with runs := upB s.runs i x } := by
  show (w.setCell ⟨b, 3 + i, none⟩ _).heap[b]? = _
  rw [set_block h, runs_set s i hi x]
set_option maxRecDepth 10000 in
theorem KAt.cf {w : World} {b : Nat} {s : KS} (h : KAt w b s) (i : Nat) (hi : i < 12) (o : Nat) (ho : o = 518 + i) (v : Value) (hv : s.cf i = v) : w.cell? ⟨b, o, none⟩ = some v :=
  h.cell o (by omega) _ (by subst ho; unfold cellK; rw [if_neg (by omega), if_neg (by omega), if_neg (by omega), if_neg (by omega), if_neg (by omega), if_neg (by omega), if_pos (by omega), show 518 + i - 518 = i by omega, hv])
set_option maxRecDepth 10000 in
theorem KAt.isr {w : World} {b : Nat} {s : KS} (h : KAt w b s) (i : Nat) (hi : i < 10) (o : Nat) (ho : o = 531 + i) (v : Value) (hv : s.isr i = v) : w.cell? ⟨b, o, none⟩ = some v :=
  h.cell o (by omega) _ (by subst ho; unfold cellK; rw [if_neg (by omega), if_neg (by omega), if_neg (by omega), if_neg (by omega), if_neg (by omega), if_neg (by omega), if_neg (by omega), if_neg (by omega), if_pos (by omega), show 531 + i - 531 = i by omega, hv])
set_option maxRecDepth 10000 in
theorem cellK_q (s : KS) (j : Nat) (h1 : 260 ≤ j) (h2 : j < 518) : cellK s j = cellQ s.q (j - 260) := by
  unfold cellK
  rw [if_neg (by omega), if_neg (by omega), if_neg (by omega), if_neg (by omega), if_neg (by omega), if_pos h2]
set_option maxRecDepth 10000 in
theorem cellK_notq (K : KS) (q q' : QS) (j : Nat) (h : ¬ (260 ≤ j ∧ j < 518)) : cellK { K with q := q' } j = cellK { K with q := q } j := by
  unfold cellK
  by_cases a : 518 ≤ j
  · simp only [if_neg (show ¬ j < 518 by omega)]
  · by_cases a0 : j = 0
    · simp only [if_pos a0]
    · by_cases a1 : j = 1
      · simp only [if_neg a0, if_pos a1]
      · by_cases a2 : j = 2
        · simp only [if_neg a0, if_neg a1, if_pos a2]
        · by_cases a3 : j < 259
          · simp only [if_neg a0, if_neg a1, if_neg a2, if_pos a3]
          · simp only [if_neg a0, if_neg a1, if_neg a2, if_neg a3, if_pos (show j = 259 by omega)]
/-- The queues lie in the kernel at b. -/
def QAt (K : KS) (w : World) (b : Nat) (s : QS) : Prop := KAt w b { K with q := s }
theorem KAt.queues {w : World} {b : Nat} {s : KS} (h : KAt w b s) : QAt s w b s.q := h
theorem QAt.cell {K : KS} {w : World} {b : Nat} {s : QS} (h : QAt K w b s) (i : Nat) (hi : i < 258) (o : Nat) (ho : o = 260 + i) (v : Value) (hv : cellQ s i = v) : w.cell? ⟨b, o, none⟩ = some v :=
  KAt.cell h o (by omega) v (by subst ho; rw [cellK_q _ _ (by omega) (by omega), show 260 + i - 260 = i by omega]; exact hv)
theorem QAt.free {K : KS} {w : World} {b : Nat} {s : QS} (h : QAt K w b s) (i : Nat) : w.frozen? ⟨b, i, none⟩ = false := free_block h i
theorem QAt.set {K : KS} {w : World} {b : Nat} {s s' : QS} (h : QAt K w b s) (i : Nat) (hi : i < 258) (o : Nat) (ho : o = 260 + i) (v : Value) (hs : ∀ j, j < 258 → cellQ s' j = if j = i then v else cellQ s j) : QAt K (w.setCell ⟨b, o, none⟩ v) b s' :=
  KAt.set h o (by omega) v fun j hj => by
    by_cases g : 260 ≤ j ∧ j < 518
    · rw [cellK_q _ _ g.1 g.2, cellK_q _ _ g.1 g.2]
      show cellQ s' (j - 260) = _
      rw [hs (j - 260) (by omega)]
      by_cases e : j = o
      · rw [if_pos e, if_pos (by omega)]
      · rw [if_neg e, if_neg (by omega)]
    · rw [if_neg (by omega)]
      exact cellK_notq K s s' j g
set_option maxRecDepth 10000 in
theorem QAt.c0 {K : KS} {w : World} {b : Nat} {s : QS} (h : QAt K w b s) : w.cell? ⟨b, 260, none⟩ = some (.int .u32 s.some.toNat) := h.cell 0 (by omega) 260 rfl _ rfl
set_option maxRecDepth 10000 in
theorem QAt.front {K : KS} {w : World} {b : Nat} {s : QS} (h : QAt K w b s) (l : Nat) (hl : l < 32) : w.cell? ⟨b, 261 + l, none⟩ = some (.int .i8 (s.front l)) :=
  h.cell (1 + l) (by omega) _ (by omega) _ (by unfold cellQ; rw [if_neg (by omega), if_pos (by omega), show 1 + l - 1 = l by omega])
set_option maxRecDepth 10000 in
theorem QAt.back {K : KS} {w : World} {b : Nat} {s : QS} (h : QAt K w b s) (l : Nat) (hl : l < 32) : w.cell? ⟨b, 293 + l, none⟩ = some (.int .i8 (s.back l)) :=
  h.cell (33 + l) (by omega) _ (by omega) _ (by unfold cellQ; rw [if_neg (by omega), if_neg (by omega), if_pos (by omega), show 33 + l - 33 = l by omega])
set_option maxRecDepth 10000 in
theorem QAt.ahead {K : KS} {w : World} {b : Nat} {s : QS} (h : QAt K w b s) (t : Nat) (ht : t < 64) : w.cell? ⟨b, 325 + t, none⟩ = some (.int .i8 (s.ahead t)) :=
  h.cell (65 + t) (by omega) _ (by omega) _ (by unfold cellQ; rw [if_neg (by omega), if_neg (by omega), if_neg (by omega), if_pos (by omega), show 65 + t - 65 = t by omega])
set_option maxRecDepth 10000 in
theorem QAt.after {K : KS} {w : World} {b : Nat} {s : QS} (h : QAt K w b s) (t : Nat) (ht : t < 64) : w.cell? ⟨b, 389 + t, none⟩ = some (.int .i8 (s.after t)) :=
  h.cell (129 + t) (by omega) _ (by omega) _ (by unfold cellQ; rw [if_neg (by omega), if_neg (by omega), if_neg (by omega), if_neg (by omega), if_pos (by omega), show 129 + t - 129 = t by omega])
set_option maxRecDepth 10000 in
theorem QAt.level {K : KS} {w : World} {b : Nat} {s : QS} (h : QAt K w b s) (t : Nat) (ht : t < 64) : w.cell? ⟨b, 453 + t, none⟩ = some (.int .i8 (s.level t)) :=
  h.cell (193 + t) (by omega) _ (by omega) _ (by unfold cellQ; rw [if_neg (by omega), if_neg (by omega), if_neg (by omega), if_neg (by omega), if_neg (by omega), if_pos (by omega), show 193 + t - 193 = t by omega])
set_option maxRecDepth 10000 in
theorem QAt.count {K : KS} {w : World} {b : Nat} {s : QS} (h : QAt K w b s) : w.cell? ⟨b, 517, none⟩ = some (.int .i64 s.count) := h.cell 257 (by omega) 517 rfl _ rfl
set_option maxRecDepth 10000 in
theorem QAt.set_front {K : KS} {w : World} {b : Nat} {s : QS} (h : QAt K w b s) (k : Nat) (hk : k < 32) (x : Int) : QAt K (w.setCell ⟨b, 261 + k, none⟩ (.int .i8 x)) b { s with front := up s.front k x } :=
  h.set (1 + k) (by omega) _ (by omega) _ fun j hj => by
    by_cases e : j = 1 + k
    · rw [if_pos e, e]
      unfold cellQ
      simp only [show ¬ 1 + k = 0 by omega, if_false, show 1 + k - 1 = k by omega, up_same]
      rw [if_pos (show 1 + k < 33 by omega)]
    · rw [if_neg e]
      unfold cellQ
      by_cases g : 1 ≤ j ∧ j < 33
      · simp only [up_other s.front k x (show j - 1 ≠ k by omega)]
      · by_cases g0 : j = 0
        · rw [if_pos g0, if_pos g0]
        · rw [if_neg g0, if_neg g0]
          repeat (first | rfl | omega | (split; first | rfl | omega))
set_option maxRecDepth 10000 in
theorem QAt.set_back {K : KS} {w : World} {b : Nat} {s : QS} (h : QAt K w b s) (k : Nat) (hk : k < 32) (x : Int) : QAt K (w.setCell ⟨b, 293 + k, none⟩ (.int .i8 x)) b { s with back := up s.back k x } :=
  h.set (33 + k) (by omega) _ (by omega) _ fun j hj => by
    by_cases e : j = 33 + k
    · rw [if_pos e, e]
      unfold cellQ
      simp only [show ¬ 33 + k = 0 by omega, if_false, show 33 + k - 33 = k by omega, up_same]
      rw [if_neg (show ¬ 33 + k < 33 by omega)]; rw [if_pos (show 33 + k < 65 by omega)]
    · rw [if_neg e]
      unfold cellQ
      by_cases g : 33 ≤ j ∧ j < 65
      · simp only [up_other s.back k x (show j - 33 ≠ k by omega)]
      · by_cases g0 : j = 0
        · rw [if_pos g0, if_pos g0]
        · rw [if_neg g0, if_neg g0]
          repeat (first | rfl | omega | (split; first | rfl | omega))
set_option maxRecDepth 10000 in
theorem QAt.set_ahead {K : KS} {w : World} {b : Nat} {s : QS} (h : QAt K w b s) (k : Nat) (hk : k < 64) (x : Int) : QAt K (w.setCell ⟨b, 325 + k, none⟩ (.int .i8 x)) b { s with ahead := up s.ahead k x } :=
  h.set (65 + k) (by omega) _ (by omega) _ fun j hj => by
    by_cases e : j = 65 + k
    · rw [if_pos e, e]
      unfold cellQ
      simp only [show ¬ 65 + k = 0 by omega, if_false, show 65 + k - 65 = k by omega, up_same]
      rw [if_neg (show ¬ 65 + k < 33 by omega)]; rw [if_neg (show ¬ 65 + k < 65 by omega)]; rw [if_pos (show 65 + k < 129 by omega)]
    · rw [if_neg e]
      unfold cellQ
      by_cases g : 65 ≤ j ∧ j < 129
      · simp only [up_other s.ahead k x (show j - 65 ≠ k by omega)]
      · by_cases g0 : j = 0
        · rw [if_pos g0, if_pos g0]
        · rw [if_neg g0, if_neg g0]
          repeat (first | rfl | omega | (split; first | rfl | omega))
set_option maxRecDepth 10000 in
theorem QAt.set_after {K : KS} {w : World} {b : Nat} {s : QS} (h : QAt K w b s) (k : Nat) (hk : k < 64) (x : Int) : QAt K (w.setCell ⟨b, 389 + k, none⟩ (.int .i8 x)) b { s with after := up s.after k x } :=
  h.set (129 + k) (by omega) _ (by omega) _ fun j hj => by
    by_cases e : j = 129 + k
    · rw [if_pos e, e]
      unfold cellQ
      simp only [show ¬ 129 + k = 0 by omega, if_false, show 129 + k - 129 = k by omega, up_same]
      rw [if_neg (show ¬ 129 + k < 33 by omega)]; rw [if_neg (show ¬ 129 + k < 65 by omega)]; rw [if_neg (show ¬ 129 + k < 129 by omega)]; rw [if_pos (show 129 + k < 193 by omega)]
    · rw [if_neg e]
      unfold cellQ
      by_cases g : 129 ≤ j ∧ j < 193
      · simp only [up_other s.after k x (show j - 129 ≠ k by omega)]
      · by_cases g0 : j = 0
        · rw [if_pos g0, if_pos g0]
        · rw [if_neg g0, if_neg g0]
          repeat (first | rfl | omega | (split; first | rfl | omega))
set_option maxRecDepth 10000 in
theorem QAt.set_level {K : KS} {w : World} {b : Nat} {s : QS} (h : QAt K w b s) (k : Nat) (hk : k < 64) (x : Int) : QAt K (w.setCell ⟨b, 453 + k, none⟩ (.int .i8 x)) b { s with level := up s.level k x } :=
  h.set (193 + k) (by omega) _ (by omega) _ fun j hj => by
    by_cases e : j = 193 + k
    · rw [if_pos e, e]
      unfold cellQ
      simp only [show ¬ 193 + k = 0 by omega, if_false, show 193 + k - 193 = k by omega, up_same]
      rw [if_neg (show ¬ 193 + k < 33 by omega)]; rw [if_neg (show ¬ 193 + k < 65 by omega)]; rw [if_neg (show ¬ 193 + k < 129 by omega)]; rw [if_neg (show ¬ 193 + k < 193 by omega)]; rw [if_pos (show 193 + k < 257 by omega)]
    · rw [if_neg e]
      unfold cellQ
      by_cases g : 193 ≤ j ∧ j < 257
      · simp only [up_other s.level k x (show j - 193 ≠ k by omega)]
      · by_cases g0 : j = 0
        · rw [if_pos g0, if_pos g0]
        · rw [if_neg g0, if_neg g0]
          repeat (first | rfl | omega | (split; first | rfl | omega))
set_option maxRecDepth 10000 in
theorem QAt.set_some {K : KS} {w : World} {b : Nat} {s : QS} (h : QAt K w b s) (x : BitVec 32) : QAt K (w.setCell ⟨b, 260, none⟩ (.int .u32 x.toNat)) b { s with some := x } :=
  h.set (0) (by omega) _ (by omega) _ fun j hj => by
    by_cases e : j = 0
    · rw [if_pos e, e]; rfl
    · rw [if_neg e]; unfold cellQ; rw [if_neg e, if_neg e]
set_option maxRecDepth 10000 in
theorem QAt.set_count {K : KS} {w : World} {b : Nat} {s : QS} (h : QAt K w b s) (x : Int) : QAt K (w.setCell ⟨b, 517, none⟩ (.int .i64 x)) b { s with count := x } :=
  h.set (257) (by omega) _ (by omega) _ fun j hj => by
    by_cases e : j = 257
    · rw [if_pos e, e]; rfl
    · rw [if_neg e]; unfold cellQ
      have : j < 257 := by omega
      simp only [if_pos this]
theorem QAt.only {K : KS} {w w' : World} {b c : Nat} {s : QS} (h : QAt K w b s) (ho : Only c w w') (hne : b ≠ c) : QAt K w' b s := ho.at hne h
theorem QAt.below {K : KS} {w w' : World} {b : Nat} {s : QS} (h : QAt K w b s) (hb : Below w.heap.size w w') : QAt K w' b s := heapAt_below hb (heapAt_lt h) h
theorem QAt.drewN {K : KS} {w : World} {b : Nat} {s : QS} (h : QAt K w b s) (n : Nat) : QAt K (w.drewN n) b s := h
theorem QAt.drew {K : KS} {w : World} {b : Nat} {s : QS} (h : QAt K w b s) : QAt K w.drew b s := h
end Go.Proofs.YtnhmdinpfcoebaaGreatDoor.Qu
end
