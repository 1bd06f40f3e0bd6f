/- The walk of crc.Make: a new block of the table's words; nothing else changes. -/
import Derived.Test.YtnnmghhafjbioaaRows
import Derived.Test.YtnnmghhafjbioaaPlain
import Derived.WalkKit
import Derived.WalkSpells
import Derived.WalkLawsBesides
namespace Go.Proofs.Ytnnmghhafjbioaa
open Go.RowKit

def zeros (n : Nat) : Array Value := Array.replicate n (.int .u32 0)
theorem zero45 (w : World) : (zeroValue 45).run Try.prog w = .ok (.agg (zeros 256)) w := by kernel_rfl

/-- Word i of the table. -/
def tw (i : Nat) : BitVec 32 := CrcP.shN 8 (BitVec.ofNat 32 i)
def tab (k : Nat) : Array Value := Array.ofFn (n := 256) fun i => if i.val < k then .int .u32 (tw i.val).toNat else .int .u32 0

theorem tab_get (k : Nat) (h : k < 256) : (tab k)[k]? = some (.int .u32 0) := by
  simp [tab, h]
theorem tab_size (k : Nat) : (tab k).size = 256 := by simp [tab]
theorem tab_set (k : Nat) (h : k < 256) : (tab k).setIfInBounds k (.int .u32 (tw k).toNat) = tab (k + 1) := by
  apply Array.ext_getElem?
  intro i
  rw [Array.getElem?_setIfInBounds]
  simp only [tab, Array.getElem?_ofFn, Array.size_ofFn]
  by_cases e : k = i
  · subst e; simp [h]
  · have : (i < k + 1) ↔ (i < k) := by omega
    simp [e, this]
theorem tab_zero : zeros 256 = tab 0 := by
  apply Array.ext
  · simp [tab, zeros]
  · intro i h1 h2; simp [tab, zeros]
theorem ofInt_toNat (a : BitVec 32) : BitVec.ofInt 32 (a.toNat : Int) = a := by
  rw [BitVec.ofInt_natCast, BitVec.ofNat_toNat]; simp
theorem bits_xor (a b : BitVec 32) : bits .xor .u32 (a.toNat : Int) (b.toNat : Int) = ((a ^^^ b).toNat : Int) := by
  have h := (a ^^^ b).isLt
  show IntKind.u32.wrap ((BitVec.ofInt 32 (a.toNat : Int) ^^^ BitVec.ofInt 32 (b.toNat : Int)).toNat : Int) = _
  rw [ofInt_toNat, ofInt_toNat, IntKind.wrap_u32']; omega
theorem bits_and (a b : BitVec 32) : bits .and .u32 (a.toNat : Int) (b.toNat : Int) = ((a &&& b).toNat : Int) := by
  have h := (a &&& b).isLt
  show IntKind.u32.wrap ((BitVec.ofInt 32 (a.toNat : Int) &&& BitVec.ofInt 32 (b.toNat : Int)).toNat : Int) = _
  rw [ofInt_toNat, ofInt_toNat, IntKind.wrap_u32']; omega
theorem half (x : BitVec 32) : ((x.toNat : Int) / (2 : Int)) = ((x >>> 1).toNat : Int) := by
  simp [Nat.shiftRight_eq_div_pow]
theorem and_one (x : BitVec 32) : (x &&& 1#32) = if x.getLsbD 0 then 1#32 else 0#32 := by
  apply BitVec.eq_of_getLsbD_eq
  intro i hi
  have one : (1#32 : BitVec 32).getLsbD i = decide (i = 0) := by
    have : ∀ j : Fin 32, (1#32 : BitVec 32).getLsbD j.val = decide (j.val = 0) := by decide
    exact this ⟨i, hi⟩
  rw [BitVec.getLsbD_and, one]
  by_cases h : i = 0
  · subst h; cases x.getLsbD 0 <;> simp
  · cases x.getLsbD 0 <;> simp [h, one]
theorem word_step (x : BitVec 32) : (Value.int IntKind.u32 (bits BinOp.xor IntKind.u32 ((x.toNat : Int) / 2) (bits BinOp.and IntKind.u32 3988292384 (-bits BinOp.and IntKind.u32 (x.toNat : Int) 1 % 4294967296)))) = Value.int IntKind.u32 (CrcP.sh x).toNat := by
  have e1 : (1 : Int) = ((1#32).toNat : Int) := rfl
  have eP : (3988292384 : Int) = (CrcP.P.toNat : Int) := rfl
  rw [half, e1, bits_and x 1#32, and_one, eP]
  have k : (-((if x.getLsbD 0 then 1#32 else 0#32).toNat : Int) % 4294967296) = ((if x.getLsbD 0 then CrcP.ones else 0#32).toNat : Int) := by
    cases x.getLsbD 0 <;> rfl
  rw [k, bits_and, bits_xor]
  congr 3
  unfold CrcP.sh
  cases x.getLsbD 0
  · simp
  · have : CrcP.P &&& CrcP.ones = CrcP.P := by decide
    simp [this]
theorem shN_succ (n : Nat) (x : BitVec 32) : CrcP.sh (CrcP.shN n x) = CrcP.shN (n + 1) x := by
  rw [CrcP.shN_add n 1]; rfl
attribute [local irreducible] CrcP.shN tab zeros
set_option maxRecDepth 100000 in
/-- A new table; nothing else is another. -/
theorem make_any (w : World) : Calls Try.prog 11 #[] w fun e w' => e = .returned (.pointer (some ⟨w.heap.size, 0, none⟩)) ∧ w' = w.alloc (.cells (tab 256) 45) := by
  have z := zero45
  go_enter Try.func11, Try.ntmps11
  go_wp2
  go_loopw [6] (fun i wr => ∃ k : Nat, k ≤ 256 ∧ i = .int .i64 k ∧ wr = w.alloc (.cells (tab k) 45)) (fun i _ => 256 - (intOf i).toNat)
  case atStart => exact ⟨0, by omega, rfl, by rw [tab_zero]⟩
  case round =>
    obtain ⟨k, hk, rfl, rfl⟩ := hrel
    by_cases hlt : k < 256
    · go_wp2
      go_loop [11, 3] (fun j x => ∃ n : Nat, n ≤ 8 ∧ j = .int .i64 n ∧ x = .int .u32 (CrcP.shN n (BitVec.ofNat 32 k)).toNat) (fun j _ => 8 - (intOf j).toNat)
      case atStart => exact ⟨0, by omega, rfl, by unfold CrcP.shN; simp; omega⟩
      case round =>
        obtain ⟨n, hn, rfl, rfl⟩ := hrel
        by_cases hn8 : n < 8
        · go_wp2
          go_round
          case rel => exact ⟨n + 1, by omega, by go_num, by rw [word_step, shN_succ]⟩
          case measure => simp [intOf]; omega
        · obtain rfl : n = 8 := by omega
          have hc := tab_get k hlt
          go_wp2
          go_roundw
          case rel => exact ⟨k + 1, by omega, by go_num, by rw [← tab_set k hlt]; rfl⟩
          case measure => simp [intOf]; omega
    · obtain rfl : k = 256 := by omega
      go_wp2
      go_ret
      exact ⟨rfl, rfl⟩
end Go.Proofs.Ytnnmghhafjbioaa
