/- The walk of crc.Sum: the parts' bytes, one behind the other, summed by the table; it only reads. -/
import Derived.Test.YtnnmghhafjbioaaMake
import Derived.Deep.QuietTactic
import Derived.BigQuiet
import Derived.Lib.Hide
namespace Go.Proofs.Ytnnmghhafjbioaa
open Go.RowKit
attribute [local irreducible] CrcP.shN tab zeros tw

/-- The table lies there. -/
def IsTab (w : World) (b : Nat) : Prop := ∀ i, i < 256 → w.cell? ⟨b, i, none⟩ = some (.int .u32 (tw i).toNat)

/-- The place in the table. -/
def at_ (X : BitVec 32) (c : UInt8) : Nat := ((X ^^^ BitVec.ofNat 32 c.toNat) &&& 255#32).toNat
theorem at_lt (X : BitVec 32) (c : UInt8) : at_ X c < 256 := by
  unfold at_
  rw [BitVec.toNat_and]
  exact Nat.lt_of_le_of_lt Nat.and_le_right (by decide)
theorem at_eq (X : BitVec 32) (c : UInt8) : bits .xor .u8 (IntKind.u8.wrap (X.toNat : Int)) (c.toNat : Int) = (at_ X c : Int) := by
  have hc := c.toNat_lt
  have e : IntKind.u8.wrap (X.toNat : Int) = ((X.toNat % 256 : Nat) : Int) := by rw [IntKind.wrap_u8']; omega
  rw [e, u8_xor_nat _ _ (Nat.mod_lt _ (by omega)) (by omega)]
  congr 1
  unfold at_
  simp only [BitVec.toNat_and, BitVec.toNat_xor, BitVec.toNat_ofNat]
  have e2 : c.toNat % 2 ^ 32 = c.toNat := by omega
  rw [e2, show (255 % 2 ^ 32 : Nat) = 2 ^ 8 - 1 from rfl, Nat.and_two_pow_sub_one_eq_mod, Nat.xor_mod_two_pow]
  congr 1
  omega
theorem table_step (X : BitVec 32) (c : UInt8) : (Value.int .u32 (bits .xor .u32 ((X.toNat : Int) / (256 : Int)) ((tw (at_ X c)).toNat : Int))) = .int .u32 (CrcP.turn X c).toNat := by
  have e : ((X.toNat : Int) / (256 : Int)) = ((X >>> 8).toNat : Int) := by simp [Nat.shiftRight_eq_div_pow]
  rw [e, bits_xor, CrcP.turn_table]
  congr 3
  unfold tw at_
  rw [BitVec.ofNat_toNat]
  simp
theorem turn_take (X0 : BitVec 32) (s : ByteArray) (j : Nat) (h : j < s.size) : CrcP.turn (CrcP.Turn X0 (s.data.toList.take j)) s[j] = CrcP.Turn X0 (s.data.toList.take (j + 1)) := by
  have : s.data.toList.take (j + 1) = s.data.toList.take j ++ [s[j]] := by
    rw [List.take_succ_eq_append_getElem (by simpa using h)]; rfl
  rw [this, CrcP.Turn_append]
  simp [CrcP.Turn]
theorem turn_part (X : BitVec 32) (ss : List ByteArray) (k : Nat) (h : k < ss.length) :
    CrcP.Turn (CrcP.Turn X ((ss.take k).flatMap fun s => s.data.toList)) (ss.getD k ByteArray.empty).data.toList = CrcP.Turn X ((ss.take (k + 1)).flatMap fun s => s.data.toList) := by
  rw [List.take_succ_eq_append_getElem h, List.flatMap_append, CrcP.Turn_append]
  simp [List.getD, h]
theorem not_word (X Y : BitVec 32) (h : X ^^^ CrcP.ones = Y) : (Value.int .u32 (bits .xor .u32 IntKind.u32.max (X.toNat : Int))) = .int .u32 Y.toNat := by
  have e : IntKind.u32.max = ((CrcP.ones).toNat : Int) := rfl
  rw [e, bits_xor, BitVec.xor_comm, h]

set_option maxRecDepth 100000 in
theorem sum_any (w : World) (b pb po cap : Nat) (ss : List ByteArray) (hT : IsTab w b) (hP : ∀ i, i < ss.length → w.cell? ⟨pb, po + i, none⟩ = some (.string (ss.getD i ByteArray.empty)))
    (hl : (ss.length : Int) ≤ 9223372036854775807) (hs : ∀ i, i < ss.length → ((ss.getD i ByteArray.empty).size : Int) ≤ 9223372036854775807) :
    Calls Try.prog 12 #[.pointer (some ⟨b, 0, none⟩), .slice (some ⟨pb, po, none⟩) ss.length cap] w fun e w' =>
      e = .returned (.int .u32 (CrcP.Sum (ss.flatMap fun s => s.data.toList)).toNat) ∧ ∃ n, w' = w.drewN n := by
  generalize hlen : ss.length = len at *
  have Hlen := Lib.hid hlen; clear hlen
  have HP := Lib.hid hP; clear hP
  have HT := Lib.hid hT; clear hT
  go_enter Try.func12, Try.ntmps12
  go_wp2
  go_loopw [13, 5] (fun i x wr => ∃ k : Nat, k ≤ len ∧ i = .int .i64 k ∧ x = .int .u32 (CrcP.Turn CrcP.ones ((ss.take k).flatMap fun s => s.data.toList)).toNat ∧ ∃ n, wr = w.drewN n) (fun i _ _ => len - (intOf i).toNat)
  case atStart => exact ⟨0, by omega, rfl, by simp [CrcP.Turn, CrcP.ones], 0, rfl⟩
  case round =>
    obtain ⟨k, hk, rfl, rfl, n, rfl⟩ := hrel
    by_cases hlt : k < len
    · have hc := HP.out k hlt
      have hsl := hs k hlt
      have HX := Lib.hid (turn_part CrcP.ones ss k (by rw [Hlen.out]; exact hlt))
      generalize hsk : ss.getD k ByteArray.empty = s at *
      have Hsk := Lib.hid hsk; clear hsk
      generalize CrcP.Turn CrcP.ones ((ss.take k).flatMap fun s => s.data.toList) = X0 at *
      go_wp2
      go_loopw [8, 5] (fun i x wr => ∃ j : Nat, j ≤ s.size ∧ i = .int .i64 j ∧ x = .int .u32 (CrcP.Turn X0 (s.data.toList.take j)).toNat ∧ ∃ n, wr = w.drewN n) (fun i _ _ => s.size - (intOf i).toNat)
      case atStart => exact ⟨0, by omega, rfl, by simp [CrcP.Turn], n, rfl⟩
      case round =>
        obtain ⟨j, hj, rfl, rfl, m, rfl⟩ := hrel
        by_cases hjt : j < s.size
        · have HY := Lib.hid (turn_take X0 s j hjt)
          generalize CrcP.Turn X0 (s.data.toList.take j) = X at *
          have hi := at_lt X s[j]
          have hidx := at_eq X s[j]
          have hcell := HT.out _ hi
          have HS := Lib.hid (table_step X s[j])
          generalize at_ X s[j] = i at *
          have hi2 : (i : Int) < 256 := by omega
          go_wp2
          go_quiet (fail)
          go_wp2
          go_roundw
          case rel => exact ⟨j + 1, by omega, by go_num, by rw [HS.out, HY.out], _, rfl⟩
          case measure => simp [intOf]; omega
        · obtain rfl : j = s.size := by omega
          go_wp2
          go_roundw
          case rel => exact ⟨k + 1, by omega, by go_num, by rw [← HX.out, List.take_of_length_le (by simp)], _, rfl⟩
          case measure => simp [intOf]; omega
    · obtain rfl : k = len := by omega
      go_wp2
      go_ret
      exact ⟨congrArg Ending.returned (not_word _ _ (by rw [← Hlen.out, List.take_length]; rfl)), _, rfl⟩

set_option maxRecDepth 100000 in
/-- Without a table: 0. -/
theorem sum_nil (w : World) (v : Value) : Calls Try.prog 12 #[.pointer none, v] w fun e w' => e = .returned (.int .u32 0) ∧ w' = w := by
  go_enter Try.func12, Try.ntmps12
  go_wp2
  go_ret
  exact ⟨rfl, rfl⟩

set_option maxRecDepth 100000 in
/-- No parts. -/
theorem sum_none (w : World) (b : Nat) : Calls Try.prog 12 #[.pointer (some ⟨b, 0, none⟩), .slice none 0 0] w fun e w' => e = .returned (.int .u32 0) ∧ w' = w := by
  go_enter Try.func12, Try.ntmps12
  go_wp2
  go_loop [13, 5] (fun i x => i = .int .i64 0 ∧ x = .int .u32 4294967295) (fun _ _ => 0)
  case atStart => exact ⟨rfl, rfl⟩
  case round =>
    obtain ⟨rfl, rfl⟩ := hrel
    go_wp2
    go_ret
    exact ⟨congrArg Ending.returned (not_word CrcP.ones 0#32 (by decide)), rfl⟩
end Go.Proofs.Ytnnmghhafjbioaa
