/- The walks of crc.Bytes and of the references Bytes, Turn, Sum. -/
import Derived.Test.YtnnmghhafjbioaaSum
import Derived.Deep.RegionHeld3
import Derived.Deep.DrawnRows
namespace Go.Proofs.Ytnnmghhafjbioaa
open Go.RowKit
attribute [local irreducible] CrcP.shN tab zeros tw

theorem conv4 (w : World) (a b c d : Int) : (convert 41 9 (.slice (some ⟨w.heap.size, 0, none⟩) 4 4)).run Try.prog (w.alloc (.cells #[.int .u8 a, .int .u8 b, .int .u8 c, .int .u8 d] 5)) =
    .ok (.string (strOfNums [a, b, c, d])) (w.alloc (.cells #[.int .u8 a, .int .u8 b, .int .u8 c, .int .u8 d] 5)) :=
  run_convert_bytes_arg _ 41 5 Try.underlying41 Try.underlying5 w.heap.size 0 4 4 [a, b, c, d] rfl (fun i hi => by
    rw [Nat.zero_add, World.cell?_alloc_mark]
    match i, hi with
    | 0, _ => rfl
    | 1, _ => rfl
    | 2, _ => rfl
    | 3, _ => rfl) 9 Try.underlying9

theorem nums_bytes (x : BitVec 32) : strOfNums [(x.toNat : Int) % 256, (x.toNat : Int) / 256 % 256, (x.toNat : Int) / 65536 % 256, (x.toNat : Int) / 16777216] = ⟨(CrcP.bytes x).toArray⟩ := by
  unfold strOfNums CrcP.bytes
  simp only [List.map_cons, List.map_nil]
  rw [show ((x.toNat : Int) % 256).toNat = x.toNat % 256 from by omega, show ((x.toNat : Int) / 256 % 256).toNat = x.toNat / 256 % 256 from by omega,
    show ((x.toNat : Int) / 65536 % 256).toNat = x.toNat / 65536 % 256 from by omega, show ((x.toNat : Int) / 16777216).toNat = x.toNat / 16777216 from by omega]

set_option maxRecDepth 100000 in
theorem bytes_any (w : World) (x : BitVec 32) : Calls Try.prog 16 #[.int .u32 x.toNat] w fun e w' => e = .returned (.string ⟨(CrcP.bytes x).toArray⟩) ∧ Below w.heap.size w w' := by
  have hx := x.isLt
  have hc := conv4 w
  go_enter Try.func16, Try.ntmps16
  go_wp2
  go_ret
  exact ⟨congrArg (fun s => Ending.returned (.string s)) (nums_bytes x), (Below.refl _ _).alloc (Nat.le_refl _) _⟩
set_option maxRecDepth 100000 in
theorem refBytes_any (w : World) (x : BitVec 32) : Calls Try.prog 15 #[.int .u32 x.toNat] w fun e w' => e = .returned (.string ⟨(CrcP.bytes x).toArray⟩) ∧ Below w.heap.size w w' := by
  have hx := x.isLt
  have hc := conv4 w
  go_enter Try.func15, Try.ntmps15
  go_wp2
  go_ret
  exact ⟨congrArg (fun s => Ending.returned (.string s)) (nums_bytes x), (Below.refl _ _).alloc (Nat.le_refl _) _⟩

theorem byte_in (X : BitVec 32) (c : UInt8) : (Value.int .u32 (bits .xor .u32 (X.toNat : Int) ((c.toNat : Int) % 4294967296))) = .int .u32 (X ^^^ BitVec.ofNat 32 c.toNat).toNat := by
  have hc := c.toNat_lt
  have e : ((c.toNat : Int) % 4294967296) = ((BitVec.ofNat 32 c.toNat).toNat : Int) := by simp; omega
  rw [e, bits_xor]
theorem odd_bit (Z : BitVec 32) : Z.getLsbD 0 = ((Z.toNat : Int) % 2 == 1) := by
  rw [BitVec.getLsbD, Nat.testBit_zero, Bool.eq_iff_iff]
  simp; omega
theorem sh_odd (Z : BitVec 32) (h : ((Z.toNat : Int) % 2 == 1) = true) : (Value.int .u32 (bits .xor .u32 ((Z.toNat : Int) / (2 : Int)) 3988292384)) = .int .u32 (CrcP.sh Z).toNat := by
  have eP : (3988292384 : Int) = (CrcP.P.toNat : Int) := rfl
  rw [half, eP, bits_xor]
  unfold CrcP.sh
  rw [odd_bit, h]; rfl
theorem sh_even (Z : BitVec 32) (h : ((Z.toNat : Int) % 2 == 1) = false) : (Value.int .u32 ((Z.toNat : Int) / (2 : Int))) = .int .u32 (CrcP.sh Z).toNat := by
  rw [half]
  unfold CrcP.sh
  rw [odd_bit, h]; rfl

set_option maxRecDepth 100000 in
theorem refTurn_any (w : World) (x : BitVec 32) (s : ByteArray) (hs : (s.size : Int) ≤ 9223372036854775807) : Calls Try.prog 19 #[.int .u32 x.toNat, .string s] w fun e w' => e = .returned (.int .u32 (CrcP.Turn x s.data.toList).toNat) ∧ w = w' := by
  go_enter Try.func19, Try.ntmps19
  go_wp2
  go_loop [5, 0] (fun i y => ∃ k : Nat, k ≤ s.size ∧ i = .int .i64 k ∧ y = .int .u32 (CrcP.Turn x (s.data.toList.take k)).toNat) (fun i _ => s.size - (intOf i).toNat)
  case atStart => exact ⟨0, by omega, rfl, by simp [CrcP.Turn]⟩
  case round =>
    obtain ⟨k, hk, rfl, rfl⟩ := hrel
    by_cases hlt : k < s.size
    · have HY := Lib.hid (turn_take x s k hlt)
      generalize CrcP.Turn x (s.data.toList.take k) = X at *
      go_wp2
      go_loop [6, 0] (fun j y => ∃ n : Nat, n ≤ 8 ∧ j = .int .i64 n ∧ y = .int .u32 (CrcP.shN n (X ^^^ BitVec.ofNat 32 s[k].toNat)).toNat) (fun j _ => 8 - (intOf j).toNat)
      case atStart => exact ⟨0, by omega, rfl, by rw [byte_in]; unfold CrcP.shN; rfl⟩
      case round =>
        obtain ⟨n, hn, rfl, rfl⟩ := hrel
        generalize hZ : CrcP.shN n (X ^^^ BitVec.ofNat 32 s[k].toNat) = Z at *
        have HZ := Lib.hid hZ; clear hZ
        have hz := Z.isLt
        by_cases hn8 : n < 8
        · cases hod : ((Z.toNat : Int) % 2 == 1)
          · have HS := Lib.hid (sh_even Z hod)
            go_wp2
            go_round
            case rel => exact ⟨n + 1, by omega, by go_num, by rw [HS.out, ← HZ.out, shN_succ]⟩
            case measure => simp [intOf]; omega
          · have HS := Lib.hid (sh_odd Z hod)
            go_wp2
            go_round
            case rel => exact ⟨n + 1, by omega, by go_num, by rw [HS.out, ← HZ.out, shN_succ]⟩
            case measure => simp [intOf]; omega
        · obtain rfl : n = 8 := by omega
          go_wp2
          go_round
          case rel => exact ⟨k + 1, by omega, by go_num, by rw [← HY.out, ← HZ.out]; rfl⟩
          case measure => simp [intOf]; omega
    · obtain rfl : k = s.size := by omega
      go_wp2
      go_ret
      exact ⟨by rw [show s.data.toList.take s.size = s.data.toList from List.take_of_length_le (by simp)]; rfl, rfl⟩

theorem not_word2 (X Y : BitVec 32) (h : X ^^^ CrcP.ones = Y) : (Value.int .u32 (bits .xor .u32 (X.toNat : Int) 4294967295)) = .int .u32 Y.toNat := by
  have e : (4294967295 : Int) = ((CrcP.ones).toNat : Int) := rfl
  rw [e, bits_xor, h]
set_option maxRecDepth 100000 in
theorem refSum_any (w : World) (s : ByteArray) (hs : (s.size : Int) ≤ 9223372036854775807) : Calls Try.prog 13 #[.string s] w fun e w' => e = .returned (.int .u32 (CrcP.Sum s.data.toList).toNat) ∧ w = w' := by
  go_enter Try.func13, Try.ntmps13
  go_wp2_with fail
  refine (refTurn_any w CrcP.ones s hs).mono ?_
  rintro e w' ⟨rfl, rfl⟩
  go_wp2
  go_ret
  exact ⟨congrArg Ending.returned (not_word2 (CrcP.Turn CrcP.ones s.data.toList) (CrcP.Sum s.data.toList) rfl), rfl⟩

/-! ### The matrix -/
/-- A matrix of a linear law, of which the first k rows are laid. -/
def mat (f : BitVec 32 → BitVec 32) (k : Nat) : Array Value := Array.ofFn (n := 32) fun i => if i.val < k then .int .u32 (f (1#32 <<< i.val)).toNat else .int .u32 0
def IsMat (w : World) (b : Nat) (f : BitVec 32 → BitVec 32) : Prop := ∀ i, i < 32 → w.cell? ⟨b, i, none⟩ = some (.int .u32 (f (1#32 <<< i)).toNat)
theorem mat_get (f : BitVec 32 → BitVec 32) (k : Nat) (h : k < 32) : (mat f k)[k]? = some (.int .u32 0) := by simp [mat, h]
theorem mat_get' (f : BitVec 32 → BitVec 32) (i : Nat) (h : i < 32) : (mat f 32)[i]? = some (.int .u32 (f (1#32 <<< i)).toNat) := by simp [mat, h]
theorem mat_set (f : BitVec 32 → BitVec 32) (k : Nat) (h : k < 32) : (mat f k).setIfInBounds k (.int .u32 (f (1#32 <<< k)).toNat) = mat f (k + 1) := by
  apply Array.ext_getElem?
  intro i
  rw [Array.getElem?_setIfInBounds]
  simp only [mat, Array.getElem?_ofFn, Array.size_ofFn]
  by_cases e : k = i
  · subst e; simp [h]
  · have : (i < k + 1) ↔ (i < k) := by omega
    simp [e, this]
theorem mat_zero (f : BitVec 32 → BitVec 32) : zeros 32 = mat f 0 := by
  apply Array.ext
  · simp [mat, zeros]
  · intro i h1 h2; simp [mat, zeros]
theorem zero49 (w : World) : (zeroValue 49).run Try.prog w = .ok (.agg (zeros 32)) w := by kernel_rfl
attribute [local irreducible] mat

theorem odd_and (z : BitVec 32) : (bits BinOp.and IntKind.u32 (z.toNat : Int) 1 == 1) = z.getLsbD 0 := by
  have e1 : (1 : Int) = ((1#32).toNat : Int) := rfl
  conv => lhs; rw [e1, bits_and z 1#32, and_one]
  cases z.getLsbD 0 <;> rfl
theorem nought (z : BitVec 32) : ((z.toNat : Int) == 0) = decide (z = 0#32) := by
  rw [Bool.eq_iff_iff]
  simp only [beq_iff_eq, decide_eq_true_eq]
  constructor
  · intro h; exact BitVec.eq_of_toNat_eq (by simp; omega)
  · intro h; subst h; rfl

set_option maxRecDepth 100000 in
/-- (*matrix).of -/
theorem of_any (w : World) (b : Nat) (f : BitVec 32 → BitVec 32) (hf : CrcP.Lin f) (hM : IsMat w b f) (x : BitVec 32) : Calls Try.prog 22 #[.pointer (some ⟨b, 0, none⟩), .int .u32 x.toNat] w fun e w' => e = .returned (.int .u32 (f x).toNat) ∧ w = w' := by
  have HM := Lib.hid hM; clear hM
  have HL := Lib.hid hf; clear hf
  go_enter Try.func22, Try.ntmps22
  go_wp2
  go_loop [1, 5, 6] (fun xv yv iv => ∃ (z y : BitVec 32) (i : Nat), i ≤ 32 ∧ z = x >>> i ∧ y ^^^ f (z <<< i) = f x ∧ xv = .int .u32 z.toNat ∧ yv = .int .u32 y.toNat ∧ iv = .int .i64 i) (fun _ _ i => 32 - (intOf i).toNat)
  case atStart => exact ⟨x, 0#32, 0, by omega, by simp, by simp, rfl, rfl, rfl⟩
  case round =>
    obtain ⟨z, y, i, hi, hz, hy, rfl, rfl, rfl⟩ := hrel
    have HZ := Lib.hid hz; clear hz
    have HY := Lib.hid hy; clear hy
    have hzl := z.isLt
    by_cases hne : z = 0#32
    · have hz0 : ((z.toNat : Int) != 0) = false := by rw [bne, nought, hne]; rfl
      go_wp2
      go_ret
      refine ⟨?_, rfl⟩
      have e : y = f x := by
        rw [← HY.out, hne, BitVec.zero_shiftLeft, HL.out.zero]; simp
      exact congrArg (fun v : BitVec 32 => Ending.returned (.int .u32 (v.toNat : Int))) e
    · have hne' : ((z.toNat : Int) != 0) = true := by rw [bne, nought]; simp [hne]
      have hi32 : i < 32 := by
        refine Nat.lt_of_not_le fun h => hne ?_
        have : i = 32 := by omega
        rw [HZ.out, this]
        exact BitVec.ushiftRight_eq_zero (Nat.le_refl _)
      have hne := Lib.hid hne
      have hc := HM.out i hi32
      have HK := Lib.hid (CrcP.of_keeps HL.out z y i hi32)
      have HZ' := Lib.hid (show z >>> 1 = x >>> (i + 1) from by rw [HZ.out, BitVec.shiftRight_add])
      have HO := Lib.hid (odd_and z)
      cases hod : (bits BinOp.and IntKind.u32 (z.toNat : Int) 1 == 1)
      · go_wp2
        go_round
        case rel => exact ⟨z >>> 1, y, i + 1, by omega, HZ'.out, by rw [← HY.out, ← HK.out, CrcP.ofStep, ← HO.out, hod]; rfl, by rw [half], rfl, by go_num⟩
        case measure => simp [intOf]; omega
      · go_wp2
        go_round
        case rel => exact ⟨z >>> 1, y ^^^ f (1#32 <<< i), i + 1, by omega, HZ'.out, by rw [← HY.out, ← HK.out, CrcP.ofStep, ← HO.out, hod]; rfl, by rw [half], by rw [bits_xor], by go_num⟩
        case measure => simp [intOf]; omega

theorem setCell_alloc_drewN (w : World) (C : Array Value) (t : TypeId) (n k : Nat) (v : Value) : ((w.alloc (.cells C t)).drewN n).setCell ⟨w.heap.size, k, none⟩ v = (w.alloc (.cells (C.setIfInBounds k v) t)).drewN n := by
  have h := World.setCell_alloc_at (w := w) C t w.heap.size k v rfl
  show ((w.alloc (.cells C t)).setCell ⟨w.heap.size, k, none⟩ v).drewN n = _
  rw [h]
set_option maxRecDepth 100000 in
/-- (*matrix).twice -/
theorem twice_any (w : World) (b : Nat) (f : BitVec 32 → BitVec 32) (hf : CrcP.Lin f) (hb : b < w.heap.size) (hM : IsMat w b f) : Calls Try.prog 21 #[.pointer (some ⟨b, 0, none⟩)] w fun e w' => e = .returned (.pointer (some ⟨w.heap.size, 0, none⟩)) ∧ ∃ n, w' = (w.alloc (.cells (mat (fun x => f (f x)) 32) 49)).drewN n := by
  have HM := Lib.hid hM; clear hM
  have HL := Lib.hid hf; clear hf
  have z := zero49
  go_enter Try.func21, Try.ntmps21
  go_wp2
  go_loopw [7] (fun i wr => ∃ k : Nat, k ≤ 32 ∧ i = .int .i64 k ∧ ∃ n, wr = (w.alloc (.cells (mat (fun x => f (f x)) k) 49)).drewN n) (fun i _ => 32 - (intOf i).toNat)
  case atStart => exact ⟨0, by omega, rfl, 0, by rw [mat_zero (fun x => f (f x))]; rfl⟩
  case round =>
    obtain ⟨k, hk, rfl, n, rfl⟩ := hrel
    by_cases hlt : k < 32
    · have hc : w.cell? ⟨b, k, none⟩ = some (.int .u32 (f (1#32 <<< k)).toNat) := HM.out k hlt
      have HM1 := Lib.hid (show ∀ (C : Array Value) m, IsMat ((w.alloc (.cells C 49)).drewN m) b f from fun C m i hi => by
        rw [World.cell?_drewN, World.cell?_alloc_past _ _ _ hb]; exact HM.out i hi)
      have hg := mat_get (fun x => f (f x)) k hlt
      have hne : w.heap.size ≠ b := by omega
      go_wp2
      go_region_held3 (fun w' => w'.cell? ⟨b, k, none⟩ = some (.int .u32 (f (1#32 <<< k)).toNat)) (first | go_keep | (rw [World.cell?_setCell_other _ _ _ (by simp [hne])]; go_keep))
        (first | (go_at_call 22; refine (of_any _ b f HL.out (HM1.out _ _) _).mono ?_; rintro e w' ⟨rfl, rfl⟩))
      rw [setCell_alloc_drewN, mat_set (fun x => f (f x)) k hlt]
      go_wp2
      go_roundw
      case rel => exact ⟨k + 1, by omega, by go_num, _, rfl⟩
      case measure => simp [intOf]; omega
    · obtain rfl : k = 32 := by omega
      go_wp2
      go_ret
      exact ⟨rfl, _, rfl⟩
end Go.Proofs.Ytnnmghhafjbioaa
