/- The walk of CrcParts: a row of texts, summed part by part and at once. -/
import Derived.Test.YtnnmghhafjbioaaLawsC
namespace Go.Proofs.Ytnnmghhafjbioaa
open Go.RowKit
attribute [local irreducible] CrcP.shN tab zeros tw mat holdsB CrcP.bytes sp CrcP.acc

set_option maxRecDepth 100000 in
theorem sum_gen (w : World) (b : Nat) (a : Addr) (cap : Nat) (ss : List ByteArray) (hT : IsTab w b) (hP : ∀ i, i < ss.length → w.cell? (a.add i) = some (.string (ss.getD i ByteArray.empty)))
    (hl : (ss.length : Int) ≤ 9223372036854775807) (hs : ∀ i, i < ss.length → ((ss.getD i ByteArray.empty).size : Int) ≤ 9223372036854775807) :
    Calls Try.prog 12 #[.pointer (some ⟨b, 0, none⟩), .slice (some a) ss.length cap] w fun e w' =>
      e = .returned (.int .u32 (CrcP.Sum (ss.flatMap fun s => s.data.toList)).toNat) ∧ ∃ n, w' = w.drewN n := by
  generalize hlen : ss.length = len at *
  have Hlen := Lib.hid hlen; clear hlen
  have HP := Lib.hid hP; clear hP
  have HT := Lib.hid hT; clear hT
  go_enter Try.func12, Try.ntmps12
  go_wp2
  go_loopw [13, 5] (fun i x wr => ∃ k : Nat, k ≤ len ∧ i = .int .i64 k ∧ x = .int .u32 (CrcP.Turn CrcP.ones ((ss.take k).flatMap fun s => s.data.toList)).toNat ∧ ∃ n, wr = w.drewN n) (fun i _ _ => len - (intOf i).toNat)
  case atStart => exact ⟨0, by omega, rfl, by simp [CrcP.Turn, CrcP.ones], 0, rfl⟩
  case round =>
    obtain ⟨k, hk, rfl, rfl, n, rfl⟩ := hrel
    by_cases hlt : k < len
    · have hc := HP.out k hlt
      have hsl := hs k hlt
      have HX := Lib.hid (turn_part CrcP.ones ss k (by rw [Hlen.out]; exact hlt))
      generalize hsk : ss.getD k ByteArray.empty = s at *
      have Hsk := Lib.hid hsk; clear hsk
      generalize CrcP.Turn CrcP.ones ((ss.take k).flatMap fun s => s.data.toList) = X0 at *
      go_wp2
      go_loopw [8, 5] (fun i x wr => ∃ j : Nat, j ≤ s.size ∧ i = .int .i64 j ∧ x = .int .u32 (CrcP.Turn X0 (s.data.toList.take j)).toNat ∧ ∃ n, wr = w.drewN n) (fun i _ _ => s.size - (intOf i).toNat)
      case atStart => exact ⟨0, by omega, rfl, by simp [CrcP.Turn], n, rfl⟩
      case round =>
        obtain ⟨j, hj, rfl, rfl, m, rfl⟩ := hrel
        by_cases hjt : j < s.size
        · have HY := Lib.hid (turn_take X0 s j hjt)
          generalize CrcP.Turn X0 (s.data.toList.take j) = X at *
          have hi := at_lt X s[j]
          have hidx := at_eq X s[j]
          have hcell := HT.out _ hi
          have HS := Lib.hid (table_step X s[j])
          generalize at_ X s[j] = i at *
          have hi2 : (i : Int) < 256 := by omega
          go_wp2
          go_quiet (fail)
          go_wp2
          go_roundw
          case rel => exact ⟨j + 1, by omega, by go_num, by rw [HS.out, HY.out], _, rfl⟩
          case measure => simp [intOf]; omega
        · obtain rfl : j = s.size := by omega
          go_wp2
          go_roundw
          case rel => exact ⟨k + 1, by omega, by go_num, by rw [← HX.out, List.take_of_length_le (by simp)], _, rfl⟩
          case measure => simp [intOf]; omega
    · obtain rfl : k = len := by omega
      go_wp2
      go_ret
      exact ⟨congrArg Ending.returned (not_word _ _ (by rw [← Hlen.out, List.take_length]; rfl)), _, rfl⟩


/-- What the law's bound counts besides the number of parts. -/
def cst (l : List ByteArray) : Nat := (l.map fun s => min s.size 65536).sum
theorem cst_take (ss : List ByteArray) (k : Nat) (h : k < ss.length) : cst (ss.take (k + 1)) = cst (ss.take k) + min (ss.getD k ByteArray.empty).size 65536 := by
  have e : ss.getD k ByteArray.empty = ss[k] := by simp [List.getD, h]
  unfold cst
  rw [List.take_succ_eq_append_getElem h, List.map_append, List.sum_append, e]
  rfl
theorem cst_le (l : List ByteArray) : cst l ≤ 65536 * l.length := by
  unfold cst
  induction l with
  | nil => simp
  | cons a l ih => simp only [List.map_cons, List.sum_cons, List.length_cons]; have := Nat.min_le_right a.size 65536; omega
/-- The bytes of the parts. -/
def flat (l : List ByteArray) : List UInt8 := l.flatMap fun s => s.data.toList
theorem flat_take (ss : List ByteArray) (k : Nat) (h : k < ss.length) : flat (ss.take (k + 1)) = flat (ss.take k) ++ (ss.getD k ByteArray.empty).data.toList := by
  have e : ss.getD k ByteArray.empty = ss[k] := by simp [List.getD, h]
  unfold flat
  rw [List.take_succ_eq_append_getElem h, List.flatMap_append, e]
  simp only [List.flatMap_cons, List.flatMap_nil, List.append_nil]
theorem flat_le (l : List ByteArray) (h : cst l ≤ 65535) : (flat l).length ≤ cst l := by
  induction l with
  | nil => simp [flat]
  | cons a l ih =>
    have e1 : cst (a :: l) = min a.size 65536 + cst l := by simp [cst]
    have e2 : (flat (a :: l)).length = a.size + (flat l).length := by simp [flat]
    have := ih (by omega)
    omega
theorem cst_mono (ss : List ByteArray) (k : Nat) : cst (ss.take k) ≤ cst ss := by
  have h : cst ss = cst (ss.take k) + cst (ss.drop k) := by
    unfold cst
    rw [← List.sum_append, ← List.map_append, List.take_append_drop]
  omega
attribute [local irreducible] cst flat CrcP.Sum

theorem cell_lt {w : World} {a : Addr} {v : Value} (h : w.cell? a = some v) : a.block < w.heap.size := by
  refine Classical.byContradiction fun hn => ?_
  have : w.heap[a.block]? = none := Array.getElem?_eq_none (by omega)
  simp [World.cell?, this] at h
theorem bytes_size (X : BitVec 32) (Y : ByteArray) (h : Y = ⟨(CrcP.bytes X).toArray⟩) : (Y.size : Int) ≤ 4 := by
  have h4 : (CrcP.bytes X).length = 4 := by unfold CrcP.bytes; rfl
  rw [h]
  show ((CrcP.bytes X).toArray.size : Int) ≤ 4
  simp [h4]
/-- The row of texts lies there. -/
def Lies (w : World) (a : Addr) (ss : List ByteArray) (len : Nat) : Prop := ∀ i, i < len → w.cell? (a.add i) = some (.string (ss.getD i ByteArray.empty))
theorem Lies.below {w w' : World} {a : Addr} {ss : List ByteArray} {len : Nat} (h : Lies w a ss len) (hb : Bl w w') : Lies w' a ss len := fun i hi => by
  have h1 := h i hi
  have hlt : (a.add i).block < w.heap.size := cell_lt h1
  exact (Below.cell hb hlt).trans h1

set_option maxRecDepth 100000 in
theorem crcParts_far (a : Addr) (len cap : Nat) (ss : List ByteArray) (hlen : ss.length = len) (w : World) (hP : Lies w a ss len) (hl : (len : Int) ≤ 8796093022208) (hs : ∀ i, i < len → ((ss.getD i ByteArray.empty).size : Int) ≤ 9223372036854775807)
    (hfar : (2000 : Int) < ((len + cst ss : Nat) : Int)) :
    Calls Try.prog 4 #[.slice (some a) len cap] w fun e w' => e = .returned (.bool true) ∧ Below w.heap.size w w' := by
  have Hlen := Lib.hid hlen; clear hlen
  have HP := Lib.hid hP; clear hP
  have HF := Lib.hid hfar; clear hfar
  go_enter Try.func4, Try.ntmps4
  go_wp2
  go_loopw [15, 3] (fun i x wr => ∃ k : Nat, k ≤ len ∧ i = .int .i64 k ∧ x = .int .i64 ((len + cst (ss.take k) : Nat) : Int) ∧ Bl w wr) (fun i _ _ => len - (intOf i).toNat)
  case atStart => exact ⟨0, by omega, rfl, by simp [cst], Bl.refl w⟩
  case round =>
    obtain ⟨k, hk, rfl, rfl, hbl⟩ := hrel
    by_cases hlt : k < len
    · have hc := (HP.out.below hbl) k hlt
      have hsl := hs k hlt
      have HX := Lib.hid (cst_take ss k (by rw [Hlen.out]; exact hlt))
      have HC := cst_le (ss.take k)
      rw [List.length_take, Hlen.out] at HC
      generalize ss.getD k ByteArray.empty = s at *
      generalize cst (ss.take k) = c at *
      obtain ⟨m, hm⟩ : ∃ m, m = min s.size 65536 := ⟨_, rfl⟩
      have hm1 : (if (65536 : Int) < (s.size : Int) then (65536 : Int) else (s.size : Int)) = (m : Int) := by split <;> omega
      have hmb : m ≤ 65536 := by omega
      have HM := Lib.hid hm; clear hm
      go_wp2
      go_roundw
      case rel => exact ⟨k + 1, by omega, by go_num, by rw [HX.out, ← HM.out]; go_num, hbl⟩
      case measure => simp [intOf]; omega
    · obtain rfl : k = len := by omega
      have hf : (2000 : Int) < (k : Int) + (cst (ss.take k) : Int) := by
        have := HF.out
        rw [show ss.take k = ss from by rw [← Hlen.out, List.take_length]]
        omega
      have HC := cst_le (ss.take k)
      rw [List.length_take, Hlen.out] at HC
      generalize cst (ss.take k) = c at *
      go_wp2_with fail
      refine (awake_bl (w0 := w) _ hbl).mono ?_
      rintro e w1 ⟨rfl, hb1⟩
      go_wp2_with fail
      refine (awake_bl (w0 := w) _ hb1).mono ?_
      rintro e w2 ⟨rfl, hb2⟩
      go_wp2
      go_ret
      exact ⟨rfl, hb2⟩

theorem make_two {w0 : World} {b : Nat} (w : World) (h : Ok w0 b w) : Calls Try.prog 11 #[] w fun e w' => ∃ c, e = .returned (.pointer (some ⟨c, 0, none⟩)) ∧ Ok w0 b w' ∧ Ok w0 c w' :=
  (make_ok w).mono fun _ _ ⟨he, hb⟩ => ⟨_, he, h.below hb.2.2, hb.1, hb.2.1, h.bl.below hb.2.2⟩
theorem sum_gen2 {w0 : World} (w : World) (b : Nat) (a : Addr) (len cap : Nat) (ss : List ByteArray) (hlen : ss.length = len) (X : BitVec 32) (hX : X = CrcP.Sum (flat ss)) (h : Ok w0 b w) (hP : Lies w a ss len) (hl : (len : Int) ≤ 9223372036854775807)
    (hs : ∀ i, i < len → ((ss.getD i ByteArray.empty).size : Int) ≤ 9223372036854775807) :
    Calls Try.prog 12 #[.pointer (some ⟨b, 0, none⟩), .slice (some a) len cap] w fun e w' => e = .returned (.int .u32 X.toNat) ∧ Ok w0 b w' := by
  subst hlen hX
  refine (sum_gen w b a cap ss h.1 hP hl hs).mono fun _ _ ⟨he, n, hn⟩ => ⟨by rw [he]; unfold flat; rfl, by rw [hn]; exact h.drewN n⟩

theorem refBytes_ok2 {w0 : World} {b : Nat} (w : World) (x : BitVec 32) (Z : ByteArray) (hZ : Z = ⟨(CrcP.bytes x).toArray⟩) (h : Ok w0 b w) : Calls Try.prog 15 #[.int .u32 x.toNat] w fun e w' => e = .returned (.string Z) ∧ Ok w0 b w' := by
  subst hZ; exact refBytes_ok w x h

set_option maxRecDepth 100000 in
theorem crcParts_near (a : Addr) (len cap : Nat) (ss : List ByteArray) (hlen : ss.length = len) (w : World) (hP : Lies w a ss len) (hs : ∀ i, i < len → ((ss.getD i ByteArray.empty).size : Int) ≤ 9223372036854775807)
    (hnear : ((len + cst ss : Nat) : Int) ≤ 2000) :
    Calls Try.prog 4 #[.slice (some a) len cap] w fun e w' => e = .returned (.bool true) ∧ Below w.heap.size w w' := by
  have Hlen := Lib.hid hlen; clear hlen
  have HP := Lib.hid hP; clear hP
  have hl : (len : Int) ≤ 2000 := by omega
  have hcs : cst ss ≤ 2000 := by omega
  have HF := Lib.hid hnear; clear hnear
  have HCS := Lib.hid hcs; clear hcs
  obtain ⟨X, hX⟩ : ∃ X, X = CrcP.Sum (flat ss) := ⟨_, rfl⟩
  obtain ⟨Y, hY⟩ : ∃ Y : ByteArray, Y = ⟨(CrcP.bytes X).toArray⟩ := ⟨_, rfl⟩
  have HX := Lib.hid hX; clear hX
  have HY := Lib.hid hY; clear hY
  go_enter Try.func4, Try.ntmps4
  go_wp2
  go_loopw [15, 3] (fun i x wr => ∃ k : Nat, k ≤ len ∧ i = .int .i64 k ∧ x = .int .i64 ((len + cst (ss.take k) : Nat) : Int) ∧ Bl w wr) (fun i _ _ => len - (intOf i).toNat)
  case atStart => exact ⟨0, by omega, rfl, by simp [cst], Bl.refl w⟩
  case round =>
    obtain ⟨k, hk, rfl, rfl, hbl⟩ := hrel
    by_cases hlt : k < len
    · have hc := (HP.out.below hbl) k hlt
      have hsl := hs k hlt
      have HX := Lib.hid (cst_take ss k (by rw [Hlen.out]; exact hlt))
      have HC := cst_le (ss.take k)
      rw [List.length_take, Hlen.out] at HC
      generalize ss.getD k ByteArray.empty = s at *
      generalize cst (ss.take k) = c at *
      obtain ⟨m, hm⟩ : ∃ m, m = min s.size 65536 := ⟨_, rfl⟩
      have hm1 : (if (65536 : Int) < (s.size : Int) then (65536 : Int) else (s.size : Int)) = (m : Int) := by split <;> omega
      have hmb : m ≤ 65536 := by omega
      have HM := Lib.hid hm; clear hm
      go_wp2
      go_roundw
      case rel => exact ⟨k + 1, by omega, by go_num, by rw [HX.out, ← HM.out]; go_num, hbl⟩
      case measure => simp [intOf]; omega
    · obtain rfl : k = len := by omega
      have hf : (k : Int) + (cst (ss.take k) : Int) ≤ 2000 := by
        have := HF.out
        rw [show ss.take k = ss from by rw [← Hlen.out, List.take_length]]
        omega
      have HC := cst_le (ss.take k)
      rw [List.length_take, Hlen.out] at HC
      generalize cst (ss.take k) = c at *
      go_wp2_with fail
      refine (awake_bl (w0 := w) _ hbl).mono ?_
      rintro e w1 ⟨rfl, hb1⟩
      go_wp2_with fail
      refine (make_bl (w0 := w) _ hb1).mono ?_
      rintro e w2 ⟨tb, rfl, hb2⟩
      go_wp2_with fail
      go_loopw [35, 7] (fun i x wr => ∃ j : Nat, j ≤ k ∧ i = .int .i64 j ∧ (∃ A : ByteArray, x = .string A ∧ A.data.toList = flat (ss.take j)) ∧ Ok w tb wr) (fun i _ _ => k - (intOf i).toNat)
      case atStart => exact ⟨0, by omega, rfl, ⟨ByteArray.empty, rfl, by simp [flat]⟩, hb2⟩
      case round =>
        obtain ⟨j, hj, rfl, ⟨A, rfl, hA⟩, hok⟩ := hrel
        have hAs : (A.size : Int) ≤ 2000 := by
          have h1 := flat_le (ss.take j) (by have := cst_mono ss j; have := HCS.out; omega)
          have h2 := cst_mono ss j
          have h3 := HCS.out
          have h4 : A.size = (flat (ss.take j)).length := by rw [← hA]; simp
          omega
        have HA := Lib.hid hA; clear hA
        by_cases hlt : j < k
        · have hc := (HP.out.below hok.bl) j hlt
          have hsl : ((ss.getD j ByteArray.empty).size : Int) ≤ 2000 := by
            have h0 := cst_take ss j (by rw [Hlen.out]; exact hlt)
            have h1 := cst_mono ss (j + 1)
            have h3 := HCS.out
            omega
          have HT := Lib.hid (flat_take ss j (by rw [Hlen.out]; exact hlt))
          generalize ss.getD j ByteArray.empty = s at *
          go_wp2_with fail
          go_roundw
          case rel => exact ⟨j + 1, by omega, by go_num, ⟨A ++ s, rfl, by rw [HT.out, ← HA.out]; simp⟩, hok⟩
          case measure => simp [intOf]; omega
        · have HJ := Lib.hid (show j = k by omega)
          have hAl : A.data.toList = flat ss := by rw [HA.out, HJ.out]; rw [show ss.take k = ss from by rw [← Hlen.out, List.take_length]]
          have hAX : X = CrcP.Sum A.data.toList := by rw [hAl]; exact HX.out
          have hr : true = holdsB (A ++ Y).data.toList := by
            have : (A ++ Y).data.toList = A.data.toList ++ CrcP.bytes (CrcP.Sum A.data.toList) := by rw [← hAX, HY.out]; simp
            rw [this, holdsB_whole]
          have hYs : (Y.size : Int) ≤ 4 := bytes_size X Y HY.out
          have HAX := Lib.hid hAX; clear hAX hAl
          have HR := Lib.hid hr; clear hr
          go_wp2_with fail
          refine (sum_gen2 (w0 := w) _ tb a k cap ss Hlen.out X HX.out hok (HP.out.below hok.bl) (by omega) hs).mono ?_
          rintro e w3 ⟨rfl, hb3⟩
          go_wp2_with fail
          refine (make_two (w0 := w) (b := tb) _ hb3).mono ?_
          rintro e w4 ⟨tc, rfl, hb4, hc4⟩
          go_wp2_with fail
          refine (sum_gr2 (w0 := w) _ tc _ _ A X HAX.out (hc4.alloc _) (World.cell?_alloc_mark _ _ _ _ _) (by omega)).mono ?_
          rintro e w5 ⟨rfl, hb5⟩
          have hd5 := (hb4.alloc _).below hb5
          clear hb5
          go_wp2_with fail
          refine (bytes_ok2 (w0 := w) (b := tb) _ X Y HY.out hd5).mono ?_
          rintro e w6 ⟨rfl, hb6⟩
          go_wp2_with fail
          refine (refBytes_ok2 (w0 := w) (b := tb) _ X Y HY.out hb6).mono ?_
          rintro e w7 ⟨rfl, hb7⟩
          go_wp2_with fail
          refine (bytes_ok2 (w0 := w) (b := tb) _ X Y HY.out hb7).mono ?_
          rintro e w8 ⟨rfl, hb8⟩
          go_wp2_with fail
          refine (holds_ok2 (w0 := w) _ tb (A ++ Y) (by simp; omega) true HR.out hb8).mono ?_
          rintro e w9 ⟨rfl, hb9⟩
          go_wp2
          go_ret
          exact ⟨rfl, hb9.bl⟩

theorem sum_none2 {w0 : World} (w : World) (b : Nat) (X : BitVec 32) (hX : X = 0#32) (h : Ok w0 b w) :
    Calls Try.prog 12 #[.pointer (some ⟨b, 0, none⟩), .slice none 0 0] w fun e w' => e = .returned (.int .u32 X.toNat) ∧ Ok w0 b w' := by
  subst hX
  exact (sum_none w b).mono fun _ _ ⟨he, hw⟩ => ⟨he, by rw [hw]; exact h⟩
theorem sum_noughts : CrcP.Sum [] = 0#32 := by unfold CrcP.Sum CrcP.Turn; decide

set_option maxRecDepth 100000 in
theorem crcParts_nil (w : World) : Calls Try.prog 4 #[.slice none 0 0] w fun e w' => e = .returned (.bool true) ∧ Below w.heap.size w w' := by
  obtain ⟨X, hX⟩ : ∃ X, X = 0#32 := ⟨_, rfl⟩
  obtain ⟨Y, hY⟩ : ∃ Y : ByteArray, Y = ⟨(CrcP.bytes X).toArray⟩ := ⟨_, rfl⟩
  obtain ⟨A, hA⟩ : ∃ A : ByteArray, A = { data := #[] } := ⟨_, rfl⟩
  have hAl : A.data.toList = [] := by rw [hA]
  have hAX : X = CrcP.Sum A.data.toList := by rw [hAl, sum_noughts]; exact hX
  have hr : true = holdsB (A ++ Y).data.toList := by
    have : (A ++ Y).data.toList = A.data.toList ++ CrcP.bytes (CrcP.Sum A.data.toList) := by rw [← hAX, hY]; simp
    rw [this, holdsB_whole]
  have hYs : (Y.size : Int) ≤ 4 := bytes_size X Y hY
  have hAs : (A.size : Int) ≤ 0 := by rw [hA]; decide
  have HX := Lib.hid hX; clear hX
  have HY := Lib.hid hY; clear hY
  have HA := Lib.hid hA; clear hA
  have HAX := Lib.hid hAX; clear hAX hAl
  have HR := Lib.hid hr; clear hr
  go_enter Try.func4, Try.ntmps4
  go_wp2
  go_loopw [15, 3] (fun i x wr => i = .int .i64 0 ∧ x = .int .i64 0 ∧ Bl w wr) (fun i _ _ => 0)
  case atStart => exact ⟨rfl, rfl, Bl.refl w⟩
  case round =>
    obtain ⟨rfl, rfl, hbl⟩ := hrel
    go_wp2_with fail
    refine (awake_bl (w0 := w) _ hbl).mono ?_
    rintro e w1 ⟨rfl, hb1⟩
    go_wp2_with fail
    refine (make_bl (w0 := w) _ hb1).mono ?_
    rintro e w2 ⟨tb, rfl, hb2⟩
    go_wp2_with fail
    go_loopw [35, 7] (fun i x wr => i = .int .i64 0 ∧ x = .string A ∧ Ok w tb wr) (fun i _ _ => 0)
    case atStart => exact ⟨rfl, by rw [HA.out], hb2⟩
    case round =>
      obtain ⟨rfl, rfl, hok⟩ := hrel
      go_wp2_with fail
      refine (sum_none2 (w0 := w) _ tb X HX.out hok).mono ?_
      rintro e w3 ⟨rfl, hb3⟩
      go_wp2_with fail
      refine (make_two (w0 := w) (b := tb) _ hb3).mono ?_
      rintro e w4 ⟨tc, rfl, hb4, hc4⟩
      go_wp2_with fail
      refine (sum_gr2 (w0 := w) _ tc _ _ A X HAX.out (hc4.alloc _) (World.cell?_alloc_mark _ _ _ _ _) (by omega)).mono ?_
      rintro e w5 ⟨rfl, hb5⟩
      have hd5 := (hb4.alloc _).below hb5
      clear hb5
      go_wp2_with fail
      refine (bytes_ok2 (w0 := w) (b := tb) _ X Y HY.out hd5).mono ?_
      rintro e w6 ⟨rfl, hb6⟩
      go_wp2_with fail
      refine (refBytes_ok2 (w0 := w) (b := tb) _ X Y HY.out hb6).mono ?_
      rintro e w7 ⟨rfl, hb7⟩
      go_wp2_with fail
      refine (bytes_ok2 (w0 := w) (b := tb) _ X Y HY.out hb7).mono ?_
      rintro e w8 ⟨rfl, hb8⟩
      go_wp2_with fail
      refine (holds_ok2 (w0 := w) _ tb (A ++ Y) (by simp; omega) true HR.out hb8).mono ?_
      rintro e w9 ⟨rfl, hb9⟩
      go_wp2
      go_ret
      exact ⟨rfl, hb9.bl⟩

theorem crcParts_walk (a : Addr) (len cap : Nat) (ss : List ByteArray) (hlen : ss.length = len) (w : World) (hP : Lies w a ss len) (hl : (len : Int) ≤ 8796093022208) (hs : ∀ i, i < len → ((ss.getD i ByteArray.empty).size : Int) ≤ 9223372036854775807) :
    Calls Try.prog 4 #[.slice (some a) len cap] w fun e w' => e = .returned (.bool true) ∧ Below w.heap.size w w' := by
  by_cases h : (2000 : Int) < ((len + cst ss : Nat) : Int)
  · exact crcParts_far a len cap ss hlen w hP hl hs h
  · exact crcParts_near a len cap ss hlen w hP hs (by omega)
end Go.Proofs.Ytnnmghhafjbioaa
