/- The walks of CrcNoughts, CrcJoins and CrcBurst. -/
import Derived.Test.YtnnmghhafjbioaaLaws
namespace Go.Proofs.Ytnnmghhafjbioaa
open Go.RowKit
attribute [local irreducible] CrcP.shN tab zeros tw mat CrcP.Sum holdsB CrcP.bytes CrcP.Turn sp CrcP.acc

theorem noughts_bl {w0 : World} (w : World) (n : Int) (hn : n ≤ 100000) (Z : ByteArray) (hZ : Z = ⟨(List.replicate n.toNat 0).toArray⟩) (h : Bl w0 w) : Calls Try.prog 20 #[.int .i64 n] w fun e w' => e = .returned (.string Z) ∧ Bl w0 w' :=
  (noughts_any w n hn).mono fun _ _ ⟨he, hb⟩ => ⟨by rw [hZ]; exact he, h.below hb⟩
theorem join_bl {w0 : World} (w : World) (a b : BitVec 32) (n : Int) (h1 : -9223372036854775808 ≤ n) (h2 : n ≤ 9223372036854775807) (h : Bl w0 w) :
    Calls Try.prog 18 #[.int .u32 a.toNat, .int .u32 b.toNat, .int .i64 n] w fun e w' => e = .returned (.int .u32 (CrcP.shN (8 * n.toNat) a ^^^ b).toNat) ∧ Bl w0 w' :=
  (join_any w a b n h1 h2).mono fun _ _ ⟨he, hb⟩ => ⟨he, h.below hb⟩
theorem refTurn_bl {w0 : World} (w : World) (x X : BitVec 32) (s : ByteArray) (hs : (s.size : Int) ≤ 9223372036854775807) (hX : X = CrcP.Turn x s.data.toList) (h : Bl w0 w) : Calls Try.prog 19 #[.int .u32 x.toNat, .string s] w fun e w' => e = .returned (.int .u32 X.toNat) ∧ Bl w0 w' :=
  (refTurn_any w x s hs).mono fun _ _ ⟨he, hw⟩ => ⟨by rw [hX]; exact he, by rw [← hw]; exact h⟩

set_option maxRecDepth 100000 in
theorem crcNoughts_walk (x y : BitVec 32) (n : Int) (h1 : -9223372036854775808 ≤ n) (h2 : n ≤ 9223372036854775807) (w : World) : Calls Try.prog 7 #[.int .u32 x.toNat, .int .u32 y.toNat, .int .i64 n] w fun e w' => e = .returned (.bool true) ∧ Below w.heap.size w w' := by
  by_cases hlong : (2000 : Int) < n
  · go_enter Try.func7, Try.ntmps7
    go_wp2_with fail
    refine (awake_bl (w0 := w) _ (Bl.refl w)).mono ?_
    rintro e w1 ⟨rfl, hb1⟩
    go_wp2_with fail
    refine (awake_bl (w0 := w) _ hb1).mono ?_
    rintro e w2 ⟨rfl, hb2⟩
    go_wp2
    go_ret
    exact ⟨rfl, hb2⟩
  · obtain ⟨Z, hZ⟩ : ∃ Z : ByteArray, Z = ⟨(List.replicate n.toNat 0).toArray⟩ := ⟨_, rfl⟩
    have hZs : (Z.size : Int) ≤ 9223372036854775807 := by rw [hZ]; simp [ByteArray.size]; omega
    obtain ⟨X, hX⟩ : ∃ X, X = CrcP.Turn x Z.data.toList := ⟨_, rfl⟩
    have hx : bits .xor .u32 (X.toNat : Int) (y.toNat : Int) = ((CrcP.shN (8 * n.toNat) x ^^^ y).toNat : Int) := by
      rw [bits_xor, hX, hZ]
      have : CrcP.Turn x (⟨(List.replicate n.toNat 0).toArray⟩ : ByteArray).data.toList = CrcP.shN (8 * n.toNat) x := CrcP.Turn_zeros _ _
      rw [this]
    have HZ := Lib.hid hZ; clear hZ
    have HX := Lib.hid hX; clear hX
    go_enter Try.func7, Try.ntmps7
    go_wp2_with fail
    refine (awake_bl (w0 := w) _ (Bl.refl w)).mono ?_
    rintro e w1 ⟨rfl, hb1⟩
    go_wp2_with fail
    refine (join_bl (w0 := w) _ x y n h1 h2 hb1).mono ?_
    rintro e w2 ⟨rfl, hb2⟩
    go_wp2_with fail
    refine (noughts_bl (w0 := w) _ n (by omega) Z HZ.out hb2).mono ?_
    rintro e w3 ⟨rfl, hb3⟩
    go_wp2_with fail
    refine (refTurn_bl (w0 := w) _ x X Z hZs HX.out hb3).mono ?_
    rintro e w4 ⟨rfl, hb4⟩
    go_wp2
    go_ret
    exact ⟨rfl, hb4⟩

theorem sum_ok2 {w0 : World} (w : World) (b pb cap : Nat) (s : ByteArray) (X : BitVec 32) (hX : X = CrcP.Sum s.data.toList) (h : Ok w0 b w) (hc : w.cell? ⟨pb, 0, none⟩ = some (.string s)) (hs : (s.size : Int) ≤ 9223372036854775807) :
    Calls Try.prog 12 #[.pointer (some ⟨b, 0, none⟩), .slice (some ⟨pb, 0, none⟩) 1 cap] w fun e w' => e = .returned (.int .u32 X.toNat) ∧ Ok w0 b w' := by
  subst hX; exact sum_ok w b pb cap s h hc hs
theorem refSum_ok2 {w0 : World} {b : Nat} (w : World) (s : ByteArray) (X : BitVec 32) (hX : X = CrcP.Sum s.data.toList) (hs : (s.size : Int) ≤ 9223372036854775807) (h : Ok w0 b w) : Calls Try.prog 13 #[.string s] w fun e w' => e = .returned (.int .u32 X.toNat) ∧ Ok w0 b w' := by
  subst hX; exact refSum_ok w s hs h
theorem join_ok2 {w0 : World} {b : Nat} (w : World) (x y X : BitVec 32) (n : Nat) (hX : X = CrcP.shN (8 * n) x ^^^ y) (h2 : (n : Int) ≤ 9223372036854775807) (h : Ok w0 b w) :
    Calls Try.prog 18 #[.int .u32 x.toNat, .int .u32 y.toNat, .int .i64 n] w fun e w' => e = .returned (.int .u32 X.toNat) ∧ Ok w0 b w' := by
  subst hX; exact join_ok w x y n (by omega) h2 h

set_option maxRecDepth 100000 in
theorem crcJoins_walk (a b : ByteArray) (w : World) : Calls Try.prog 6 #[.string a, .string b] w fun e w' => e = .returned (.bool true) ∧ Below w.heap.size w w' := by
  by_cases hla : (500 : Int) < (a.size : Int)
  · go_enter Try.func6, Try.ntmps6
    go_wp2_with fail
    refine (awake_bl (w0 := w) _ (Bl.refl w)).mono ?_
    rintro e w1 ⟨rfl, hb1⟩
    go_wp2_with fail
    refine (awake_bl (w0 := w) _ hb1).mono ?_
    rintro e w2 ⟨rfl, hb2⟩
    go_wp2
    go_ret
    exact ⟨rfl, hb2⟩
  by_cases hlb : (500 : Int) < (b.size : Int)
  · go_enter Try.func6, Try.ntmps6
    go_wp2_with fail
    refine (awake_bl (w0 := w) _ (Bl.refl w)).mono ?_
    rintro e w1 ⟨rfl, hb1⟩
    go_wp2_with fail
    refine (awake_bl (w0 := w) _ hb1).mono ?_
    rintro e w2 ⟨rfl, hb2⟩
    go_wp2
    go_ret
    exact ⟨rfl, hb2⟩
  obtain ⟨A, hA⟩ : ∃ A, A = CrcP.Sum a.data.toList := ⟨_, rfl⟩
  obtain ⟨B, hB⟩ : ∃ B, B = CrcP.Sum b.data.toList := ⟨_, rfl⟩
  obtain ⟨C, hC⟩ : ∃ C, C = CrcP.shN (8 * b.size) A ^^^ B := ⟨_, rfl⟩
  have hAB : C = CrcP.Sum (a ++ b).data.toList := by
    have : (a ++ b).data.toList = a.data.toList ++ b.data.toList := by simp
    rw [this, CrcP.Sum_append, hC, hA, hB]
    congr 2
  have HA := Lib.hid hA; clear hA
  have HB := Lib.hid hB; clear hB
  have HC := Lib.hid hC; clear hC
  have HAB := Lib.hid hAB; clear hAB
  go_enter Try.func6, Try.ntmps6
  go_wp2_with fail
  refine (awake_bl (w0 := w) _ (Bl.refl w)).mono ?_
  rintro e w1 ⟨rfl, hb1⟩
  go_wp2_with fail
  refine (make_bl (w0 := w) _ hb1).mono ?_
  rintro e w2 ⟨tb, rfl, hb2⟩
  go_wp2_with fail
  refine (sum_ok2 (w0 := w) _ tb _ _ a A HA.out (hb2.alloc _) (World.cell?_alloc_mark _ _ _ _ _) (by omega)).mono ?_
  rintro e w3 ⟨rfl, hb3⟩
  go_wp2_with fail
  refine (sum_ok2 (w0 := w) _ tb _ _ b B HB.out (hb3.alloc _) (World.cell?_alloc_mark _ _ _ _ _) (by omega)).mono ?_
  rintro e w4 ⟨rfl, hb4⟩
  go_wp2_with fail
  refine (join_ok2 (w0 := w) (b := tb) _ A B C b.size HC.out (by omega) hb4).mono ?_
  rintro e w5 ⟨rfl, hb5⟩
  go_wp2_with fail
  refine (refSum_ok2 (w0 := w) (b := tb) _ (a ++ b) C HAB.out (by simp; omega) hb5).mono ?_
  rintro e w6 ⟨rfl, hb6⟩
  go_wp2
  go_ret
  exact ⟨rfl, hb6.bl⟩

/-! ### The burst -/
theorem holdsB_whole (l : List UInt8) : holdsB (l ++ CrcP.bytes (CrcP.Sum l)) = true := by
  have hb : (CrcP.bytes (CrcP.Sum l)).length = 4 := by unfold CrcP.bytes; rfl
  unfold holdsB
  rw [List.length_append, hb, Nat.add_sub_cancel, List.take_left, List.drop_left, decide_eq_true (by omega)]
  simp
theorem holdsB_iff (l : List UInt8) (h : 4 ≤ l.length) : holdsB l = true ↔ CrcP.Turn CrcP.ones l = CrcP.shN 32 CrcP.ones := by
  obtain ⟨pre, b0, b1, b2, b3, rfl⟩ : ∃ pre b0 b1 b2 b3, l = pre ++ [b0, b1, b2, b3] := by
    have h4 : (l.drop (l.length - 4)).length = 4 := by rw [List.length_drop]; omega
    match hd : l.drop (l.length - 4), h4 with
    | [b0, b1, b2, b3], _ => exact ⟨l.take (l.length - 4), b0, b1, b2, b3, by rw [← hd, List.take_append_drop]⟩
  rw [← CrcP.holds_iff]
  unfold holdsB
  rw [List.length_append, show [b0, b1, b2, b3].length = 4 from rfl, Nat.add_sub_cancel, List.take_left, List.drop_left, decide_eq_true (by omega)]
  simp
theorem burst_bool (l : List UInt8) (A N : Nat) (p : BitVec 32) (hN : N + A = 8 * (l ++ CrcP.bytes (CrcP.Sum l)).length) :
    holdsB (sp (l ++ CrcP.bytes (CrcP.Sum l)) A N p 32) = !(CrcP.acc p N 32 != 0#32) := by
  have hb : (CrcP.bytes (CrcP.Sum l)).length = 4 := by unfold CrcP.bytes; rfl
  have hlen : 4 ≤ (l ++ CrcP.bytes (CrcP.Sum l)).length := by rw [List.length_append, hb]; omega
  have h1 := (holdsB_iff _ hlen).1 (holdsB_whole l)
  have h2 := sp_turn (l ++ CrcP.bytes (CrcP.Sum l)) CrcP.ones A N p hN 32 (Nat.le_refl _)
  have h3 := CrcP.burst_end _ _ _ _ N _ h2 h1
  rw [← holdsB_iff _ (by rw [sp_length]; exact hlen)] at h3
  rw [Bool.eq_iff_iff, h3]
  simp

theorem spoil_ok {w0 : World} {b : Nat} (w : World) (s : ByteArray) (A : Nat) (p : BitVec 32) (hs : (s.size : Int) ≤ 100000) (N : Nat) (hN : N + A = 8 * s.size) (Z : ByteArray) (hZ : Z = ⟨(sp s.data.toList A N p 32).toArray⟩) (any : Bool) (hany : any = (CrcP.acc p N 32 != 0#32)) (h : Ok w0 b w) :
    Calls Try.prog 17 #[.string s, .int .i64 A, .int .u32 p.toNat] w fun e w' => e = .returned (.tuple #[.string Z, .bool any]) ∧ Ok w0 b w' := by
  subst hZ hany
  exact (spoil_any w s A p hs N hN).mono fun _ _ ⟨he, hb⟩ => ⟨he, h.below hb⟩
theorem bytes_ok2 {w0 : World} {b : Nat} (w : World) (x : BitVec 32) (Z : ByteArray) (hZ : Z = ⟨(CrcP.bytes x).toArray⟩) (h : Ok w0 b w) : Calls Try.prog 16 #[.int .u32 x.toNat] w fun e w' => e = .returned (.string Z) ∧ Ok w0 b w' := by
  subst hZ; exact bytes_ok w x h
theorem holds_ok2 {w0 : World} (w : World) (b : Nat) (s : ByteArray) (hs : (s.size : Int) ≤ 9223372036854775807) (r : Bool) (hr : r = holdsB s.data.toList) (h : Ok w0 b w) : Calls Try.prog 14 #[.pointer (some ⟨b, 0, none⟩), .string s] w fun e w' => e = .returned (.bool r) ∧ Ok w0 b w' := by
  subst hr; exact holds_ok w b s hs h

set_option maxRecDepth 100000 in
theorem crcBurst_out (s : ByteArray) (at_ : Int) (h1 : -9223372036854775808 ≤ at_) (h2 : at_ ≤ 9223372036854775807) (p : BitVec 32) (hs : (s.size : Int) ≤ 9223372036854775807) (w : World)
    (hout : (500 : Int) < (s.size : Int) ∨ at_ < 0 ∨ 8 * (s.size : Int) + 32 < at_) : Calls Try.prog 5 #[.string s, .int .i64 at_, .int .u32 p.toNat] w fun e w' => e = .returned (.bool true) ∧ Below w.heap.size w w' := by
  by_cases ha : (500 : Int) < (s.size : Int)
  · go_enter Try.func5, Try.ntmps5
    go_wp2_with fail
    refine (awake_bl (w0 := w) _ (Bl.refl w)).mono ?_
    rintro e w1 ⟨rfl, hb1⟩
    go_wp2_with fail
    refine (awake_bl (w0 := w) _ hb1).mono ?_
    rintro e w2 ⟨rfl, hb2⟩
    go_wp2
    go_ret
    exact ⟨rfl, hb2⟩
  by_cases hb : at_ < 0
  · go_enter Try.func5, Try.ntmps5
    go_wp2_with fail
    refine (awake_bl (w0 := w) _ (Bl.refl w)).mono ?_
    rintro e w1 ⟨rfl, hb1⟩
    go_wp2_with fail
    refine (awake_bl (w0 := w) _ hb1).mono ?_
    rintro e w2 ⟨rfl, hb2⟩
    go_wp2
    go_ret
    exact ⟨rfl, hb2⟩
  have hc : 8 * (s.size : Int) + 32 < at_ := by omega
  clear hout
  go_enter Try.func5, Try.ntmps5
  go_wp2_with fail
  refine (awake_bl (w0 := w) _ (Bl.refl w)).mono ?_
  rintro e w1 ⟨rfl, hb1⟩
  go_wp2_with fail
  refine (awake_bl (w0 := w) _ hb1).mono ?_
  rintro e w2 ⟨rfl, hb2⟩
  go_wp2
  go_ret
  exact ⟨rfl, hb2⟩

set_option maxRecDepth 100000 in
theorem crcBurst_in (s : ByteArray) (A : Nat) (p : BitVec 32) (w : World) (hs : (s.size : Int) ≤ 500) (hA : (A : Int) ≤ 8 * (s.size : Int) + 32) :
    Calls Try.prog 5 #[.string s, .int .i64 A, .int .u32 p.toNat] w fun e w' => e = .returned (.bool true) ∧ Below w.heap.size w w' := by
  have hs5 : ¬ (500 : Int) < (s.size : Int) := by omega
  have hA0 : ¬ (A : Int) < 0 := by omega
  have hA1 : ¬ 8 * (s.size : Int) + 32 < (A : Int) := by omega
  obtain ⟨X, hX⟩ : ∃ X, X = CrcP.Sum s.data.toList := ⟨_, rfl⟩
  obtain ⟨Y, hY⟩ : ∃ Y : ByteArray, Y = ⟨(CrcP.bytes X).toArray⟩ := ⟨_, rfl⟩
  obtain ⟨V, hV⟩ : ∃ V, V = s ++ Y := ⟨_, rfl⟩
  have hVd : V.data.toList = s.data.toList ++ CrcP.bytes (CrcP.Sum s.data.toList) := by rw [hV, hY, hX]; simp
  have hVs : V.size = s.size + 4 := by
    have : V.data.toList.length = s.size + 4 := by
      rw [hVd, List.length_append]
      have : (CrcP.bytes (CrcP.Sum s.data.toList)).length = 4 := by unfold CrcP.bytes; rfl
      rw [this]; simp
    simpa using this
  obtain ⟨N, hN⟩ : ∃ N, N + A = 8 * V.size := ⟨8 * V.size - A, by omega⟩
  obtain ⟨Z, hZ⟩ : ∃ Z : ByteArray, Z = ⟨(sp V.data.toList A N p 32).toArray⟩ := ⟨_, rfl⟩
  obtain ⟨any, hany⟩ : ∃ any, any = (CrcP.acc p N 32 != 0#32) := ⟨_, rfl⟩
  have hZs : Z.size = V.size := by
    have : Z.data.toList.length = V.data.toList.length := by rw [hZ]; simp [sp_length]
    simpa using this
  have hr1 : true = holdsB V.data.toList := by rw [hVd, holdsB_whole]
  have hr2 : (!any) = holdsB Z.data.toList := by
    have : Z.data.toList = sp (s.data.toList ++ CrcP.bytes (CrcP.Sum s.data.toList)) A N p 32 := by rw [hZ, hVd]
    rw [this, burst_bool _ _ _ _ (by rw [← hVd, hN]; simp), hany]
  have hYs : (Y.size : Int) ≤ 4 := by
    have : Y.data.toList.length = 4 := by rw [hY]; unfold CrcP.bytes; rfl
    have : Y.size = 4 := by simpa using this
    omega
  have HX := Lib.hid hX; clear hX
  have HY := Lib.hid hY; clear hY
  have HV := Lib.hid hV; clear hV
  have HN := Lib.hid hN; clear hN
  have HZ := Lib.hid hZ; clear hZ
  have Hany := Lib.hid hany; clear hany
  have Hr1 := Lib.hid hr1; clear hr1
  have Hr2 := Lib.hid hr2; clear hr2
  have HVs := Lib.hid hVs; clear hVs hVd
  have HZs := Lib.hid hZs; clear hZs
  go_enter Try.func5, Try.ntmps5
  go_wp2_with fail
  refine (awake_bl (w0 := w) _ (Bl.refl w)).mono ?_
  rintro e w1 ⟨rfl, hb1⟩
  go_wp2_with fail
  refine (make_bl (w0 := w) _ hb1).mono ?_
  rintro e w2 ⟨tb, rfl, hb2⟩
  go_wp2_with fail
  refine (sum_ok2 (w0 := w) _ tb _ _ s X HX.out (hb2.alloc _) (World.cell?_alloc_mark _ _ _ _ _) (by omega)).mono ?_
  rintro e w3 ⟨rfl, hb3⟩
  go_wp2_with fail
  refine (bytes_ok2 (w0 := w) (b := tb) _ X Y HY.out hb3).mono ?_
  rintro e w4 ⟨rfl, hb4⟩
  go_wp2_with fail
  rw [← HV.out]
  refine (spoil_ok (w0 := w) (b := tb) _ V A p (by rw [HVs.out]; omega) N HN.out Z HZ.out any Hany.out hb4).mono ?_
  rintro e w5 ⟨rfl, hb5⟩
  go_wp2_with fail
  refine (holds_ok2 (w0 := w) _ tb V (by rw [HVs.out]; omega) true Hr1.out hb5).mono ?_
  rintro e w6 ⟨rfl, hb6⟩
  go_wp2_with fail
  refine (holds_ok2 (w0 := w) _ tb Z (by rw [HZs.out, HVs.out]; omega) (!any) Hr2.out hb6).mono ?_
  rintro e w7 ⟨rfl, hb7⟩
  go_wp2
  go_ret
  exact ⟨rfl, hb7.bl⟩

theorem crcBurst_walk (s : ByteArray) (at_ : Int) (h1 : -9223372036854775808 ≤ at_) (h2 : at_ ≤ 9223372036854775807) (p : BitVec 32) (hs : (s.size : Int) ≤ 9223372036854775807) (w : World) :
    Calls Try.prog 5 #[.string s, .int .i64 at_, .int .u32 p.toNat] w fun e w' => e = .returned (.bool true) ∧ Below w.heap.size w w' := by
  by_cases hout : (500 : Int) < (s.size : Int) ∨ at_ < 0 ∨ 8 * (s.size : Int) + 32 < at_
  · exact crcBurst_out s at_ h1 h2 p hs w hout
  · obtain ⟨A, rfl⟩ := Int.eq_ofNat_of_zero_le (show 0 ≤ at_ by omega)
    exact crcBurst_in s A p w (by omega) (by omega)
end Go.Proofs.Ytnnmghhafjbioaa
