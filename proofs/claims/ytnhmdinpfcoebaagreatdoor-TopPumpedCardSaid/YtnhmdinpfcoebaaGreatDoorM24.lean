/- Texts of the proof, merged: LPut, Coil, CSize, CPrint, SSum, FPrint, Kp. -/
import Derived.Test.YtnhmdinpfcoebaaGreatDoorM22
import Derived.Lib.Varint
/-! === LPut -/
section
/- leb.Put, leb.PutInt; sept.Put. -/
namespace Go.Proofs.YtnhmdinpfcoebaaGreatDoor
open Go.RowKit
set_option linter.unusedVariables false
set_option linter.unusedSimpArgs false
set_option maxRecDepth 100000

open Go.Lib
theorem one_reads (w : World) (x : Nat) (hx : x < 256) (y : Value) (hy : y = .int .u8 (x : Int)) : Reads (w.alloc (.cells #[y] 5)) (w.heap.size + 1) 1 (some ⟨w.heap.size, 0, none⟩) 1 (u8s [UInt8.ofNat x]) := by
  refine ⟨rfl, fun _ => ⟨_, rfl, Nat.lt_succ_self _, fun j u hj => ?_⟩⟩
  match j, hj with
  | 0, hj =>
    have : u = .int .u8 (x : Int) := by
      simp only [List.map_cons, List.getElem?_cons_zero, Option.some.injEq] at hj
      rw [← hj, u8_of x hx]
    rw [this, ← hy]
    exact World.cell?_alloc_mark _ _ _ _ _
/-- Written, more and more. -/
theorem WrOut.more {w0 w w' : World} {B b : Nat} {l' : Top.Bytes} (hb : Bk B w0 w) (h : WrOut w B b l' w') : WrOut w0 B b l' w' := ⟨h.1, hb.trans h.2⟩
attribute [local irreducible] WrOut
set_option maxHeartbeats 4000000 in
theorem lput_any {w : World} {B b : Nat} {v : Value} {l : Top.Bytes} (h : WrAt w B b v l) (n : Nat) (hn : n < 2 ^ 64) (hl : l.length ≤ 999000) (hB : B ≤ w.heap.size) :
    Calls Tryz.prog 127 #[.pointer (some ⟨b, 0, none⟩), .int .u64 n] w fun e w' => e = .returned (.tuple #[]) ∧ WrOut w B b (l ++ lebB 9 n) w' := by
  have HW := Lib.hid h; clear h
  have HL := Lib.hid hl; clear hl
  have HN := Lib.hid hn; clear hn
  have HB := Lib.hid hB; clear hB
  go_enter Tryz.func127, Tryz.ntmps127
  go_wp2_with fail
  go_loopw [1] (fun x wr => ∃ (k m : Nat) (acc : Top.Bytes), k ≤ 9 ∧ x = .int .u64 (m : Nat) ∧ acc.length = k ∧ m < 2 ^ (64 - 7 * k) ∧ lebB 9 n = acc ++ lebB (9 - k) m ∧ (∃ v, WrAt wr B b v (l ++ acc)) ∧ Bk B w wr) (fun x _ => (RowKit.intOf x).toNat)
  case atStart => exact ⟨0, n, [], by omega, rfl, rfl, HN.out, rfl, ⟨v, by rw [List.append_nil]; exact HW.out⟩, Bk.refl _ _⟩
  case round =>
    obtain ⟨k, m, acc, hk, rfl, hl, hm, hq, ⟨v2, hw2⟩, hbel⟩ := hrel
    have HBL := Lib.hid hbel
    have HBw := Lib.hid (Nat.le_trans HB.out hbel.size)
    clear hbel
    have HA := Lib.hid hl; clear hl
    have HM := Lib.hid hm; clear hm
    have HQ := Lib.hid hq; clear hq
    have HK := Lib.hid hk; clear hk
    have HW2 := Lib.hid hw2; clear hw2
    have HM2 := Lib.hid (show m < 2 ^ 64 from Nat.lt_of_lt_of_le HM.out (Nat.pow_le_pow_right (by decide) (by omega)))
    have hm0 : (0 : Int) ≤ (m : Int) := by omega
    have hw : IntKind.u64.wrap (m : Int) = m := by rw [wrap_u64n]; have := HM2.out; omega
    have HLL := Lib.hid (show (l ++ acc).length + 1 ≤ 1000000 by rw [List.length_append, HA.out]; have := HL.out; have := HK.out; omega)
    by_cases hlt : 127 < m
    · have hlti : (128 : Int) ≤ m := by omega
      have HK8 := Lib.hid (show k ≤ 8 by
        refine Classical.byContradiction fun h => ?_
        have : k = 9 := by have := HK.out; omega
        subst this
        have := HM.out
        simp at this
        omega)
      have HQ2 := Lib.hid (show lebB 9 n = (acc ++ [UInt8.ofNat (m % 128 + 128)]) ++ lebB (9 - (k + 1)) (m / 128) by
        rw [HQ.out]
        obtain ⟨f, hf⟩ : ∃ f, 9 - k = f + 1 := ⟨8 - k, by have := HK8.out; omega⟩
        rw [hf, lebB, if_pos hlt, show 9 - (k + 1) = f by omega, List.append_assoc]; rfl)
      have HM3 := Lib.hid (show m / 128 < 2 ^ (64 - 7 * (k + 1)) by
        have h1 := HM.out
        have e : 64 - 7 * k = (64 - 7 * (k + 1)) + 7 := by have := HK8.out; omega
        rw [e, Nat.pow_add] at h1
        omega)
      have hor := u8_or128_any ((m : Int) % 256) (by omega) (by omega)
      have hor2 : bits BinOp.or IntKind.u8 ((m : Int) % 256) 128 = ((m % 128 + 128 : Nat) : Int) := by rw [hor]; omega
      clear hor
      go_wp2_with fail
      have HR := Lib.hid (one_reads wr (m % 128 + 128) (by omega) (.int .u8 ((m : Int) % 128 + 128)) (congrArg (Value.int .u8) (by omega)))
      have HWN := Lib.hid (HW2.out.grow (Grow.alloc wr (.cells #[.int .u8 ((m : Int) % 128 + 128)] 5)))
      have HBN := Lib.hid (show Bk B w (wr.alloc (.cells #[.int .u8 ((m : Int) % 128 + 128)] 5)) from HBL.out.alloc HBw.out _)
      refine (wput_any HWN.out _ _ 1 _ _ rfl HR.out HLL.out).mono ?_
      rintro _ w3 ⟨rfl, ho⟩
      have HO := Lib.hid (WrOut.more HBN.out ho)
      clear ho
      go_wp2_with fail
      go_roundw
      case rel =>
        refine ⟨k + 1, m / 128, acc ++ [UInt8.ofNat (m % 128 + 128)], by have := HK8.out; omega, ?_, by rw [List.length_append, HA.out]; rfl, HM3.out, HQ2.out, ?_, ?_⟩
        · simp
        · have h := HO.out
          unfold WrOut at h
          rw [← List.append_assoc]; exact h.1
        · have h := HO.out
          unfold WrOut at h
          exact h.2
      case measure =>
        simp [RowKit.intOf]
        omega
    · have hlti : ¬ (128 : Int) ≤ m := by omega
      go_wp2_with fail
      have HR := Lib.hid (one_reads wr m (by omega) _ rfl)
      have HWN := Lib.hid (HW2.out.grow (Grow.alloc wr (.cells #[.int .u8 (m : Int)] 5)))
      have HBN := Lib.hid (show Bk B w (wr.alloc (.cells #[.int .u8 (m : Int)] 5)) from HBL.out.alloc HBw.out _)
      refine (wput_any HWN.out _ _ 1 _ _ rfl HR.out HLL.out).mono ?_
      rintro _ w3 ⟨rfl, ho⟩
      have HO := Lib.hid (WrOut.more HBN.out ho)
      clear ho
      go_wp2_with fail
      go_end0
      refine ⟨rfl, ?_⟩
      rw [HQ.out, lebB_one _ m hlt, ← List.append_assoc]
      exact HO.out
set_option maxHeartbeats 4000000 in
theorem fold_any (w : World) (x : Int) (y : Nat) (h1 : -1000000000000000000 ≤ x) (h2 : x ≤ 1000000000000000000) (hy : bits .xor .u64 (IntKind.u64.wrap (x * 2)) (IntKind.u64.wrap (x / 9223372036854775808)) = (y : Int)) : Calls Tryz.prog 157 #[.int .i64 x] w fun e w' => e = .returned (.int .u64 y) ∧ w' = w := by
  go_enter Tryz.func157, Tryz.ntmps157
  go_wp2
  go_ret
  exact ⟨rfl, rfl⟩
set_option maxHeartbeats 4000000 in
theorem lputi_any {w : World} {B b : Nat} {v : Value} {l : Top.Bytes} (h : WrAt w B b v l) (x : Int) (y : Nat) (h1 : -1000000000000000000 ≤ x) (h2 : x ≤ 1000000000000000000) (hy : bits .xor .u64 (IntKind.u64.wrap (x * 2)) (IntKind.u64.wrap (x / 9223372036854775808)) = (y : Int)) (hn : y < 2 ^ 64) (hl : l.length ≤ 999000) (hB : B ≤ w.heap.size) :
    Calls Tryz.prog 128 #[.pointer (some ⟨b, 0, none⟩), .int .i64 x] w fun e w' => e = .returned (.tuple #[]) ∧ WrOut w B b (l ++ lebB 9 y) w' := by
  go_enter Tryz.func128, Tryz.ntmps128
  go_wp2_with fail
  refine (fold_any w x y h1 h2 hy).mono ?_
  rintro _ _ ⟨rfl, rfl⟩
  go_wp2_with fail
  refine (lput_any h y hn hl hB).mono ?_
  rintro _ w2 ⟨rfl, ho⟩
  go_wp2_with fail
  go_end0
  exact ⟨rfl, ho⟩
theorem bitLenAux_le : ∀ (f x k : Nat), x < 2 ^ k → bitLenAux f x ≤ k
  | 0, x, k, _ => Nat.zero_le _
  | f + 1, x, k, h => by
    rw [bitLenAux]
    split
    · exact Nat.zero_le _
    · rename_i h0
      cases k with
      | zero => simp at h; omega
      | succ k =>
        have := bitLenAux_le f (x / 2) k (by rw [Nat.pow_succ] at h; omega)
        omega
set_option maxHeartbeats 4000000 in
theorem fits_any (w : World) (n c : Nat) (hn : n < 2 ^ 64) (hc1 : 1 ≤ c) (hc : c ≤ 10) (hf : n < 2 ^ (7 * c)) : Calls Tryz.prog 131 #[.int .u64 n, .int .i64 c] w fun e w' => e = .returned (.bool true) ∧ w' = w := by
  have i1 : (1 : Int) ≤ (c : Int) := by omega
  have i2 : (c : Int) ≤ 10 := by omega
  have HL := Lib.hid (bitLenAux_le 64 n (7 * c) hf)
  have HN := Lib.hid hn
  clear hf hn
  go_enter Tryz.func131, Tryz.ntmps131
  go_wp2_with fail
  refine (Tryz.bits_Len64 (n : Int) w (by omega) (by have := HN.out; omega)).mono ?_
  rintro _ _ ⟨rfl, rfl⟩
  have hb : ((Lib.bitLen n : Nat) : Int) ≤ 7 * (c : Int) := by have := HL.out; unfold Lib.bitLen; omega
  rw [Int.toNat_natCast]
  generalize Lib.bitLen n = q at hb ⊢
  go_wp2
  go_ret
  exact ⟨rfl, rfl⟩
set_option maxHeartbeats 4000000 in
theorem sput_any {w : World} {B b : Nat} {v : Value} {l : Top.Bytes} (h : WrAt w B b v l) (n c : Nat) (hn : n < 2 ^ 64) (hc1 : 1 ≤ c) (hc : c ≤ 10) (hf : n < 2 ^ (7 * c)) (hl : l.length ≤ 999000) (hB : B ≤ w.heap.size) :
    Calls Tryz.prog 95 #[.pointer (some ⟨b, 0, none⟩), .int .u64 n, .int .i64 c] w fun e w' => e = .returned (.int .i64 0) ∧ WrOut w B b (l ++ septB c n) w' := by
  have HW := Lib.hid h; clear h
  have HL := Lib.hid hl; clear hl
  have HN := Lib.hid hn; clear hn
  have HB := Lib.hid hB; clear hB
  have HF := Lib.hid (fits_any w n c HN.out hc1 hc hf); clear hf
  have i1 : ¬ (c : Int) < 1 := by omega
  have i2 : ¬ (10 : Int) < (c : Int) := by omega
  have e1 : decide ((c : Int) < 1) = false := decide_eq_false i1
  have e2 : decide ((10 : Int) < (c : Int)) = false := decide_eq_false i2
  have HC := Lib.hid hc
  clear hc1 hc
  go_enter Tryz.func95, Tryz.ntmps95
  go_wp2_with fail
  refine HF.out.mono ?_
  rintro _ w5 ⟨rfl, rfl⟩
  go_wp2_with fail
  go_loopw [23, 1] (fun i x wr => ∃ k : Nat, k ≤ c ∧ i = .int .i64 k ∧ x = .int .u64 ((n / 128 ^ k : Nat) : Int) ∧ (∃ v, WrAt wr B b v (l ++ septB k n)) ∧ Bk B w5 wr) (fun i _ _ => c - (RowKit.intOf i).toNat)
  case atStart => exact ⟨0, Nat.zero_le _, rfl, by simp, ⟨v, by rw [septB, List.append_nil]; exact HW.out⟩, Bk.refl _ _⟩
  case round =>
    obtain ⟨k, hk, rfl, rfl, ⟨v2, hw2⟩, hbel⟩ := hrel
    have HBL := Lib.hid hbel
    have HBw := Lib.hid (Nat.le_trans HB.out hbel.size)
    clear hbel
    have HW2 := Lib.hid hw2; clear hw2
    have HS := Lib.hid (septB_snoc k n)
    have HSL := Lib.hid (septB_len k n)
    have HP := Lib.hid (show n / 128 ^ (k + 1) = n / 128 ^ k / 128 by rw [Nat.pow_succ, Nat.div_div_eq_div_mul])
    have HM := Lib.hid (show n / 128 ^ k < 2 ^ 64 from Nat.lt_of_le_of_lt (Nat.div_le_self _ _) HN.out)
    by_cases hlt : k < c
    · have hlti : (k : Int) < c := by omega
      generalize n / 128 ^ k = m at *
      have hm0 : (0 : Int) ≤ (m : Int) := by omega
      have hand : bits BinOp.and IntKind.u64 (m : Int) 127 = (m : Int) % 128 := bits_mask .u64 64 (by decide) (fun n h0 h1 => by rw [IntKind.wrap_u64]; omega) 7 (by decide) _ (by omega) (by have := HM.out; omega)
      go_wp2_with fail

      have HR := Lib.hid (one_reads wr (m % 128) (by omega) (.int .u8 ((m : Int) % 128)) (congrArg (Value.int .u8) (by omega)))
      have HWN := Lib.hid (HW2.out.grow (Grow.alloc wr (.cells #[.int .u8 ((m : Int) % 128)] 5)))
      have HBN := Lib.hid (show Bk B w5 (wr.alloc (.cells #[.int .u8 ((m : Int) % 128)] 5)) from HBL.out.alloc HBw.out _)
      refine (wput_any HWN.out _ _ 1 _ _ rfl HR.out (by rw [List.length_append, HSL.out]; have := HL.out; have := HC.out; omega)).mono ?_
      rintro _ w3 ⟨rfl, ho⟩
      have HO := Lib.hid (WrOut.more HBN.out ho)
      clear ho
      go_wp2_with fail
      go_roundw
      case rel =>
        refine ⟨k + 1, by omega, by go_num, ?_, ?_, ?_⟩
        · rw [HP.out]; simp
        · have h := HO.out
          unfold WrOut at h
          rw [HS.out, ← List.append_assoc]; exact h.1
        · have h := HO.out
          unfold WrOut at h
          exact h.2
      case measure =>
        simp [RowKit.intOf]
        omega
    · have hlti : ¬ (k : Int) < c := by omega
      obtain rfl : k = c := by omega
      go_wp2_with fail
      go_ret
      refine ⟨rfl, ?_⟩
      unfold WrOut
      exact ⟨⟨v2, HW2.out⟩, HBL.out⟩
end Go.Proofs.YtnhmdinpfcoebaaGreatDoor
end

/-! === Coil -/
section
/- coil.steps, put, Size, Print. -/
namespace Go.Proofs.YtnhmdinpfcoebaaGreatDoor
open Go.RowKit
set_option linter.unusedVariables false
set_option linter.unusedSimpArgs false
set_option maxRecDepth 100000

open Go.Lib
set_option maxHeartbeats 4000000 in
theorem csteps_w (w : World) (p e : Top.Ev) (h1 : p.count ≤ e.count) (h2 : p.cycle ≤ e.cycle) (h3 : e.count < 1000000) (h4 : e.cycle < 1000000) :
    Calls Tryz.prog 89 #[.agg (evC p), .agg (evC e)] w fun x w' => x = .returned (.tuple #[.int .u64 ((e.count - p.count : Nat) : Int), .int .i64 ((e.cycle : Int) - p.cycle - ((e.count : Int) - p.count)), .bool true]) ∧ Grow w w' := by
  obtain ⟨pk, pc, pn, pa, pb, pv⟩ := p
  obtain ⟨ek, ec, en, ea, eb, ev⟩ := e
  simp only at h1 h2 h3 h4
  have i1 : ¬ (en : Int) < pn := by omega
  have i2 : ¬ (ec : Int) < pc := by omega
  have i3 : ¬ (4294967295 : Int) < (en : Int) - pn := by omega
  have i4 : (0 : Int) ≤ (en : Int) - pn := by omega
  have i5 : (0 : Int) ≤ (ec : Int) - pc := by omega
  have i6 : (en : Int) < 1000000 := by omega
  have i7 : (ec : Int) < 1000000 := by omega
  unfold evC
  rw [show ((en - pn : Nat) : Int) = (en : Int) - pn by omega]
  clear h1 h2 h3 h4
  have x1 : (en : Int) - pn < 1000000 := by omega
  have y1 : (ec : Int) - pc < 1000000 := by omega
  clear i6 i7
  rcases Int.lt_trichotomy ((en : Int) - pn) ((ec : Int) - pc) with hc | hc | hc
  · have hc2 : ¬ (ec : Int) - pc < (en : Int) - pn := by omega
    go_enter Tryz.func89, Tryz.ntmps89
    go_upto_region 5 with (fail)
    generalize hx : (en : Int) - pn = x at *
    generalize hy : (ec : Int) - pc = y at *
    have HX := Lib.hid hx; clear hx
    have HY := Lib.hid hy; clear hy
    have z0 : (0 : Int) ≤ y - x := by omega
    have z1 : ¬ (2147483648 : Int) ≤ y - x := by omega
    have z2 : (y - x : Int) < 1000000 := by omega
    go_wp2
    go_ret3
    exact ⟨by rw [HX.out, HY.out]; rfl, (Grow.alloc _ _).trans (Grow.alloc _ _)⟩
  · have hc2 : ¬ (ec : Int) - pc < (en : Int) - pn := by omega
    have hc3 : ¬ (en : Int) - pn < (ec : Int) - pc := by omega
    clear hc
    go_enter Tryz.func89, Tryz.ntmps89
    go_upto_region 5 with (fail)
    generalize hx : (en : Int) - pn = x at *
    generalize hy : (ec : Int) - pc = y at *
    have HX := Lib.hid hx; clear hx
    have HY := Lib.hid hy; clear hy
    go_wp2
    go_ret3
    exact ⟨by rw [HX.out, HY.out]; rfl, (Grow.alloc _ _).trans (Grow.alloc _ _)⟩
  · have hc2 : ¬ (en : Int) - pn < (ec : Int) - pc := by omega
    go_enter Tryz.func89, Tryz.ntmps89
    go_upto_region 5 with (fail)
    generalize hx : (en : Int) - pn = x at *
    generalize hy : (ec : Int) - pc = y at *
    have HX := Lib.hid hx; clear hx
    have HY := Lib.hid hy; clear hy
    have z0 : (0 : Int) ≤ x - y := by omega
    have z1 : ¬ (2147483648 : Int) < x - y := by omega
    have z2 : (x - y : Int) < 1000000 := by omega
    go_wp2
    go_ret3
    exact ⟨by rw [HX.out, HY.out]; rfl, (Grow.alloc _ _).trans (Grow.alloc _ _)⟩
/-- An event, as coil.put writes it. -/
def optB (r : Bool) (n : Nat) : Top.Bytes := if r then lebB 9 n else []
def coilB (e : Top.Ev) (d y : Nat) : Top.Bytes := [UInt8.ofNat e.kind.toNat] ++ (lebB 9 d ++ (lebB 9 y ++ (optB (decide ((Top.shape e.kind).1 ≠ 0)) e.a ++ (optB (decide ((Top.shape e.kind).2.1 ≠ 0)) e.b ++ optB (decide ((Top.shape e.kind).2.2 ≠ 0)) e.v))))
theorem lebB_le (n : Nat) : (lebB 9 n).length ≤ 10 := lebB_len 9 n
theorem optB_le (r : Bool) (n : Nat) : (optB r n).length ≤ 10 := by
  unfold optB
  split
  · exact lebB_le n
  · exact Nat.zero_le _
/-- A writer, some way on. -/
structure WS (w0 w : World) (B b g : Nat) (e : Top.Ev) (l : Top.Bytes) (m : Nat) : Prop where
  o : WrOut w0 B b l w
  n : l.length ≤ m
  x : w.heap[g]? = some (.cells (evC e) 98 (0, 0))
  s : B ≤ w.heap.size
theorem WS.leb {w0 w w' : World} {B b g m : Nat} {e : Top.Ev} {l x : Top.Bytes} (h : WS w0 w B b g e l m) (ho : WrOut w B b (l ++ x) w') (hx : x.length ≤ 10) : WS w0 w' B b g e (l ++ x) (m + 10) := by
  have h1 := h.o
  unfold WrOut at h1 ho
  refine ⟨?_, by rw [List.length_append]; have := h.n; omega, ho.2.k g _ 98 _ (by decide) (by decide) h.x, Nat.le_trans h.s ho.2.size⟩
  unfold WrOut
  exact ⟨ho.1, h1.2.trans ho.2⟩
theorem WS.grow {w0 w w' : World} {B b g m : Nat} {e : Top.Ev} {l : Top.Bytes} (h : WS w0 w B b g e l m) (hg : Grow w w') : WS w0 w' B b g e l m := by
  have h1 := h.o
  unfold WrOut at h1
  obtain ⟨⟨v, hv⟩, hb⟩ := h1
  refine ⟨?_, h.n, hg.at h.x, Nat.le_trans h.s hg.size⟩
  unfold WrOut
  exact ⟨⟨v, hv.grow hg⟩, hb.trans (Bk.grow hg h.s)⟩
theorem WS.wr {w0 w : World} {B b g m : Nat} {e : Top.Ev} {l : Top.Bytes} (h : WS w0 w B b g e l m) : ∃ v, WrAt w B b v l := by
  have h1 := h.o
  unfold WrOut at h1
  exact h1.1
theorem WS.out {w0 w : World} {B b g m : Nat} {e : Top.Ev} {l l' : Top.Bytes} (h : WS w0 w B b g e l m) (hl : l = l') : WrOut w0 B b l' w := hl ▸ h.o
set_option maxHeartbeats 8000000 in
theorem cput_any {w : World} {B b : Nat} {v : Value} {l : Top.Bytes} (h : WrAt w B b v l) (e : Top.Ev) (hk0 : 0 ≤ e.kind) (hk1 : e.kind < 256) (ha : e.a < 2 ^ 32 ∧ e.b < 2 ^ 32 ∧ e.v < 2 ^ 32) (d : Nat) (hd : d < 2 ^ 64) (x : Int) (y : Nat) (hx1 : -1000000000000000000 ≤ x) (hx2 : x ≤ 1000000000000000000) (hy : bits .xor .u64 (IntKind.u64.wrap (x * 2)) (IntKind.u64.wrap (x / 9223372036854775808)) = (y : Int)) (hyn : y < 2 ^ 64) (hl : l.length ≤ 990000) (hB : B ≤ w.heap.size) :
    Calls Tryz.prog 90 #[.pointer (some ⟨b, 0, none⟩), .agg (evC e), .int .u64 d, .int .i64 x] w fun r w' => r = .returned (.tuple #[]) ∧ WrOut w B b (l ++ coilB e d y) w' := by
  have HA := Lib.hid ha; clear ha
  have HD := Lib.hid hd; clear hd
  have HY := Lib.hid (And.intro hy hyn); clear hy hyn
  have HW0 := Lib.hid (show WS w (w.alloc (.cells (evC e) 98)) B b w.heap.size e l 990000 from ⟨by unfold WrOut; exact ⟨⟨v, h.grow (Grow.alloc _ _)⟩, Bk.grow (Grow.alloc _ _) hB⟩, hl, heapAt_alloc_new _ _, Nat.le_trans hB (Grow.alloc w (.cells (evC e) 98)).size⟩)
  have HF := Lib.hid (fun w => fields_any w e.kind)
  have HC := Lib.hid (show coilB e d y = [UInt8.ofNat e.kind.toNat] ++ (lebB 9 d ++ (lebB 9 y ++ (optB (decide ((Top.shape e.kind).1 ≠ 0)) e.a ++ (optB (decide ((Top.shape e.kind).2.1 ≠ 0)) e.b ++ optB (decide ((Top.shape e.kind).2.2 ≠ 0)) e.v)))) from rfl)
  generalize decide ((Top.shape e.kind).1 ≠ 0) = r1 at HF HC
  generalize decide ((Top.shape e.kind).2.1 ≠ 0) = r2 at HF HC
  generalize decide ((Top.shape e.kind).2.2 ≠ 0) = r3 at HF HC
  clear h hl hB
  go_enter Tryz.func90, Tryz.ntmps90
  go_upto_region 1 with (fail)
  generalize w.heap.size = g at HW0 ⊢
  generalize w.alloc (.cells (evC e) 98) = w1 at HW0 ⊢
  have c0 := cell_block HW0.out.x 0
  simp [evC] at c0
  go_wp2_with fail
  have HR := Lib.hid (one_reads w1 e.kind.toNat (by omega) (.int .u8 e.kind) (congrArg (Value.int .u8) (by omega)))
  have HW1 := Lib.hid (HW0.out.grow (Grow.alloc w1 (.cells #[.int .u8 e.kind] 5)))
  obtain ⟨v1, hv1⟩ := HW1.out.wr
  refine (wput_any hv1 _ _ 1 _ _ rfl HR.out (by have := HW1.out.n; omega)).mono ?_
  rintro _ w2 ⟨rfl, ho⟩
  have HW2 := Lib.hid (HW1.out.leb ho (by simp))
  clear ho hv1 HR HW1 HW0 c0
  obtain ⟨v2, hv2⟩ := HW2.out.wr
  go_wp2_with fail
  refine (lput_any hv2 d HD.out (by have := HW2.out.n; omega) HW2.out.s).mono ?_
  rintro _ w3 ⟨rfl, ho⟩
  have HW3 := Lib.hid (HW2.out.leb ho (lebB_le d))
  clear ho hv2 HW2
  obtain ⟨v3, hv3⟩ := HW3.out.wr
  go_wp2_with fail
  refine (lputi_any hv3 x y hx1 hx2 HY.out.1 HY.out.2 (by have := HW3.out.n; omega) HW3.out.s).mono ?_
  rintro _ w4 ⟨rfl, ho⟩
  have HW4 := Lib.hid (HW3.out.leb ho (lebB_le y))
  clear ho hv3 HW3
  have c0 := cell_block HW4.out.x 0
  simp [evC] at c0
  go_wp2_with fail
  refine (HF.out w4).mono ?_
  rintro _ w5 ⟨rfl, hg⟩
  have HW5 := Lib.hid (HW4.out.grow hg)
  clear hg c0 HW4
  cases r1
  · skip
    cases r2
    · skip
      cases r3
      · skip
        go_wp2_with fail
        go_end0
        exact ⟨rfl, HW5.out.out (by rw [HC.out]; simp [optB])⟩
      · have c5 := cell_block HW5.out.x 5
        simp [evC] at c5
        have k2 : e.v < 4294967296 := by have := HA.out; omega
        obtain ⟨vHW5v, hvHW5v⟩ := HW5.out.wr
        go_wp2_with fail
        refine (lput_any hvHW5v e.v (by omega) (by have := HW5.out.n; omega) HW5.out.s).mono ?_
        rintro _ wHW5v ⟨rfl, ho⟩
        have HW5v := Lib.hid (HW5.out.leb ho (lebB_le e.v))
        clear ho hvHW5v c5 k2
        go_wp2_with fail
        go_end0
        exact ⟨rfl, HW5v.out.out (by rw [HC.out]; simp [optB])⟩
    · have c4 := cell_block HW5.out.x 4
      simp [evC] at c4
      have k1 : e.b < 4294967296 := by have := HA.out; omega
      obtain ⟨vHW5b, hvHW5b⟩ := HW5.out.wr
      go_wp2_with fail
      refine (lput_any hvHW5b e.b (by omega) (by have := HW5.out.n; omega) HW5.out.s).mono ?_
      rintro _ wHW5b ⟨rfl, ho⟩
      have HW5b := Lib.hid (HW5.out.leb ho (lebB_le e.b))
      clear ho hvHW5b c4 k1
      cases r3
      · skip
        go_wp2_with fail
        go_end0
        exact ⟨rfl, HW5b.out.out (by rw [HC.out]; simp [optB])⟩
      · have c5 := cell_block HW5b.out.x 5
        simp [evC] at c5
        have k2 : e.v < 4294967296 := by have := HA.out; omega
        obtain ⟨vHW5bv, hvHW5bv⟩ := HW5b.out.wr
        go_wp2_with fail
        refine (lput_any hvHW5bv e.v (by omega) (by have := HW5b.out.n; omega) HW5b.out.s).mono ?_
        rintro _ wHW5bv ⟨rfl, ho⟩
        have HW5bv := Lib.hid (HW5b.out.leb ho (lebB_le e.v))
        clear ho hvHW5bv c5 k2
        go_wp2_with fail
        go_end0
        exact ⟨rfl, HW5bv.out.out (by rw [HC.out]; simp [optB])⟩
  · have c3 := cell_block HW5.out.x 3
    simp [evC] at c3
    have k0 : e.a < 4294967296 := by have := HA.out; omega
    obtain ⟨vHW5a, hvHW5a⟩ := HW5.out.wr
    go_wp2_with fail
    refine (lput_any hvHW5a e.a (by omega) (by have := HW5.out.n; omega) HW5.out.s).mono ?_
    rintro _ wHW5a ⟨rfl, ho⟩
    have HW5a := Lib.hid (HW5.out.leb ho (lebB_le e.a))
    clear ho hvHW5a c3 k0
    cases r2
    · skip
      cases r3
      · skip
        go_wp2_with fail
        go_end0
        exact ⟨rfl, HW5a.out.out (by rw [HC.out]; simp [optB])⟩
      · have c5 := cell_block HW5a.out.x 5
        simp [evC] at c5
        have k2 : e.v < 4294967296 := by have := HA.out; omega
        obtain ⟨vHW5av, hvHW5av⟩ := HW5a.out.wr
        go_wp2_with fail
        refine (lput_any hvHW5av e.v (by omega) (by have := HW5a.out.n; omega) HW5a.out.s).mono ?_
        rintro _ wHW5av ⟨rfl, ho⟩
        have HW5av := Lib.hid (HW5a.out.leb ho (lebB_le e.v))
        clear ho hvHW5av c5 k2
        go_wp2_with fail
        go_end0
        exact ⟨rfl, HW5av.out.out (by rw [HC.out]; simp [optB])⟩
    · have c4 := cell_block HW5a.out.x 4
      simp [evC] at c4
      have k1 : e.b < 4294967296 := by have := HA.out; omega
      obtain ⟨vHW5ab, hvHW5ab⟩ := HW5a.out.wr
      go_wp2_with fail
      refine (lput_any hvHW5ab e.b (by omega) (by have := HW5a.out.n; omega) HW5a.out.s).mono ?_
      rintro _ wHW5ab ⟨rfl, ho⟩
      have HW5ab := Lib.hid (HW5a.out.leb ho (lebB_le e.b))
      clear ho hvHW5ab c4 k1
      cases r3
      · skip
        go_wp2_with fail
        go_end0
        exact ⟨rfl, HW5ab.out.out (by rw [HC.out]; simp [optB])⟩
      · have c5 := cell_block HW5ab.out.x 5
        simp [evC] at c5
        have k2 : e.v < 4294967296 := by have := HA.out; omega
        obtain ⟨vHW5abv, hvHW5abv⟩ := HW5ab.out.wr
        go_wp2_with fail
        refine (lput_any hvHW5abv e.v (by omega) (by have := HW5ab.out.n; omega) HW5ab.out.s).mono ?_
        rintro _ wHW5abv ⟨rfl, ho⟩
        have HW5abv := Lib.hid (HW5ab.out.leb ho (lebB_le e.v))
        clear ho hvHW5abv c5 k2
        go_wp2_with fail
        go_end0
        exact ⟨rfl, HW5abv.out.out (by rw [HC.out]; simp [optB])⟩
end Go.Proofs.YtnhmdinpfcoebaaGreatDoor
end

/-! === CSize -/
section
/- coil.Size, coil.Print. -/
namespace Go.Proofs.YtnhmdinpfcoebaaGreatDoor
open Go.RowKit
set_option linter.unusedVariables false
set_option linter.unusedSimpArgs false
set_option maxRecDepth 100000

open Go.Lib
/-- What one event adds. -/
structure Step1 (p e : Top.Ev) (d y : Nat) : Prop where
  h1 : p.count ≤ e.count
  h2 : p.cycle ≤ e.cycle
  h3 : e.count < 1000000
  h4 : e.cycle < 1000000
  hd : e.count - p.count = d
  hy : bits .xor .u64 (IntKind.u64.wrap (((e.cycle : Int) - p.cycle - ((e.count : Int) - p.count)) * 2)) (IntKind.u64.wrap (((e.cycle : Int) - p.cycle - ((e.count : Int) - p.count)) / 9223372036854775808)) = (y : Int)
  yn : y < 2 ^ 64
  c : Top.evCheck e = 0
  k : 0 ≤ e.kind ∧ e.kind < 256
  a : e.a < 2 ^ 32 ∧ e.b < 2 ^ 32 ∧ e.v < 2 ^ 32
set_option maxHeartbeats 4000000 in
theorem csize_w (w : World) (p e : Top.Ev) (d y : Nat) (h : Step1 p e d y) :
    Calls Tryz.prog 60 #[.agg (evC p), .agg (evC e)] w fun r w' => r = .returned (.int .i64 (coilB e d y).length) ∧ Grow w w' := by
  have H := Lib.hid h; clear h
  have HB1 := Lib.hid (heapAt_alloc_new w (.cells (evC p) 98))
  have HB1' := Lib.hid ((Grow.alloc (w.alloc (.cells (evC p) 98)) (.cells (evC e) 98)).at HB1.out)
  have HB2 := Lib.hid (heapAt_alloc_new (w.alloc (.cells (evC p) 98)) (.cells (evC e) 98))
  have HG := Lib.hid ((Grow.alloc w (.cells (evC p) 98)).trans (Grow.alloc (w.alloc (.cells (evC p) 98)) (.cells (evC e) 98)))
  go_enter Tryz.func60, Tryz.ntmps60
  go_upto_region 1 with (fail)
  rw [show (w.alloc (.cells (evC p) 98)).heap.size = w.heap.size + 1 from Array.size_push _] at HB2
  generalize w.heap.size + 1 = g2 at HB2 ⊢
  generalize w.heap.size = g1 at HB1 HB1' ⊢
  generalize (w.alloc (.cells (evC p) 98)).alloc (.cells (evC e) 98) = w2 at HB1' HB2 HG ⊢
  clear HB1
  have c0 := cell_block HB1'.out 0
  have c1 := cell_block HB1'.out 1
  have c2 := cell_block HB1'.out 2
  have c3 := cell_block HB1'.out 3
  have c4 := cell_block HB1'.out 4
  have c5 := cell_block HB1'.out 5
  have d0 := cell_block HB2.out 0
  have d1 := cell_block HB2.out 1
  have d2 := cell_block HB2.out 2
  have d3 := cell_block HB2.out 3
  have d4 := cell_block HB2.out 4
  have d5 := cell_block HB2.out 5
  simp [evC] at c0 c1 c2 c3 c4 c5 d0 d1 d2 d3 d4 d5
  go_wp2_with fail
  refine (csteps_w w2 p e H.out.h1 H.out.h2 H.out.h3 H.out.h4).mono ?_
  rintro _ w3 ⟨rfl, hg⟩
  have HB3 := Lib.hid (hg.at HB2.out)
  have HG3 := Lib.hid (HG.out.trans hg)
  clear hg c0 c1 c2 c3 c4 c5 d0 d1 d2 d3 d4 d5 HG HB2 HB1'
  have d0 := cell_block HB3.out 0
  have d1 := cell_block HB3.out 1
  have d2 := cell_block HB3.out 2
  have d3 := cell_block HB3.out 3
  have d4 := cell_block HB3.out 4
  have d5 := cell_block HB3.out 5
  simp [evC] at d0 d1 d2 d3 d4 d5
  go_wp2_with fail
  refine (check_any w3 e).mono ?_
  rw [H.out.c]
  rintro _ w4 ⟨rfl, hg⟩
  have HB4 := Lib.hid (hg.at HB3.out)
  have HG4 := Lib.hid (HG3.out.trans hg)
  clear hg d0 d1 d2 d3 d4 d5 HG3 HB3
  go_upto_region 5 with (fail)
  have HB5 := Lib.hid ((Grow.alloc w4 (.cells #[.slice none 0 0] 212)).at HB4.out)
  have HG5 := Lib.hid (HG4.out.trans (Grow.alloc w4 (.cells #[.slice none 0 0] 212)))
  have HW := Lib.hid (WrAt.new w4 w.heap.size HG4.out.size)
  clear HB4 HG4
  generalize w4.heap.size = b at HW ⊢
  generalize w4.alloc (.cells #[.slice none 0 0] 212) = w5 at HB5 HG5 HW ⊢
  have d0 := cell_block HB5.out 0
  have d1 := cell_block HB5.out 1
  have d2 := cell_block HB5.out 2
  have d3 := cell_block HB5.out 3
  have d4 := cell_block HB5.out 4
  have d5 := cell_block HB5.out 5
  simp [evC] at d0 d1 d2 d3 d4 d5
  have hd : e.count - p.count < 2 ^ 64 := by have := H.out.h3; omega
  have hx1 : -1000000000000000000 ≤ (e.cycle : Int) - p.cycle - ((e.count : Int) - p.count) := by have := H.out.h1; have := H.out.h2; have := H.out.h3; have := H.out.h4; omega
  have hx2 : (e.cycle : Int) - p.cycle - ((e.count : Int) - p.count) ≤ 1000000000000000000 := by have := H.out.h1; have := H.out.h2; have := H.out.h3; have := H.out.h4; omega
  have HP := Lib.hid (cput_any HW.out e H.out.k.1 H.out.k.2 H.out.a (e.count - p.count) hd _ y hx1 hx2 H.out.hy H.out.yn (by simp) HG5.out.size)
  clear hd hx1 hx2
  go_wp2_with fail
  refine HP.out.mono ?_
  rintro _ w6 ⟨rfl, ho⟩
  unfold WrOut at ho
  obtain ⟨⟨v, hv⟩, hb⟩ := ho
  have HG6 := Lib.hid (show Grow w w6 from Below.trans HG5.out hb.b)
  clear hb HP d0 d1 d2 d3 d4 d5
  go_wp2_with fail
  refine (wlen_any hv).mono ?_
  rintro _ w7 ⟨rfl, rfl⟩
  go_wp2
  go_ret
  exact ⟨by rw [← H.out.hd]; simp, HG6.out⟩
end Go.Proofs.YtnhmdinpfcoebaaGreatDoor
end

/-! === CPrint -/
section
/- coil.Print. -/
namespace Go.Proofs.YtnhmdinpfcoebaaGreatDoor
open Go.RowKit
set_option linter.unusedVariables false
set_option linter.unusedSimpArgs false
set_option maxRecDepth 100000

open Go.Lib
def runB (f : Nat → Top.Ev) (d y : Nat → Nat) : Nat → Top.Bytes
  | 0 => []
  | k + 1 => runB f d y k ++ coilB (f k) (d k) (y k)
theorem coilB_le (e : Top.Ev) (d y : Nat) : (coilB e d y).length ≤ 51 := by
  unfold coilB
  simp only [List.length_append, List.length_singleton]
  have := lebB_le d
  have := lebB_le y
  have := optB_le (decide ((Top.shape e.kind).1 ≠ 0)) e.a
  have := optB_le (decide ((Top.shape e.kind).2.1 ≠ 0)) e.b
  have := optB_le (decide ((Top.shape e.kind).2.2 ≠ 0)) e.v
  omega
theorem runB_le (f : Nat → Top.Ev) (d y : Nat → Nat) : ∀ k, (runB f d y k).length ≤ 51 * k
  | 0 => Nat.le_refl _
  | k + 1 => by
    rw [runB, List.length_append]
    have := runB_le f d y k
    have := coilB_le (f k) (d k) (y k)
    omega
attribute [local simp] RelKnown Is
set_option maxHeartbeats 8000000 in
theorem cprint_w (w : World) (A : Option Addr) (n cp : Nat) (f : Nat → Top.Ev) (d y : Nat → Nat) (hA : EvRd w A n f) (hn : n ≤ 1000) (hs : ∀ k, k < n → Step1 (f (k - 1)) (f k) (d k) (y k)) :
    Calls Tryz.prog 92 #[.slice A n cp] w fun e w' => e = .returned (.tuple #[.string ⟨(runB f d y n).toArray⟩, .int .i64 0]) ∧ Grow w w' := by
  have HA := Lib.hid hA; clear hA
  have HS := Lib.hid hs; clear hs
  have hni : (n : Int) ≤ 1000 := by omega
  have HN := Lib.hid hn; clear hn
  have HW0 := Lib.hid (WrAt.new w w.heap.size (Nat.le_refl _))
  have HB0 := Lib.hid (Bk.grow (Grow.alloc w (.cells #[.slice none 0 0] 212)) (Nat.le_refl _))
  go_enter Tryz.func92, Tryz.ntmps92
  go_upto_region 3 with (fail)
  obtain ⟨b, hb⟩ : ∃ b, b = w.heap.size := ⟨_, rfl⟩
  rw [← hb] at HW0 HB0 ⊢
  have HBB := Lib.hid hb; clear hb
  generalize w.alloc (.cells #[.slice none 0 0] 212) = w1 at HW0 HB0 ⊢
  go_loopw [12] (fun i wr => ∃ k : Nat, k ≤ n ∧ i = .int .i64 k ∧ (∃ v, WrAt wr b b v (runB f d y k)) ∧ Bk b w wr) (fun i _ => n - (RowKit.intOf i).toNat)
  case atStart => exact ⟨0, Nat.zero_le _, rfl, ⟨_, HW0.out⟩, HB0.out⟩
  case round =>
    clear HW0 HB0
    obtain ⟨k, hk, rfl, ⟨v, hv⟩, hbk⟩ := hrel
    have HV := Lib.hid hv; clear hv
    have HBK := Lib.hid hbk; clear hbk
    have HG := Lib.hid (show Grow w wr by have := HBK.out.b; rw [HBB.out] at this; exact this)
    by_cases hlt : k < n
    · have hlti : (k : Int) < n := by omega
      have k0 : (0 : Int) ≤ (k : Int) := by omega
      obtain ⟨a, hAa, p0, p1, p2, p3, p4, p5⟩ := (HA.out.grow HG.out).at k hlt
      rw [hAa]
      have HX := Lib.hid (heapAt_alloc_new wr (.cells (evC (f k)) 98))
      have HV1 := Lib.hid (HV.out.grow (Grow.alloc wr (.cells (evC (f k)) 98)))
      have HBK1 := Lib.hid (HBK.out.trans (Bk.grow (Grow.alloc wr (.cells (evC (f k)) 98)) (by rw [HBB.out]; exact HG.out.size)))
      go_upto_region 5 with (fail)
      unfold evC at HX HV1 HBK1
      clear p0 p1 p2 p3 p4 p5
      generalize wr.heap.size = g at HX ⊢
      generalize wr.alloc (.cells #[.int .i64 (f k).kind, .int .u64 (f k).cycle, .int .u64 (f k).count, .int .u32 (f k).a, .int .u32 (f k).b, .int .u32 (f k).v] 98) = wa at HX HV1 HBK1 ⊢
      have d0 := cell_block HX.out 0
      have d1 := cell_block HX.out 1
      have d2 := cell_block HX.out 2
      have d3 := cell_block HX.out 3
      have d4 := cell_block HX.out 4
      have d5 := cell_block HX.out 5
      simp at d0 d1 d2 d3 d4 d5
      go_wp2_with fail
      refine (check_any wa (f k)).mono ?_
      rw [(HS.out k hlt).c]
      rintro _ wc ⟨rfl, hg⟩
      have HX2 := Lib.hid (hg.at HX.out)
      have HV2 := Lib.hid (HV1.out.grow hg)
      have HBa := Lib.hid (show b ≤ wa.heap.size by have := HBK1.out.size; rw [HBB.out]; exact this)
      have HBK2 := Lib.hid (HBK1.out.trans (Bk.grow hg HBa.out))
      clear hg d0 d1 d2 d3 d4 d5 HX HV1 HBK1 HBa
      have HG2 := Lib.hid (show Grow w wc by have := HBK2.out.b; rw [HBB.out] at this; exact this)
      have d0 := cell_block HX2.out 0
      have d1 := cell_block HX2.out 1
      have d2 := cell_block HX2.out 2
      have d3 := cell_block HX2.out 3
      have d4 := cell_block HX2.out 4
      have d5 := cell_block HX2.out 5
      simp at d0 d1 d2 d3 d4 d5
      obtain ⟨a', hAa', p0, p1, p2, p3, p4, p5⟩ := (HA.out.grow HG2.out).at (k - 1) (by omega)
      rw [hAa] at hAa'
      injection hAa' with hAa'
      subst hAa'
      have HST := Lib.hid (HS.out k hlt)
      have hwr : IntKind.i64.wrap ((k : Int) - 1) = (k : Int) - 1 := by rw [IntKind.wrap_i64]; omega
      have hmx : max ((k : Int) - 1) 0 = ((k - 1 : Nat) : Int) := by omega
      generalize hm : k - 1 = m at *
      have HM := Lib.hid hm; clear hm
      have hm0 : (0 : Int) ≤ (m : Int) := by omega
      have hm1 : (m : Int) < (n : Int) := by have := HM.out; omega
      go_upto_region 7 with (fail)
      go_region_with (go_at_call 89; refine (csteps_w _ (f m) (f k) HST.out.h1 HST.out.h2 HST.out.h3 HST.out.h4).mono ?_; rintro _ wd ⟨rfl, hg⟩; have HGD := Lib.hid (show Grow wc wd from Grow.trans (show Grow wc wc.drew from Grow.drewN wc 1) hg); have p0 := cell_below HGD.out (Nat.le_refl _) p0; have p1 := cell_below HGD.out (Nat.le_refl _) p1; have p2 := cell_below HGD.out (Nat.le_refl _) p2; have p3 := cell_below HGD.out (Nat.le_refl _) p3; have p4 := cell_below HGD.out (Nat.le_refl _) p4; have p5 := cell_below HGD.out (Nat.le_refl _) p5; clear hg)
      all_goals
        have HX3 := Lib.hid (HGD.out.at HX2.out)
        have HV3 := Lib.hid (HV2.out.grow HGD.out)
        have HBK3 := Lib.hid (HBK2.out.trans (Bk.grow HGD.out (by rw [HBB.out]; exact HG2.out.size)))
        have hbd : b ≤ wd.heap.size := by rw [HBB.out]; exact HBK3.out.size
        clear d0 d1 d2 d3 d4 d5 p0 p1 p2 p3 p4 p5 hwr hmx
        have d0 := cell_block HX3.out 0
        have d1 := cell_block HX3.out 1
        have d2 := cell_block HX3.out 2
        have d3 := cell_block HX3.out 3
        have d4 := cell_block HX3.out 4
        have d5 := cell_block HX3.out 5
        simp at d0 d1 d2 d3 d4 d5
        have hdd : (f k).count - (f m).count < 2 ^ 64 := by have := HST.out.h3; omega
        have hx1 : -1000000000000000000 ≤ ((f k).cycle : Int) - (f m).cycle - (((f k).count : Int) - (f m).count) := by have := HST.out.h1; have := HST.out.h2; have := HST.out.h3; have := HST.out.h4; omega
        have hx2 : ((f k).cycle : Int) - (f m).cycle - (((f k).count : Int) - (f m).count) ≤ 1000000000000000000 := by have := HST.out.h1; have := HST.out.h2; have := HST.out.h3; have := HST.out.h4; omega
        have HP := Lib.hid (cput_any HV3.out (f k) HST.out.k.1 HST.out.k.2 HST.out.a _ hdd _ (y k) hx1 hx2 HST.out.hy HST.out.yn (by have := runB_le f d y k; have := HN.out; omega) hbd)
        rw [HST.out.hd] at HP
        clear hdd hx1 hx2 hbd
        go_wp2_with fail
        rw [HST.out.hd]
        refine HP.out.mono ?_
        rintro _ we ⟨rfl, ho⟩
        unfold WrOut at ho
        have HO := Lib.hid ho
        clear ho HP d0 d1 d2 d3 d4 d5
        go_wp2_with fail
        go_roundw
        case rel => exact ⟨k + 1, by omega, by go_num, HO.out.1, HBK3.out.trans HO.out.2⟩
        case measure => simp [RowKit.intOf]; omega
    · have hlti : ¬ (k : Int) < n := by omega
      obtain rfl : k = n := by omega
      go_wp2_with fail
      refine (wstr_any HV.out).mono ?_
      rintro _ w7 ⟨rfl, rfl⟩
      go_wp2
      go_ret2
      exact ⟨rfl, HG.out⟩
end Go.Proofs.YtnhmdinpfcoebaaGreatDoor
end

/-! === SSum -/
section
/- sept.Sum; rec.New, rec.Frames, the policy, wide. -/
namespace Go.Proofs.YtnhmdinpfcoebaaGreatDoor
open Go.RowKit
set_option linter.unusedVariables false
set_option linter.unusedSimpArgs false
set_option maxRecDepth 100000

open Go.Lib
set_option maxHeartbeats 4000000 in
theorem ssum_any {w : World} {B b : Nat} {v : Value} {l : Top.Bytes} (h : WrAt w B b v l) (n : Nat) (hn : n < 2 ^ 32) (hl : l.length ≤ 999000) (hB : B ≤ w.heap.size) :
    Calls Tryz.prog 96 #[.pointer (some ⟨b, 0, none⟩), .int .u32 n] w fun e w' => e = .returned (.tuple #[]) ∧ WrOut w B b (l ++ septB 5 n) w' := by
  have HP := Lib.hid (sput_any h n 5 (by omega) (by decide) (by decide) (by omega) hl hB)
  have hn2 : (n : Int) < 4294967296 := by omega
  clear h hn
  go_enter Tryz.func96, Tryz.ntmps96
  go_wp2_with fail
  refine HP.out.mono ?_
  rintro _ w2 ⟨rfl, ho⟩
  go_wp2_with fail
  go_end0
  exact ⟨rfl, ho⟩
set_option maxHeartbeats 4000000 in
theorem rnew_w (w : World) (c r : Nat) : Calls Tryz.prog 36 #[.pointer (some ⟨c, 0, none⟩), .pointer (some ⟨r, 0, none⟩), .int .i64 120] w fun e w' =>
    e = .returned (.tuple #[.pointer (some ⟨w.heap.size, 0, none⟩), .int .i64 0]) ∧ w' = w.alloc (.cells #[.pointer (some ⟨c, 0, none⟩), .pointer (some ⟨r, 0, none⟩), .int .i64 120, .slice none 0 0, .int .i64 0, .int .i64 0, .int .u64 0, .int .u64 0, .int .u32 0, .int .u32 0, .int .u32 0, .int .i64 0, .bool false] 142) := by
  go_enter Tryz.func36, Tryz.ntmps36
  go_wp2
  go_ret2
  exact ⟨rfl, rfl⟩
end Go.Proofs.YtnhmdinpfcoebaaGreatDoor
end

/-! === FPrint -/
section
/- frame.Print. -/
namespace Go.Proofs.YtnhmdinpfcoebaaGreatDoor
open Go.RowKit
set_option linter.unusedVariables false
set_option linter.unusedSimpArgs false
set_option maxRecDepth 100000

open Go.Lib
theorem csum_one (w : World) (tb : Nat) (ht : TabAt w tb) (s : ByteArray) (hs : s.size ≤ 1000000) (T : TypeId) : Calls Tryz.prog 97 #[.pointer (some ⟨tb, 0, none⟩), .slice (some ⟨w.heap.size, 0, none⟩) 1 1] (w.alloc (.cells #[.string s] T)) fun e w' => e = .returned (.int .u32 (CrcP.Sum s.data.toList).toNat) ∧ Grow w w' := by
  refine (csum_any _ tb w.heap.size 0 1 [s] (ht.grow (Grow.alloc w (.cells #[.string s] T))).is (fun i hi => ?_) (by simp) (fun i hi => ?_)).mono ?_
  · obtain rfl : i = 0 := by simp at hi; omega
    exact cell_block (heapAt_alloc_new w (.cells #[.string s] T)) 0
  · obtain rfl : i = 0 := by simp at hi; omega
    show (s.size : Int) ≤ _
    omega
  · rintro e w' ⟨rfl, m, rfl⟩
    exact ⟨by simp, (Grow.alloc w (.cells #[.string s] T)).trans (Grow.drewN _ m)⟩
/-- The world while a frame is printed. -/
structure FS (w0 w : World) (B b g tb : Nat) (x : Fr) (l : Top.Bytes) (m : Nat) : Prop where
  o : WrOut w0 B b l w
  n : l.length ≤ m
  x : w.heap[g]? = some (.cells #[.int .u32 x.seq, .slice x.A x.n x.cap] 43 (0, 0))
  t : TabAt w tb
  s : B ≤ w.heap.size
theorem FS.put {w0 w w' : World} {B b g tb m : Nat} {x : Fr} {l y : Top.Bytes} (k : Nat) (h : FS w0 w B b g tb x l m) (ho : WrOut w B b (l ++ y) w') (hy : y.length ≤ k) : FS w0 w' B b g tb x (l ++ y) (m + k) := by
  have h1 := h.o
  unfold WrOut at h1 ho
  refine ⟨?_, by rw [List.length_append]; have := h.n; omega, ho.2.k g _ 43 _ (by decide) (by decide) h.x, ho.2.k tb _ 90 _ (by decide) (by decide) h.t, Nat.le_trans h.s ho.2.size⟩
  unfold WrOut
  exact ⟨ho.1, h1.2.trans ho.2⟩
theorem FS.grow {w0 w w' : World} {B b g tb m : Nat} {x : Fr} {l : Top.Bytes} (h : FS w0 w B b g tb x l m) (hg : Grow w w') : FS w0 w' B b g tb x l m := by
  have h1 := h.o
  unfold WrOut at h1
  obtain ⟨⟨v, hv⟩, hb⟩ := h1
  refine ⟨?_, h.n, hg.at h.x, h.t.grow hg, Nat.le_trans h.s hg.size⟩
  unfold WrOut
  exact ⟨⟨v, hv.grow hg⟩, hb.trans (Bk.grow hg h.s)⟩
theorem FS.wr {w0 w : World} {B b g tb m : Nat} {x : Fr} {l : Top.Bytes} (h : FS w0 w B b g tb x l m) : ∃ v, WrAt w B b v l := by
  have h1 := h.o
  unfold WrOut at h1
  exact h1.1
theorem FS.bk {w0 w : World} {B b g tb m : Nat} {x : Fr} {l : Top.Bytes} (h : FS w0 w B b g tb x l m) : Bk B w0 w := by
  have h1 := h.o
  unfold WrOut at h1
  exact h1.2
/-- A frame, as frame.Print writes it. -/
def headB (x : Fr) (p : Top.Bytes) : Top.Bytes := mk.data.toList ++ septB 5 x.seq ++ septB 10 (x.f 0).cycle ++ septB 10 (x.f 0).count ++ septB 2 p.length
def frameB (x : Fr) (p : Top.Bytes) : Top.Bytes := headB x p ++ septB 5 (CrcP.Sum ((headB x p).drop 16)).toNat ++ p ++ septB 5 (CrcP.Sum p).toNat
theorem mk_len : mk.data.toList.length = 22 := by decide
set_option maxHeartbeats 8000000 in
theorem fprint_w (w : World) (tb : Nat) (x : Fr) (d y : Nat → Nat) (hT : TabAt w tb) (hA : EvRd w x.A x.n x.f) (hq : x.seq < 2 ^ 32) (h0 : 1 ≤ x.n) (hn : x.n ≤ 1000) (hs : ∀ k, k < x.n → Step1 (x.f (k - 1)) (x.f k) (d k) (y k)) (hl : (runB x.f d y x.n).length ≤ 120) :
    Calls Tryz.prog 61 #[.pointer (some ⟨tb, 0, none⟩), .agg (frC x.seq (.slice x.A x.n x.cap))] w fun e w' => e = .returned (.tuple #[.string ⟨(frameB x (runB x.f d y x.n)).toArray⟩, .int .i64 0]) ∧ Grow w w' := by
  have HP := Lib.hid (fun w (h : EvRd w x.A x.n x.f) => cprint_w w x.A x.n x.cap x.f d y h hn hs)
  have HF0 := Lib.hid (hs 0 h0)
  generalize hp : runB x.f d y x.n = p at *
  have HL := Lib.hid hl
  have HQ := Lib.hid hq
  have HT := Lib.hid hT
  have HA := Lib.hid hA
  have hn1 : ((x.n : Int) == 0) = false := by
    have : ¬ (x.n : Int) = 0 := by omega
    simpa using this
  have HB1 := Lib.hid (heapAt_alloc_new w (.cells (frC x.seq (.slice x.A x.n x.cap)) 43))
  have HG1 := Lib.hid (Grow.alloc w (.cells (frC x.seq (.slice x.A x.n x.cap)) 43))
  clear hT hA hq hs hl hp
  unfold frC at HB1 HG1 ⊢
  go_enter Tryz.func61, Tryz.ntmps61
  go_upto_region 1 with (fail)
  generalize w.heap.size = g at HB1 ⊢
  generalize w.alloc (.cells #[.int .u32 x.seq, .slice x.A x.n x.cap] 43) = w1 at HB1 HG1 ⊢
  have b0 := cell_block HB1.out 0
  have b1 := cell_block HB1.out 1
  simp at b0 b1
  go_wp2_with fail
  refine (HP.out w1 (HA.out.grow HG1.out)).mono ?_
  rintro _ w2 ⟨rfl, hg⟩
  have HB2 := Lib.hid (hg.at HB1.out)
  have HG2 := Lib.hid (HG1.out.trans hg)
  clear hg b0 b1 HB1 HG1 HP
  obtain ⟨pt, hpt⟩ : ∃ pt : ByteArray, pt = ⟨p.toArray⟩ := ⟨_, rfl⟩
  rw [← hpt]
  have HPT := Lib.hid (show pt.data.toList = p by rw [hpt])
  have HPS := Lib.hid (show pt.size = p.length by rw [← bl, HPT.out])
  clear hpt
  have i120 : ¬ (120 : Int) < (pt.size : Int) := by have := HPS.out; have := HL.out; omega
  go_upto_region 11 with (fail)
  have HFS := Lib.hid (show FS w (w2.alloc (.cells #[.slice none 0 0] 212)) w.heap.size w2.heap.size g tb x [] 0 from ⟨by unfold WrOut; exact ⟨⟨_, WrAt.new w2 w.heap.size HG2.out.size⟩, Bk.grow (HG2.out.trans (Grow.alloc _ _)) (Nat.le_refl _)⟩, Nat.le_refl _, (Grow.alloc _ _).at HB2.out, (HT.out.grow HG2.out).grow (Grow.alloc _ _), (HG2.out.trans (Grow.alloc _ _)).size⟩)
  clear HB2 HG2
  generalize w2.heap.size = b at HFS ⊢
  generalize w2.alloc (.cells #[.slice none 0 0] 212) = w3 at HFS ⊢
  go_wp2_with fail
  refine (mark_any w3).mono ?_
  rintro _ w4 ⟨rfl, hg⟩
  have HF0' := Lib.hid (HFS.out.grow hg)
  clear hg HFS
  obtain ⟨vA, hvA⟩ := HF0'.out.wr
  have hsA := HF0'.out.s
  have hnA := HF0'.out.n
  go_wp2_with fail
  refine (wtext_any hvA mk (by rw [← bl, mk_len]; simp)).mono ?_
  rintro _ wA ⟨rfl, ho⟩
  have HFA := Lib.hid (HF0'.out.put 22 ho (by rw [mk_len]; omega))
  clear ho hvA hsA hnA
  have b0 := cell_block HFA.out.x 0
  simp at b0
  have q1 : (x.seq : Int) < 4294967296 := by have := HQ.out; omega
  obtain ⟨vB, hvB⟩ := HFA.out.wr
  have hsB := HFA.out.s
  have hnB := HFA.out.n
  go_wp2_with fail
  refine (sput_any hvB x.seq 5 (by have := HQ.out; omega) (by decide) (by decide) (by have := HQ.out; omega) (by omega) hsB).mono ?_
  rintro _ wB ⟨rfl, ho⟩
  have HFB := Lib.hid (HFA.out.put 5 ho (by rw [septB_len]; omega))
  clear ho hvB hsB hnB
  clear b0
  obtain ⟨aC, hAC, p0, p1, p2, p3, p4, p5⟩ := (HA.out.grow HFB.out.bk.b).at 0 (by omega)
  simp only [Nat.zero_mul, add_zero'] at p1 p2
  clear p0 p3 p4 p5
  have hn0 : (0 : Int) < (x.n : Int) := by omega
  have hn00 : 0 < x.n := by omega
  have b1 := cell_block HFB.out.x 1
  simp at b1
  rw [hAC] at b1
  rw [hAC]
  have HAC := Lib.hid hAC; clear hAC
  obtain ⟨vC, hvC⟩ := HFB.out.wr
  have hsC := HFB.out.s
  have hnC := HFB.out.n
  go_wp2_with fail
  refine (sput_any hvC (x.f 0).cycle 10 (by have := HF0.out.h4; omega) (by decide) (by decide) (by have := HF0.out.h4; omega) (by omega) hsC).mono ?_
  rintro _ wC ⟨rfl, ho⟩
  have HFC := Lib.hid (HFB.out.put 10 ho (by rw [septB_len]; omega))
  clear ho hvC hsC hnC
  clear b1 p1 p2
  obtain ⟨aD, hAD, p0, p1, p2, p3, p4, p5⟩ := (HA.out.grow HFC.out.bk.b).at 0 (by omega)
  rw [HAC.out] at hAD
  injection hAD with hAD
  subst hAD
  simp only [Nat.zero_mul, add_zero'] at p2
  clear p0 p1 p3 p4 p5
  have b1 := cell_block HFC.out.x 1
  simp at b1
  rw [HAC.out] at b1
  obtain ⟨vD, hvD⟩ := HFC.out.wr
  have hsD := HFC.out.s
  have hnD := HFC.out.n
  go_wp2_with fail
  refine (sput_any hvD (x.f 0).count 10 (by have := HF0.out.h3; omega) (by decide) (by decide) (by have := HF0.out.h3; omega) (by omega) hsD).mono ?_
  rintro _ wD ⟨rfl, ho⟩
  have HFD := Lib.hid (HFC.out.put 10 ho (by rw [septB_len]; omega))
  clear ho hvD hsD hnD
  clear b1 p2
  have psz : pt.size ≤ 120 := by have := HPS.out; have := HL.out; omega
  have pszi : (pt.size : Int) < 18446744073709551616 := by omega
  obtain ⟨vE, hvE⟩ := HFD.out.wr
  have hsE := HFD.out.s
  have hnE := HFD.out.n
  go_wp2_with fail
  refine (sput_any hvE pt.size 2 (by omega) (by decide) (by decide) (by omega) (by omega) hsE).mono ?_
  rintro _ wE ⟨rfl, ho⟩
  have HFE := Lib.hid (HFD.out.put 2 ho (by rw [septB_len]; omega))
  clear ho hvE hsE hnE pszi
  obtain ⟨vF, hvF⟩ := HFE.out.wr
  have hsF := HFE.out.s
  have hnF := HFE.out.n
  have HE := Lib.hid (show ([] ++ mk.data.toList ++ septB 5 x.seq ++ septB 10 (x.f 0).cycle ++ septB 10 (x.f 0).count ++ septB 2 pt.size) = headB x p by unfold headB; rw [List.nil_append, HPS.out])
  rw [HE.out] at hvF hnF
  go_wp2_with fail
  refine (wstr_any hvF).mono ?_
  rintro _ wF ⟨rfl, rfl⟩
  obtain ⟨hs, hhs⟩ : ∃ hs : ByteArray, hs = ⟨(headB x p).toArray⟩ := ⟨_, rfl⟩
  rw [← hhs]
  have HHS := Lib.hid (show hs.data.toList = headB x p by rw [hhs])
  clear hhs
  have hhl : hs.size = (headB x p).length := by rw [← HHS.out, bl]
  have HHL := Lib.hid hhl
  have hlo : 22 ≤ (headB x p).length := by unfold headB; simp only [List.length_append, mk_len]; omega
  have h16 : (16 : Int) ≤ (hs.size : Int) := by omega
  have h16b : ¬ (hs.size : Int) < 16 := by omega
  have h16n : 16 ≤ hs.size := by omega
  clear hhl hlo hvF
  have HX := Lib.hid (show (hs.extract 16 hs.size).data.toList = (headB x p).drop 16 by rw [extract_list]; unfold rest; rw [HHS.out, List.take_of_length_le]; rw [List.length_drop, HHL.out]; omega)
  have HXS := Lib.hid (show (hs.extract 16 hs.size).size ≤ 1000000 by rw [ByteArray.size_extract]; have := HHL.out; omega)
  go_wp2_with fail
  refine (csum_one _ tb HFE.out.t _ HXS.out _).mono ?_
  rintro _ wG ⟨rfl, hg⟩
  rw [HX.out]
  have HFG := Lib.hid (HFE.out.grow hg)
  clear hg h16 h16b h16n HXS HX
  have HS1 := Lib.hid (show (CrcP.Sum ((headB x p).drop 16)).toNat < 2 ^ 32 from (CrcP.Sum ((headB x p).drop 16)).isLt)
  generalize hc1 : (CrcP.Sum ((headB x p).drop 16)).toNat = c1 at HS1 ⊢
  have HC1 := Lib.hid hc1; clear hc1
  obtain ⟨vG, hvG⟩ := HFG.out.wr
  have hsG := HFG.out.s
  have hnG := HFG.out.n
  go_wp2_with fail
  refine (ssum_any hvG c1 HS1.out (by omega) hsG).mono ?_
  rintro _ wH ⟨rfl, ho⟩
  have HFH := Lib.hid (HFG.out.put 5 ho (by rw [septB_len]; omega))
  clear ho hvG hsG hnG
  obtain ⟨vH, hvH⟩ := HFH.out.wr
  have hsH := HFH.out.s
  have hnH := HFH.out.n
  go_wp2_with fail
  refine (wtext_any hvH pt (by omega)).mono ?_
  rintro _ wI ⟨rfl, ho⟩
  have HFI := Lib.hid (HFH.out.put 120 ho (by rw [bl]; omega))
  clear ho hvH hsH hnH
  go_wp2_with fail
  refine (csum_one _ tb HFI.out.t pt (by omega) _).mono ?_
  rintro _ wJ ⟨rfl, hg⟩
  have HFJ := Lib.hid (HFI.out.grow hg)
  clear hg
  rw [HPT.out]
  have HS2 := Lib.hid (show (CrcP.Sum p).toNat < 2 ^ 32 from (CrcP.Sum p).isLt)
  generalize hc2 : (CrcP.Sum p).toNat = c2 at HS2 ⊢
  have HC2 := Lib.hid hc2; clear hc2
  obtain ⟨vJ, hvJ⟩ := HFJ.out.wr
  have hsJ := HFJ.out.s
  have hnJ := HFJ.out.n
  go_wp2_with fail
  refine (ssum_any hvJ c2 HS2.out (by omega) hsJ).mono ?_
  rintro _ wK ⟨rfl, ho⟩
  have HFK := Lib.hid (HFJ.out.put 5 ho (by rw [septB_len]; omega))
  clear ho hvJ hsJ hnJ
  obtain ⟨vK, hvK⟩ := HFK.out.wr
  go_wp2_with fail
  refine (wstr_any hvK).mono ?_
  rintro _ wL ⟨rfl, rfl⟩
  have HE2 := Lib.hid (show ([] ++ mk.data.toList ++ septB 5 x.seq ++ septB 10 (x.f 0).cycle ++ septB 10 (x.f 0).count ++ septB 2 pt.size ++ septB 5 c1 ++ pt.data.toList ++ septB 5 c2) = frameB x p by
    rw [HE.out, ← HC1.out, ← HC2.out, HPT.out]; rfl)
  rw [HE2.out]
  clear hvK
  go_wp2
  go_ret2
  exact ⟨rfl, HFK.out.bk.b⟩
end Go.Proofs.YtnhmdinpfcoebaaGreatDoor
end

/-! === Kp -/
section
/- Which blocks stay; events in rows. -/
namespace Go.Proofs.YtnhmdinpfcoebaaGreatDoor
open Go.RowKit
set_option linter.unusedVariables false
set_option linter.unusedSimpArgs false
set_option maxRecDepth 100000

/-- The blocks of P stay. -/
structure Kp (P : Nat → Prop) (w w' : World) : Prop where
  os : w'.os = w.os
  tape : w'.tape = w.tape
  output : w'.output = w.output
  size : w.heap.size ≤ w'.heap.size
  block : ∀ k, k < w.heap.size → P k → w'.heap[k]? = w.heap[k]?
theorem Kp.refl (P : Nat → Prop) (w : World) : Kp P w w := ⟨rfl, rfl, rfl, Nat.le_refl _, fun _ _ _ => rfl⟩
theorem Kp.trans {P : Nat → Prop} {w w1 w2 : World} (h : Kp P w w1) (g : Kp P w1 w2) : Kp P w w2 :=
  ⟨g.os.trans h.os, g.tape.trans h.tape, g.output.trans h.output, Nat.le_trans h.size g.size, fun k hk hP => (g.block k (Nat.lt_of_lt_of_le hk h.size) hP).trans (h.block k hk hP)⟩
theorem Kp.mono {P Q : Nat → Prop} {w w1 : World} (h : Kp P w w1) (hq : ∀ k, k < w.heap.size → Q k → P k) : Kp Q w w1 := ⟨h.os, h.tape, h.output, h.size, fun k hk hQ => h.block k hk (hq k hk hQ)⟩
/-- A step behind others: only what the first world had counts. -/
theorem Kp.then {P Q : Nat → Prop} {w w1 w2 : World} (h : Kp P w w1) (g : Kp Q w1 w2) (hq : ∀ k, k < w.heap.size → P k → Q k) : Kp P w w2 :=
  ⟨g.os.trans h.os, g.tape.trans h.tape, g.output.trans h.output, Nat.le_trans h.size g.size, fun k hk hP => (g.block k (Nat.lt_of_lt_of_le hk h.size) (hq k hk hP)).trans (h.block k hk hP)⟩
theorem Kp.of_grow {P : Nat → Prop} {w w1 : World} (h : Grow w w1) : Kp P w w1 := ⟨h.os, h.tape, h.output, h.size, fun k hk _ => h.block k hk⟩
theorem Kp.of_only {P : Nat → Prop} {b : Nat} {w w1 : World} (h : Only b w w1) (hP : ¬ P b) : Kp P w w1 := ⟨h.1, h.2.1, h.2.2.1, h.2.2.2.1, fun k hk hk2 => h.2.2.2.2 k hk (fun e => hP (e ▸ hk2))⟩
theorem Kp.of_grown {P : Nat → Prop} {w w1 : World} {v : Value} (h : w.grownBy w1 v.ownBlock) (hP : ∀ k, P k → v.ownBlock ≠ some k) : Kp P w w1 := ⟨h.os, h.tape, h.output, h.size, fun k hk hk2 => h.block k hk fun e => hP k hk2 e.symm⟩
theorem Kp.of_below {B : Nat} {w w1 : World} (h : Below B w w1) : Kp (· < B) w w1 := ⟨h.os, h.tape, h.output, h.size, fun k _ hk => h.block k hk⟩
theorem Kp.below {P : Nat → Prop} {B : Nat} {w w1 : World} (h : Kp P w w1) (hB : B ≤ w.heap.size) (hP : ∀ k, k < B → P k) : Below B w w1 := ⟨h.os, h.tape, h.output, h.size, fun k hk => h.block k (Nat.lt_of_lt_of_le hk hB) (hP k hk)⟩
theorem Kp.at {P : Nat → Prop} {w w1 : World} (h : Kp P w w1) {k : Nat} (hP : P k) {o : Obj} (ho : w.heap[k]? = some o) : w1.heap[k]? = some o := (h.block k (heapAt_lt ho) hP).trans ho
theorem Kp.drewN {P : Nat → Prop} {w w1 : World} (h : Kp P w w1) (n : Nat) : Kp P w (w1.drewN n) := h.trans (Kp.of_grow (Grow.drewN w1 n))
theorem Kp.drew {P : Nat → Prop} {w w1 : World} (h : Kp P w w1) : Kp P w w1.drew := h.trans (Kp.of_grow (Grow.drewN w1 1))
theorem Kp.alloc {P : Nat → Prop} {w w1 : World} (h : Kp P w w1) (o : Obj) : Kp P w (w1.alloc o) := h.trans (Kp.of_grow (Grow.alloc w1 o))
theorem RowAt.kp {P : Nat → Prop} {w w1 : World} {A : Option Addr} {n s : Nat} {f : Nat → List Value} (h : RowAt w A n s f) (hg : Kp P w w1) (hP : ∀ a, A = some a → P a.block) : RowAt w1 A n s f := fun hn => by
  obtain ⟨a, hA, hc⟩ := h hn
  refine ⟨a, hA, fun j hj r u hu => ?_⟩
  have h1 := hc j hj r u hu
  have h2 := cell_lt h1
  rw [← h1]
  refine World.cell?_of_block (hg.block _ h2 ?_)
  simp only [add_block]
  exact hP a hA
theorem own_kp {P : Nat → Prop} {w w1 : World} {B s n : Nat} {e : TypeId} {v : Value} {xs : List Value} (h : w.ownsRow B e s v n xs) (hg : Kp P w w1) (hP : ∀ k, v.ownBlock = some k → P k) : w1.ownsRow B e s v n xs := by
  refine ⟨h.1, ?_⟩
  rcases h.2 with h2 | ⟨g, cap, cur, h1, hB, hb, h3, h4, h5, h6⟩
  · exact .inl h2
  · exact .inr ⟨g, cap, cur, h1, hB, hg.at (hP g (by rw [h1]; rfl)) hb, h3, h4, h5, h6⟩
theorem add2 (g i r : Nat) : ((⟨g, 0, none⟩ : Addr).add i).add r = ⟨g, i + r, none⟩ := by
  cases i with
  | zero =>
    rw [add_zero']
    cases r with
    | zero => rfl
    | succ r => rw [add_succ']
  | succ i =>
    rw [add_succ']
    cases r with
    | zero => rw [add_zero', Nat.add_zero, Nat.zero_add]
    | succ r => rw [add_succ']; simp
/-- Some cells of a block are others now. -/
def setL (cs : Array Value) : Nat → List Value → Array Value
  | _, [] => cs
  | o, v :: vs => setL (cs.setIfInBounds o v) (o + 1) vs
theorem heapAt_setL {b : Nat} {t : TypeId} : ∀ (vs : List Value) (o : Nat) (cs : Array Value) (w : World), w.heap[b]? = some (.cells cs t (0, 0)) → (w.setCells b o vs).heap[b]? = some (.cells (setL cs o vs) t (0, 0))
  | [], _, _, _, h => h
  | v :: vs, o, cs, w, h => heapAt_setL vs (o + 1) (cs.setIfInBounds o v) (w.setCell ⟨b, o, none⟩ v) (set_block h o v)
/-- A value of several cells stored into the midst of a block. -/
theorem wpList_store_part {P : Program} {ops : Array Oper} {rest : List Oper} {op : Oper} {a : Act} {w : World} {Q : Exit → Act → World → Prop} (hgd : op.guard = none) (ty : TypeId) (x y : Operand) (ho : op.op = .store ty x y)
    (g o : Nat) (t : TypeId) (old cells new : Array Value) (hx : a.eval x = .pointer (some ⟨g, o, none⟩)) (hy : a.eval y = .agg cells) (hold : w.heap[g]? = some (.cells old t (0, 0))) (hsz : o + cells.size ≤ old.size)
    (hi : (P.info? ty).map (·.size) = some cells.size) (h1 : cells.all (·.oneCell') = true) (hn : setL old o cells.toList = new)
    (h : ∀ w', w'.heap[g]? = some (.cells new t (0, 0)) → Only g w w' → wpList P ops Q rest (a.put op.dst undef) w') : wpList P ops Q (op :: rest) a w :=
  wpList_store_mid hgd ty x y ho g o cells hx hy (fun j hj => ⟨by
      rw [cell_block hold, Array.getElem?_eq_getElem (by omega)]; rfl, free_block hold _⟩) hi h1
    (h _ (by rw [← hn]; exact heapAt_setL cells.toList o old w hold) (only_setCells g cells.toList o w))
theorem ty_ne2 {w : World} {b c t u : Nat} {cs ds : Array Value} {fr fr2 : Nat × Nat} (h1 : w.heap[b]? = some (.cells cs t fr)) (h2 : w.heap[c]? = some (.cells ds u fr2)) (hn : t ≠ u) : b ≠ c := by
  rintro rfl
  rw [h1] at h2
  injection h2 with h2
  injection h2 with _ h2 _
  exact hn h2
/-- A row that is owned is read. -/
theorem own_evs {w : World} {B : Nat} {v : Value} {l : List Top.Ev} (h : w.ownsRow B 98 6 v l.length (evsC l)) : ∃ A cap, v = .slice A l.length cap ∧ EvRd w A l.length (fun j => l.getD j default) ∧ (∀ a, A = some a → v.ownBlock = some a.block) := by
  obtain ⟨A, cap, hv, _⟩ := own_slice h
  refine ⟨A, cap, hv, fun hn => ?_, fun a ha => by rw [hv, ha]; rfl⟩
  rcases h.2 with ⟨h1, h2⟩ | ⟨g, cp, cur, h1, hB, hb, h3, h4, h5, h6⟩
  · omega
  · rw [hv] at h1
    injection h1 with h1 _ _
    refine ⟨⟨g, 0, none⟩, h1, fun j hj r u hu => ?_⟩
    have hr : r < 6 := (List.getElem?_eq_some_iff.1 hu).1
    have hlen : j * 6 + r < l.length * 6 := by omega
    have e1 := evsC_get l j r hj hr
    rw [hu] at e1
    rw [add2, cell_block hb]
    have e2 : (cur.toList.take (l.length * 6))[j * 6 + r]? = some u := by rw [h6]; exact e1
    rw [List.getElem?_take] at e2
    rw [if_pos hlen] at e2
    simpa using e2
end Go.Proofs.YtnhmdinpfcoebaaGreatDoor
end
