/- Texts of the proof, merged: KTick, KTick2, KDisp, KAct, KStep, KWorld, KZero. -/
import Derived.Test.YtnhmdinpfcoebaaGreatDoorM27
import Derived.Test.YtnhmdinpfcoebaaGreatDoorM03
import Derived.Test.YtnhmdinpfcoebaaGreatDoorM11
/-! === KTick -/
section
/- kern.Kernel of one task: release, Tick, Raise. -/
namespace Go.Proofs.YtnhmdinpfcoebaaGreatDoor
open Go.Proofs.YtnhmdinpfcoebaaGreatDoor.Qu
open Go.RowKit
set_option linter.unusedVariables false
set_option linter.unusedSimpArgs false
set_option maxRecDepth 100000

open Go.Lib
attribute [local simp] RelKnown Is
attribute [local irreducible] kCells
section
variable {B : Nat} {w0 w : World} {b tb nb kb cb xb : Nat} {s : KS} {Lq : Qu.Rows} {L : List Top.Ev} {st job at_ : Nat} {mv : Value}
set_option maxHeartbeats 4000000 in
theorem release1 (h : K1 B w0 w b tb nb kb cb xb s Lq (tkC 0 0 0 mv) L) (hput : putOk Lq 0 0) (hcy : s.cycle < 1000000) (hL : L.length ≤ 1000) : Calls Tryz.prog 115 #[.pointer (some ⟨b, 0, none⟩), .int .i64 0] w fun r w' => r = .returned (.tuple #[]) ∧ K1 B w0 w' b tb nb kb cb xb s (putR Lq 0 0) (tkC 1 1 0 mv) (L ++ [⟨6, s.cycle, s.count, 0, 0, 1⟩]) := by
  have H := Lib.hid h
  have HPUT := Lib.hid hput
  have HCY := Lib.hid hcy
  have HLN := Lib.hid hL
  obtain ⟨tv, q, h1, h2, h3⟩ := h.k
  obtain ⟨cap, rest, e1, e2⟩ := h.t
  have k542 := h1.tasks
  dsimp only at k542
  rw [e1] at k542
  have HE1 := Lib.hid e1
  have HT := Lib.hid e2
  have t0 := cell_block e2 0
  have t4 := cell_block e2 4
  simp at t0 t4
  clear h hput hcy hL h1 h2 h3 e1 e2
  go_enter Tryz.func115, Tryz.ntmps115
  go_upto_region 4 with (first
    | ((with_reducible refine store_in rfl 40 _ _ rfl tb 4 189 _ (tkC 0 1 0 mv ++ rest).toArray (.int .u32 1) info40s HT.out rfl ?_ ?_ ?_ ?_ ?_); (· rfl); (· rfl); (· simp); (· simp); intro w1 hw1 hb1 ho1; clear hw1)
    | ((with_reducible refine store_in rfl 3 _ _ rfl tb 0 189 _ (tkC 1 1 0 mv ++ rest).toArray (.int .i64 1) info3 hb1 rfl ?_ ?_ ?_ ?_ ?_); (· rfl); (· rfl); (· simp); (· simp); intro w2 hw2 hb2 ho2; clear hw2))
  have H2 := Lib.hid (H.out.task HE1.out HT.out hb2 (ho1.trans ho2))
  have HT2 := Lib.hid hb2
  clear hb1 ho1 hb2 ho2 k542 t0 t4 HT H
  have t4 := cell_block HT2.out 4
  simp at t4
  go_wp2_with fail
  refine (tell1 H2.out 6 0 0 1 (by decide) (by decide) (by decide) (by decide) HCY.out (by have := HLN.out; omega)).mono ?_
  rintro _ w3 ⟨rfl, h3⟩
  have H3 := Lib.hid h3
  clear h3 t4 HT2 H2
  obtain ⟨tv, q, h1, h2, h3⟩ := H3.out.k
  obtain ⟨cap2, rest2, e1, e2⟩ := H3.out.t
  have t1 := cell_block e2 1
  simp at t1
  have HQ := Lib.hid (show RQ { s with told := tv } w3 b Lq from ⟨q, h1, h2⟩)
  have HO := Lib.hid h3
  clear h1 h2 h3 e1 e2
  go_upto_region 5 with (fail)
  refine wp_region_rel_tail 8 _ Grow (fun _ wQ => Grow w3 wQ) [([(0, none)], none), ([(34, some 0)], none), ([(35, some 0)], none), ([(1, none)], none), ([(4, none)], none), ([(38, some 0)], none), ([(39, some 0)], none), ([(40, some 0)], none)] (by kernel_rfl) (by kernel_rfl) (by kernel_rfl) (Grow.drewN w3 1) ?_
  (refine relT_pure ?_; apply Exists.intro; refine ⟨fun aR wQ hF hk => relT_none fun K hK => ?_, ?_⟩; focus ((try simp at hk); go_simp; exact hK _ _ (Grow.refl _) hF rfl))
  (refine relT_pure ?_; apply Exists.intro; refine ⟨fun aR wQ hF hk => relT_none fun K hK => ?_, ?_⟩; focus ((try simp at hk); go_simp; exact hK _ _ (Grow.refl _) hF rfl))
  (refine relT_pure ?_; apply Exists.intro; refine ⟨fun aR wQ hF hk => relT_none fun K hK => ?_, ?_⟩; focus ((try simp at hk); go_simp; exact hK _ _ (Grow.refl _) hF rfl))
  (refine relT_pure ?_; apply Exists.intro; refine ⟨fun aR wQ hF hk => relT_none fun K hK => ?_, ?_⟩; focus ((try simp at hk); go_simp; exact hK _ _ (Grow.refl _) hF rfl))
  (refine relT_pure ?_; apply Exists.intro; refine ⟨fun aR wQ hF hk => relT_none fun K hK => ?_, ?_⟩; focus ((try simp at hk); go_simp; exact hK _ _ (Grow.refl _) hF rfl))
  (refine relT_pure ?_; apply Exists.intro; refine ⟨fun aR wQ hF hk => relT_none fun K hK => ?_, ?_⟩; focus ((try simp at hk); go_simp; exact hK _ _ (Grow.refl _) hF rfl))
  (refine relT_pure ?_; apply Exists.intro; refine ⟨fun aR wQ hF hk => relT_none fun K hK => ?_, ?_⟩; focus ((try simp at hk); go_simp; exact hK _ _ (Grow.refl _) hF rfl))
  (refine relT_pure ?_; apply Exists.intro; refine ⟨fun aR wQ hF hk => relT_none fun K hK => ?_, ?_⟩; focus ((try simp at hk); have t1 := cell_below hF (Nat.le_refl _) t1; go_simp; exact hK _ _ (Grow.refl _) hF rfl))
  refine relT_done fun wR => ?_
  refine fun v hv => ?_; obtain rfl : v = _ := hv
  refine fun v hv => ?_; obtain rfl : v = _ := hv
  refine fun v hv => ?_; obtain rfl : v = _ := hv
  refine fun v hv => ?_; obtain rfl : v = _ := hv
  refine fun v hv => ?_; obtain rfl : v = _ := hv
  refine fun v hv => ?_; obtain rfl : v = _ := hv
  refine fun v hv => ?_; obtain rfl : v = _ := hv
  refine fun v hv => ?_; obtain rfl : v = _ := hv
  simp only [Act.put, List.setIfInBounds_toArray, List.set_cons_zero, List.set_cons_succ]
  refine relT_nil fun hF => ?_
  simp only [List.drop_succ_cons, List.drop_zero]
  have HQR := Lib.hid (HQ.out.below hF)
  have HR := Lib.hid (H3.out.grow hF)
  have HOR := Lib.hid (own_grow HO.out hF)
  clear hF HQ HO H3 t1
  go_wp2_with fail
  refine (put_ok wR b 0 0 Lq HPUT.out HQR.out).mono ?_
  rintro _ w4 ⟨rfl, hq, ho⟩
  have H4 := Lib.hid (HR.out.queue HOR.out hq ho)
  clear hq ho HQR HR HOR
  obtain ⟨tv, q, h1, h2, h3⟩ := H4.out.k
  obtain ⟨cc, hcf⟩ := H4.out.y.cf0
  obtain ⟨xc, r1, hcb⟩ := H4.out.y.cfb
  have k518 := h1.cf 0 (by decide) 518 rfl _ hcf
  have p2 := cell_block hcb 2
  simp at p2
  clear h1 h2 h3 hcf hcb
  go_wp2
  go_end0
  exact ⟨rfl, H4.out⟩
/-- Taken: nothing is told. -/
structure KZ (B : Nat) (w0 w : World) (b tb nb kb cb xb : Nat) (s : KS) (Lq : Qu.Rows) (T : List Value) : Prop where
  g : Kt B w0 w
  k : K1 B w w b tb nb kb cb xb s Lq T []
theorem take1 (h : K1 B w0 w b tb nb kb cb xb s Lq (tkC st job at_ mv) L) : Calls Tryz.prog 119 #[.pointer (some ⟨b, 0, none⟩)] w fun r w' => ∃ v, r = .returned v ∧ w'.ownsRow w0.heap.size 98 6 v L.length (evsC L) ∧ KZ B w0 w' b tb nb kb cb xb s Lq (tkC st job at_ mv) := by
  obtain ⟨tv, q, h1, h2, h3⟩ := h.k
  refine (take_w w b _ h1).mono ?_
  rintro _ w' ⟨rfl, h4, h5⟩
  have hz : K1 B w0 w' b tb nb kb cb xb s Lq (tkC st job at_ mv) [] := h.only (tv := .slice none 0 0) (q := q) h4 h2 (World.ownsRow_nil _ _ _ _) (Kp.of_only h5 (fun h => h rfl)) rfl rfl rfl rfl rfl
  exact ⟨tv, rfl, own_only h3 h5 h1 (by decide), hz.g, ⟨.slice none 0 0, q, h4, h2, World.ownsRow_nil _ _ _ _⟩, hz.y, hz.n, hz.t, Kt.refl _ _, hz.bb, hz.bt, hz.bn, Nat.le_trans hz.b0 hz.g.z⟩
/-- The stamps are small. -/
structure Sm (s : KS) : Prop where
  c : s.count < 1000000
  y : s.cycle < 1000000
theorem K1.cnt {T : List Value} (h : K1 B w0 w b tb nb kb cb xb s Lq T L) {tv : Value} {q : QS} {w' : World} {n : Nat} (h1 : KAt w b { s with told := tv, q := q }) (h2 : Rep q Lq) (h3 : w.ownsRow w0.heap.size 98 6 tv L.length (evsC L)) (hb : w'.heap[b]? = some (.cells (kCells { s with told := tv, q := q, count := n }) 187 (0, 0))) (ho : Only b w w') : K1 B w0 w' b tb nb kb cb xb { s with count := n } Lq T L :=
  h.only (tv := tv) (q := q) hb h2 (own_only h3 ho h1 (by decide)) (Kp.of_only ho (fun h => h rfl)) rfl rfl rfl rfl rfl
theorem K1.cyc {T : List Value} (h : K1 B w0 w b tb nb kb cb xb s Lq T L) {tv : Value} {q : QS} {w' : World} {n : Nat} (h1 : KAt w b { s with told := tv, q := q }) (h2 : Rep q Lq) (h3 : w.ownsRow w0.heap.size 98 6 tv L.length (evsC L)) (hb : w'.heap[b]? = some (.cells (kCells { s with told := tv, q := q, cycle := n }) 187 (0, 0))) (ho : Only b w w') : K1 B w0 w' b tb nb kb cb xb { s with cycle := n } Lq T L :=
  h.only (tv := tv) (q := q) hb h2 (own_only h3 ho h1 (by decide)) (Kp.of_only ho (fun h => h rfl)) rfl rfl rfl rfl rfl
theorem K1.run {T : List Value} (h : K1 B w0 w b tb nb kb cb xb s Lq T L) {tv : Value} {q : QS} {w' : World} {n : Int} (h1 : KAt w b { s with told := tv, q := q }) (h2 : Rep q Lq) (h3 : w.ownsRow w0.heap.size 98 6 tv L.length (evsC L)) (hb : w'.heap[b]? = some (.cells (kCells { s with told := tv, q := q, running := n }) 187 (0, 0))) (ho : Only b w w') : K1 B w0 w' b tb nb kb cb xb { s with running := n } Lq T L :=
  h.only (tv := tv) (q := q) hb h2 (own_only h3 ho h1 (by decide)) (Kp.of_only ho (fun h => h rfl)) rfl rfl rfl rfl rfl
/-- What the first Tick gives. -/
def TickA (B : Nat) (w0 : World) (b tb nb kb cb xb : Nat) (s : KS) (Lq : Qu.Rows) (mv : Value) (r : Ending) (w' : World) : Prop :=
  ∃ v A c, r = .returned v ∧ w'.ownsRow w0.heap.size 98 6 v 1 (evsC [⟨6, s.cycle, s.count + 1, 0, 0, 1⟩]) ∧ KZ B w0 w' b tb nb kb cb xb { s with count := s.count + 1, row := .slice A 0 c, runs := upB s.runs 0 false } (putR Lq 0 0) (tkC 1 1 0 mv)
set_option maxHeartbeats 8000000 in
theorem tickA (h : K1 B w0 w b tb nb kb cb xb s Lq (tkC 0 0 0 mv) []) (hput : putOk Lq 0 0) (hs : Sm s) (lb cap : Nat) (rest : List Value) (hrow : s.row = .slice (some ⟨lb, 0, none⟩) 1 cap) (hc1 : 1 ≤ cap) (hc2 : cap ≤ maxLen) (hlb : w.heap[lb]? = some (.cells (.int .i64 ((0 : Nat) : Int) :: .int .i64 1 :: rest).toArray 240 (0, 0))) (hBl : B ≤ lb) :
    Calls Tryz.prog 82 #[.pointer (some ⟨b, 0, none⟩)] w fun r w' => TickA B w0 b tb nb kb cb xb s Lq mv r w' := by
  have H := Lib.hid h
  have HPUT := Lib.hid hput
  have HROW := Lib.hid hrow
  have HLB := Lib.hid hlb
  have HBL := Lib.hid hBl
  have HC1 := Lib.hid hc1
  have HC2 := Lib.hid hc2
  have HSM := Lib.hid hs
  obtain ⟨tv, q, h1, h2, h3⟩ := h.k
  have k0 := h1.count
  have k1 := h1.cycle
  have k548 := h1.stopped
  dsimp only at k0 k1 k548
  rw [h.y.st] at k548
  have HKH := Lib.hid (show w.heap[b]? = some (.cells (kCells { s with told := tv, q := q }) 187 (0, 0)) from h1)
  have HR := Lib.hid h2
  have HO := Lib.hid h3
  have c1 : ((s.count : Int) == 18446744073709551615) = false := by
    have h4 : ¬ (s.count : Int) = 18446744073709551615 := by have := hs.c; omega
    simpa using h4
  have c2 : decide ((18446744073709486079 : Int) < (s.cycle : Int)) = false := by have := hs.y; simp; omega
  have HW := Lib.hid (show IntKind.u64.wrap ((s.count : Int) + 1) = (s.count : Int) + 1 by have := hs.c; rw [wrap_u64n]; omega)
  have c3 : (s.count : Int) < 1000000 := by have := hs.c; omega
  clear h hput hrow hlb hBl hc1 hc2 hs h1 h2 h3
  go_enter Tryz.func82, Tryz.ntmps82
  go_upto_region 8 with (first
    | ((with_reducible refine store_in rfl 53 _ _ rfl b 0 187 _ (kCells { s with told := tv, q := q, count := s.count + 1 }) (.int .u64 ((s.count : Int) + 1)) info53 HKH.out rfl ?_ ?_ ?_ ?_ ?_); (· rfl); (· rfl); (· rw [kCells_size]; decide); (· exact k_count { s with told := tv, q := q } (s.count + 1)); intro w1 hw1 hb1 ho1; clear hw1))
  have H1 := Lib.hid (H.out.cnt (show KAt w b { s with told := tv, q := q } from HKH.out) HR.out HO.out hb1 ho1)
  have HK1 := Lib.hid (show KAt w1 b { s with told := tv, q := q, count := s.count + 1 } from hb1)
  have HLB1 := Lib.hid (ho1.at (ty_ne2 HLB.out HKH.out (by decide)) HLB.out)
  have HO1 := Lib.hid (own_only HO.out ho1 HKH.out (by decide))
  clear hb1 ho1 k0 k1 k548 HKH HLB HO H
  have HDT := Lib.hid (dtick_one w1 w0.heap.size b lb 0 cap { s with told := tv, q := q, count := s.count + 1 } rest HK1.out HROW.out HC1.out HC2.out HLB1.out (by decide) H1.out.size)
  go_wp2_with fail
  refine HDT.out.mono ?_
  rintro _ w2 ⟨ov, A, c, rfl, hk, ho, hp⟩
  have H2 := Lib.hid (show K1 B w0 w2 b tb nb kb cb xb { s with count := s.count + 1, row := .slice A 0 c, runs := upB s.runs 0 false } Lq (tkC 0 0 0 mv) [] from
    H1.out.kern (tv := tv) (q := q) hk HR.out (own_kp HO1.out hp fun k hk2 => (by obtain ⟨cur, hc⟩ := own_blk HO1.out hk2; exact ⟨ty_ne2 hc HK1.out (by decide), ty_ne2 hc HLB1.out (by decide)⟩)) hp (fun k cs t fr h6 h7 _ h8 => ⟨ty_ne2 h6 HK1.out h7, ty_ne2 h6 HLB1.out h8⟩) (fun k cs fr _ h6 => ⟨ty_ne2 h6 HK1.out (by decide), ty_ne2 h6 HLB1.out (by decide)⟩) (fun k hkB => by have := H1.out.bb; have := HBL.out; omega) rfl rfl rfl rfl rfl)
  obtain ⟨A2, c2', rfl, _, hrow⟩ := own_row1 ho
  have HRW := Lib.hid hrow
  clear hk ho hp HDT HLB1 HO1 HK1 H1 hrow
  generalize hs2 : ({ s with count := s.count + 1, row := .slice A 0 c, runs := upB s.runs 0 false } : KS) = s2 at H2
  have HS2 := Lib.hid hs2; clear hs2
  have HC2' := Lib.hid (show s2.cycle = s.cycle ∧ s2.count = s.count + 1 by rw [← HS2.out]; exact ⟨rfl, rfl⟩)
  go_wp2_with fail
  go_loopw [44] (fun i wr => (i = .int .i64 0 ∧ K1 B w0 wr b tb nb kb cb xb s2 Lq (tkC 0 0 0 mv) [] ∧ RowAt wr A2 1 1 (fun _ => [.int .i64 ((0 : Nat) : Int)])) ∨ (i = .int .i64 1 ∧ K1 B w0 wr b tb nb kb cb xb s2 (putR Lq 0 0) (tkC 1 1 0 mv) [⟨6, s.cycle, s.count + 1, 0, 0, 1⟩])) (fun i _ => 1 - (RowKit.intOf i).toNat)
  case atStart => exact .inl ⟨rfl, H2.out, HRW.out⟩
  case round =>
    clear H2 HRW
    rcases hrel with ⟨rfl, hk, hrow⟩ | ⟨rfl, hk⟩
    · have HK := Lib.hid hk
      obtain ⟨a, hA, hc⟩ := hrow (by decide)
      have l0 := hc 0 (by decide) 0 _ rfl
      simp only [Nat.zero_mul, add_zero'] at l0
      rw [hA]
      clear hk hrow hc hA
      have HRL := Lib.hid (release1 HK.out HPUT.out (by rw [HC2'.out.1]; exact HSM.out.y) (by decide))
      go_wp2_with fail
      refine HRL.out.mono ?_
      rintro _ w3 ⟨rfl, h3⟩
      rw [HC2'.out.1, HC2'.out.2] at h3
      have H3 := Lib.hid h3
      clear h3 HRL HK l0
      go_wp2_with fail
      go_roundw
      case rel => exact .inr ⟨by go_num, H3.out⟩
      case measure => simp [RowKit.intOf]
    · have HK := Lib.hid hk
      clear hk
      have HTA := Lib.hid (take1 HK.out)
      go_wp2_with fail
      refine HTA.out.mono ?_
      rintro _ w3 ⟨v, rfl, ho, h3⟩
      have H3 := Lib.hid h3
      have HO3 := Lib.hid ho
      clear h3 ho HTA HK
      go_wp2
      go_ret
      exact ⟨v, A, c, rfl, HO3.out, by rw [HS2.out]; exact H3.out⟩
end
end Go.Proofs.YtnhmdinpfcoebaaGreatDoor
end

/-! === KTick2 -/
section
/- kern.Kernel of one task: a Tick of no clocks, Raise of no lines. -/
namespace Go.Proofs.YtnhmdinpfcoebaaGreatDoor
open Go.Proofs.YtnhmdinpfcoebaaGreatDoor.Qu
open Go.RowKit
set_option linter.unusedVariables false
set_option linter.unusedSimpArgs false
set_option maxRecDepth 100000

open Go.Lib
attribute [local simp] RelKnown Is
attribute [local irreducible] kCells
section
variable {B : Nat} {w0 w : World} {b tb nb kb cb xb : Nat} {s : KS} {Lq : Qu.Rows} {L : List Top.Ev} {st job at_ : Nat} {mv : Value}
theorem K1.line {w' : World} {T : List Value} (h : K1 B w0 w b tb nb kb cb xb s Lq T L) (hn : LnAt w' nb) (ho : Only nb w w') : K1 B w0 w' b tb nb kb cb xb s Lq T L := by
  obtain ⟨tv, q, h1, h2, h3⟩ := h.k
  obtain ⟨cap, rest, e1, e2⟩ := h.t
  have hp : Kp (· ≠ nb) w w' := Kp.of_only ho (fun h => h rfl)
  exact ⟨⟨tv, q, ho.at (ty_ne2 h1 h.n (by decide)) h1, h2, own_only h3 ho h.n (by decide)⟩, h.y.kp hp (fun k cs t fr hk ht => ty_ne2 hk h.n (by rcases ht with rfl | rfl | rfl | rfl <;> decide)) rfl rfl rfl rfl, hn, ⟨cap, rest, e1, ho.at (ty_ne2 e2 h.n (by decide)) e2⟩,
    h.g.step h.b0 hp (fun k hk => by have := h.bn; omega) (fun k cs t fr _ _ _ h255 _ hk => ty_ne2 hk h.n h255), h.bb, h.bt, h.bn, h.b0⟩
/-- Nothing told. -/
def NoneT (B : Nat) (w0 : World) (b tb nb kb cb xb : Nat) (s : KS) (Lq : Qu.Rows) (T : List Value) (r : Ending) (w' : World) : Prop :=
  ∃ v, r = .returned v ∧ w'.ownsRow w0.heap.size 98 6 v 0 [] ∧ KZ B w0 w' b tb nb kb cb xb s Lq T
set_option maxHeartbeats 8000000 in
theorem tickB (h : K1 B w0 w b tb nb kb cb xb s Lq (tkC st job at_ mv) []) (hs : Sm s) (A : Option Addr) (c : Nat) (hrow : s.row = .slice A 0 c) :
    Calls Tryz.prog 82 #[.pointer (some ⟨b, 0, none⟩)] w fun r w' => NoneT B w0 b tb nb kb cb xb { s with count := s.count + 1 } Lq (tkC st job at_ mv) r w' := by
  have H := Lib.hid h
  have HROW := Lib.hid hrow
  obtain ⟨tv, q, h1, h2, h3⟩ := h.k
  have k0 := h1.count
  have k1 := h1.cycle
  have k548 := h1.stopped
  dsimp only at k0 k1 k548
  rw [h.y.st] at k548
  have HKH := Lib.hid (show w.heap[b]? = some (.cells (kCells { s with told := tv, q := q }) 187 (0, 0)) from h1)
  have HR := Lib.hid h2
  have HO := Lib.hid h3
  have c1 : ((s.count : Int) == 18446744073709551615) = false := by
    have h4 : ¬ (s.count : Int) = 18446744073709551615 := by have := hs.c; omega
    simpa using h4
  have c2 : decide ((18446744073709486079 : Int) < (s.cycle : Int)) = false := by have := hs.y; simp; omega
  have c3 : (s.count : Int) < 1000000 := by have := hs.c; omega
  clear h hrow hs h1 h2 h3
  go_enter Tryz.func82, Tryz.ntmps82
  go_upto_region 8 with (first
    | ((with_reducible refine store_in rfl 53 _ _ rfl b 0 187 _ (kCells { s with told := tv, q := q, count := s.count + 1 }) (.int .u64 ((s.count : Int) + 1)) info53 HKH.out rfl ?_ ?_ ?_ ?_ ?_); (· rfl); (· rfl); (· rw [kCells_size]; decide); (· exact k_count { s with told := tv, q := q } (s.count + 1)); intro w1 hw1 hb1 ho1; clear hw1))
  have H1 := Lib.hid (H.out.cnt (show KAt w b { s with told := tv, q := q } from HKH.out) HR.out HO.out hb1 ho1)
  have HDT := Lib.hid (dtick_none w1 b A c { s with told := tv, q := q, count := s.count + 1 } hb1 HROW.out)
  clear hb1 ho1 k0 k1 k548 HKH HO H
  go_wp2_with fail
  refine HDT.out.mono ?_
  rintro _ w2 ⟨rfl, hw⟩
  have hw := hw.symm
  subst hw
  go_wp2_with fail
  go_loop [44] (fun i => i = .int .i64 0) (fun _ => 0)
  case atStart => rfl
  case round =>
    obtain rfl := hrel
    have HTA := Lib.hid (take1 H1.out)
    go_wp2_with fail
    refine HTA.out.mono ?_
    rintro _ w3 ⟨v, rfl, ho, h3⟩
    have H3 := Lib.hid h3
    have HO3 := Lib.hid ho
    clear h3 ho HTA
    go_wp2
    go_ret
    exact ⟨v, rfl, HO3.out, H3.out⟩
set_option maxHeartbeats 8000000 in
theorem raise1 (h : K1 B w0 w b tb nb kb cb xb s Lq (tkC st job at_ mv) []) :
    Calls Tryz.prog 83 #[.pointer (some ⟨b, 0, none⟩), .int .u32 0] w fun r w' => NoneT B w0 b tb nb kb cb xb s Lq (tkC st job at_ mv) r w' := by
  have H := Lib.hid h
  obtain ⟨tv, q, h1, h2, h3⟩ := h.k
  have k548 := h1.stopped
  have k546 := h1.lines
  dsimp only at k548 k546
  rw [h.y.st] at k548
  rw [h.y.lines] at k546
  have HN := Lib.hid h.n
  clear h h1 h2 h3
  go_enter Tryz.func83, Tryz.ntmps83
  go_wp2_with fail
  refine (lraise_w w nb HN.out).mono ?_
  rintro _ w1 ⟨rfl, hn, ho⟩
  have H1 := Lib.hid (H.out.line hn ho)
  clear hn ho k548 k546 HN H
  obtain ⟨tv, q, h1, h2, h3⟩ := H1.out.k
  obtain ⟨A, c, hcf⟩ := H1.out.y.cf1
  have k519 := h1.cf 1 (by decide) 519 rfl _ hcf
  clear h1 h2 h3 hcf
  go_wp2_with fail
  go_loop [31] (fun i => i = .int .i64 0) (fun _ => 0)
  case atStart => rfl
  case round =>
    obtain rfl := hrel
    have HTA := Lib.hid (take1 H1.out)
    clear k519
    go_wp2_with fail
    refine HTA.out.mono ?_
    rintro _ w3 ⟨v, rfl, ho, h3⟩
    have H3 := Lib.hid h3
    have HO3 := Lib.hid ho
    clear h3 ho HTA
    go_wp2
    go_ret
    exact ⟨v, rfl, HO3.out, H3.out⟩
end
end Go.Proofs.YtnhmdinpfcoebaaGreatDoor
end

/-! === KDisp -/
section
/- kern.Kernel of one task: dispatch, Act. -/
namespace Go.Proofs.YtnhmdinpfcoebaaGreatDoor
open Go.Proofs.YtnhmdinpfcoebaaGreatDoor.Qu
open Go.RowKit
set_option linter.unusedVariables false
set_option linter.unusedSimpArgs false
set_option maxRecDepth 100000

open Go.Lib
attribute [local simp] RelKnown Is
attribute [local irreducible] kCells
abbrev haltC : Array Value := #[.int .i64 37, .int .i64 0, .int .i64 0, .int .i64 0, .int .i64 0, .int .u32 0]
set_option maxHeartbeats 4000000 in
theorem info64s : (Tryz.prog.info? 64).map (·.size) = some haltC.size := by kernel_rfl
theorem halt_one : haltC.all (·.oneCell') = true := by simp [Value.oneCell']
set_option maxHeartbeats 4000000 in
theorem cost_halt (w : World) : Calls Tryz.prog 148 #[.agg #[.int .i64 37, .int .i64 0, .int .i64 0, .int .i64 0, .int .i64 0, .int .u32 0]] w fun r w' => r = .returned (.int .i64 12) ∧ Grow w w' := by
  have HG := Lib.hid (Grow.alloc w (.cells haltC 64))
  have HB := Lib.hid (heapAt_alloc_new w (.cells haltC 64))
  have HF := Lib.hid (show Sy.formP 37 0 0 0 0 0 = 0 by decide)
  go_enter Tryz.func148, Tryz.ntmps148
  go_upto_region 1 with (fail)
  generalize w.heap.size = g at HB ⊢
  generalize w.alloc (.cells haltC 64) = w1 at HG HB ⊢
  have d0 := cell_block HB.out 0
  have d1 := cell_block HB.out 1
  have d2 := cell_block HB.out 2
  have d3 := cell_block HB.out 3
  have d4 := cell_block HB.out 4
  have d5 := cell_block HB.out 5
  simp at d0 d1 d2 d3 d4 d5
  go_wp2_with fail
  refine (Sy.form_any 37 0 0 0 0 0 w1).mono ?_
  rw [HF.out]
  rintro _ w2 ⟨rfl, hg⟩
  have HG2 := Lib.hid (HG.out.trans hg)
  have HB2 := Lib.hid (hg.at HB.out)
  clear hg d0 d1 d2 d3 d4 d5
  have d0 := cell_block HB2.out 0
  simp at d0
  go_wp2
  go_ret
  exact ⟨rfl, HG2.out⟩
section
variable {B : Nat} {w0 w : World} {b tb nb kb cb xb : Nat} {s : KS} {Lq : Qu.Rows} {L : List Top.Ev} {st job at_ : Nat} {mv : Value}
theorem K1.tab (h : K1 B w0 w b tb nb kb cb xb s Lq (tkC st job at_ mv) L) (hT : Qu.TabAt w0) (hB : 0 < B) : Qu.TabAt w := fun j hj => (Below.cell (p := ⟨0, j, none⟩) h.g.b hB).trans (hT j hj)
set_option maxHeartbeats 8000000 in
theorem dispA (h : K1 B w0 w b tb nb kb cb xb s Lq (tkC 1 1 0 mv) L) (hT : Qu.TabAt w0) (hB0 : 0 < B) (hs : Sm s) (hlead : lead Lq = some 0) (hfirst : firstR Lq = 0) (hin : inR Lq 0) (hrun : s.runs 0 = false) (hr : s.running = 255) (hL : L.length ≤ 100) (hsm : s.cycle < 900000) :
    Calls Tryz.prog 124 #[.pointer (some ⟨b, 0, none⟩), .int .u32 0] w fun r w' => r = .returned (.tuple #[]) ∧ K1 B w0 w' b tb nb kb cb xb { s with cycle := s.cycle + 10 + 12, running := 0 } (removeR Lq 0) (tkC 7 1 1 mv) (L ++ [⟨5, s.cycle, s.count, 0, 255, 0⟩] ++ [⟨22, s.cycle + 10 + 12, s.count, 0, 0, 0⟩]) := by
  have H := Lib.hid h
  have HIN := Lib.hid hin
  have HRUN := Lib.hid hrun
  have HLN := Lib.hid hL
  have HSM := Lib.hid hsm
  have HRN := Lib.hid hr
  obtain ⟨tv, q, h1, h2, h3⟩ := h.k
  have hfy := first_yes w b 0 Lq hlead (h.tab hT hB0) (show RQ { s with told := tv } w b Lq from ⟨q, h1, h2⟩)
  rw [hfirst] at hfy
  have HFY := Lib.hid hfy
  clear h hT hB0 hs hlead hfirst hin hrun hr hL hsm h1 h2 h3 hfy
  go_enter Tryz.func124, Tryz.ntmps124
  go_wp2_with fail
  refine HFY.out.mono ?_
  rintro _ w1 ⟨rfl, nn, rfl⟩
  have H1 := Lib.hid (H.out.grow (Grow.drewN w nn))
  clear H HFY
  generalize w.drewN nn = w1 at H1 ⊢
  obtain ⟨tv, q, h1, h2, h3⟩ := H1.out.k
  have k530 := h1.running
  dsimp only at k530
  rw [HRN.out] at k530
  clear h1 h2 h3
  go_wp2_with fail
  refine (tell1 H1.out 5 0 255 0 (by decide) (by decide) (by decide) (by decide) (by have := HSM.out; omega) (by have := HLN.out; omega)).mono ?_
  rintro _ w2 ⟨rfl, h3⟩
  have H2 := Lib.hid h3
  clear h3 k530 H1
  obtain ⟨tv, q, h1, h2, h3⟩ := H2.out.k
  have k1 := h1.cycle
  dsimp only at k1
  have HKH := Lib.hid (show w2.heap[b]? = some (.cells (kCells { s with told := tv, q := q }) 187 (0, 0)) from h1)
  have HR := Lib.hid h2
  have HO := Lib.hid h3
  have c1 : (s.cycle : Int) < 900000 := by have := HSM.out; omega
  clear h1 h2 h3
  go_upto_region 6 with (first
    | ((with_reducible refine store_in rfl 53 _ _ rfl b 1 187 _ (kCells { s with told := tv, q := q, cycle := s.cycle + 10 }) (.int .u64 ((s.cycle : Int) + 10)) info53 HKH.out rfl ?_ ?_ ?_ ?_ ?_); (· rfl); (· rfl); (· rw [kCells_size]; decide); (· exact k_cycle { s with told := tv, q := q } (s.cycle + 10)); intro w3 hw3 hb3 ho3; clear hw3))
  have H3 := Lib.hid (H2.out.cyc (show KAt w2 b { s with told := tv, q := q } from HKH.out) HR.out HO.out hb3 ho3)
  have HO3 := Lib.hid (own_only HO.out ho3 HKH.out (by decide))
  have HKI := Lib.hid hb3
  clear hb3 ho3 k1 HKH HO H2
  go_upto_region 7 with (first
    | ((with_reducible refine store_in rfl 3 _ _ rfl b 530 187 _ (kCells { s with told := tv, q := q, cycle := s.cycle + 10, running := 0 }) (.int .i64 0) info3 HKI.out rfl ?_ ?_ ?_ ?_ ?_); (· rfl); (· rfl); (· rw [kCells_size]; decide); (· exact k_running { s with told := tv, q := q, cycle := s.cycle + 10 } 0); intro w4 hw4 hb4 ho4; clear hw4))
  have H4 := Lib.hid (H3.out.run (show KAt w3 b { s with told := tv, q := q, cycle := s.cycle + 10 } from HKI.out) HR.out HO3.out hb4 ho4)
  clear hb4 ho4 HKI HO3 HR H3
  simp only [Act.put, List.setIfInBounds_toArray, List.set_cons_zero, List.set_cons_succ]
  obtain ⟨tv, q, h1, h2, h3⟩ := H4.out.k
  obtain ⟨cap, rest, e1, e2⟩ := H4.out.t
  have k542 := h1.tasks
  dsimp only at k542
  rw [show s.tasks = _ from e1] at k542
  clear h1 h2 h3 e1 e2
  go_upto_region 11 with (fail)
  have H5 := Lib.hid (H4.out.grow (Grow.alloc w4 (.cells haltC 64)))
  have HG5 := Lib.hid (heapAt_alloc_new w4 (.cells haltC 64))
  have HGR := Lib.hid (Grow.alloc w4 (.cells haltC 64))
  obtain ⟨g, hge⟩ : ∃ g, g = w4.heap.size := ⟨_, rfl⟩
  have HGS := Lib.hid (show w4.heap.size ≤ g by omega)
  rw [← hge] at HG5 ⊢
  clear hge k542
  generalize w4.alloc (.cells haltC 64) = w5 at H5 HG5 HGR ⊢
  obtain ⟨tv, q, h1, h2, h3⟩ := H5.out.k
  obtain ⟨cap, rest, e1, e2⟩ := H5.out.t
  obtain ⟨cc, hcf⟩ := H5.out.y.cf0
  obtain ⟨xc, r1, hcb⟩ := H5.out.y.cfb
  obtain ⟨r2, hcx⟩ := H5.out.y.cfx
  have HE1 := Lib.hid e1
  have HT := Lib.hid e2
  have HKH := Lib.hid (show w5.heap[b]? = some (.cells (kCells { s with told := tv, q := q, cycle := s.cycle + 10, running := 0 }) 187 (0, 0)) from h1)
  have HR := Lib.hid h2
  have HO := Lib.hid h3
  have k518 := h1.cf 0 (by decide) 518 rfl _ hcf
  have t5 := cell_block e2 5
  have p5 := cell_block hcb 5
  have y0 := cell_block hcx 0
  have y1 := cell_block hcx 1
  have y2 := cell_block hcx 2
  have y3 := cell_block hcx 3
  have y4 := cell_block hcx 4
  have y5 := cell_block hcx 5
  simp at t5 p5 y0 y1 y2 y3 y4 y5
  clear h1 h2 h3 e1 e2 hcf hcb hcx
  go_upto_region 14 with (first
    | ((with_reducible refine wpList_store_blk rfl 64 _ _ rfl g 64 _ haltC ?_ ?_ HG5.out rfl info64s halt_one ?_); (· rfl); (· rfl); intro w6 hb6 ho6))
  simp only [Act.put, List.setIfInBounds_toArray, List.set_cons_zero, List.set_cons_succ]
  have H6 := Lib.hid (H4.out.grow (HGR.out.only ho6 HGS.out))
  have HG6 := Lib.hid hb6
  clear hb6 ho6 k518 t5 p5 y0 y1 y2 y3 y4 y5 HG5 H5 H4 HT HE1 HKH HR HO HGR
  obtain ⟨tv, q, h1, h2, h3⟩ := H6.out.k
  have HKH := Lib.hid (show KAt w6 b { s with told := tv, q := q, cycle := s.cycle + 10, running := 0 } from h1)
  have HR := Lib.hid h2
  have HO := Lib.hid h3
  have k1 := h1.cycle
  dsimp only at k1
  have d0 := cell_block HG6.out 0
  have d1 := cell_block HG6.out 1
  have d2 := cell_block HG6.out 2
  have d3 := cell_block HG6.out 3
  have d4 := cell_block HG6.out 4
  have d5 := cell_block HG6.out 5
  simp at d0 d1 d2 d3 d4 d5
  clear h1 h2 h3
  have HW1 := Lib.hid (show IntKind.u64.wrap (12 : Int) = 12 by decide)
  have HW2 := Lib.hid (show IntKind.u64.wrap ((s.cycle : Int) + 10 + 12) = (s.cycle : Int) + 22 by have := HSM.out; rw [wrap_u64n]; omega)
  refine wp_region_rel_tail 9 _ Grow (fun _ wQ => Grow w6 wQ) [([(0, none)], none), ([(87, some 0)], none), ([(88, some 0)], none), ([(89, some 0)], none), ([(90, some 0)], none), ([(7, none)], none), ([(92, some 0)], none), ([(93, some 0)], none), ([(91, some 3), (94, some 0)], none)] (by kernel_rfl) (by kernel_rfl) (by kernel_rfl) (Grow.drewN w6 1) ?_
  (refine relT_pure ?_; apply Exists.intro; refine ⟨fun aR wQ hF hk => relT_none fun K hK => ?_, ?_⟩; focus ((try simp at hk); go_simp; exact hK _ _ (Grow.refl _) hF rfl))
  (refine relT_pure ?_; apply Exists.intro; refine ⟨fun aR wQ hF hk => relT_none fun K hK => ?_, ?_⟩; focus ((try simp at hk); go_simp; exact hK _ _ (Grow.refl _) hF rfl))
  (refine relT_pure ?_; apply Exists.intro; refine ⟨fun aR wQ hF hk => relT_none fun K hK => ?_, ?_⟩; focus ((try simp at hk); go_simp; exact hK _ _ (Grow.refl _) hF rfl))
  (refine relT_pure ?_; apply Exists.intro; refine ⟨fun aR wQ hF hk => relT_none fun K hK => ?_, ?_⟩; focus ((try simp at hk); go_simp; exact hK _ _ (Grow.refl _) hF rfl))
  (refine relT_pure ?_; apply Exists.intro; refine ⟨fun aR wQ hF hk => relT_none fun K hK => ?_, ?_⟩; focus ((try simp at hk); have k1 := cell_below hF (Nat.le_refl _) k1; go_simp; exact hK _ _ (Grow.refl _) hF rfl))
  (refine relT_pure ?_; apply Exists.intro; refine ⟨fun aR wQ hF hk => relT_none fun K hK => ?_, ?_⟩; focus ((try simp at hk); have d0 := cell_below hF (Nat.le_refl _) d0; have d1 := cell_below hF (Nat.le_refl _) d1; have d2 := cell_below hF (Nat.le_refl _) d2; have d3 := cell_below hF (Nat.le_refl _) d3; have d4 := cell_below hF (Nat.le_refl _) d4; have d5 := cell_below hF (Nat.le_refl _) d5; go_simp; exact hK _ _ (Grow.refl _) hF rfl))
  (refine relT_pure ?_; apply Exists.intro; refine ⟨fun aR wQ hF hk => relT_none fun K hK => ?_, ?_⟩; focus ((try simp at hk); go_simp; refine (cost_halt _).mono ?_; rintro e w' ⟨rfl, hg⟩; exact hK _ _ hg (Grow.trans hF hg) rfl))
  (refine relT_pure ?_; apply Exists.intro; refine ⟨fun aR wQ hF hk => relT_none fun K hK => ?_, ?_⟩; focus ((try simp at hk); have hw1 := HW1.out; go_simp; exact hK _ _ (Grow.refl _) hF rfl))
  (refine relT_pure ?_; apply Exists.intro; refine ⟨fun aR wQ hF hk => relT_none fun K hK => ?_, ?_⟩; focus ((try simp at hk); have hw2 := HW2.out; go_simp; exact hK _ _ (Grow.refl _) hF rfl))
  refine relT_done fun wR => ?_
  refine fun v hv => ?_; obtain rfl : v = _ := hv
  refine fun v hv => ?_; obtain rfl : v = _ := hv
  refine fun v hv => ?_; obtain rfl : v = _ := hv
  refine fun v hv => ?_; obtain rfl : v = _ := hv
  refine fun v hv => ?_; obtain rfl : v = _ := hv
  refine fun v hv => ?_; obtain rfl : v = _ := hv
  refine fun v hv => ?_; obtain rfl : v = _ := hv
  refine fun v hv => ?_; obtain rfl : v = _ := hv
  refine fun v hv => ?_; obtain rfl : v = _ := hv
  simp only [Act.put, List.setIfInBounds_toArray, List.set_cons_zero, List.set_cons_succ]
  refine relT_nil fun hF => ?_
  simp only [List.drop_succ_cons, List.drop_zero]
  have HKR := Lib.hid (show wR.heap[b]? = some (.cells (kCells { s with told := tv, q := q, cycle := s.cycle + 10, running := 0 }) 187 (0, 0)) from hF.at HKH.out)
  have HOR := Lib.hid (own_grow HO.out hF)
  have H7 := Lib.hid (H6.out.grow hF)
  have HG7 := Lib.hid (hF.at HG6.out)
  clear hF HKH HO H6 HG6 k1 d0 d1 d2 d3 d4 d5
  go_upto_region 15 with (first
    | ((with_reducible refine store_in rfl 53 _ _ rfl b 1 187 _ (kCells { s with told := tv, q := q, cycle := s.cycle + 10 + 12, running := 0 }) (.int .u64 ((s.cycle : Int) + 22)) info53 HKR.out rfl ?_ ?_ ?_ ?_ ?_); (· rfl); (· rfl); (· rw [kCells_size]; decide); (· exact k_cycle { s with told := tv, q := q, cycle := s.cycle + 10, running := 0 } (s.cycle + 10 + 12)); intro w8 hw8 hb8 ho8; clear hw8))
  have H8 := Lib.hid (H7.out.cyc (n := s.cycle + 10 + 12) (show KAt wR b { s with told := tv, q := q, cycle := s.cycle + 10, running := 0 } from HKR.out) HR.out HOR.out hb8 ho8)
  have HG8 := Lib.hid (ho8.at (ty_ne2 HG7.out HKR.out (by decide)) HG7.out)
  clear hb8 ho8 HKR HOR HR H7 HG7
  have d0 := cell_block HG8.out 0
  simp at d0
  obtain ⟨cap, rest, e1, e2⟩ := H8.out.t
  have HE1 := Lib.hid e1
  have HT := Lib.hid e2
  have t5 := cell_block e2 5
  simp at t5
  clear e1 e2
  go_upto_region 22 with (first
    | ((with_reducible refine store_in rfl 3 _ _ rfl tb 5 189 _ (tkC 1 1 1 mv ++ rest).toArray (.int .i64 1) info3 HT.out rfl ?_ ?_ ?_ ?_ ?_); (· rfl); (· rfl); (· simp); (· simp); intro w9 hw9 hb9 ho9; clear hw9))
  have H9 := Lib.hid (H8.out.task HE1.out HT.out hb9 ho9)
  clear hb9 ho9 HT HE1 t5 d0 H8 HG8
  have HT22 := Lib.hid (tell1 H9.out 22 0 0 0 (by decide) (by decide) (by decide) (by decide) (by show s.cycle + 10 + 12 < 1000000; have := HSM.out; omega) (by have := HLN.out; simp; omega))
  go_wp2_with fail
  refine HT22.out.mono ?_
  rintro _ w10 ⟨rfl, h3⟩
  have H10 := Lib.hid h3
  clear h3 H9 HT22
  have HGO := Lib.hid (gone1 H10.out HIN.out HRUN.out)
  go_wp2_with fail
  refine HGO.out.mono ?_
  rintro _ w11 ⟨rfl, h3⟩
  have H11 := Lib.hid h3
  clear h3 H10 HGO
  go_wp2
  (try simp only [Exit.inBlock, Exit.then])
  exact bodyPost_ret (results_none rfl _ _ _) rfl ⟨rfl, H11.out⟩
end
end Go.Proofs.YtnhmdinpfcoebaaGreatDoor
end

/-! === KAct -/
section
/- kern.Kernel of one task: dispatch of none; Act. -/
namespace Go.Proofs.YtnhmdinpfcoebaaGreatDoor
open Go.Proofs.YtnhmdinpfcoebaaGreatDoor.Qu
open Go.RowKit
set_option linter.unusedVariables false
set_option linter.unusedSimpArgs false
set_option maxRecDepth 100000

open Go.Lib
attribute [local irreducible] kCells
section
variable {B : Nat} {w0 w : World} {b tb nb kb cb xb : Nat} {s : KS} {Lq : Qu.Rows} {L : List Top.Ev} {st job at_ : Nat} {mv : Value}
set_option maxHeartbeats 8000000 in
theorem dispB (h : K1 B w0 w b tb nb kb cb xb s Lq (tkC st job at_ mv) L) (hlead : lead Lq = none) (hr : s.running = 0) (hL : L.length ≤ 100) (hsm : s.cycle < 900000) :
    Calls Tryz.prog 124 #[.pointer (some ⟨b, 0, none⟩), .int .u32 0] w fun r w' => r = .returned (.tuple #[]) ∧ K1 B w0 w' b tb nb kb cb xb { s with cycle := s.cycle + 10 + 1, running := 255 } Lq (tkC st job at_ mv) (L ++ [⟨5, s.cycle, s.count, 255, 0, 0⟩]) := by
  have H := Lib.hid h
  have HLN := Lib.hid hL
  have HSM := Lib.hid hsm
  have HRN := Lib.hid hr
  obtain ⟨tv, q, h1, h2, h3⟩ := h.k
  have HFN := Lib.hid (first_no w b Lq hlead (show RQ { s with told := tv } w b Lq from ⟨q, h1, h2⟩))
  have k530 := h1.running
  dsimp only at k530
  rw [HRN.out] at k530
  clear h hlead hr hL hsm h1 h2 h3
  go_enter Tryz.func124, Tryz.ntmps124
  go_wp2_with fail
  refine HFN.out.mono ?_
  rintro _ w1 ⟨rfl, hw⟩
  have hw := hw.symm
  subst hw
  clear HFN
  go_wp2_with fail
  refine (tell1 H.out 5 255 0 0 (by decide) (by decide) (by decide) (by decide) (by have := HSM.out; omega) (by have := HLN.out; omega)).mono ?_
  rintro _ w2 ⟨rfl, h3⟩
  have H2 := Lib.hid h3
  clear h3 k530 H
  obtain ⟨tv, q, h1, h2, h3⟩ := H2.out.k
  have k1 := h1.cycle
  dsimp only at k1
  have HKH := Lib.hid (show w2.heap[b]? = some (.cells (kCells { s with told := tv, q := q }) 187 (0, 0)) from h1)
  have HR := Lib.hid h2
  have HO := Lib.hid h3
  have c1 : (s.cycle : Int) < 900000 := by have := HSM.out; omega
  clear h1 h2 h3
  go_upto_region 6 with (first
    | ((with_reducible refine store_in rfl 53 _ _ rfl b 1 187 _ (kCells { s with told := tv, q := q, cycle := s.cycle + 10 }) (.int .u64 ((s.cycle : Int) + 10)) info53 HKH.out rfl ?_ ?_ ?_ ?_ ?_); (· rfl); (· rfl); (· rw [kCells_size]; decide); (· exact k_cycle { s with told := tv, q := q } (s.cycle + 10)); intro w3 hw3 hb3 ho3; clear hw3))
  have H3 := Lib.hid (H2.out.cyc (show KAt w2 b { s with told := tv, q := q } from HKH.out) HR.out HO.out hb3 ho3)
  have HO3 := Lib.hid (own_only HO.out ho3 HKH.out (by decide))
  have HKI := Lib.hid hb3
  clear hb3 ho3 k1 HKH HO H2
  go_upto_region 7 with (first
    | ((with_reducible refine store_in rfl 3 _ _ rfl b 530 187 _ (kCells { s with told := tv, q := q, cycle := s.cycle + 10, running := 255 }) (.int .i64 255) info3 HKI.out rfl ?_ ?_ ?_ ?_ ?_); (· rfl); (· rfl); (· rw [kCells_size]; decide); (· exact k_running { s with told := tv, q := q, cycle := s.cycle + 10 } 255); intro w4 hw4 hb4 ho4; clear hw4))
  have H4 := Lib.hid (H3.out.run (show KAt w3 b { s with told := tv, q := q, cycle := s.cycle + 10 } from HKI.out) HR.out HO3.out hb4 ho4)
  have HO4 := Lib.hid (own_only HO3.out ho4 HKI.out (by decide))
  have HKJ := Lib.hid hb4
  have k1 := (show KAt w4 b { s with told := tv, q := q, cycle := s.cycle + 10, running := 255 } from hb4).cycle
  dsimp only at k1
  clear hb4 ho4 HKI HO3 H3
  simp only [Act.put, List.setIfInBounds_toArray, List.set_cons_zero, List.set_cons_succ]
  have hw2 : IntKind.u64.wrap ((s.cycle : Int) + 10 + 1) = (s.cycle : Int) + 11 := by have := HSM.out; rw [wrap_u64n]; omega
  go_wp2_with (first
    | ((with_reducible refine store_in rfl 53 _ _ rfl b 1 187 _ (kCells { s with told := tv, q := q, cycle := s.cycle + 10 + 1, running := 255 }) (.int .u64 ((s.cycle : Int) + 11)) info53 HKJ.out rfl ?_ ?_ ?_ ?_ ?_); (· rfl); (· rfl); (· rw [kCells_size]; decide); (· exact k_cycle { s with told := tv, q := q, cycle := s.cycle + 10, running := 255 } (s.cycle + 10 + 1)); intro w5 hw5 hb5 ho5; clear hw5))
  have H5 := Lib.hid (H4.out.cyc (n := s.cycle + 10 + 1) (show KAt w4 b { s with told := tv, q := q, cycle := s.cycle + 10, running := 255 } from HKJ.out) HR.out HO4.out hb5 ho5)
  (try simp only [Exit.inBlock, Exit.then])
  exact bodyPost_ret (results_none rfl _ _ _) rfl ⟨rfl, H5.out⟩
set_option maxHeartbeats 8000000 in
theorem act1 {s2 : KS} {Lq2 : Qu.Rows} {L2 : List Top.Ev} {st2 job2 at2 : Nat} (h : K1 B w0 w b tb nb kb cb xb s Lq (tkC st job at_ mv) [])
    (hd : ∀ w, K1 B w0 w b tb nb kb cb xb s Lq (tkC st job at_ mv) [] → Calls Tryz.prog 124 #[.pointer (some ⟨b, 0, none⟩), .int .u32 0] w fun r w' => r = .returned (.tuple #[]) ∧ K1 B w0 w' b tb nb kb cb xb s2 Lq2 (tkC st2 job2 at2 mv) L2) :
    Calls Tryz.prog 84 #[.pointer (some ⟨b, 0, none⟩), .int .u32 0] w fun r w' => ∃ v, r = .returned v ∧ w'.ownsRow w0.heap.size 98 6 v L2.length (evsC L2) ∧ KZ B w0 w' b tb nb kb cb xb s2 Lq2 (tkC st2 job2 at2 mv) := by
  have H := Lib.hid h
  have HD := Lib.hid hd
  obtain ⟨tv, q, h1, h2, h3⟩ := h.k
  have k548 := h1.stopped
  have k546 := h1.lines
  dsimp only at k548 k546
  rw [h.y.st] at k548
  rw [h.y.lines] at k546
  have HN := Lib.hid h.n
  clear h hd h1 h2 h3
  go_enter Tryz.func84, Tryz.ntmps84
  go_wp2_with fail
  refine (lactive_w w nb HN.out).mono ?_
  rintro _ w1 ⟨rfl, hw⟩
  have hw := hw.symm
  subst hw
  go_wp2_with fail
  refine (lenter_w w nb HN.out).mono ?_
  rintro _ w1 ⟨rfl, hg⟩
  have H1 := Lib.hid (H.out.grow hg)
  clear hg k548 k546 HN H
  go_wp2_with fail
  refine (HD.out w1 H1.out).mono ?_
  rintro _ w2 ⟨rfl, h3⟩
  have H2 := Lib.hid h3
  clear h3 H1
  have HTA := Lib.hid (take1 H2.out)
  go_wp2_with fail
  refine HTA.out.mono ?_
  rintro _ w3 ⟨v, rfl, ho, h3⟩
  have H3 := Lib.hid h3
  have HO3 := Lib.hid ho
  clear h3 ho HTA H2
  go_wp2
  go_ret
  exact ⟨v, rfl, HO3.out, H3.out⟩
end
end Go.Proofs.YtnhmdinpfcoebaaGreatDoor
end

/-! === KStep -/
section
/- kern.Kernel of one task: Step. -/
namespace Go.Proofs.YtnhmdinpfcoebaaGreatDoor
open Go.Proofs.YtnhmdinpfcoebaaGreatDoor.Qu
open Go.RowKit
set_option linter.unusedVariables false
set_option linter.unusedSimpArgs false
set_option maxRecDepth 100000

open Go.Lib
attribute [local irreducible] kCells
theorem own_fresh {w : World} {e s n : Nat} {v : Value} {xs : List Value} (h : w.ownsRow w.heap.size e s v n xs) : v = .slice none 0 0 ∧ n = 0 := by
  rcases h.2 with h2 | ⟨g, cap, cur, h1, hB, hb, _⟩
  · exact h2
  · have := heapAt_lt hb; omega
theorem own_reads6 {w : World} {B e s n : Nat} {v : Value} {xs : List Value} (h : w.ownsRow B e s v n xs) : ∃ A cap, v = .slice A n cap ∧ Reads w w.heap.size s A n xs := by
  obtain ⟨A, cap, hv, _⟩ := own_slice h
  refine ⟨A, cap, hv, h.1, fun hn => ?_⟩
  obtain ⟨g, cp, rest, e1, _, _, hb, _⟩ := own_open h hn
  rw [hv] at e1
  injection e1 with e1 _ _
  refine ⟨⟨g, 0, none⟩, e1, heapAt_lt hb, fun j u hu => ?_⟩
  have e8 : (⟨g, 0, none⟩ : Addr).add j = ⟨g, j, none⟩ := by unfold Addr.add; split <;> simp_all
  rw [e8, cell_block hb]
  have hj := (List.getElem?_eq_some_iff.1 hu).1
  simp [List.getElem?_append_left hj, hu]
theorem evsC_ones : ∀ (l : List Top.Ev), ∀ u ∈ evsC l, u.oneCell' = true
  | [], u, h => by simp [evsC] at h
  | e :: l, u, h => by
    rw [evsC, List.mem_append] at h
    rcases h with h | h
    · exact evL_one e u h
    · exact evsC_ones l u h
theorem own_kt {w w' : World} {B B' n : Nat} {v : Value} {xs : List Value} (h : w.ownsRow B' 98 6 v n xs) (hk : Kt B w w') : w'.ownsRow B' 98 6 v n xs := by
  refine ⟨h.1, ?_⟩
  rcases h.2 with h2 | ⟨g, cap, cur, h1, hB, hb, h3, h4, h5, h6⟩
  · exact .inl h2
  · exact .inr ⟨g, cap, cur, h1, hB, hk.k _ _ _ _ (by decide) (by decide) (by decide) (by decide) hb, h3, h4, h5, h6⟩
section
variable {B : Nat} {w0 w : World} {b tb nb kb cb xb : Nat} {s : KS} {Lq : Qu.Rows} {L : List Top.Ev} {st job at_ : Nat} {mv : Value}
/-- Some other blocks of events are written. -/
theorem K1.re {P : Nat → Prop} {w' : World} {T : List Value} (h : K1 B w w b tb nb kb cb xb s Lq T []) (hp : Kp P w w') (hP : ∀ k cs t fr, w.heap[k]? = some (.cells cs t fr) → t ≠ 98 → P k) : K1 B w' w' b tb nb kb cb xb s Lq T [] := by
  obtain ⟨tv, q, h1, h2, h3⟩ := h.k
  obtain ⟨rfl, _⟩ := own_fresh h3
  obtain ⟨cap, rest, e1, e2⟩ := h.t
  exact ⟨⟨_, q, hp.at (hP _ _ _ _ h1 (by decide)) h1, h2, World.ownsRow_nil _ _ _ _⟩, h.y.kp hp (fun k cs t fr hk ht => hP k cs t fr hk (by rcases ht with rfl | rfl | rfl | rfl <;> decide)) rfl rfl rfl rfl, hp.at (hP _ _ _ _ h.n (by decide)) h.n, ⟨cap, rest, e1, hp.at (hP _ _ _ _ e2 (by decide)) e2⟩, Kt.refl _ _, h.bb, h.bt, h.bn, Nat.le_trans h.b0 hp.size⟩
/-- What a step gives. -/
def StepO (B : Nat) (w : World) (b tb nb kb cb xb : Nat) (s : KS) (Lq : Qu.Rows) (T : List Value) (L : List Top.Ev) (r : Ending) (w' : World) : Prop :=
  ∃ v, r = .returned v ∧ w'.ownsRow w.heap.size 98 6 v L.length (evsC L) ∧ KZ B w w' b tb nb kb cb xb s Lq T
def StepE (B : Nat) (w : World) (b tb nb kb cb xb : Nat) {α : Type} (s : α → KS) (Lq : Qu.Rows) (T : List Value) (L : List Top.Ev) (r : Ending) (w' : World) : Prop := ∃ x, StepO B w b tb nb kb cb xb (s x) Lq T L r w'
set_option maxHeartbeats 8000000 in
theorem step1 {α : Type} {s1 s2 : α → KS} {Lq1 Lq2 : Qu.Rows} {st1 job1 at1 st2 job2 at2 : Nat} {L1 L2 : List Top.Ev} (hb0 : B ≤ w.heap.size) (hl1 : L1.length ≤ 100) (hl2 : L2.length ≤ 100)
    (hT : Calls Tryz.prog 82 #[.pointer (some ⟨b, 0, none⟩)] w fun r w' => StepE B w b tb nb kb cb xb s1 Lq1 (tkC st1 job1 at1 mv) L1 r w')
    (hA : ∀ x w1, Kt B w w1 → K1 B w1 w1 b tb nb kb cb xb (s1 x) Lq1 (tkC st1 job1 at1 mv) [] → Calls Tryz.prog 84 #[.pointer (some ⟨b, 0, none⟩), .int .u32 0] w1 fun r w' => StepO B w1 b tb nb kb cb xb (s2 x) Lq2 (tkC st2 job2 at2 mv) L2 r w') :
    Calls Tryz.prog 56 #[.pointer (some ⟨b, 0, none⟩), .int .u32 0, .int .u32 0] w fun r w' => StepE B w b tb nb kb cb xb s2 Lq2 (tkC st2 job2 at2 mv) (L1 ++ L2) r w' := by
  have HT := Lib.hid hT
  have HA := Lib.hid hA
  have HB0 := Lib.hid hb0
  have HL1 := Lib.hid hl1
  have HL2 := Lib.hid hl2
  obtain ⟨i0, hi, hz0, hz1, hz2⟩ := info_parts info98z
  have HI0 := Lib.hid hi; clear hi
  have HZ0 := Lib.hid hz0; clear hz0
  have HZ1 := Lib.hid hz1; clear hz1
  have HZ2 := Lib.hid hz2; clear hz2
  clear hT hA hb0 hl1 hl2
  go_enter Tryz.func56, Tryz.ntmps56
  go_wp2_with fail
  refine HT.out.mono ?_
  rintro _ w1 ⟨x, v1, rfl, ho, hz⟩
  have HO1 := Lib.hid ho
  have H1 := Lib.hid hz.k
  have HG1 := Lib.hid hz.g
  obtain ⟨A1, c1, rfl, _⟩ := own_slice ho
  clear ho hz HT
  have HRS := Lib.hid (raise1 H1.out)
  go_wp2_with fail
  refine HRS.out.mono ?_
  rintro _ w2 ⟨v2, rfl, ho, hz⟩
  have HO2 := Lib.hid (own_kt HO1.out hz.g)
  have H2 := Lib.hid hz.k
  have HG2 := Lib.hid (HG1.out.trans hz.g)
  obtain ⟨A2, c2, rfl, hr⟩ := own_reads6 ho
  have HR2 := Lib.hid hr
  have HBW := Lib.hid (show w.heap.size ≤ w2.heap.size from HG2.out.z)
  clear ho hz HRS H1 HO1 HG1 hr
  go_wp2_with (at_builtin; refine wpList_append_any _ rfl (.tmp 10) (.tmp 13) 41 rfl w.heap.size 98 i0 _ 6 40 Tryz.underlying41 HI0.out HZ0.out HZ1.out HZ2.out rfl (by decide) _ L1.length (evsC L1) (by rfl) HO2.out _ A2 0 c2 [] (by rfl) HR2.out (by simp) ?c4 ?c5 ?c6 ?c7)
  case c4 => have := HL1.out; unfold maxLen; omega
  case c5 => have := HL1.out; omega
  case c6 => exact HBW.out
  case c7 =>
    intro v3 w3 hown hgr hblk
    have HO3 := Lib.hid hown
    have hp := Kp.of_grown (P := fun k => (Value.slice A1 L1.length c1).ownBlock ≠ some k) hgr (fun k h => h)
    have hnk : ∀ k cs t fr, w2.heap[k]? = some (.cells cs t fr) → t ≠ 98 → (Value.slice A1 L1.length c1).ownBlock ≠ some k := fun k cs t fr hk ht e => by
      obtain ⟨cur, hc⟩ := own_blk HO2.out e
      exact ty_ne2 hk hc ht rfl
    have H3 := Lib.hid (H2.out.re hp hnk)
    have HG3 := Lib.hid (HG2.out.step HB0.out hp (fun k hk e => by have := (HO2.out.lt k e).1; have := HB0.out; omega) (fun k cs t fr hk _ _ _ _ _ e => by have := (HO2.out.lt k e).1; omega))
    obtain ⟨A3, c3, rfl, _⟩ := own_slice hown
    clear hown hgr hblk hp hnk H2 HO2 HG2 HR2 HBW
    have HAC := Lib.hid (HA.out x w3 HG3.out H3.out)
    go_wp2_with fail
    refine HAC.out.mono ?_
    rintro _ w4 ⟨v4, rfl, ho, hz⟩
    have HO4 := Lib.hid (own_kt HO3.out hz.g)
    have H4 := Lib.hid hz.k
    have HG4 := Lib.hid (HG3.out.trans hz.g)
    obtain ⟨A4, c4, rfl, hr⟩ := own_reads6 ho
    have HR4 := Lib.hid hr
    have HV4 := Lib.hid (show ∀ u ∈ evsC L2, u.oneCell' = true from evsC_ones L2)
    have HBW := Lib.hid (show w.heap.size ≤ w4.heap.size from HG4.out.z)
    clear ho hz HAC H3 HO3 HG3 hr
    go_wp2_with (at_builtin; refine wpList_append_any _ rfl (.tmp 15) (.tmp 18) 41 rfl w.heap.size 98 i0 _ 6 40 Tryz.underlying41 HI0.out HZ0.out HZ1.out HZ2.out rfl (by decide) _ L1.length (evsC L1) (by rfl) HO4.out _ A4 L2.length c4 (evsC L2) (by rfl) HR4.out HV4.out ?d4 ?d5 ?d6 ?d7)
    case d4 => have := HL1.out; have := HL2.out; unfold maxLen; omega
    case d5 => have := HL1.out; have := HL2.out; omega
    case d6 => exact HBW.out
    case d7 =>
      intro v5 w5 hown hgr hblk
      have HO5 := Lib.hid hown
      have hp := Kp.of_grown (P := fun k => (Value.slice A3 L1.length c3).ownBlock ≠ some k) hgr (fun k h => h)
      have hnk : ∀ k cs t fr, w4.heap[k]? = some (.cells cs t fr) → t ≠ 98 → (Value.slice A3 L1.length c3).ownBlock ≠ some k := fun k cs t fr hk ht e => by
        obtain ⟨cur, hc⟩ := own_blk HO4.out e
        exact ty_ne2 hk hc ht rfl
      have H5 := Lib.hid (H4.out.re hp hnk)
      have HG5 := Lib.hid (HG4.out.step HB0.out hp (fun k hk e => by have := (HO4.out.lt k e).1; have := HB0.out; omega) (fun k cs t fr hk _ _ _ _ _ e => by have := (HO4.out.lt k e).1; omega))
      clear hown hgr hblk hp hnk H4 HO4 HG4 HR4 HBW HV4
      go_wp2
      go_ret
      exact ⟨x, v5, rfl, by rw [List.length_append, evsC_append]; exact HO5.out, HG5.out, H5.out⟩
/-- One task ahead of its first step. -/
structure First (B : Nat) (w : World) (b tb nb kb cb xb : Nat) (s : KS) (mv : Value) : Prop where
  k : K1 B w w b tb nb kb cb xb s (fun _ => []) (tkC 0 0 0 mv) []
  row : ∃ lb cap rest, s.row = .slice (some ⟨lb, 0, none⟩) 1 cap ∧ 1 ≤ cap ∧ cap ≤ maxLen ∧ w.heap[lb]? = some (.cells (.int .i64 ((0 : Nat) : Int) :: .int .i64 1 :: rest).toArray 240 (0, 0)) ∧ B ≤ lb
  c : s.count = 0
  y : s.cycle = 0
  r : s.running = 255
abbrev QA : Qu.Rows := putR (fun _ => []) 0 0
theorem QA_lead : lead QA = some 0 := by decide
theorem QA_first : firstR QA = 0 := by decide
theorem QA_in : inR QA 0 := by decide
theorem QA_gone : lead (removeR QA 0) = none := by decide
theorem Q0_put : putOk (fun _ => []) 0 0 := by decide
abbrev evA : List Top.Ev := [⟨6, 0, 1, 0, 0, 1⟩, ⟨5, 0, 1, 0, 255, 0⟩, ⟨22, 22, 1, 0, 0, 0⟩]
abbrev evB : List Top.Ev := [⟨5, 22, 2, 255, 0, 0⟩]
theorem stepA (h : First B w b tb nb kb cb xb s mv) (hT : Qu.TabAt w) (hB : 0 < B) :
    Calls Tryz.prog 56 #[.pointer (some ⟨b, 0, none⟩), .int .u32 0, .int .u32 0] w fun r w' => StepE B w b tb nb kb cb xb (fun x : Option Addr × Nat => { s with count := 1, row := .slice x.1 0 x.2, runs := upB s.runs 0 false, cycle := 22, running := 0 }) (removeR QA 0) (tkC 7 1 1 mv) evA r w' := by
  obtain ⟨lb, cap, rest, r1, r2, r3, r4, r5⟩ := h.row
  refine step1 (s1 := fun x : Option Addr × Nat => { s with count := 1, row := .slice x.1 0 x.2, runs := upB s.runs 0 false }) (Lq1 := QA) (L1 := [⟨6, 0, 1, 0, 0, 1⟩]) (L2 := [⟨5, 0, 1, 0, 255, 0⟩, ⟨22, 22, 1, 0, 0, 0⟩]) (st1 := 1) (job1 := 1) (at1 := 0) h.k.b0 (by decide) (by decide) ?_ ?_
  · refine (tickA h.k Q0_put ⟨by rw [h.c]; decide, by rw [h.y]; decide⟩ lb cap rest r1 r2 r3 r4 r5).mono ?_
    rintro r w' ⟨v, A, c, h1, h2, h3⟩
    rw [h.c, h.y] at h2
    rw [h.c] at h3
    exact ⟨(A, c), v, h1, h2, h3⟩
  · intro x w1 hkt h1
    refine (act1 h1 (s2 := { s with count := 1, row := .slice x.1 0 x.2, runs := upB s.runs 0 false, cycle := 22, running := 0 }) (Lq2 := removeR QA 0) (st2 := 7) (job2 := 1) (at2 := 1) (L2 := [⟨5, 0, 1, 0, 255, 0⟩, ⟨22, 22, 1, 0, 0, 0⟩]) ?_).mono fun r w' h => h
    intro w2 h2
    have hd := dispA h2 (fun j hj => (Below.cell (p := ⟨0, j, none⟩) hkt.b hB).trans (hT j hj)) hB ⟨by show 1 < 1000000; decide, by show s.cycle < 1000000; rw [h.y]; decide⟩ QA_lead QA_first QA_in (show upB s.runs 0 false 0 = false from upB_same _ _ _) h.r (by decide) (by show s.cycle < 900000; rw [h.y]; decide)
    refine hd.mono ?_
    rintro r w' ⟨h3, h4⟩
    refine ⟨h3, ?_⟩
    have e : s.cycle = 0 := h.y
    simp only [e] at h4
    exact h4
/-- Behind the first step. -/
structure Second (B : Nat) (w : World) (b tb nb kb cb xb : Nat) (s : KS) (mv : Value) : Prop where
  k : K1 B w w b tb nb kb cb xb s (removeR QA 0) (tkC 7 1 1 mv) []
  row : ∃ A c, s.row = .slice A 0 c
  c : s.count = 1
  y : s.cycle = 22
  r : s.running = 0
theorem stepB (h : Second B w b tb nb kb cb xb s mv) :
    Calls Tryz.prog 56 #[.pointer (some ⟨b, 0, none⟩), .int .u32 0, .int .u32 0] w fun r w' => StepE B w b tb nb kb cb xb (fun _ : Unit => { s with count := 2, cycle := 33, running := 255 }) (removeR QA 0) (tkC 7 1 1 mv) evB r w' := by
  obtain ⟨A, c, hrow⟩ := h.row
  refine step1 (s1 := fun _ : Unit => { s with count := 2 }) (Lq1 := removeR QA 0) (L1 := []) (L2 := evB) (st1 := 7) (job1 := 1) (at1 := 1) h.k.b0 (by decide) (by decide) ?_ ?_
  · refine (tickB h.k ⟨by rw [h.c]; decide, by rw [h.y]; decide⟩ A c hrow).mono ?_
    rintro r w' ⟨v, h1, h2, h3⟩
    rw [h.c] at h3
    exact ⟨(), v, h1, h2, h3⟩
  · intro x w1 hkt h1
    refine (act1 h1 (s2 := { s with count := 2, cycle := 33, running := 255 }) (Lq2 := removeR QA 0) (st2 := 7) (job2 := 1) (at2 := 1) (L2 := evB) ?_).mono fun r w' h => h
    intro w2 h2
    have hd := dispB h2 QA_gone h.r (by decide) (by show s.cycle < 900000; rw [h.y]; decide)
    refine hd.mono ?_
    rintro r w' ⟨h3, h4⟩
    refine ⟨h3, ?_⟩
    have e : s.cycle = 22 := h.y
    simp only [e] at h4
    exact h4
end
end Go.Proofs.YtnhmdinpfcoebaaGreatDoor
end

/-! === KWorld -/
section
/- world.World over a kernel of one task: lines, value, Next, Stamp. -/
namespace Go.Proofs.YtnhmdinpfcoebaaGreatDoor
open Go.Proofs.YtnhmdinpfcoebaaGreatDoor.Qu
open Go.RowKit
set_option linter.unusedVariables false
set_option linter.unusedSimpArgs false
set_option maxRecDepth 100000

open Go.Lib
attribute [local simp] RelKnown Is
attribute [local irreducible] kCells
/-- A world without arrivals, without a tape. -/
def WAt (w : World) (g b dn st : Nat) : Prop := w.heap[g]? = some (.cells #[.pointer (some ⟨b, 0, none⟩), .slice none 0 0, .slice none 0 0, .int .i64 dn, .int .i64 st] 140 (0, 0))
theorem WAt.grow {w w' : World} {g b dn st : Nat} (h : WAt w g b dn st) (hg : Grow w w') : WAt w' g b dn st := hg.at h
theorem kreads_w (w : World) (b : Nat) (s : KS) (hK : KAt w b s) : Calls Tryz.prog 85 #[.pointer (some ⟨b, 0, none⟩)] w fun r w' => r = .returned (.int .u64 s.reads) ∧ w' = w := by
  have k := hK.reads
  clear hK
  go_enter Tryz.func85, Tryz.ntmps85
  go_wp2
  go_ret
  exact ⟨rfl, rfl⟩
theorem kstamp_w (w : World) (b : Nat) (s : KS) (hK : KAt w b s) : Calls Tryz.prog 62 #[.pointer (some ⟨b, 0, none⟩)] w fun r w' => r = .returned (.tuple #[.int .u64 s.cycle, .int .u64 s.count]) ∧ Grow w w' := by
  have k0 := hK.count
  have k1 := hK.cycle
  clear hK
  go_enter Tryz.func62, Tryz.ntmps62
  go_wp2_with fail
  go_quiet (fail)
  go_wp2
  go_ret2
  exact ⟨rfl, Grow.drewN w _⟩
theorem wlines_w (w : World) (g b dn st : Nat) (h : WAt w g b dn st) (hd : dn ≤ 100) : Calls Tryz.prog 57 #[.pointer (some ⟨g, 0, none⟩)] w fun r w' => r = .returned (.int .u32 0) ∧ Grow w w' := by
  unfold WAt at h
  have c1 := cell_block h 1
  have c3 := cell_block h 3
  simp at c1 c3
  have hdi : (dn : Int) ≤ 100 := by omega
  clear h hd
  go_enter Tryz.func57, Tryz.ntmps57
  go_wp2_with fail
  go_loopw [3] (fun b wr => b = .int .u32 0 ∧ wr = w) (fun _ _ => 0)
  case atStart => exact ⟨rfl, rfl⟩
  case round =>
    obtain ⟨rfl, hw⟩ := hrel
    subst hw
    go_wp2_with fail
    go_quiet (fail)
    go_wp2
    go_ret
    exact ⟨rfl, Grow.drewN _ _⟩
theorem wvalue_w (w : World) (g b dn st : Nat) (s : KS) (h : WAt w g b dn st) (hK : KAt w b s) : Calls Tryz.prog 58 #[.pointer (some ⟨g, 0, none⟩)] w fun r w' => r = .returned (.int .u32 0) ∧ Grow w w' := by
  unfold WAt at h
  have c0 := cell_block h 0
  have c2 := cell_block h 2
  simp at c0 c2
  have HR := Lib.hid (kreads_w w b s hK)
  have c4 : decide ((s.reads : Int) < 0) = false := by simp
  clear h hK
  go_enter Tryz.func58, Tryz.ntmps58
  go_wp2_with fail
  refine HR.out.mono ?_
  rintro _ w1 ⟨rfl, hw⟩
  have hw := hw.symm
  subst hw
  go_wp2
  go_ret
  exact ⟨rfl, Grow.refl _⟩
/-- What a run's step may change. -/
structure Kn (B : Nat) (w0 w : World) : Prop where
  b : Below B w0 w
  z : w0.heap.size ≤ w.heap.size
  k : ∀ (k : Nat) (cs : Array Value) (t : TypeId) (fr : Nat × Nat), t ≠ 187 → t ≠ 189 → t ≠ 255 → t ≠ 240 → t ≠ 140 → w0.heap[k]? = some (.cells cs t fr) → w.heap[k]? = some (.cells cs t fr)
theorem Kn.of {B : Nat} {w0 w : World} (h : Kt B w0 w) : Kn B w0 w := ⟨h.b, h.z, fun k cs t fr h1 h2 h3 h4 _ h6 => h.k k cs t fr h1 h2 h3 h4 h6⟩
theorem Kn.trans {B : Nat} {a b c : World} (h : Kn B a b) (g : Kn B b c) : Kn B a c := ⟨h.b.trans g.b, Nat.le_trans h.z g.z, fun k cs t fr h1 h2 h3 h4 h5 h6 => g.k k cs t fr h1 h2 h3 h4 h5 (h.k k cs t fr h1 h2 h3 h4 h5 h6)⟩
theorem Kn.only {B g : Nat} {w0 w w' : World} {cs : Array Value} {fr : Nat × Nat} (h : Kn B w0 w) (ho : Only g w w') (hg : B ≤ g) (hB : B ≤ w0.heap.size) (hb : w.heap[g]? = some (.cells cs 140 fr)) : Kn B w0 w' :=
  ⟨h.b.trans (ho.below hg (Nat.le_trans hB h.z)), Nat.le_trans h.z ho.2.2.2.1, fun k cs2 t fr2 h1 h2 h3 h4 h5 h6 => by
    have h7 := h.k k cs2 t fr2 h1 h2 h3 h4 h5 h6
    exact ho.at (ty_ne2 h7 hb h5) h7⟩
/-- What Next gives. -/
def NextO (B : Nat) (w0 : World) (g b dn st tb nb kb cb xb : Nat) {α : Type} (s : α → KS) (Lq : Qu.Rows) (T : List Value) (L : List Top.Ev) (r : Ending) (w : World) : Prop :=
  ∃ v x, r = .returned v ∧ WAt w g b (dn + 1) st ∧ w.ownsRow w0.heap.size 98 6 v L.length (evsC L) ∧ K1 B w w b tb nb kb cb xb (s x) Lq T [] ∧ Kn B w0 w
theorem K1.re140 {B b tb nb kb cb xb g : Nat} {w w' : World} {s : KS} {Lq : Qu.Rows} {T : List Value} {cs : Array Value} {fr : Nat × Nat} (h : K1 B w w b tb nb kb cb xb s Lq T []) (ho : Only g w w') (hb : w.heap[g]? = some (.cells cs 140 fr)) : K1 B w' w' b tb nb kb cb xb s Lq T [] := by
  obtain ⟨tv, q, h1, h2, h3⟩ := h.k
  obtain ⟨rfl, _⟩ := own_fresh h3
  obtain ⟨cap, rest, e1, e2⟩ := h.t
  exact ⟨⟨_, q, ho.at (ty_ne2 h1 hb (by decide)) h1, h2, World.ownsRow_nil _ _ _ _⟩, h.y.kp (Kp.of_only (P := fun k => k ≠ g) ho (fun h => h rfl)) (fun k cs t fr hk ht => ty_ne2 hk hb (by rcases ht with rfl | rfl | rfl | rfl <;> decide)) rfl rfl rfl rfl, ho.at (ty_ne2 h.n hb (by decide)) h.n, ⟨cap, rest, e1, ho.at (ty_ne2 e2 hb (by decide)) e2⟩, Kt.refl _ _, h.bb, h.bt, h.bn, Nat.le_trans h.b0 ho.2.2.2.1⟩
set_option maxHeartbeats 8000000 in
theorem next1 {B b tb nb kb cb xb g dn st : Nat} {w : World} {α : Type} {s0 : KS} {s : α → KS} {Lq0 Lq : Qu.Rows} {T0 T : List Value} {L : List Top.Ev} (hW : WAt w g b dn st) (hlt : dn < st) (hst : st ≤ 100) (hB0 : B ≤ w.heap.size) (hBg : B ≤ g) (hL : L.length ≤ 100)
    (hK : KAt w b s0) (hS : ∀ w1, Grow w w1 → Calls Tryz.prog 56 #[.pointer (some ⟨b, 0, none⟩), .int .u32 0, .int .u32 0] w1 fun r w' => StepE B w1 b tb nb kb cb xb s Lq T L r w') :
    Calls Tryz.prog 37 #[.pointer (some ⟨g, 0, none⟩), .int .i64 1] w fun r w' => NextO B w g b dn st tb nb kb cb xb s Lq T L r w' := by
  have HW := Lib.hid hW
  have HK := Lib.hid hK
  have HB0 := Lib.hid hB0
  have HBG := Lib.hid hBg
  have HLN := Lib.hid hL
  have HST := Lib.hid hS
  have HLT := Lib.hid hlt
  have HSTN := Lib.hid hst
  obtain ⟨i0, hi, hz0, hz1, hz2⟩ := info_parts info98z
  have HI0 := Lib.hid hi; clear hi
  have HZ0 := Lib.hid hz0; clear hz0
  have HZ1 := Lib.hid hz1; clear hz1
  have HZ2 := Lib.hid hz2; clear hz2
  have hdi : (dn : Int) ≤ 100 := by omega
  clear hW hK hB0 hBg hL hS hlt hst
  go_enter Tryz.func37, Tryz.ntmps37
  go_wp2_with fail
  go_loopw [5, 6] (fun o i wr => (i = .int .i64 0 ∧ o = .slice none 0 0 ∧ wr = w) ∨ (i = .int .i64 1 ∧ ∃ x, WAt wr g b (dn + 1) st ∧ wr.ownsRow w.heap.size 98 6 o L.length (evsC L) ∧ K1 B wr wr b tb nb kb cb xb (s x) Lq T [] ∧ Kn B w wr)) (fun _ i _ => 1 - (RowKit.intOf i).toNat)
  case atStart => exact .inl ⟨rfl, rfl, rfl⟩
  case round =>
    rcases hrel with ⟨rfl, rfl, hw⟩ | ⟨rfl, x, hW, hO, hK, hN⟩
    · have hw := hw.symm
      subst hw
      have hw := HW.out
      unfold WAt at hw
      have c3 := cell_block hw 3
      have c4 := cell_block hw 4
      simp at c3 c4
      have hd : decide (dn < st) = true := by have := HLT.out; simpa using this
      have hd2 : decide ((dn : Int) < (st : Int)) = true := by have := HLT.out; simp; omega
      clear hw
      go_upto_region 5 with (fail)
      go_quiet (fail)
      clear c3 c4
      have HGR := Lib.hid (show Grow w (w.drewN nq) from Grow.drewN w nq)
      have HW3 := Lib.hid (HW.out.grow HGR.out)
      have HK3 := Lib.hid (show KAt (w.drewN nq) b s0 from HGR.out.at HK.out)
      clear HW HK
      generalize w.drewN nq = w3 at HGR HW3 HK3 ⊢
      have HW := HW3
      have HK := HK3
      clear HW3 HK3
      have hw := HW.out
      unfold WAt at hw
      have c0 := cell_block hw 0
      simp at c0
      clear hw
      go_upto_region 7 with (fail)
      refine wp_region_rel_float 9 0 (_) (_) _ Grow (fun _ wQ => Grow w3 wQ) [([(5, none)], none), ([(0, none)], none), ([(26, some 0)], none), ([(27, some 0)], none), ([(28, some 0)], none), ([(0, none)], none), ([(30, some 0)], none), ([(0, none)], none), ([(32, some 0)], none)] (by kernel_rfl) (by decide +kernel) rfl rfl (by kernel_rfl) (Grow.drewN w3 1) ?_
      (refine relF_pure ?_; apply Exists.intro; refine ⟨fun aR wQ hF hk => relT_none fun K hK => ?_, ?_⟩; focus ((try simp at hk); go_simp; exact hK _ _ (Grow.refl _) hF rfl))
      (refine relF_pure ?_; apply Exists.intro; refine ⟨fun aR wQ hF hk => relT_none fun K hK => ?_, ?_⟩; focus ((try simp at hk); go_simp; exact hK _ _ (Grow.refl _) hF rfl))
      (refine relF_pure ?_; apply Exists.intro; refine ⟨fun aR wQ hF hk => relT_none fun K hK => ?_, ?_⟩; focus ((try simp at hk); go_simp; exact hK _ _ (Grow.refl _) hF rfl))
      (refine relF_pure ?_; apply Exists.intro; refine ⟨fun aR wQ hF hk => relT_none fun K hK => ?_, ?_⟩; focus ((try simp at hk); go_simp; exact hK _ _ (Grow.refl _) hF rfl))
      (refine relF_pure ?_; apply Exists.intro; refine ⟨fun aR wQ hF hk => relT_none fun K hK => ?_, ?_⟩; focus ((try simp at hk); have c0 := cell_below hF (Nat.le_refl _) c0; go_simp; exact hK _ _ (Grow.refl _) hF rfl))
      (refine relF_pure ?_; apply Exists.intro; refine ⟨fun aR wQ hF hk => relT_none fun K hK => ?_, ?_⟩; focus ((try simp at hk); go_simp; exact hK _ _ (Grow.refl _) hF rfl))
      (refine relF_pure ?_; apply Exists.intro; refine ⟨fun aR wQ hF hk => relT_none fun K hK => ?_, ?_⟩; focus ((try simp at hk); go_simp; refine (wlines_w _ g b dn st (HW.out.grow hF) (by have := HSTN.out; have := HLT.out; omega)).mono ?_; rintro e w' ⟨rfl, hg⟩; exact hK _ _ hg (Grow.trans hF hg) rfl))
      (refine relF_pure ?_; apply Exists.intro; refine ⟨fun aR wQ hF hk => relT_none fun K hK => ?_, ?_⟩; focus ((try simp at hk); go_simp; exact hK _ _ (Grow.refl _) hF rfl))
      (refine relF_pure ?_; apply Exists.intro; refine ⟨fun aR wQ hF hk => relT_none fun K hK => ?_, ?_⟩; focus ((try simp at hk); go_simp; refine (wvalue_w _ g b dn st s0 (HW.out.grow hF) (hF.at HK.out)).mono ?_; rintro e w' ⟨rfl, hg⟩; exact hK _ _ hg (Grow.trans hF hg) rfl))
      refine relF_done (fun wR => ?_) (fun wR => ?_)
      · refine fun v hv => ?_; obtain rfl : v = _ := hv
        refine fun v hv => ?_; obtain rfl : v = _ := hv
        refine fun v hv => ?_; obtain rfl : v = _ := hv
        refine fun v hv => ?_; obtain rfl : v = _ := hv
        refine fun v hv => ?_; obtain rfl : v = _ := hv
        refine fun v hv => ?_; obtain rfl : v = _ := hv
        refine fun v hv => ?_; obtain rfl : v = _ := hv
        refine fun v hv => ?_; obtain rfl : v = _ := hv
        refine fun v hv => ?_; obtain rfl : v = _ := hv
        simp only [Act.put, List.setIfInBounds_toArray, List.set_cons_zero, List.set_cons_succ]
        refine relT_nil fun hF => ?_
        simp only [List.drop_succ_cons, List.drop_zero]
        have HWR := Lib.hid (HW.out.grow hF)
        have HSR := Lib.hid (HST.out wR (Grow.trans HGR.out hF))
        have HGR2 := Lib.hid (Grow.trans HGR.out hF)
        clear hF HW HST HGR
        go_wp2_with fail
        refine HSR.out.mono ?_
        rintro _ w4 ⟨x, v4, rfl, ho, hz⟩
        have HW4 := Lib.hid (show WAt w4 g b dn st from hz.g.k _ _ _ _ (by decide) (by decide) (by decide) (by decide) HWR.out)
        have HGK := Lib.hid (show Kt B w w4 from (Kt.refl B w).grow HB0.out HGR2.out |>.trans hz.g)
        have HK4 := Lib.hid hz.k
        have HOA := Lib.hid ho
        obtain ⟨A4, c4, rfl, hr⟩ := own_reads6 ho
        have HR4 := Lib.hid hr
        have HV4 := Lib.hid (show ∀ u ∈ evsC L, u.oneCell' = true from evsC_ones L)
        have HBW := Lib.hid (show w.heap.size ≤ w4.heap.size from HGK.out.z)
        clear ho hz hr HSR HWR HGR2 HOA
        go_wp2_with (at_builtin; refine wpList_append_any _ rfl (.tmp 25) (.tmp 34) 41 rfl w.heap.size 98 i0 _ 6 40 Tryz.underlying41 HI0.out HZ0.out HZ1.out HZ2.out rfl (by decide) _ 0 [] (by rfl) (World.ownsRow_nil _ _ _ _) _ A4 L.length c4 (evsC L) (by rfl) HR4.out HV4.out ?c40 ?c50 ?c60 ?c70)
        case c40 => have := HLN.out; unfold maxLen; omega
        case c50 => have := HLN.out; omega
        case c60 => exact HBW.out
        case c70 =>
          intro v5 w5 hown hgr hblk
          have hg5 : Grow w4 w5 := ⟨hgr.os, hgr.tape, hgr.output, hgr.size, fun k hk => hgr.block k hk (by simp [Value.ownBlock])⟩
          have HO5 := Lib.hid (show w5.ownsRow w.heap.size 98 6 v5 L.length (evsC L) by simpa using hown)
          have HW5 := Lib.hid (HW4.out.grow hg5)
          have HWH := Lib.hid (show w5.heap[g]? = some (.cells #[.pointer (some ⟨b, 0, none⟩), .slice none 0 0, .slice none 0 0, .int .i64 dn, .int .i64 st] 140 (0, 0)) from HW5.out)
          have HK5 := Lib.hid (HK4.out.re (Kp.of_grow (P := fun _ => True) hg5) (fun _ _ _ _ _ _ => trivial))
          have HG5 := Lib.hid (show Kt B w w5 from HGK.out.grow HB0.out hg5)
          clear hown hgr hblk hg5 HW4 HK4 HGK HR4 HV4 HBW
          have c3 := cell_block HWH.out 3
          simp at c3
          go_wp2_with (first
            | ((with_reducible refine store_in rfl 3 _ _ rfl g 3 140 _ #[.pointer (some ⟨b, 0, none⟩), .slice none 0 0, .slice none 0 0, .int .i64 ((dn : Int) + 1), .int .i64 st] (.int .i64 ((dn : Int) + 1)) info3 HWH.out rfl ?_ ?_ ?_ ?_ ?_); (· rfl); (· rfl); (· simp); (· rfl); intro w6 hw6 hb6 ho6; clear hw6))
          go_roundw
          case rel => exact .inr ⟨by go_num, x, show WAt w6 g b (dn + 1) st from hb6, own_only HO5.out ho6 HWH.out (by decide), HK5.out.re140 ho6 HWH.out, (Kn.of HG5.out).only ho6 HBG.out HB0.out HWH.out⟩
          case measure => simp [RowKit.intOf]
      · refine fun v hv => ?_; obtain rfl : v = _ := hv
        refine fun v hv => ?_; obtain rfl : v = _ := hv
        refine fun v hv => ?_; obtain rfl : v = _ := hv
        refine fun v hv => ?_; obtain rfl : v = _ := hv
        refine fun v hv => ?_; obtain rfl : v = _ := hv
        refine fun v hv => ?_; obtain rfl : v = _ := hv
        refine fun v hv => ?_; obtain rfl : v = _ := hv
        refine fun v hv => ?_; obtain rfl : v = _ := hv
        simp only [Act.put, List.setIfInBounds_toArray, List.set_cons_zero, List.set_cons_succ]
        refine relT_nil fun hF => ?_
        simp only [List.drop_succ_cons, List.drop_zero]
        have HWR := Lib.hid (HW.out.grow hF)
        have HSR := Lib.hid (HST.out wR (Grow.trans HGR.out hF))
        have HGR2 := Lib.hid (Grow.trans HGR.out hF)
        clear hF HW HST HGR
        go_wp2_with fail
        refine HSR.out.mono ?_
        rintro _ w4 ⟨x, v4, rfl, ho, hz⟩
        have HW4 := Lib.hid (show WAt w4 g b dn st from hz.g.k _ _ _ _ (by decide) (by decide) (by decide) (by decide) HWR.out)
        have HGK := Lib.hid (show Kt B w w4 from (Kt.refl B w).grow HB0.out HGR2.out |>.trans hz.g)
        have HK4 := Lib.hid hz.k
        have HOA := Lib.hid ho
        obtain ⟨A4, c4, rfl, hr⟩ := own_reads6 ho
        have HR4 := Lib.hid hr
        have HV4 := Lib.hid (show ∀ u ∈ evsC L, u.oneCell' = true from evsC_ones L)
        have HBW := Lib.hid (show w.heap.size ≤ w4.heap.size from HGK.out.z)
        clear ho hz hr HSR HWR HGR2 HOA
        go_wp2_with (at_builtin; refine wpList_append_any _ rfl (.tmp 25) (.tmp 34) 41 rfl w.heap.size 98 i0 _ 6 40 Tryz.underlying41 HI0.out HZ0.out HZ1.out HZ2.out rfl (by decide) _ 0 [] (by rfl) (World.ownsRow_nil _ _ _ _) _ A4 L.length c4 (evsC L) (by rfl) HR4.out HV4.out ?c41 ?c51 ?c61 ?c71)
        case c41 => have := HLN.out; unfold maxLen; omega
        case c51 => have := HLN.out; omega
        case c61 => exact HBW.out
        case c71 =>
          intro v5 w5 hown hgr hblk
          have hg5 : Grow w4 w5 := ⟨hgr.os, hgr.tape, hgr.output, hgr.size, fun k hk => hgr.block k hk (by simp [Value.ownBlock])⟩
          have HO5 := Lib.hid (show w5.ownsRow w.heap.size 98 6 v5 L.length (evsC L) by simpa using hown)
          have HW5 := Lib.hid (HW4.out.grow hg5)
          have HWH := Lib.hid (show w5.heap[g]? = some (.cells #[.pointer (some ⟨b, 0, none⟩), .slice none 0 0, .slice none 0 0, .int .i64 dn, .int .i64 st] 140 (0, 0)) from HW5.out)
          have HK5 := Lib.hid (HK4.out.re (Kp.of_grow (P := fun _ => True) hg5) (fun _ _ _ _ _ _ => trivial))
          have HG5 := Lib.hid (show Kt B w w5 from HGK.out.grow HB0.out hg5)
          clear hown hgr hblk hg5 HW4 HK4 HGK HR4 HV4 HBW
          have c3 := cell_block HWH.out 3
          simp at c3
          go_wp2_with (first
            | ((with_reducible refine store_in rfl 3 _ _ rfl g 3 140 _ #[.pointer (some ⟨b, 0, none⟩), .slice none 0 0, .slice none 0 0, .int .i64 ((dn : Int) + 1), .int .i64 st] (.int .i64 ((dn : Int) + 1)) info3 HWH.out rfl ?_ ?_ ?_ ?_ ?_); (· rfl); (· rfl); (· simp); (· rfl); intro w6 hw6 hb6 ho6; clear hw6))
          go_roundw
          case rel => exact .inr ⟨by go_num, x, show WAt w6 g b (dn + 1) st from hb6, own_only HO5.out ho6 HWH.out (by decide), HK5.out.re140 ho6 HWH.out, (Kn.of HG5.out).only ho6 HBG.out HB0.out HWH.out⟩
          case measure => simp [RowKit.intOf]
    · have HN := Lib.hid hN
      have HW1 := Lib.hid hW
      have HO1 := Lib.hid hO
      have HK1 := Lib.hid hK
      clear hW hO hK hN
      go_upto_region 5 with (fail)
      go_quiet (fail)
      go_wp2
      go_ret
      have hg := Grow.drewN wr nq
      exact ⟨_, x, rfl, HW1.out.grow hg, own_grow HO1.out hg, HK1.out.re (Kp.of_grow (P := fun _ => True) hg) (fun _ _ _ _ _ _ => trivial), ⟨HN.out.b.trans (hg.mono (Nat.le_trans HB0.out HN.out.z)), HN.out.z, HN.out.k⟩⟩
end Go.Proofs.YtnhmdinpfcoebaaGreatDoor
end

/-! === KZero -/
section
/- The kernel's block as New builds it. -/
namespace Go.Proofs.YtnhmdinpfcoebaaGreatDoor
open Go.Proofs.YtnhmdinpfcoebaaGreatDoor.Qu
open Go.RowKit
set_option linter.unusedVariables false
set_option linter.unusedSimpArgs false
set_option maxRecDepth 100000

open Go.Lib
def isr0 (i : Nat) : Value := if i = 0 then .int .i64 0 else if i < 9 then .int .u32 0 else .slice none 0 0
def cfF (tv lv sv qv mv : Value) (i : Nat) : Value := if i = 0 then tv else if i = 1 then lv else if i = 2 then .int .i64 0 else if i = 3 then sv else if i = 4 then qv else if i = 5 then mv else if i = 6 then .int .i64 0 else if i = 7 then .int .u32 0 else if i = 8 then .int .u32 4294967295 else if i = 9 then .int .i64 0 else if i = 10 then .int .u64 0 else .int .u64 0
/-- The kernel as it is built. -/
def sZ (tv lv sv qv mv : Value) : KS := { count := 0, cycle := 0, row := .slice none 0 0, runs := fun _ => false, table := 0, q := zeroS, cf := cfF tv lv sv qv mv, running := 255, isr := isr0, mems := .slice none 0 0, tasks := .slice none 0 0, locks := .pointer none, sems := .slice none 0 0, mails := .slice none 0 0, lines := .pointer none, reads := 0, stopped := false, told := .slice none 0 0 }
abbrev cfA (tv lv sv qv mv : Value) : Array Value := #[tv, lv, .int .i64 0, sv, qv, mv, .int .i64 0, .int .u32 0, .int .u32 4294967295, .int .i64 0, .int .u64 0, .int .u64 0]
set_option maxHeartbeats 4000000 in
theorem built187 (tv lv sv qv mv : Value) : Tryz.prog.built 187 [(3, .agg (cfA tv lv sv qv mv)), (4, .int .i64 255), (0, .agg #[.int .u64 0, .int .u64 0])] = some (kCells (sZ tv lv sv qv mv)) := by kernel_rfl
theorem wpList_build187 {ops : Array Oper} {rest : List Oper} {op : Oper} {a : Act} {w : World} {Q : Exit → Act → World → Prop} (hgd : op.guard = none) (x c y : Operand) (ho : op.op = .build 187 #[(3, x), (4, c), (0, y)])
    (tv lv sv qv mv : Value) (hx : a.eval x = .agg (cfA tv lv sv qv mv)) (hc : a.eval c = .int .i64 255) (hy : a.eval y = .agg #[.int .u64 0, .int .u64 0])
    (h : wpList Tryz.prog ops Q rest (a.put op.dst (.agg (kCells (sZ tv lv sv qv mv)))) w) : wpList Tryz.prog ops Q (op :: rest) a w :=
  wpList_plain hgd fun _ hK => by
    have hb := run_build (P := Tryz.prog) w 187 #[(3, .agg (cfA tv lv sv qv mv)), (4, .int .i64 255), (0, .agg #[.int .u64 0, .int .u64 0])] _ (built187 tv lv sv qv mv)
    unfold Oper.wp execOp
    simp only [ho]
    simp only [List.map_toArray, List.map_cons, List.map_nil, hx, hc, hy, Sem.run_bind, Sem.run_pure, hb, Result.andThen_ok]
    exact hK _ _ h
end Go.Proofs.YtnhmdinpfcoebaaGreatDoor
end
