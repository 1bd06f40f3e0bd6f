/- The walks of the reference's Counts and Part. -/
import Derived.Test.YtpemmjaengbogaaF
namespace Go.Proofs.Ytpemmjaengbogaa
open Go.RowKit
set_option linter.unusedVariables false
attribute [local irreducible] whereP sumP satP cntArr leastN topN cntP leastP topP cumP
theorem own_alloc {w : World} {B n : Nat} {v : Value} {xs : List Value} (h : w.ownsRow B 28 1 v n xs) (o : Obj) : (w.alloc o).ownsRow B 28 1 v n xs := by
  refine ⟨h.1, ?_⟩
  rcases h.2 with h1 | ⟨g, cap, cur, h1, hB, hg, hr⟩
  · exact .inl h1
  · exact .inr ⟨g, cap, cur, h1, hB, heapAt_alloc_old _ _ (heapAt_lt hg) |>.trans hg, hr⟩
theorem MemOwn.set {w : World} {B n g i v : Nat} {K : Nat → Nat} (h : MemOwn w B (some ⟨g, 0, none⟩) n K) (hi : i < n) : MemOwn (w.setCell ⟨g, i, none⟩ (.int .u64 (v : Int))) B (some ⟨g, 0, none⟩) n (upd K i v) := fun hn => by
  obtain ⟨g', hA, hB, hc, hf⟩ := h hn
  injection hA with hA; injection hA with hA
  subst hA
  have hlt := cell_lt (hc 0 hn)
  refine ⟨g, rfl, hB, fun j hj => ?_, fun j => ?_⟩
  · by_cases e : j = i
    · subst e
      rw [upd_same]
      have hcj := hc j hj
      first | exact World.cell?_setCell_same _ _ _ hcj | exact World.cell?_setCell_same (h := hcj) | (rw [World.cell?_setCell_same]; exact hcj)
    · rw [upd_other _ _ _ _ e]
      rw [World.cell?_setCell_other _ _ _ _ (by intro e2; injection e2 with _ e2; exact e e2.symm)]
      exact hc j hj
  · have := hf j
    rw [World.frozen?_setCell] at *
    exact this
theorem nums_snoc (m : Nat) : nums m (fun _ => 0) ++ [Value.int .u64 0] = nums (m + 1) (fun _ => 0) := by
  unfold nums
  rw [List.range_succ, List.map_append]; rfl
theorem own_some {w : World} {B n : Nat} {v : Value} {xs : List Value} (h : w.ownsRow B 28 1 v (n + 1) xs) : ∃ g cap, v = .slice (some ⟨g, 0, none⟩) (n + 1) cap ∧ n + 1 ≤ cap ∧ B ≤ g := by
  rcases h.2 with ⟨h1, h2⟩ | ⟨g, cap, cur, rfl, hB, hg, hcap, _⟩
  · cases h2
  · exact ⟨g, cap, rfl, hcap, hB⟩
set_option maxHeartbeats 1000000 in
theorem countsRef_any (w : World) (A LA : Option Addr) (n cap ln lcap : Nat) (Bd V : Nat → Nat) (hn : (n : Int) ≤ 100) (hcap : (n : Int) ≤ cap) (hln : (ln : Int) ≤ 1000) (hlc : (ln : Int) ≤ lcap) (hM : MemAt w A n Bd) (hL : MemAt w LA ln V) :
    Calls Try.prog 17 #[.slice A n cap, .slice LA ln lcap] w fun e w' => ∃ A' cap', e = .returned (.slice A' (n + 1) cap') ∧ MemOwn w' w.heap.size A' (n + 1) (cntP Bd n V ln) ∧ ((n + 1 : Nat) : Int) ≤ cap' ∧ Grow w w' := by
  have HM := Lib.hid hM; clear hM
  have HL := Lib.hid hL; clear hL
  obtain ⟨i0, hi, hz0, hz1, hz2⟩ := info_parts info28
  have HI := Lib.hid hi; clear hi
  have HZ0 := Lib.hid hz0; clear hz0
  have HZ1 := Lib.hid hz1; clear hz1
  have HZ2 := Lib.hid hz2; clear hz2
  go_enter Try.func17, Try.ntmps17
  go_wp2_with fail
  have hO0 := World.ownsRow_lit (base := w.heap.size) (e := 28) (size := 1) w #[.int .u64 0] 1 (Nat.le_refl _) (by unfold maxLen; omega) rfl
  have hG0 := Grow.alloc w (.cells #[.int .u64 0] 28)
  have HO0 := Lib.hid hO0; clear hO0
  have HG0 := Lib.hid hG0; clear hG0
  generalize w.alloc (.cells #[.int .u64 0] 28) = w0 at HO0 HG0 ⊢
  go_loopw [5, 6] (fun o i wr => ∃ k : Nat, k ≤ n ∧ i = .int .i64 k ∧ wr.ownsRow w.heap.size 28 1 o (k + 1) (nums (k + 1) (fun _ => 0)) ∧ Grow w wr) (fun _ i _ => n - (intOf i).toNat)
  case atStart => exact ⟨0, by omega, rfl, HO0.out, HG0.out⟩
  case round =>
    obtain ⟨k, hk, rfl, hown, hg⟩ := hrel
    obtain ⟨g, oc, rfl, hoc, hgB⟩ := own_some hown
    have HGr := Lib.hid hg; clear hg
    have HOWN := Lib.hid hown; clear hown
    by_cases hlt : k < n
    · have k0 : (0 : Int) ≤ (k : Int) := by omega
      have kn : (k : Int) < (n : Int) := by omega
      go_wp2_with (at_builtin; refine wpList_append_any _ rfl (.tmp 15) (.tmp 16) 22 rfl w.heap.size 28 i0 (.int .u64 0) 1 8 Try.underlying22 HI.out HZ0.out HZ1.out HZ2.out rfl (by decide) _ (k + 1) (nums (k + 1) (fun _ => 0)) (by rfl) ?c1 (wr.alloc (.cells #[.int .u64 0] 28)).heap.size (some ⟨wr.heap.size, 0, none⟩) 1 1 [.int .u64 0] (by rfl) ?c2 ?c3 ?c4 ?c5 ?c6 ?c7)
      case c1 => exact own_alloc HOWN.out _
      case c2 =>
        have := Reads.of_own (World.ownsRow_lit (base := wr.heap.size) (e := 28) (size := 1) wr #[.int .u64 0] 1 (Nat.le_refl _) (by unfold maxLen; omega) rfl)
        simpa using this
      case c3 => simp [Value.oneCell']
      case c4 => unfold maxLen; omega
      case c5 => omega
      case c6 => have := HGr.out.size; simp; omega
      case c7 =>
      intro v' w1 hown1 hgrow hblk
      have hG1 : Grow w w1 := Below.trans (HGr.out.trans (Grow.alloc wr (.cells #[.int .u64 0] 28))) (below_grown hgrow (by have := HGr.out.size; simp; omega) (fun j hj => by simp [Value.ownBlock] at hj; omega))
      rw [nums_snoc] at hown1
      have HO1 := Lib.hid hown1
      have HG1 := Lib.hid hG1
      clear hown1 hgrow hblk hG1
      go_wp2_with fail
      go_roundw
      case rel => exact ⟨k + 1, by omega, by go_num, HO1.out, HG1.out⟩
      case measure => simp [intOf]; omega
    · have kn : ¬ (k : Int) < (n : Int) := by omega
      have hkn : k = n := by omega
      subst hkn
      obtain ⟨A', cap', hv, hcap', hmem⟩ := own_mem HOWN.out
      injection hv with hv1 hv2 hv3
      subst hv1
      subst hv3
      have HMEM := Lib.hid hmem; clear hmem
      clear hv2 HOWN
      go_wp2_with fail
      go_loopw [7] (fun i wq => ∃ q : Nat, q ≤ ln ∧ i = .int .i64 q ∧ MemOwn wq w.heap.size (some ⟨g, 0, none⟩) (k + 1) (cntP Bd k V q) ∧ Grow w wq) (fun i _ => ln - (intOf i).toNat)
      case atStart => exact ⟨0, by omega, rfl, by unfold cntP; exact HMEM.out, HGr.out⟩
      case round =>
        obtain ⟨q, hq, rfl, hmo, hgq⟩ := hrel
        have HMO := Lib.hid hmo; clear hmo
        have HGQ := Lib.hid hgq; clear hgq
        by_cases hql : q < ln
        · obtain ⟨a, hA, hc⟩ := (HL.out.grow HGQ.out) (by omega)
          have m := hc q hql
          rw [hA]
          clear hc hA
          have q0 : (0 : Int) ≤ (q : Int) := by omega
          have qn : (q : Int) < (ln : Int) := by omega
          go_wp2_with fail
          refine (whereRef_any _ A k cap (V q) Bd (by omega) hcap (HM.out.grow HGQ.out)).mono ?_
          rintro e w5 ⟨rfl, rfl⟩
          have hst := cntP_step Bd k V q
          have hple := whereP_le Bd (V q) k
          obtain ⟨p, hp⟩ : ∃ p, p = whereP Bd (V q) k := ⟨_, rfl⟩
          rw [← hp] at hst hple ⊢
          clear hp m
          obtain ⟨g2, hA2, hB2, hcc, hff⟩ := HMO.out (by omega)
          injection hA2 with hA2; injection hA2 with hA2
          subst hA2
          have xk := hcc p (by omega)
          have xf := hff p
          have hle := cntP_le Bd k V q p
          obtain ⟨t, ht⟩ : ∃ t, t = cntP Bd k V q p := ⟨_, rfl⟩
          rw [← ht] at xk hst hle
          have hset := HMO.out.set (i := p) (v := t + 1) (by omega)
          rw [← hst] at hset
          have e1 : ((t + 1 : Nat) : Int) = (t : Int) + 1 := by omega
          rw [e1] at hset
          have HSET := Lib.hid hset; clear hset e1 ht hst hcc hff
          have p0 : (0 : Int) ≤ (p : Int) := by omega
          have pn : (p : Int) < (k : Int) + 1 := by omega
          have t0 : (0 : Int) ≤ (t : Int) := by omega
          have t1 : (t : Int) ≤ 1000 := by omega
          have HG3 := Lib.hid (Grow.only HGQ.out ((Only.refl g w5).setCell p (.int .u64 ((t : Int) + 1))) hB2)
          go_wp2_with fail
          go_roundw
          case rel => exact ⟨q + 1, by omega, by go_num, HSET.out, HG3.out⟩
          case measure => simp [intOf]; omega
        · have qn : ¬ (q : Int) < (ln : Int) := by omega
          have hqn : q = ln := by omega
          subst hqn
          have hocI : ((k + 1 : Nat) : Int) ≤ oc := by omega
          have HOC := Lib.hid hocI; clear hocI
          go_wp2
          go_ret
          exact ⟨_, oc, rfl, HMO.out, HOC.out, HGQ.out⟩
end Go.Proofs.Ytpemmjaengbogaa
