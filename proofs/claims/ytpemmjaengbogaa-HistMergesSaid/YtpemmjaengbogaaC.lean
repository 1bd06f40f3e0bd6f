/- New and its kin: bounds that ascend; a histogram in memory. -/
import Derived.Test.YtpemmjaengbogaaB
import Derived.Test.YtpemmjaengbogaaRelTail
namespace Go.Proofs.Ytpemmjaengbogaa
open Go.RowKit
set_option linter.unusedVariables false
attribute [local irreducible] whereP sumP satP
attribute [local simp] RelKnown Is
def Asc (Bd : Nat → Nat) (n : Nat) : Prop := ∀ i, i + 1 < n → Bd i < Bd (i + 1)
theorem Asc.sorted {Bd : Nat → Nat} {n : Nat} (h : Asc Bd n) : Sorted Bd n := by
  intro i j hij hj
  induction j with
  | zero => omega
  | succ j ih =>
    by_cases e : i = j
    · subst e; exact h i hj
    · have := ih (by omega) (by omega)
      have := h j hj
      omega
/-- The answer tells whether P. -/
def Tells (P : Prop) (w : World) (e : Ending) (w' : World) : Prop := ∃ b : Bool, e = .returned (.bool b) ∧ (b = true ↔ P) ∧ Grow w w'
set_option maxHeartbeats 1000000 in
theorem right_any (w : World) (A : Option Addr) (n cap : Nat) (Bd : Nat → Nat) (hn : (n : Int) ≤ 1000) (hcap : (n : Int) ≤ cap) (hM : MemAt w A n Bd) :
    Calls Try.prog 13 #[.slice A n cap] w (Tells (Asc Bd n ∧ n ≤ 32) w) := by
  have HM := Lib.hid hM; clear hM
  go_enter Try.func13, Try.ntmps13
  go_wp2_with fail
  go_loopw [3] (fun i wr => ∃ k : Nat, 1 ≤ k ∧ (k ≤ n ∨ k = 1) ∧ i = .int .i64 k ∧ Grow w wr ∧ Asc Bd k) (fun i _ => n - (intOf i).toNat)
  case atStart => exact ⟨1, by omega, by omega, rfl, Grow.refl _, fun i hi => by omega⟩
  case round =>
    obtain ⟨k, hk1, hk, rfl, hg, has⟩ := hrel
    have HGr := Lib.hid hg; clear hg
    have HAS := Lib.hid has; clear has
    by_cases hlt : k < n
    · obtain ⟨a1, hA1, hm1⟩ := (HM.out.grow HGr.out) (by omega)
      have m1 := hm1 k hlt
      have m2 := hm1 (k - 1) (by omega)
      obtain ⟨j, hj⟩ : ∃ j, j = k - 1 := ⟨_, rfl⟩
      rw [← hj] at m2
      have e1 : (k : Int) - 1 = (j : Int) := by omega
      rw [hA1]
      clear hm1 hA1
      have k0 : (0 : Int) ≤ (k : Int) := by omega
      have kn : (k : Int) < (n : Int) := by omega
      have j0 : (0 : Int) ≤ (j : Int) := by omega
      have jn : (j : Int) < (n : Int) := by omega
      have HJ := Lib.hid hj; clear hj
      have HK1 := Lib.hid hk1; clear hk1
      by_cases hb : Bd k ≤ Bd j
      · have HNO := Lib.hid (show ¬ Asc Bd n from fun h => by have := h j (by have := HJ.out; have := HK1.out; omega); have e : j + 1 = k := by have := HJ.out; have := HK1.out; omega
                                                              rw [e] at this; omega)
        go_wp2_with fail
        go_quiet (fail)
        have HG2 := Lib.hid (HGr.out.trans (Grow.drewN wr nq))
        go_wp2
        go_ret
        exact ⟨_, rfl, by simp; intro h; exact absurd h HNO.out, HG2.out⟩
      · have hb2 : Bd j < Bd k := by omega
        have HAS2 := Lib.hid (show Asc Bd (k + 1) from fun i hi => by
          by_cases e : i = j
          · have e2 : j + 1 = k := by have := HJ.out; have := HK1.out; omega
            rw [e, e2]; exact hb2
          · exact HAS.out i (by have := HJ.out; have := HK1.out; omega))
        go_wp2_with fail
        go_quiet (fail)
        have HG2 := Lib.hid (HGr.out.trans (Grow.drewN wr nq))
        go_wp2_with fail
        go_roundw
        case rel => exact ⟨k + 1, by omega, by omega, by go_num, HG2.out, HAS2.out⟩
        case measure => simp [intOf]; omega
    · have kn : ¬ (k : Int) < (n : Int) := by omega
      have HYES := Lib.hid (show Asc Bd n from fun i hi => HAS.out i (by omega))
      clear HAS
      go_wp2
      go_ret
      exact ⟨_, rfl, ⟨fun h => ⟨HYES.out, by simp at h; omega⟩, fun h => by have := h.2; simp; omega⟩, HGr.out⟩


theorem clone_any (w : World) (A : Option Addr) (n cap : Nat) (M : Nat → Nat) (hn : (n : Int) ≤ 1000) (hA : A = none → n = 0 ∧ cap = 0) (hM : MemAt w A n M) :
    Calls Try.prog 28 #[.slice A n cap] w fun e w' => ∃ A' cap', e = .returned (.slice A' n cap') ∧ MemOwn w' w.heap.size A' n M ∧ (n : Int) ≤ cap' ∧ Grow w w' ∧ (∀ m, A' = some ⟨m, 0, none⟩ → w.heap.size ≤ m ∧ m < w'.heap.size) ∧ (A' = none → n = 0 ∧ cap' = 0) := by
  cases A with
  | none =>
    obtain ⟨rfl, rfl⟩ := hA rfl
    exact (clone_nil w).mono fun e w' ⟨he, hw⟩ => ⟨none, 0, he, fun h => absurd h (by omega), by omega, hw ▸ Grow.refl _, (fun m hm => by cases hm), fun _ => ⟨rfl, rfl⟩⟩
  | some a => exact (clone_some w a n cap M hn hM).mono fun e w' ⟨A', cap', h1, h2, h3, h4, h5, h6⟩ => ⟨A', cap', h1, h2, h3, h4, h5, fun h => absurd h h6⟩
def cntArr (K : Nat → Nat) (n : Nat) : Array Value := ((List.range n).map fun j => Value.int .u64 (K j : Int)).toArray
theorem cntArr_size (K : Nat → Nat) (n : Nat) : (cntArr K n).size = n := by simp [cntArr]
theorem cntArr_at (K : Nat → Nat) (n i : Nat) (h : i < n) : (cntArr K n)[i]? = some (.int .u64 (K i : Int)) := by
  unfold cntArr; simp [h]
def upd (K : Nat → Nat) (i v : Nat) : Nat → Nat := fun j => if j = i then v else K j
theorem upd_same (K : Nat → Nat) (i v : Nat) : upd K i v i = v := by simp [upd]
theorem upd_other (K : Nat → Nat) (i j v : Nat) (h : j ≠ i) : upd K i v j = K j := by simp [upd, h]
theorem cntArr_set (K : Nat → Nat) (n i v : Nat) (hi : i < n) : (cntArr K n).setIfInBounds i (.int .u64 (v : Int)) = cntArr (upd K i v) n := by
  apply Array.ext_getElem?
  intro j
  rw [Array.getElem?_setIfInBounds, cntArr_size]
  by_cases hj : j < n
  · rw [cntArr_at _ _ _ hj]
    by_cases e : i = j
    · subst e; rw [if_pos rfl, if_pos hi, cntArr_at _ _ _ hi, upd_same]
    · rw [if_neg e, cntArr_at _ _ _ hj, upd_other _ _ _ _ (by omega)]
  · have hs : ∀ K', (cntArr K' n)[j]? = none := fun K' => Array.getElem?_eq_none (by rw [cntArr_size]; omega)
    rw [hs, hs, if_neg (by omega)]
theorem cntArr_zero (n : Nat) : Array.replicate n (Value.int .u64 0) = cntArr (fun _ => 0) n := by
  apply Array.ext_getElem?
  intro j
  by_cases hj : j < n
  · rw [cntArr_at _ _ _ hj]; simp [hj]
  · rw [Array.getElem?_eq_none (by simpa using hj), Array.getElem?_eq_none (by rw [cntArr_size]; omega)]
def histCells (A : Option Addr) (nb bcap c : Nat) (al sm lt tp : Nat) : Array Value := #[.slice A nb bcap, .slice (some ⟨c, 0, none⟩) (nb + 1) (nb + 1), .int .u64 (al : Int), .int .u64 (sm : Int), .int .u64 (lt : Int), .int .u64 (tp : Int)]
theorem made_cells (n : Nat) : madeCells (Value.cells (.int .u64 0)) n = cntArr (fun _ => 0) n := by
  rw [← cntArr_zero]
  apply Array.ext
  · simp [madeCells]
  · intro i h1 h2
    simp [madeCells, Value.cells, Nat.mod_one]
theorem make_run (n : Nat) (hn : (n : Int) ≤ 1000) (w : World) : (Instr.makeSlice 22 (.int .i64 ((n : Int) + 1)) (.int .i64 ((n : Int) + 1))).run Try.prog w = .ok (.slice (some ⟨w.heap.size, 0, none⟩) (n + 1) (n + 1)) (w.alloc (.cells (cntArr (fun _ => 0) (n + 1)) 28)) := by
  obtain ⟨i0, hi, hz0, hz1, hz2⟩ := info_parts info28
  have h := run_makeSlice (P := Try.prog) w 22 28 i0 (.int .u64 0) Try.underlying22 hi hz0 .i64 .i64 ((n : Int) + 1) ((n : Int) + 1) (by omega) (by omega) (by rw [hz1]; omega) (by rw [hz2]; omega) (by omega)
  rw [hz1, show ((n : Int) + 1).toNat = n + 1 by omega, Nat.mul_one, made_cells] at h
  exact h
attribute [local irreducible] cntArr
/-- A histogram lies at h. -/
structure HSt (w : World) (B h : Nat) (A : Option Addr) (nb bcap : Nat) (Bd : Nat → Nat) (c : Nat) (K : Nat → Nat) (al sm lt tp : Nat) : Prop where
  blk : w.heap[h]? = some (.cells (histCells A nb bcap c al sm lt tp) 54 (0, 0))
  bnd : MemOwn w B A nb Bd
  hcap : (nb : Int) ≤ bcap
  cnt : w.heap[c]? = some (.cells (cntArr K (nb + 1)) 28 (0, 0))
  hB : B ≤ h
  cB : B ≤ c
  ch : c ≠ h
  ab : ∀ m, A = some ⟨m, 0, none⟩ → m ≠ c ∧ m ≠ h ∧ B ≤ m
  nil : A = none → nb = 0 ∧ bcap = 0
def DN (Bd : Nat → Nat) (n B : Nat) (v : Value) (w : World) : Prop := ∃ A1 cap1, v = .slice A1 n cap1 ∧ MemOwn w B A1 n Bd ∧ (n : Int) ≤ cap1 ∧ (∀ m, A1 = some ⟨m, 0, none⟩ → B ≤ m) ∧ (A1 = none → n = 0 ∧ cap1 = 0)
def DK (n B : Nat) (v : Value) (w : World) : Prop := ∃ g, v = .slice (some ⟨g, 0, none⟩) (n + 1) (n + 1) ∧ w.heap[g]? = some (.cells (cntArr (fun _ => 0) (n + 1)) 28 (0, 0)) ∧ B ≤ g
/-- What New leaves. -/
def Made (w : World) (n : Nat) (Bd : Nat → Nat) (e : Ending) (w' : World) : Prop :=
  Grow w w' ∧ ((¬ (Asc Bd n ∧ n ≤ 32) ∧ e = .returned (.tuple #[.pointer none, .int .i64 1])) ∨ ((Asc Bd n ∧ n ≤ 32) ∧ ∃ h A' cap' c, e = .returned (.tuple #[.pointer (some ⟨h, 0, none⟩), .int .i64 0]) ∧ HSt w' w.heap.size h A' n cap' Bd c (fun _ => 0) 0 0 0 0))
def bls (v : Value) (g : Nat) : Prop := ∃ n cap, v = .slice (some ⟨g, 0, none⟩) n cap
theorem bls_undef (g : Nat) : ¬ bls undef g := by
  rintro ⟨n, cap, h⟩; simp [undef] at h
set_option maxHeartbeats 1000000 in
theorem new_any (w : World) (A : Option Addr) (n cap : Nat) (Bd : Nat → Nat) (hn : (n : Int) ≤ 1000) (hcap : (n : Int) ≤ cap) (hA : A = none → n = 0 ∧ cap = 0) (hM : MemAt w A n Bd) :
    Calls Try.prog 25 #[.slice A n cap] w (Made w n Bd) := by
  by_cases h32 : n ≤ 32
  · have h32i : (n : Int) ≤ 32 := by omega
    have HM := Lib.hid hM; clear hM
    have HA := Lib.hid hA; clear hA
    go_enter Try.func25, Try.ntmps25
    go_wp2_with fail
    go_loopw [4] (fun i wr => ∃ k : Nat, 1 ≤ k ∧ (k ≤ n ∨ k = 1) ∧ i = .int .i64 k ∧ Grow w wr ∧ Asc Bd k) (fun i _ => n - (intOf i).toNat)
    case atStart => exact ⟨1, by omega, by omega, rfl, Grow.refl _, fun i hi => by omega⟩
    case round =>
      obtain ⟨k, hk1, hk, rfl, hg, has⟩ := hrel
      have HGr := Lib.hid hg; clear hg
      have HAS := Lib.hid has; clear has
      by_cases hlt : k < n
      · obtain ⟨a1, hA1, hm1⟩ := (HM.out.grow HGr.out) (by omega)
        have m1 := hm1 k hlt
        have m2 := hm1 (k - 1) (by omega)
        obtain ⟨j, hj⟩ : ∃ j, j = k - 1 := ⟨_, rfl⟩
        rw [← hj] at m2
        have e1 : (k : Int) - 1 = (j : Int) := by omega
        rw [hA1]
        clear hm1 hA1
        have k0 : (0 : Int) ≤ (k : Int) := by omega
        have kn : (k : Int) < (n : Int) := by omega
        have j0 : (0 : Int) ≤ (j : Int) := by omega
        have jn : (j : Int) < (n : Int) := by omega
        have HJ := Lib.hid hj; clear hj
        have HK1 := Lib.hid hk1; clear hk1
        by_cases hb : Bd k ≤ Bd j
        · have HNO := Lib.hid (show ¬ Asc Bd n from fun h => by have := h j (by have := HJ.out; have := HK1.out; omega); have e : j + 1 = k := by have := HJ.out; have := HK1.out; omega
                                                                rw [e] at this; omega)
          go_wp2_with fail
          go_quiet (fail)
          have HG2 := Lib.hid (HGr.out.trans (Grow.drewN wr nq))
          go_wp2
          go_ret2
          exact ⟨HG2.out, .inl ⟨fun h => HNO.out h.1, rfl⟩⟩
        · have hb2 : Bd j < Bd k := by omega
          have HAS2 := Lib.hid (show Asc Bd (k + 1) from fun i hi => by
            by_cases e : i = j
            · have e2 : j + 1 = k := by have := HJ.out; have := HK1.out; omega
              rw [e, e2]; exact hb2
            · exact HAS.out i (by have := HJ.out; have := HK1.out; omega))
          go_wp2_with fail
          go_quiet (fail)
          have HG2 := Lib.hid (HGr.out.trans (Grow.drewN wr nq))
          go_wp2_with fail
          go_roundw
          case rel => exact ⟨k + 1, by omega, by omega, by go_num, HG2.out, HAS2.out⟩
          case measure => simp [intOf]; omega
      · have kn : ¬ (k : Int) < (n : Int) := by omega
        have HYES := Lib.hid (show Asc Bd n from fun i hi => HAS.out i (by omega))
        clear HAS
        go_wp2_with fail
        refine wp_region_rel_tail 6 _ Grow (fun a wQ => Grow w wQ ∧ Apart bls wr.heap.size [25, 29] a wQ) [([(0, none)], none), ([(24, some 0)], none), ([(0, none)], none), ([(26, some 0)], none), ([(27, some 0)], none), ([(28, some 0)], none)] (by kernel_rfl) (by kernel_rfl) (by kernel_rfl) ⟨HGr.out.trans (Grow.drewN wr 1), (show Apart bls ({ wr with drawn := wr.drawn + 1 } : World).heap.size [25, 29] _ _ from Apart.first _ _ _ ?init)⟩ ?_
        case init =>
          intro i hi g
          simp at hi
          rcases hi with rfl | rfl <;> exact bls_undef g
        refine relT_pure ⟨.slice A n cap, fun a wQ hF hk => relT_none fun K hK => ?_, ?_⟩
        · (try simp at hk)
          go_simp
          exact hK _ _ (Grow.refl _) ⟨hF.1, hF.2.skip (Nat.le_refl _) 24 (by decide) _⟩ rfl
        refine relT_some (DN Bd n wr.heap.size) (fun v w1 w2 hg ⟨A1, c1, h1, h2, h3⟩ => ⟨A1, c1, h1, h2.grow hg, h3⟩) (fun a wQ hF hk => relT_none fun K hK => ?_) ?_
        · (try simp at hk)
          go_simp
          refine (clone_any wQ A n cap Bd hn HA.out (HM.out.grow hF.1)).mono ?_
          rintro e w' ⟨A1, cap1, rfl, hown, hc1, hg, hnew, hnil⟩
          exact hK _ _ hg ⟨hF.1.trans hg, hF.2.put hg.size 25 _ (fun g ⟨x, y, h⟩ => hnew g (by injection h))⟩ ⟨A1, cap1, rfl, hown.mono hF.2.base, hc1, fun m hm => Nat.le_trans hF.2.base (hnew m hm).1, hnil⟩
        refine relT_pure ⟨.slice A n cap, fun a wQ hF hk => relT_none fun K hK => ?_, ?_⟩
        · (try simp at hk)
          go_simp
          exact hK _ _ (Grow.refl _) ⟨hF.1, hF.2.skip (Nat.le_refl _) 26 (by decide) _⟩ rfl
        refine relT_pure ⟨.int .i64 n, fun a wQ hF hk => relT_none fun K hK => ?_, ?_⟩
        · (try simp at hk)
          go_simp
          exact hK _ _ (Grow.refl _) ⟨hF.1, hF.2.skip (Nat.le_refl _) 27 (by decide) _⟩ rfl
        refine relT_pure ⟨.int .i64 ((n : Int) + 1), fun a wQ hF hk => relT_none fun K hK => ?_, ?_⟩
        · (try simp at hk)
          have hwr : IntKind.i64.wrap ((n : Int) + 1) = (n : Int) + 1 := by rw [IntKind.wrap_i64]; omega
          go_simp
          exact hK _ _ (Grow.refl _) ⟨hF.1, hF.2.skip (Nat.le_refl _) 28 (by decide) _⟩ rfl
        refine relT_some (DK n wr.heap.size) (fun v w1 w2 hg ⟨g, h1, h2, h3⟩ => ⟨g, h1, hg.at h2, h3⟩) (fun a wQ hF hk => relT_none fun K hK => ?_) ?_
        · (try simp at hk)
          have hmk := make_run n hn wQ
          go_simp
          exact hK _ _ (Grow.alloc _ _) ⟨hF.1.trans (Grow.alloc _ _), hF.2.put (by simp) 29 _ (fun g ⟨x, y, h⟩ => by injection h with h; injection h with h; injection h with h; subst h; simp)⟩ ⟨_, rfl, heapAt_alloc_new _ _, hF.2.base⟩
        refine relT_done fun wR => ?_
        refine fun v hv => ?_; obtain rfl : v = _ := hv
        refine fun v1 hv1 => ?_
        refine fun v hv => ?_; obtain rfl : v = _ := hv
        refine fun v hv => ?_; obtain rfl : v = _ := hv
        refine fun v hv => ?_; obtain rfl : v = _ := hv
        refine fun v2 hv2 => ?_
        obtain ⟨A1, cap1, rfl, hm1, hc1, hn1, hnil1⟩ := hv1
        obtain ⟨gc, rfl, hgc, hbc⟩ := hv2
        simp only [Act.put, List.setIfInBounds_toArray, List.set_cons_zero, List.set_cons_succ]
        refine relT_nil fun hF => ?_
        have h12 : ∀ m, A1 = some ⟨m, 0, none⟩ → m ≠ gc := fun m hm e => hF.2.ne 25 (by simp) 29 (by simp) (by decide) m ⟨n, cap1, by rw [← hm]; rfl⟩ ⟨n + 1, n + 1, by subst e; rfl⟩
        have hlt1 : ∀ m, A1 = some ⟨m, 0, none⟩ → m < wR.heap.size := fun m hm => (hF.2.lt 25 (by simp) m ⟨n, cap1, by rw [← hm]; rfl⟩).2
        have hG := hF.1
        clear hF
        simp only [List.drop_succ_cons, List.drop_zero]
        have HH := Lib.hid (And.intro hm1 (And.intro hc1 (And.intro hn1 (And.intro hnil1 (And.intro hgc (And.intro hbc (And.intro h12 (And.intro hlt1 hG))))))))
        clear hm1 hc1 hn1 hnil1 hgc hbc h12 hlt1 hG
        go_wp2
        go_ret2
        obtain ⟨hm1, hc1, hn1, hnil1, hgc, hbc, h12, hlt1, hG⟩ := HH.out
        have hga := Grow.alloc wR (.cells (histCells A1 n cap1 gc 0 0 0 0) 54)
        have hB := hG.size
        refine ⟨hG.trans hga, .inr ⟨⟨HYES.out, h32⟩, wR.heap.size, A1, cap1, gc, rfl, ⟨heapAt_alloc_new _ _, (hm1.grow hga).mono HGr.out.size, hc1, hga.at hgc, hB, Nat.le_trans HGr.out.size hbc, ?_, fun m hm => ⟨h12 m hm, ?_, Nat.le_trans HGr.out.size (hn1 m hm)⟩, hnil1⟩⟩⟩
        · have := heapAt_lt hgc; omega
        · have := hlt1 m hm; omega
  · have h32i : ¬ (n : Int) ≤ 32 := by omega
    go_enter Try.func25, Try.ntmps25
    go_wp2
    go_ret2
    exact ⟨Grow.refl _, .inl ⟨fun h => h32 h.2, rfl⟩⟩
end Go.Proofs.Ytpemmjaengbogaa
