/- The reference's Put, Remove, Turn and Move walked. -/
import Derived.Test.YtdfadggdegojnaaDoorRefLv
import Derived.Test.YtdfadggdegojnaaDoorRelTail
import Derived.Deep.RegionHeld3
import Derived.OneCell
import Derived.Deep.RegionLaw
namespace Go.Proofs.YtdfadggdegojnaaDoor
open Go.RowKit
set_option linter.unusedVariables false
set_option linter.unusedSimpArgs false
set_option maxRecDepth 100000
theorem own_mono {w : World} {B B' n : Nat} {v : Value} {xs : List Value} (h : w.ownsRow B' 3 1 v n xs) (hB : B ≤ B') : w.ownsRow B 3 1 v n xs := by
  refine ⟨h.1, ?_⟩
  rcases h.2 with h1 | ⟨g, cap, cur, h1, h2, r⟩
  · exact .inl h1
  · exact .inr ⟨g, cap, cur, h1, Nat.le_trans hB h2, r⟩
def upV (V : Nat → Value) (l : Nat) (v : Value) : Nat → Value := fun j => if j = l then v else V j
theorem upV_same (V : Nat → Value) (l : Nat) (v : Value) : upV V l v l = v := by simp [upV]
theorem upV_other (V : Nat → Value) {l j : Nat} (v : Value) (h : j ≠ l) : upV V l v j = V j := by simp [upV, h]
theorem refCells_set (V : Nat → Value) (l : Nat) (v : Value) : (refCells V).setIfInBounds l v = refCells (upV V l v) := by
  apply Array.ext
  · simp [refCells]
  · intro i h1 h2
    rw [Array.getElem_setIfInBounds (by simpa using h1)]
    by_cases e : l = i
    · subst e; simp [refCells, upV]
    · have : i ≠ l := fun h => e h.symm
      simp [refCells, upV, e, this]
/-- As RefV, but for row l. -/
structure RefB (w : World) (m l : Nat) (L : Rows) (V : Nat → Value) : Prop where
  blk : w.heap[m]? = some (.cells (refCells V) 42 (0, 0))
  row : ∀ j, j < 32 → j ≠ l → w.ownsRow (m + 1) 3 1 (V j) (L j).length (ints (L j))
  ap : ∀ i j, i < 32 → j < 32 → i ≠ j → ∀ g, (V i).ownBlock = some g → (V j).ownBlock ≠ some g
theorem RefV.toB {w : World} {m : Nat} {L : Rows} {V : Nat → Value} (h : RefV w m L V) (l : Nat) : RefB w m l L V := ⟨h.blk, fun j hj _ => h.row j hj, h.ap⟩
theorem RefB.grow {w w' : World} {m l : Nat} {L : Rows} {V : Nat → Value} (h : RefB w m l L V) (hg : Grow w w') : RefB w' m l L V :=
  ⟨hg.at h.blk, fun j hj hn => own_grow (h.row j hj hn) hg, h.ap⟩
theorem RefB.grown {w w' : World} {m l : Nat} {L : Rows} {V : Nat → Value} (h : RefB w m l L V) (hl : l < 32) (hb : ∀ g, (V l).ownBlock = some g → m + 1 ≤ g) (hg : w.grownBy w' (V l).ownBlock) : RefB w' m l L V := by
  refine ⟨?_, fun j hj hn => (h.row j hj hn).kept hg ?_, h.ap⟩
  · rw [hg.block m (heapAt_lt h.blk) (fun e => by have := hb m e.symm; omega)]
    exact h.blk
  · cases e : (V j).ownBlock with
    | none => exact .inl rfl
    | some g => exact .inr fun e2 => h.ap j l hj hl hn g e e2.symm
theorem RefB.set {w : World} {m l : Nat} {L : Rows} {V : Nat → Value} (h : RefB w m l L V) (hl : l < 32) {xs : List Nat} {v : Value} (hown : w.ownsRow (m + 1) 3 1 v xs.length (ints xs)) (hne : ∀ j, j < 32 → j ≠ l → ∀ g, v.ownBlock = some g → (V j).ownBlock ≠ some g) :
    RefV (w.setCell ⟨m, l, none⟩ v) m (upL L l xs) (upV V l v) := by
  refine ⟨by rw [set_block h.blk, refCells_set], fun j hj => ?_, fun i j hi hj hij g hg => ?_⟩
  · by_cases e : j = l
    · subst e
      rw [upV_same, upL_same]
      exact ownsRow_setCell_below hown (by simp) v
    · rw [upV_other _ _ e, upL_other _ _ e]
      exact ownsRow_setCell_below (h.row j hj e) (by simp) v
  · by_cases e : i = l
    · subst e
      rw [upV_same] at hg
      rw [upV_other _ _ (fun e => hij e.symm)]
      exact hne j hj (fun e => hij e.symm) g hg
    · rw [upV_other _ _ e] at hg
      by_cases e2 : j = l
      · subst e2
        rw [upV_same]
        exact fun h2 => hne i hi e g h2 hg
      · rw [upV_other _ _ e2]
        exact h.ap i j hi hj hij g hg
theorem RefB.lt {w : World} {m l : Nat} {L : Rows} {V : Nat → Value} (h : RefB w m l L V) {j : Nat} (hj : j < 32) (hn : j ≠ l) {g : Nat} (hg : (V j).ownBlock = some g) : m + 1 ≤ g ∧ g < w.heap.size := (h.row j hj hn).lt g hg
theorem but_cut (t : Nat) (xs : List Nat) : but (t : Int) xs = xs.filter (· != t) := by
  unfold but
  apply List.filter_congr
  intro x _
  by_cases e : x = t
  · subst e; simp
  · have : (x : Int) ≠ (t : Int) := fun h => e (by omega)
    simp [e, this]
theorem but_same {t : Int} {xs : List Nat} (h : ¬ (0 ≤ t ∧ t.toNat ∈ xs)) : but t xs = xs := but_none fun x hx e => h ⟨by omega, by rw [← e]; simpa using hx⟩
theorem reads_one (w : World) (x : Int) : Reads (w.alloc (.cells #[.int .i64 x] 3)) (w.alloc (.cells #[.int .i64 x] 3)).heap.size 1 (some ⟨w.heap.size, 0, none⟩) 1 [.int .i64 x] := by
  have := Reads.of_own (World.ownsRow_lit (base := w.heap.size) (e := 3) (size := 1) w #[.int .i64 x] 1 (Nat.le_refl _) (by unfold maxLen; omega) rfl)
  simpa using this
theorem grown_cell {w w' : World} {row : Option Nat} {m l : Nat} {v : Value} (hg : w.grownBy w' row) (hr : row ≠ some m) (hc : w.cell? ⟨m, l, none⟩ = some v) : w'.cell? ⟨m, l, none⟩ = some v := by
  have hlt := World.block_lt_of_cell? w ⟨m, l, none⟩ hc
  exact (World.cell?_of_block (w := w) (a := ⟨m, l, none⟩) (hg.block m hlt (fun e => hr e.symm))).trans hc
theorem grown_free {w w' : World} {row : Option Nat} {m l : Nat} {v : Value} (hg : w.grownBy w' row) (hr : row ≠ some m) (hc : w.cell? ⟨m, l, none⟩ = some v) (hf : w.frozen? ⟨m, l, none⟩ = false) : w'.frozen? ⟨m, l, none⟩ = false := by
  have hlt := World.block_lt_of_cell? w ⟨m, l, none⟩ hc
  exact (World.frozen?_of_block (w := w) (a := ⟨m, l, none⟩) (hg.block m hlt (fun e => hr e.symm))).trans hf
/-- The reference's queues, whatever blocks the rows have. -/
def RS (w : World) (m : Nat) (L : Rows) : Prop := ∃ V, RefV w m L V
theorem RS.grow {w w' : World} {m : Nat} {L : Rows} (h : RS w m L) (hg : Grow w w') : RS w' m L := by obtain ⟨V, h⟩ := h; exact ⟨V, h.grow hg⟩
theorem RS.lt {w : World} {m : Nat} {L : Rows} (h : RS w m L) : m < w.heap.size := by obtain ⟨V, h⟩ := h; exact heapAt_lt h.blk
/-- Blocks below m, and blocks that are no rows, are as they were. -/
def Far (m : Nat) (w w' : World) : Prop := Below m w w' ∧ ∀ (k : Nat) (o : Obj), k ≠ m → w.heap[k]? = some o → (∀ cs f, o ≠ .cells cs 3 f) → w'.heap[k]? = some o
theorem Far.grow {m : Nat} {w w' : World} (h : Grow w w') (hm : m ≤ w.heap.size) : Far m w w' := ⟨h.mono hm, fun k o _ hk _ => h.at hk⟩
theorem Far.trans {m : Nat} {w w1 w2 : World} (h : Far m w w1) (g : Far m w1 w2) : Far m w w2 := ⟨Below.trans h.1 g.1, fun k o hn hk ho => g.2 k o hn (h.2 k o hn hk ho) ho⟩
theorem Far.set {m : Nat} {w w1 : World} (h : Far m w w1) (l : Nat) (v : Value) : Far m w (w1.setCell ⟨m, l, none⟩ v) :=
  ⟨Below.setCell (B := m) (p := ⟨m, l, none⟩) h.1 (Nat.le_refl m) v, fun k o hn hk ho => (set_block_other hn l v).trans (h.2 k o hn hk ho)⟩
theorem own_kind {w : World} {B n g : Nat} {v : Value} {xs : List Value} (h : w.ownsRow B 3 1 v n xs) (hg : v.ownBlock = some g) : ∃ cs f, w.heap[g]? = some (.cells cs 3 f) := by
  rcases h.2 with ⟨rfl, _⟩ | ⟨g', cap, cur, rfl, _, hgg, _⟩
  · simp [Value.ownBlock] at hg
  · simp [Value.ownBlock] at hg
    subst hg
    exact ⟨_, _, hgg⟩
theorem RefV.put {w wr w1 : World} {m l t : Nat} {L : Rows} {V : Nat → Value} (h : RefV wr m L V) (hG : Grow w wr) (hm : m < w.heap.size) (hl : l < 32) (o : Obj) {v v' : Value} (hv : V l = v) (hown1 : w1.ownsRow (m + 1) 3 1 v' ((L l).length + 1) (ints (L l) ++ [.int .i64 (t : Int)]))
    (hgrow : (wr.alloc o).drew.grownBy w1 v.ownBlock) (hblk : v'.ownBlock = v.ownBlock ∨ v'.ownBlock = some (wr.alloc o).drew.heap.size) :
    RS (w1.setCell ⟨m, l, none⟩ v') m (pushR L t l) ∧ Far m w (w1.setCell ⟨m, l, none⟩ v') := by
  subst hv
  have hA : RefB (wr.alloc o).drew m l L V := (h.toB l).grow (Below.drew (Grow.alloc wr o))
  have hlt : ∀ g, (V l).ownBlock = some g → m + 1 ≤ g ∧ g < wr.heap.size := (h.row l hl).lt
  have hB : RefB w1 m l L V := hA.grown hl (fun g hg => (hlt g hg).1) hgrow
  refine ⟨⟨_, hB.set hl (xs := L l ++ [t]) ?_ fun j hj hn g hg e => ?_⟩, ?_⟩
  · rw [ints_snoc] at hown1
    rw [List.length_append]
    exact hown1
  · rcases hblk with h1 | h1
    · exact h.ap l j hl hj (fun e => hn e.symm) g (h1 ▸ hg) e
    · rw [h1] at hg
      injection hg with hg
      have h2 := ((h.row j hj).lt g e).2
      have h3 : (wr.alloc o).drew.heap.size = wr.heap.size + 1 := by simp
      omega
  · refine Far.set (Far.trans (Far.grow hG (by omega)) (Far.trans (Far.grow (Below.drew (Grow.alloc wr o)) (by have := hG.size; omega)) ⟨below_grown hgrow (by have := hG.size; simp; omega) (fun k hk => by have := hlt k hk; omega), fun k ob hn hk ho => ?_⟩)) l v'
    rw [hgrow.block k (heapAt_lt hk) (fun e => ?_)]
    · exact hk
    · obtain ⟨cs, f, hkk⟩ := own_kind (h.row l hl) e.symm
      have h5 := Grow.at (w := wr) (w' := (wr.alloc o).drew) (Below.drew (Grow.alloc wr o)) hkk
      rw [hk] at h5
      exact ho cs f (Option.some.inj h5)
theorem RefV.cut {w wr w1 : World} {m l t : Nat} {L : Rows} {V : Nat → Value} (h : RefV wr m L V) (hG : Grow w wr) (hm : m < w.heap.size) (hl : l < 32) (hg1 : Grow wr w1) {v' : Value} (hown1 : w1.ownsRow wr.heap.size 3 1 v' (but (t : Int) (L l)).length (ints (but (t : Int) (L l)))) :
    RS (w1.setCell ⟨m, l, none⟩ v') m (cutR L t l) ∧ Far m w (w1.setCell ⟨m, l, none⟩ v') := by
  have hB : RefB w1 m l L V := (h.toB l).grow hg1
  refine ⟨⟨_, hB.set hl (xs := (L l).filter (· != t)) ?_ fun j hj hn g hg e => ?_⟩, ?_⟩
  · rw [but_cut] at hown1
    exact own_mono hown1 (heapAt_lt h.blk)
  · have h2 := ((h.row j hj).lt g e).2
    have h3 := (hown1.lt g hg).1
    omega
  · exact Far.set (Far.trans (Far.grow hG (by omega)) (Far.grow hg1 (by have := hG.size; omega))) l v'
def Short (L : Rows) : Prop := ∀ j, j < 32 → (L j).length ≤ 64
theorem Rep.short {s : QS} {L : Rows} (h : Rep s L) : Short L := fun j hj => nodup_len 64 (L j) (h.nodup j hj) (fun x hx => (h.mem j hj x hx).1)
theorem Short.cut {L : Rows} (h : Short L) (t l : Nat) : Short (cutR L t l) := fun j hj => by
  unfold cutR
  by_cases e : j = l
  · subst e; rw [upL_same]; exact Nat.le_trans (List.length_filter_le _ _) (h j hj)
  · rw [upL_other _ _ e]; exact h j hj
attribute [local irreducible] ctz qCells lvl cutR firstR total inR hd but refCells lead
attribute [local simp] RelKnown Is
theorem refLevel_s (w : World) (m : Nat) (L : Rows) (t v : Int) (hv : lvl L t = v) (hlen : Short L) (h : RS w m L) : Calls Tryd.prog 28 #[.pointer (some ⟨m, 0, none⟩), .int .i64 t] w fun e w' => e = .returned (.int .i64 v) ∧ Grow w w' := by
  obtain ⟨V, h⟩ := h
  rw [← hv]
  exact refLevel_any w m L V t hlen h
set_option maxHeartbeats 2000000 in
theorem refPut_no (w : World) (m : Nat) (L : Rows) (t l : Int) (hlen : Short L) (hno : ¬ putOk L t l) (h : RS w m L) : Calls Tryd.prog 13 #[.pointer (some ⟨m, 0, none⟩), .int .i64 t, .int .i64 l] w fun e w' => e = .returned (.bool false) ∧ Grow w w' := by
  by_cases h1 : t < 0
  · clear hno h hlen
    go_enter Tryd.func13, Tryd.ntmps13
    go_wp2
    go_ret
    exact ⟨rfl, Grow.refl _⟩
  by_cases h2 : 63 < t
  · clear hno h hlen
    go_enter Tryd.func13, Tryd.ntmps13
    go_wp2
    go_ret
    exact ⟨rfl, Grow.refl _⟩
  by_cases h3 : l < 0
  · clear hno h hlen
    go_enter Tryd.func13, Tryd.ntmps13
    go_wp2
    go_ret
    exact ⟨rfl, Grow.refl _⟩
  by_cases h4 : 31 < l
  · clear hno h hlen
    go_enter Tryd.func13, Tryd.ntmps13
    go_wp2
    go_ret
    exact ⟨rfl, Grow.refl _⟩
  obtain ⟨v, hv⟩ : ∃ v, lvl L t = v := ⟨_, rfl⟩
  have h0 : 0 ≤ v := by
    rcases lvl_cases L t with ⟨e, _⟩ | ⟨j, _, e, _⟩
    · exact absurd ⟨by omega, by omega, by omega, by omega, e⟩ hno
    · omega
  have HL := Lib.hid (refLevel_s w m L t v hv hlen h)
  clear hno h hlen hv
  have k1 : (v ≥ 0) := h0
  go_enter Tryd.func13, Tryd.ntmps13
  go_wp2_with fail
  refine HL.out.mono ?_
  rintro e w' ⟨rfl, hg⟩
  have HG := Lib.hid hg; clear hg
  go_wp2
  go_ret
  exact ⟨rfl, HG.out⟩
set_option maxHeartbeats 4000000 in
theorem refPut_ok (w : World) (m : Nat) (L : Rows) (t l : Nat) (ht : t < 64) (hl : l < 32) (hlen : Short L) (hno : lvl L (t : Int) = -1) (h : RS w m L) : Calls Tryd.prog 13 #[.pointer (some ⟨m, 0, none⟩), .int .i64 t, .int .i64 l] w fun e w' => e = .returned (.bool true) ∧ RS w' m (pushR L t l) ∧ Far m w w' := by
  have HL := Lib.hid (refLevel_s w m L t (-1) hno hlen h)
  have hln := hlen l hl
  obtain ⟨V, h⟩ := h
  have HMW := Lib.hid (show m < w.heap.size from heapAt_lt h.blk)
  have HR := Lib.hid h; clear h hlen hno
  have t0 : (0 : Int) ≤ (t : Int) := by omega
  have t1 : (t : Int) < 64 := by omega
  have l0 : (0 : Int) ≤ (l : Int) := by omega
  have l1 : (l : Int) < 32 := by omega
  obtain ⟨i0, hi, hz0, hz1, hz2⟩ := info_parts info3
  have HI := Lib.hid hi; clear hi
  have HZ0 := Lib.hid hz0; clear hz0
  have HZ1 := Lib.hid hz1; clear hz1
  have HZ2 := Lib.hid hz2; clear hz2
  go_enter Tryd.func13, Tryd.ntmps13
  go_wp2_with fail
  refine HL.out.mono ?_
  rintro e wr ⟨rfl, hg⟩
  have HG := Lib.hid hg; clear hg
  replace HR := Lib.hid (HR.out.grow HG.out)
  have c0 := HR.out.cell l hl
  obtain ⟨A, cap, hv, hc, hM⟩ := HR.out.form l hl
  have HV := Lib.hid hv; clear hv hM
  rw [HV.out] at c0
  have hB : m + 1 ≤ wr.heap.size := heapAt_lt HR.out.blk
  have hnb := World.new_ne wr ⟨m, l, none⟩ c0
  have HOWN := Lib.hid (HV.out ▸ HR.out.row l hl)
  have HNR := Lib.hid (show (Value.slice A (L l).length cap).ownBlock ≠ some m from fun e => by have := HOWN.out.lt m e; omega)
  have HFR := Lib.hid (free_block HR.out.blk l)
  have HS9 := Lib.hid (show ∀ o, (wr.drew.alloc o).cell? ⟨m, l, none⟩ = some (.slice A (L l).length cap) from fun o => (cell_block (heapAt_alloc_old wr o (heapAt_lt HR.out.blk) |>.trans HR.out.blk) l).trans (by rw [refCells_at V l hl, HV.out]))
  have HF9 := Lib.hid (show ∀ o, (wr.drew.alloc o).frozen? ⟨m, l, none⟩ = false from fun o => free_block (heapAt_alloc_old wr o (heapAt_lt HR.out.blk) |>.trans HR.out.blk) l)
  have HFR0 := HFR.out
  have hs9 : (wr.alloc (.cells #[.int .i64 (t : Int)] 3)).cell? ⟨m, l, none⟩ = some (.slice A (L l).length cap) := HS9.out _
  go_wp2_with fail
  go_region_law ((refine step_append_any _ (by rfl) _ _ 22 (by rfl) (m + 1) 3 i0 (.int .i64 0) 1 8 Tryd.underlying22 HI.out HZ0.out HZ1.out HZ2.out rfl (by decide) _ (L l).length (ints (L l)) (by rfl) (own_alloc HOWN.out _) (wr.alloc (.cells #[.int .i64 (t : Int)] 3)).heap.size (some ⟨wr.heap.size, 0, none⟩) 1 1 [.int .i64 (t : Int)] (by rfl) (reads_one _ _) (by simp [Value.oneCell']) (by unfold maxLen; omega) (by omega) (by simp; omega) ?_; intro v' w1 hown1 hgrow hblk; obtain ⟨A', c', rfl⟩ := own_form hown1; have hfr1 := grown_free hgrow HNR.out (HS9.out _) (HF9.out _); have hs1 := grown_cell hgrow HNR.out (HS9.out _)))
  all_goals (
    have HP := Lib.hid (RefV.put (t := t) HR.out HG.out HMW.out hl _ HV.out hown1 hgrow hblk)
    clear hown1 hgrow hblk hfr1 hs1 hs9 HS9 HF9
    go_wp2
    go_ret
    exact ⟨rfl, HP.out⟩)
set_option maxHeartbeats 4000000 in
theorem refRemove_no (w : World) (m : Nat) (L : Rows) (t : Int) (hlen : Short L) (hno : ¬ inR L t) (h : RS w m L) : Calls Tryd.prog 14 #[.pointer (some ⟨m, 0, none⟩), .int .i64 t] w fun e w' => e = .returned (.bool false) ∧ Grow w w' := by
  obtain ⟨v, hv⟩ : ∃ v, lvl L t = v := ⟨_, rfl⟩
  have h0 : v < 0 := by unfold inR at hno; omega
  have HL := Lib.hid (refLevel_s w m L t v hv hlen h)
  clear hno h hlen hv
  go_enter Tryd.func14, Tryd.ntmps14
  go_wp2_with fail
  refine HL.out.mono ?_
  rintro e w' ⟨rfl, hg⟩
  have HG := Lib.hid hg; clear hg
  go_wp2
  go_ret
  exact ⟨rfl, HG.out⟩
set_option maxHeartbeats 4000000 in
theorem refRemove_ok (w : World) (m : Nat) (L : Rows) (t l : Nat) (hl : l < 32) (hlen : Short L) (hv : lvl L (t : Int) = l) (h : RS w m L) : Calls Tryd.prog 14 #[.pointer (some ⟨m, 0, none⟩), .int .i64 t] w fun e w' => e = .returned (.bool true) ∧ RS w' m (cutR L t l) ∧ Far m w w' := by
  have HL := Lib.hid (refLevel_s w m L t l hv hlen h)
  have hln := hlen l hl
  obtain ⟨V, h⟩ := h
  have HMW := Lib.hid (show m < w.heap.size from heapAt_lt h.blk)
  have HR := Lib.hid h; clear h hlen hv
  have l0 : (0 : Int) ≤ (l : Int) := by omega
  have l1 : (l : Int) < 32 := by omega
  have hl1 : ((L l).length : Int) ≤ 1000 := by omega
  go_enter Tryd.func14, Tryd.ntmps14
  go_wp2_with fail
  refine HL.out.mono ?_
  rintro e wr ⟨rfl, hg⟩
  have HG := Lib.hid hg; clear hg
  replace HR := Lib.hid (HR.out.grow HG.out)
  obtain ⟨A, cap, hv, hc, hM⟩ := HR.out.form l hl
  have hV := Lib.hid hv; clear hv
  have HM := Lib.hid hM; clear hM
  have hc1 : ((L l).length : Int) ≤ cap := by omega
  go_wp2_with fail
  refine wp_region_rel_tail 13 _ Grow (fun a wQ => Grow wr wQ) [([(0, none)], none), ([(5, none)], none), ([(0, none)], none), ([(5, none)], none), ([(13, some 1)], none), ([(15, some 0)], none), ([(16, some 0), (14, some 2)], none), ([(17, some 0)], none), ([(1, none)], none), ([(18, some 1), (19, some 0)], none), ([(11, some 9)], none), ([(21, some 0)], none), ([(22, some 0), (12, some 10)], none)] (by kernel_rfl) (by kernel_rfl) (by kernel_rfl) (Grow.drewN wr 1) ?_
  (refine relT_pure ?_; apply Exists.intro; refine ⟨fun aR wQ hF hk => ?_, ?_⟩; focus (refine relT_none fun K hK => ?_; (try simp at hk); go_simp; exact hK _ _ (Grow.refl _) hF rfl))
  (refine relT_pure ?_; apply Exists.intro; refine ⟨fun aR wQ hF hk => ?_, ?_⟩; focus (refine relT_none fun K hK => ?_; (try simp at hk); go_simp; exact hK _ _ (Grow.refl _) hF rfl))
  (refine relT_pure ?_; apply Exists.intro; refine ⟨fun aR wQ hF hk => ?_, ?_⟩; focus (refine relT_none fun K hK => ?_; (try simp at hk); go_simp; exact hK _ _ (Grow.refl _) hF rfl))
  (refine relT_pure ?_; apply Exists.intro; refine ⟨fun aR wQ hF hk => ?_, ?_⟩; focus (refine relT_none fun K hK => ?_; (try simp at hk); go_simp; exact hK _ _ (Grow.refl _) hF rfl))
  (refine relT_pure ?_; apply Exists.intro; refine ⟨fun aR wQ hF hk => ?_, ?_⟩; focus (refine relT_none fun K hK => ?_; (try simp at hk); go_simp; exact hK _ _ (Grow.refl _) hF rfl))
  (refine relT_pure ?_; apply Exists.intro; refine ⟨fun aR wQ hF hk => ?_, ?_⟩; focus (refine relT_none fun K hK => ?_; (try simp at hk); go_simp; exact hK _ _ (Grow.refl _) hF rfl))
  (refine relT_pure ?_; apply Exists.intro; refine ⟨fun aR wQ hF hk => ?_, ?_⟩; focus (refine relT_none fun K hK => ?_; (try simp at hk); go_simp; exact hK _ _ (Grow.refl _) hF rfl))
  (refine relT_pure ?_; apply Exists.intro; refine ⟨fun aR wQ hF hk => ?_, ?_⟩; focus (refine relT_none fun K hK => ?_; (try simp at hk); have c1 := (HR.out.grow hF).cell l hl; rw [hV.out] at c1; go_simp; exact hK _ _ (Grow.refl _) hF rfl))
  (refine relT_pure ?_; apply Exists.intro; refine ⟨fun aR wQ hF hk => ?_, ?_⟩; focus (refine relT_none fun K hK => ?_; (try simp at hk); go_simp; exact hK _ _ (Grow.refl _) hF rfl))
  (refine relT_some (fun v w2 => w2.ownsRow wr.heap.size 3 1 v (but (t : Int) (L l)).length (ints (but (t : Int) (L l)))) (fun _ _ _ hg h => own_grow h hg) (fun aR wQ hF hk => ?_) ?_; focus (refine relT_none fun K hK => ?_; (try simp at hk); go_simp; refine (without_any wQ A cap (L l) t hl1 hc1 (HM.out.at.grow hF)).mono ?_; rintro e w' ⟨v, rfl, hown, hg⟩; exact hK _ _ hg (Grow.trans hF hg) (own_mono hown hF.size)))
  (refine relT_pure ?_; apply Exists.intro; refine ⟨fun aR wQ hF hk => ?_, ?_⟩; focus (refine relT_none fun K hK => ?_; (try simp at hk); go_simp; exact hK _ _ (Grow.refl _) hF rfl))
  (refine relT_pure ?_; apply Exists.intro; refine ⟨fun aR wQ hF hk => ?_, ?_⟩; focus (refine relT_none fun K hK => ?_; (try simp at hk); go_simp; exact hK _ _ (Grow.refl _) hF rfl))
  (refine relT_pure ?_; apply Exists.intro; refine ⟨fun aR wQ hF hk => ?_, ?_⟩; focus (refine relT_none fun K hK => ?_; (try simp at hk); go_simp; exact hK _ _ (Grow.refl _) hF rfl))
  refine relT_done fun wR => ?_
  repeat (first | (refine fun v hv => ?_; obtain rfl : v = _ := hv) | (refine fun v hv => ?_))
  simp only [Act.put, List.setIfInBounds_toArray, List.set_cons_zero, List.set_cons_succ]
  refine relT_nil fun hF => ?_
  obtain ⟨A', c', rfl⟩ := own_form hv
  have HRF := Lib.hid (HR.out.grow hF)
  have c2 := HRF.out.cell l hl
  have HFR := free_block HRF.out.blk l
  have HP := Lib.hid (RefV.cut HR.out HG.out HMW.out hl hF hv)
  simp only [List.drop_succ_cons, List.drop_zero]
  clear hF hv
  go_wp2
  go_ret
  exact ⟨rfl, HP.out⟩

end Go.Proofs.YtdfadggdegojnaaDoor
