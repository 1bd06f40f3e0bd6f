/- The walk of ReadyPlays. -/
import Derived.Test.YtdfadggdegojnaaDoorAlike
import Derived.Test.YtdfadggdegojnaaDoorApart
import Derived.Test.YtdfadggdegojnaaDoorRelL
namespace Go.Proofs.YtdfadggdegojnaaDoor
open Go.RowKit
set_option linter.unusedVariables false
set_option linter.unusedSimpArgs false
attribute [local irreducible] ctz qCells lvl pushR cutR firstR total inR hd putR turnR removeR moveR lead rowAt r0 doR refCells putOk moveOk
set_option maxRecDepth 100000
theorem refCells_nil : refCells (fun _ => .slice none 0 0) = #[.slice none 0 0, .slice none 0 0, .slice none 0 0, .slice none 0 0, .slice none 0 0, .slice none 0 0, .slice none 0 0, .slice none 0 0, .slice none 0 0, .slice none 0 0, .slice none 0 0, .slice none 0 0, .slice none 0 0, .slice none 0 0, .slice none 0 0, .slice none 0 0, .slice none 0 0, .slice none 0 0, .slice none 0 0, .slice none 0 0, .slice none 0 0, .slice none 0 0, .slice none 0 0, .slice none 0 0, .slice none 0 0, .slice none 0 0, .slice none 0 0, .slice none 0 0, .slice none 0 0, .slice none 0 0, .slice none 0 0, .slice none 0 0] := by unfold refCells; rfl
theorem q1_any (w : World) (b : Nat) (t l : Int) (L : Rows) (h : RQ w b L) : Calls Tryd.prog 9 #[.pointer (some ⟨b, 0, none⟩), .int .i64 t, .int .i64 l] w fun e w' => e = .returned (.int .i64 (if putOk L t l then 0 else 1)) ∧ RQ w' b (doR L 1 t l) ∧ Only b w w' := by
  have e1 : doR L 1 t l = putR L t l := by unfold doR; rw [if_pos rfl]
  rw [e1]
  by_cases hok : putOk L t l
  · rw [if_pos hok]
    exact put_ok w b t l L hok h
  · rw [if_neg hok]
    refine (put_no w b t l L hok h).mono ?_
    rintro e w' ⟨rfl, rfl⟩
    exact ⟨rfl, by unfold putR; rw [if_neg hok]; exact h, Only.refl _ _⟩
theorem q2_any (w : World) (b : Nat) (t l : Int) (L : Rows) (h : RQ w b L) : Calls Tryd.prog 12 #[.pointer (some ⟨b, 0, none⟩), .int .i64 t] w fun e w' => e = .returned (.bool (decide (inR L t))) ∧ RQ w' b (doR L 2 t l) ∧ Only b w w' := by
  have e1 : doR L 2 t l = removeR L t := by unfold doR; rw [if_neg (by decide), if_pos rfl]
  rw [e1]
  by_cases hok : inR L t
  · rw [decide_eq_true hok]
    exact remove_ok w b t L hok h
  · rw [decide_eq_false hok]
    refine (remove_no w b t L hok h).mono ?_
    rintro e w' ⟨rfl, rfl⟩
    exact ⟨rfl, by unfold removeR; rw [if_neg hok]; exact h, Only.refl _ _⟩
theorem q3_any (w : World) (b : Nat) (t l : Int) (L : Rows) (h : RQ w b L) : Calls Tryd.prog 15 #[.pointer (some ⟨b, 0, none⟩), .int .i64 t] w fun e w' => e = .returned (.bool (decide (inR L t))) ∧ RQ w' b (doR L 3 t l) ∧ Only b w w' := by
  have e1 : doR L 3 t l = turnR L t := by unfold doR; rw [if_neg (by decide), if_neg (by decide), if_pos rfl]
  rw [e1]
  by_cases hok : inR L t
  · rw [decide_eq_true hok]
    exact turn_ok w b t L hok h
  · rw [decide_eq_false hok]
    refine (turn_no w b t L hok h).mono ?_
    rintro e w' ⟨rfl, rfl⟩
    exact ⟨rfl, by unfold turnR; rw [if_neg hok]; exact h, Only.refl _ _⟩
theorem q4_any (w : World) (b : Nat) (t l : Int) (L : Rows) (h : RQ w b L) : Calls Tryd.prog 17 #[.pointer (some ⟨b, 0, none⟩), .int .i64 t, .int .i64 l] w fun e w' => e = .returned (.bool (decide (moveOk L t l))) ∧ RQ w' b (doR L 4 t l) ∧ Only b w w' := by
  have e1 : doR L 4 t l = moveR L t l := by unfold doR; rw [if_neg (by decide), if_neg (by decide), if_neg (by decide), if_pos rfl]
  rw [e1]
  by_cases hok : moveOk L t l
  · rw [decide_eq_true hok]
    exact move_ok w b t l L hok h
  · rw [decide_eq_false hok]
    refine (move_no w b t l L hok h).mono ?_
    rintro e w' ⟨rfl, rfl⟩
    exact ⟨rfl, by unfold moveR; rw [if_neg hok]; exact h, Only.refl _ _⟩
theorem m1_any (w : World) (m : Nat) (t l : Int) (L : Rows) (s : QS) (hp : Rep s L) (h : RS w m L) : Calls Tryd.prog 13 #[.pointer (some ⟨m, 0, none⟩), .int .i64 t, .int .i64 l] w fun e w' => e = .returned (.bool (decide (putOk L t l))) ∧ RS w' m (doR L 1 t l) ∧ Far m w w' := by
  have e1 : doR L 1 t l = putR L t l := by unfold doR; rw [if_pos rfl]
  rw [e1]
  exact refPut_any w m L s t l hp h
theorem m2_any (w : World) (m : Nat) (t l : Int) (L : Rows) (s : QS) (hp : Rep s L) (h : RS w m L) : Calls Tryd.prog 14 #[.pointer (some ⟨m, 0, none⟩), .int .i64 t] w fun e w' => e = .returned (.bool (decide (inR L t))) ∧ RS w' m (doR L 2 t l) ∧ Far m w w' := by
  have e1 : doR L 2 t l = removeR L t := by unfold doR; rw [if_neg (by decide), if_pos rfl]
  rw [e1]
  exact refRemove_any w m L s t hp h
theorem m3_any (w : World) (m : Nat) (t l : Int) (L : Rows) (s : QS) (hp : Rep s L) (h : RS w m L) : Calls Tryd.prog 16 #[.pointer (some ⟨m, 0, none⟩), .int .i64 t] w fun e w' => e = .returned (.bool (decide (inR L t))) ∧ RS w' m (doR L 3 t l) ∧ Far m w w' := by
  have e1 : doR L 3 t l = turnR L t := by unfold doR; rw [if_neg (by decide), if_neg (by decide), if_pos rfl]
  rw [e1]
  exact refTurn_any w m L s t hp h
theorem m4_any (w : World) (m : Nat) (t l : Int) (L : Rows) (s : QS) (hp : Rep s L) (h : RS w m L) : Calls Tryd.prog 18 #[.pointer (some ⟨m, 0, none⟩), .int .i64 t, .int .i64 l] w fun e w' => e = .returned (.bool (decide (moveOk L t l))) ∧ RS w' m (doR L 4 t l) ∧ Far m w w' := by
  have e1 : doR L 4 t l = moveR L t l := by unfold doR; rw [if_neg (by decide), if_neg (by decide), if_neg (by decide), if_pos rfl]
  rw [e1]
  exact refMove_any w m L s t l hp h
theorem RS.only {w w' : World} {b m : Nat} {L : Rows} (h : RS w m L) (ho : Only b w w') (hbm : b < m) : RS w' m L := by
  obtain ⟨V, h⟩ := h
  refine ⟨V, ho.at (by omega) h.blk, fun j hj => ?_, h.ap⟩
  obtain ⟨h1, h2⟩ := h.row j hj
  refine ⟨h1, ?_⟩
  rcases h2 with h2 | ⟨g, cap, cur, hv, hB, hg, r⟩
  · exact .inl h2
  · exact .inr ⟨g, cap, cur, hv, hB, ho.at (by omega) hg, r⟩
theorem RQ.far {w w' : World} {b m : Nat} {L : Rows} (h : RQ w b L) (hf : Far m w w') (hbm : b < m) : RQ w' b L := by
  obtain ⟨s, h1, h2⟩ := h
  exact ⟨s, (hf.1.block b hbm).trans h1, h2⟩
/-- The queues and the reference's lie there, made since. -/
structure S4 (w0 : World) (b m : Nat) (L : Rows) (w : World) : Prop where
  bl : Bl w0 w
  hb : w0.heap.size ≤ b
  bm : b < m
  rq : RQ w b L
  rs : RS w m L
theorem S4.grow {w0 w w' : World} {b m : Nat} {L : Rows} (h : S4 w0 b m L w) (hg : Grow w w') : S4 w0 b m L w' := ⟨h.bl.below hg, h.hb, h.bm, h.rq.below hg, h.rs.grow hg⟩
theorem new_ref {w0 w : World} {b : Nat} (hb : w0.heap.size ≤ b) (hbl : Bl w0 w) (hq : RQ w b r0) : S4 w0 b w.heap.size r0 (w.alloc (.cells (refCells fun _ => .slice none 0 0) 42)) := by
  refine ⟨hbl.below (Grow.alloc w _), hb, hq.lt, hq.below (Grow.alloc w _), fun _ => .slice none 0 0, heapAt_alloc_new w _, fun j hj => ?_, fun i j _ _ _ g hg => ?_⟩
  · have : r0 j = [] := by unfold r0; rfl
    rw [this]
    exact World.ownsRow_nil _ _ _ _
  · simp [Value.ownBlock] at hg
/-- What stands while the two calls of a round come up in whatever order. -/
def FP (w0 : World) (b m o : Nat) (c : Obj) (L L' : Rows) (i j : Nat) (s : Nat → Bool) (w : World) : Prop :=
  Bl w0 w ∧ w.heap[o]? = some c ∧ RQ w b (if s i then L' else L) ∧ RS w m (if s j then L' else L)
section
variable {w0 w w' : World} {b m o : Nat} {c : Obj} {L L' : Rows} {i j n : Nat} {s : Nat → Bool}
theorem FP.first (i j : Nat) (h : Bl w0 w) (ho : w.heap[o]? = some c) (hq : RQ w b L) (hr : RS w m L) : FP w0 b m o c L L' i j (fun _ => false) w := ⟨h, ho, hq, hr⟩
theorem fp_skip (h : FP w0 b m o c L L' i j s w) (hi : (i == n) = false) (hj : (j == n) = false) : FP w0 b m o c L L' i j (fun k => k == n || s k) w := by
  obtain ⟨h1, h2, h3, h4⟩ := h
  refine ⟨h1, h2, ?_, ?_⟩
  · simpa [hi] using h3
  · simpa [hj] using h4
theorem FP.q (h : FP w0 b m o c L L' i j s w) (hs : s i = false) : RQ w b L := by have := h.2.2.1; rw [hs] at this; simpa using this
theorem FP.r (h : FP w0 b m o c L L' i j s w) (hs : s j = false) : RS w m L := by have := h.2.2.2; rw [hs] at this; simpa using this
theorem FP.onQ (h : FP w0 b m o c L L' i j s w) (hs : s i = false) (hj : (j == i) = false) (hb : w0.heap.size ≤ b) (hob : o ≠ b) (hbm : b < m) (hq : RQ w' b L') (ho : Only b w w') : FP w0 b m o c L L' i j (fun k => k == i || s k) w' := by
  obtain ⟨h1, h2, h3, h4⟩ := h
  refine ⟨⟨h1.1, h1.2.trans (ho.below hb h1.2.size)⟩, ho.at hob h2, ?_, ?_⟩
  · simpa using hq
  · simpa [hj] using h4.only ho hbm
theorem FP.onR {c0 c1 c2 : Value} (h : FP w0 b m o (.cells #[c0, c1, c2] 44) L L' i j s w) (hs : s j = false) (hi : (i == j) = false) (hm : w0.heap.size ≤ m) (hom : o ≠ m) (hbm : b < m) (hr : RS w' m L') (hf : Far m w w') : FP w0 b m o (.cells #[c0, c1, c2] 44) L L' i j (fun k => k == j || s k) w' := by
  obtain ⟨h1, h2, h3, h4⟩ := h
  refine ⟨⟨h1.1, h1.2.trans (hf.1.mono hm)⟩, hf.2 o _ hom h2 (fun cs f e => by injection e with e1 e2; exact absurd e2 (by decide)), ?_, ?_⟩
  · simpa [hi] using h3.far hf hbm
  · simpa using hr
theorem FP.last (h : FP w0 b m o c L L' i j s w) (hi : s i = true) (hj : s j = true) (hb : w0.heap.size ≤ b) (hbm : b < m) : S4 w0 b m L' w := by
  obtain ⟨h1, h2, h3, h4⟩ := h
  rw [hi] at h3
  rw [hj] at h4
  exact ⟨h1, hb, hbm, by simpa using h3, by simpa using h4⟩
end
theorem plays_long (A : Option Addr) (n cap : Nat) (w : World) (hT : TabAt w) (hn : 400 < (n : Int)) : Calls Tryd.prog 4 #[.slice A n cap] w fun e w' => e = .returned (.bool true) ∧ Bl w w' := by
  have h := Bl.refl hT
  go_enter Tryd.func4, Tryd.ntmps4
  go_wp2_with fail
  refine (awake_bl _ h).mono ?_
  rintro e w2 ⟨rfl, h2⟩
  go_wp2_with fail
  refine (awake_bl _ h2).mono ?_
  rintro e w3 ⟨rfl, h3⟩
  go_wp2
  go_ret
  exact ⟨rfl, h3⟩
attribute [local simp] RelKnown Is
set_option maxHeartbeats 16000000 in
theorem plays_walk (A : Option Addr) (n cap : Nat) (K T V : Nat → Int) (w : World) (hT : TabAt w) (hn : (n : Int) ≤ 400) (hcap : (n : Int) ≤ cap) (hM : ScriptAt w A n K T V) : Calls Tryd.prog 4 #[.slice A n cap] w fun e w' => e = .returned (.bool true) ∧ Bl w w' := by
  have h := Bl.refl hT
  have HM := Lib.hid hM; clear hM
  go_enter Tryd.func4, Tryd.ntmps4
  go_wp2_with fail
  refine (awake_bl _ h).mono ?_
  rintro e w2 ⟨rfl, h2⟩
  clear h
  go_wp2_with fail
  rw [show Sem.run Tryd.prog (zeroValue 29) w2 = .ok (.agg (qCells zeroS)) w2 from zero29 w2]
  have h3 := new_st w2 h2
  clear h2
  go_wp2_with fail
  have hsz : (w2.alloc (.cells (qCells zeroS) 29)).heap.size = w2.heap.size + 1 := by simp
  generalize w2.alloc (.cells (qCells zeroS) 29) = w3 at h3 hsz ⊢
  generalize w2.heap.size = b at h3 hsz ⊢
  have h5 := new_ref h3.2.1 h3.1 h3.2.2
  clear h3
  rw [refCells_nil, hsz] at h5
  clear hsz
  generalize w3.alloc _ = w4 at h5 ⊢
  generalize b + 1 = m at h5 ⊢
  have H5 := Lib.hid h5; clear h5
  go_loopw [21] (fun i wr => ∃ k : Nat, k ≤ n ∧ i = .int .i64 k ∧ ∃ L, S4 w b m L wr) (fun i _ => n - (intOf i).toNat)
  case atStart => exact ⟨0, by omega, rfl, r0, H5.out⟩
  case round =>
    obtain ⟨k, hk, rfl, L, hs⟩ := hrel
    have HS := Lib.hid hs; clear hs
    by_cases hlt : k < n
    · obtain ⟨a, hA, hm⟩ := (HM.out.grow HS.out.bl.2) (by omega)
      obtain ⟨m0, m1, m2⟩ := hm k hlt
      rw [hA]
      clear hm hA
      generalize K k = kk at *
      generalize T k = tt at *
      generalize V k = vv at *
      have k0 : (0 : Int) ≤ (k : Int) := by omega
      have kn : (k : Int) < (n : Int) := by omega
      have hgA := heapAt_alloc_new wr (.cells #[.int .i64 kk, .int .i64 tt, .int .i64 vv] 44)
      have hsA := HS.out.grow (Grow.alloc wr (.cells #[.int .i64 kk, .int .i64 tt, .int .i64 vv] 44))
      have HGA := Lib.hid hgA; clear hgA
      have HSA := Lib.hid hsA; clear hsA
      obtain ⟨qs, hqa, hrp⟩ := HS.out.rq
      have HRP := Lib.hid hrp; clear hqa hrp
      have HBW := Lib.hid HS.out.hb
      have HBM := Lib.hid HS.out.bm
      have HMW := Lib.hid (show w.heap.size ≤ m from Nat.le_trans HS.out.hb (Nat.le_of_lt HS.out.bm))
      have HOB := Lib.hid (show wr.heap.size ≠ b from by have := HS.out.rq.lt; omega)
      have HOM := Lib.hid (show wr.heap.size ≠ m from by have := HS.out.rs.lt; omega)
      by_cases h1 : kk = 1
      · have hkk := h1
        rw [hkk] at m0 HGA HSA
        by_cases hok : putOk L tt vv
        · have HQ1 := Lib.hid fun (w1 : World) (h1 : RQ w1 b L) => q1_any w1 b tt vv L h1
          have HM1 := Lib.hid fun (w1 : World) (h1 : RS w1 m L) => m1_any w1 m tt vv L qs HRP.out h1
          simp only [if_pos hok] at HQ1
          simp only [decide_eq_true hok] at HM1
          clear hok
          go_wp2_with fail
          generalize wr.alloc (.cells #[.int .i64 1, .int .i64 tt, .int .i64 vv] 44) = wA at HGA HSA ⊢
          refine (HQ1.out wA HSA.out.rq).mono ?_
          rintro e w5 ⟨rfl, hq5, ho5⟩
          have hgo := ho5.at HOB.out HGA.out
          have hbl5 : Bl w w5 := ⟨HSA.out.bl.1, HSA.out.bl.2.trans (ho5.below HBW.out HSA.out.bl.2.size)⟩
          have hrs5 := HSA.out.rs.only ho5 HBM.out
          have HX5 := Lib.hid (And.intro hbl5 (And.intro hq5 hrs5))
          have HGO := Lib.hid hgo
          have o0 := cell_block hgo 0
          have o1 := cell_block hgo 1
          have o2 := cell_block hgo 2
          simp at o0 o1 o2
          clear hq5 ho5 hgo hbl5 hrs5
          go_wp2_with fail
          refine (HM1.out w5 HX5.out.2.2).mono ?_
          rintro e w6 ⟨rfl, hr6, hf6⟩
          have hgo2 := hf6.2 _ _ HOM.out HGO.out (fun cs f e => by injection e with e1 e2; exact absurd e2 (by decide))
          have H6 := Lib.hid (show S4 w b m _ w6 from ⟨⟨HX5.out.1.1, HX5.out.1.2.trans (hf6.1.mono HMW.out)⟩, HBW.out, HBM.out, HX5.out.2.1.far hf6 HBM.out, hr6⟩)
          clear o0 o1 o2 hr6 hf6
          have hgo := hgo2
          have o0 := cell_block hgo 0
          have o1 := cell_block hgo 1
          have o2 := cell_block hgo 2
          simp at o0 o1 o2
          clear hgo hgo2
          go_wp2_with fail
          obtain ⟨qs2, hqa2, hrp2⟩ := H6.out.rq
          refine (alike_any _ b m _ qs2 tt H6.out.bl.tab hrp2 H6.out.rq H6.out.rs).mono ?_
          rintro e w7 ⟨rfl, hg7⟩
          have H7 := Lib.hid (H6.out.grow hg7)
          clear hg7 hqa2 hrp2
          go_wp2_with fail
          go_roundw
          case rel => exact ⟨k + 1, by omega, by go_num, _, H7.out⟩
          case measure => simp [intOf]; omega
        · have HQ1 := Lib.hid fun (w1 : World) (h1 : RQ w1 b L) => q1_any w1 b tt vv L h1
          have HM1 := Lib.hid fun (w1 : World) (h1 : RS w1 m L) => m1_any w1 m tt vv L qs HRP.out h1
          simp only [if_neg hok] at HQ1
          simp only [decide_eq_false hok] at HM1
          clear hok
          go_wp2_with fail
          generalize wr.alloc (.cells #[.int .i64 1, .int .i64 tt, .int .i64 vv] 44) = wA at HGA HSA ⊢
          refine (HQ1.out wA HSA.out.rq).mono ?_
          rintro e w5 ⟨rfl, hq5, ho5⟩
          have hgo := ho5.at HOB.out HGA.out
          have hbl5 : Bl w w5 := ⟨HSA.out.bl.1, HSA.out.bl.2.trans (ho5.below HBW.out HSA.out.bl.2.size)⟩
          have hrs5 := HSA.out.rs.only ho5 HBM.out
          have HX5 := Lib.hid (And.intro hbl5 (And.intro hq5 hrs5))
          have HGO := Lib.hid hgo
          have o0 := cell_block hgo 0
          have o1 := cell_block hgo 1
          have o2 := cell_block hgo 2
          simp at o0 o1 o2
          clear hq5 ho5 hgo hbl5 hrs5
          go_wp2_with fail
          refine (HM1.out w5 HX5.out.2.2).mono ?_
          rintro e w6 ⟨rfl, hr6, hf6⟩
          have hgo2 := hf6.2 _ _ HOM.out HGO.out (fun cs f e => by injection e with e1 e2; exact absurd e2 (by decide))
          have H6 := Lib.hid (show S4 w b m _ w6 from ⟨⟨HX5.out.1.1, HX5.out.1.2.trans (hf6.1.mono HMW.out)⟩, HBW.out, HBM.out, HX5.out.2.1.far hf6 HBM.out, hr6⟩)
          clear o0 o1 o2 hr6 hf6
          have hgo := hgo2
          have o0 := cell_block hgo 0
          have o1 := cell_block hgo 1
          have o2 := cell_block hgo 2
          simp at o0 o1 o2
          clear hgo hgo2
          go_wp2_with fail
          obtain ⟨qs2, hqa2, hrp2⟩ := H6.out.rq
          refine (alike_any _ b m _ qs2 tt H6.out.bl.tab hrp2 H6.out.rq H6.out.rs).mono ?_
          rintro e w7 ⟨rfl, hg7⟩
          have H7 := Lib.hid (H6.out.grow hg7)
          clear hg7 hqa2 hrp2
          go_wp2_with fail
          go_roundw
          case rel => exact ⟨k + 1, by omega, by go_num, _, H7.out⟩
          case measure => simp [intOf]; omega
      by_cases h2 : kk = 2
      · have hkk := h2
        rw [hkk] at m0 HGA HSA
        go_wp2_with fail
        have HGA2 := HGA
        refine wp_region_relL _ (fun _ _ => True) (FP w b m wr.heap.size (.cells #[.int .i64 2, .int .i64 tt, .int .i64 vv] 44) L (doR L 2 tt vv) 2 6) [([(6, none)], none), ([(54, some 0)], none), ([(3, none), (55, some 0)], none), ([(4, none)], none), ([(6, none)], none), ([(58, some 0)], none), ([(57, some 2), (59, some 0)], none), ([(56, some 4), (60, some 0)], none)] (by kernel_rfl) (by kernel_rfl) (FP.first _ _ (Bl.drewN HSA.out.bl 1) HGA.out HSA.out.rq (HSA.out.rs.grow (Grow.drewN _ 1))) ?_
        (refine relL_pure ?_; apply Exists.intro; refine ⟨fun sR aR wQ hun hF hk => ?_, ?_⟩; focus (refine relL_none fun K hK => ?_; (try simp at hk); go_simp; exact hK _ _ trivial (fp_skip hF (by rfl) (by rfl)) rfl))
        (refine relL_pure ?_; apply Exists.intro; refine ⟨fun sR aR wQ hun hF hk => ?_, ?_⟩; focus (refine relL_none fun K hK => ?_; (try simp at hk); have hgo := hF.2.1; have o0 := cell_block hgo 0; have o1 := cell_block hgo 1; have o2 := cell_block hgo 2; simp at o0 o1 o2; go_simp; exact hK _ _ trivial (fp_skip hF (by rfl) (by rfl)) rfl))
        (refine relL_pure ?_; apply Exists.intro; refine ⟨fun sR aR wQ hun hF hk => ?_, ?_⟩; focus (refine relL_none fun K hK => ?_; (try simp at hk); go_simp; refine (q2_any wQ b tt vv L (FP.q hF hun)).mono ?_; rintro e w' ⟨rfl, hq, ho⟩; exact hK _ _ trivial (FP.onQ hF hun (by rfl) HBW.out HOB.out HBM.out hq ho) rfl))
        (refine relL_pure ?_; apply Exists.intro; refine ⟨fun sR aR wQ hun hF hk => ?_, ?_⟩; focus (refine relL_none fun K hK => ?_; (try simp at hk); go_simp; exact hK _ _ trivial (fp_skip hF (by rfl) (by rfl)) rfl))
        (refine relL_pure ?_; apply Exists.intro; refine ⟨fun sR aR wQ hun hF hk => ?_, ?_⟩; focus (refine relL_none fun K hK => ?_; (try simp at hk); go_simp; exact hK _ _ trivial (fp_skip hF (by rfl) (by rfl)) rfl))
        (refine relL_pure ?_; apply Exists.intro; refine ⟨fun sR aR wQ hun hF hk => ?_, ?_⟩; focus (refine relL_none fun K hK => ?_; (try simp at hk); have hgo := hF.2.1; have o0 := cell_block hgo 0; have o1 := cell_block hgo 1; have o2 := cell_block hgo 2; simp at o0 o1 o2; go_simp; exact hK _ _ trivial (fp_skip hF (by rfl) (by rfl)) rfl))
        (refine relL_pure ?_; apply Exists.intro; refine ⟨fun sR aR wQ hun hF hk => ?_, ?_⟩; focus (refine relL_none fun K hK => ?_; (try simp at hk); go_simp; refine (m2_any wQ m tt vv L qs HRP.out (FP.r hF hun)).mono ?_; rintro e w' ⟨rfl, hr, hf⟩; exact hK _ _ trivial (FP.onR hF hun (by rfl) HMW.out HOM.out HBM.out hr hf) rfl))
        (refine relL_pure ?_; apply Exists.intro; refine ⟨fun sR aR wQ hun hF hk => ?_, ?_⟩; focus (refine relL_none fun K hK => ?_; (try simp at hk); go_simp; exact hK _ _ trivial (fp_skip hF (by rfl) (by rfl)) rfl))
        refine relL_done fun sR wR hs hF => ?_
        repeat (first | (refine fun v hv => ?_; obtain rfl : v = _ := hv) | (refine fun v hv => ?_))
        simp only [Act.put, List.setIfInBounds_toArray, List.set_cons_zero, List.set_cons_succ]
        refine rel_nil ?_
        have H6 := Lib.hid (FP.last hF (hs 2 (by decide)) (hs 6 (by decide)) HSA.out.hb HSA.out.bm)
        have hgo := hF.2.1
        clear hs hF
        have o0 := cell_block hgo 0
        have o1 := cell_block hgo 1
        have o2 := cell_block hgo 2
        simp at o0 o1 o2
        clear hgo
        have hbb : ∀ r : Bool, (r != r) = false := fun r => by cases r <;> rfl
        go_wp2_with fail
        obtain ⟨qs2, hqa2, hrp2⟩ := H6.out.rq
        refine (alike_any _ b m _ qs2 tt H6.out.bl.tab hrp2 H6.out.rq H6.out.rs).mono ?_
        rintro e w7 ⟨rfl, hg7⟩
        have H7 := Lib.hid (H6.out.grow hg7)
        clear hg7 hqa2 hrp2
        go_wp2_with fail
        go_roundw
        case rel => exact ⟨k + 1, by omega, by go_num, _, H7.out⟩
        case measure => simp [intOf]; omega
      by_cases h3 : kk = 3
      · have hkk := h3
        rw [hkk] at m0 HGA HSA
        go_wp2_with fail
        have HGA2 := HGA
        refine wp_region_relL _ (fun _ _ => True) (FP w b m wr.heap.size (.cells #[.int .i64 3, .int .i64 tt, .int .i64 vv] 44) L (doR L 3 tt vv) 2 6) [([(6, none)], none), ([(64, some 0)], none), ([(3, none), (65, some 0)], none), ([(4, none)], none), ([(6, none)], none), ([(68, some 0)], none), ([(67, some 2), (69, some 0)], none), ([(66, some 4), (70, some 0)], none)] (by kernel_rfl) (by kernel_rfl) (FP.first _ _ (Bl.drewN HSA.out.bl 1) HGA.out HSA.out.rq (HSA.out.rs.grow (Grow.drewN _ 1))) ?_
        (refine relL_pure ?_; apply Exists.intro; refine ⟨fun sR aR wQ hun hF hk => ?_, ?_⟩; focus (refine relL_none fun K hK => ?_; (try simp at hk); go_simp; exact hK _ _ trivial (fp_skip hF (by rfl) (by rfl)) rfl))
        (refine relL_pure ?_; apply Exists.intro; refine ⟨fun sR aR wQ hun hF hk => ?_, ?_⟩; focus (refine relL_none fun K hK => ?_; (try simp at hk); have hgo := hF.2.1; have o0 := cell_block hgo 0; have o1 := cell_block hgo 1; have o2 := cell_block hgo 2; simp at o0 o1 o2; go_simp; exact hK _ _ trivial (fp_skip hF (by rfl) (by rfl)) rfl))
        (refine relL_pure ?_; apply Exists.intro; refine ⟨fun sR aR wQ hun hF hk => ?_, ?_⟩; focus (refine relL_none fun K hK => ?_; (try simp at hk); go_simp; refine (q3_any wQ b tt vv L (FP.q hF hun)).mono ?_; rintro e w' ⟨rfl, hq, ho⟩; exact hK _ _ trivial (FP.onQ hF hun (by rfl) HBW.out HOB.out HBM.out hq ho) rfl))
        (refine relL_pure ?_; apply Exists.intro; refine ⟨fun sR aR wQ hun hF hk => ?_, ?_⟩; focus (refine relL_none fun K hK => ?_; (try simp at hk); go_simp; exact hK _ _ trivial (fp_skip hF (by rfl) (by rfl)) rfl))
        (refine relL_pure ?_; apply Exists.intro; refine ⟨fun sR aR wQ hun hF hk => ?_, ?_⟩; focus (refine relL_none fun K hK => ?_; (try simp at hk); go_simp; exact hK _ _ trivial (fp_skip hF (by rfl) (by rfl)) rfl))
        (refine relL_pure ?_; apply Exists.intro; refine ⟨fun sR aR wQ hun hF hk => ?_, ?_⟩; focus (refine relL_none fun K hK => ?_; (try simp at hk); have hgo := hF.2.1; have o0 := cell_block hgo 0; have o1 := cell_block hgo 1; have o2 := cell_block hgo 2; simp at o0 o1 o2; go_simp; exact hK _ _ trivial (fp_skip hF (by rfl) (by rfl)) rfl))
        (refine relL_pure ?_; apply Exists.intro; refine ⟨fun sR aR wQ hun hF hk => ?_, ?_⟩; focus (refine relL_none fun K hK => ?_; (try simp at hk); go_simp; refine (m3_any wQ m tt vv L qs HRP.out (FP.r hF hun)).mono ?_; rintro e w' ⟨rfl, hr, hf⟩; exact hK _ _ trivial (FP.onR hF hun (by rfl) HMW.out HOM.out HBM.out hr hf) rfl))
        (refine relL_pure ?_; apply Exists.intro; refine ⟨fun sR aR wQ hun hF hk => ?_, ?_⟩; focus (refine relL_none fun K hK => ?_; (try simp at hk); go_simp; exact hK _ _ trivial (fp_skip hF (by rfl) (by rfl)) rfl))
        refine relL_done fun sR wR hs hF => ?_
        repeat (first | (refine fun v hv => ?_; obtain rfl : v = _ := hv) | (refine fun v hv => ?_))
        simp only [Act.put, List.setIfInBounds_toArray, List.set_cons_zero, List.set_cons_succ]
        refine rel_nil ?_
        have H6 := Lib.hid (FP.last hF (hs 2 (by decide)) (hs 6 (by decide)) HSA.out.hb HSA.out.bm)
        have hgo := hF.2.1
        clear hs hF
        have o0 := cell_block hgo 0
        have o1 := cell_block hgo 1
        have o2 := cell_block hgo 2
        simp at o0 o1 o2
        clear hgo
        have hbb : ∀ r : Bool, (r != r) = false := fun r => by cases r <;> rfl
        go_wp2_with fail
        obtain ⟨qs2, hqa2, hrp2⟩ := H6.out.rq
        refine (alike_any _ b m _ qs2 tt H6.out.bl.tab hrp2 H6.out.rq H6.out.rs).mono ?_
        rintro e w7 ⟨rfl, hg7⟩
        have H7 := Lib.hid (H6.out.grow hg7)
        clear hg7 hqa2 hrp2
        go_wp2_with fail
        go_roundw
        case rel => exact ⟨k + 1, by omega, by go_num, _, H7.out⟩
        case measure => simp [intOf]; omega
      by_cases h4 : kk = 4
      · have hkk := h4
        rw [hkk] at m0 HGA HSA
        go_wp2_with fail
        have HGA2 := HGA
        refine wp_region_relL _ (fun _ _ => True) (FP w b m wr.heap.size (.cells #[.int .i64 4, .int .i64 tt, .int .i64 vv] 44) L (doR L 4 tt vv) 4 10) [([(6, none)], none), ([(74, some 0)], none), ([(6, none)], none), ([(76, some 0)], none), ([(3, none), (75, some 2), (77, some 0)], none), ([(4, none)], none), ([(6, none)], none), ([(80, some 0)], none), ([(6, none)], none), ([(82, some 0)], none), ([(79, some 4), (81, some 2), (83, some 0)], none), ([(78, some 6), (84, some 0)], none)] (by kernel_rfl) (by kernel_rfl) (FP.first _ _ (Bl.drewN HSA.out.bl 1) HGA.out HSA.out.rq (HSA.out.rs.grow (Grow.drewN _ 1))) ?_
        (refine relL_pure ?_; apply Exists.intro; refine ⟨fun sR aR wQ hun hF hk => ?_, ?_⟩; focus (refine relL_none fun K hK => ?_; (try simp at hk); go_simp; exact hK _ _ trivial (fp_skip hF (by rfl) (by rfl)) rfl))
        (refine relL_pure ?_; apply Exists.intro; refine ⟨fun sR aR wQ hun hF hk => ?_, ?_⟩; focus (refine relL_none fun K hK => ?_; (try simp at hk); have hgo := hF.2.1; have o0 := cell_block hgo 0; have o1 := cell_block hgo 1; have o2 := cell_block hgo 2; simp at o0 o1 o2; go_simp; exact hK _ _ trivial (fp_skip hF (by rfl) (by rfl)) rfl))
        (refine relL_pure ?_; apply Exists.intro; refine ⟨fun sR aR wQ hun hF hk => ?_, ?_⟩; focus (refine relL_none fun K hK => ?_; (try simp at hk); go_simp; exact hK _ _ trivial (fp_skip hF (by rfl) (by rfl)) rfl))
        (refine relL_pure ?_; apply Exists.intro; refine ⟨fun sR aR wQ hun hF hk => ?_, ?_⟩; focus (refine relL_none fun K hK => ?_; (try simp at hk); have hgo := hF.2.1; have o0 := cell_block hgo 0; have o1 := cell_block hgo 1; have o2 := cell_block hgo 2; simp at o0 o1 o2; go_simp; exact hK _ _ trivial (fp_skip hF (by rfl) (by rfl)) rfl))
        (refine relL_pure ?_; apply Exists.intro; refine ⟨fun sR aR wQ hun hF hk => ?_, ?_⟩; focus (refine relL_none fun K hK => ?_; (try simp at hk); go_simp; refine (q4_any wQ b tt vv L (FP.q hF hun)).mono ?_; rintro e w' ⟨rfl, hq, ho⟩; exact hK _ _ trivial (FP.onQ hF hun (by rfl) HBW.out HOB.out HBM.out hq ho) rfl))
        (refine relL_pure ?_; apply Exists.intro; refine ⟨fun sR aR wQ hun hF hk => ?_, ?_⟩; focus (refine relL_none fun K hK => ?_; (try simp at hk); go_simp; exact hK _ _ trivial (fp_skip hF (by rfl) (by rfl)) rfl))
        (refine relL_pure ?_; apply Exists.intro; refine ⟨fun sR aR wQ hun hF hk => ?_, ?_⟩; focus (refine relL_none fun K hK => ?_; (try simp at hk); go_simp; exact hK _ _ trivial (fp_skip hF (by rfl) (by rfl)) rfl))
        (refine relL_pure ?_; apply Exists.intro; refine ⟨fun sR aR wQ hun hF hk => ?_, ?_⟩; focus (refine relL_none fun K hK => ?_; (try simp at hk); have hgo := hF.2.1; have o0 := cell_block hgo 0; have o1 := cell_block hgo 1; have o2 := cell_block hgo 2; simp at o0 o1 o2; go_simp; exact hK _ _ trivial (fp_skip hF (by rfl) (by rfl)) rfl))
        (refine relL_pure ?_; apply Exists.intro; refine ⟨fun sR aR wQ hun hF hk => ?_, ?_⟩; focus (refine relL_none fun K hK => ?_; (try simp at hk); go_simp; exact hK _ _ trivial (fp_skip hF (by rfl) (by rfl)) rfl))
        (refine relL_pure ?_; apply Exists.intro; refine ⟨fun sR aR wQ hun hF hk => ?_, ?_⟩; focus (refine relL_none fun K hK => ?_; (try simp at hk); have hgo := hF.2.1; have o0 := cell_block hgo 0; have o1 := cell_block hgo 1; have o2 := cell_block hgo 2; simp at o0 o1 o2; go_simp; exact hK _ _ trivial (fp_skip hF (by rfl) (by rfl)) rfl))
        (refine relL_pure ?_; apply Exists.intro; refine ⟨fun sR aR wQ hun hF hk => ?_, ?_⟩; focus (refine relL_none fun K hK => ?_; (try simp at hk); go_simp; refine (m4_any wQ m tt vv L qs HRP.out (FP.r hF hun)).mono ?_; rintro e w' ⟨rfl, hr, hf⟩; exact hK _ _ trivial (FP.onR hF hun (by rfl) HMW.out HOM.out HBM.out hr hf) rfl))
        (refine relL_pure ?_; apply Exists.intro; refine ⟨fun sR aR wQ hun hF hk => ?_, ?_⟩; focus (refine relL_none fun K hK => ?_; (try simp at hk); go_simp; exact hK _ _ trivial (fp_skip hF (by rfl) (by rfl)) rfl))
        refine relL_done fun sR wR hs hF => ?_
        repeat (first | (refine fun v hv => ?_; obtain rfl : v = _ := hv) | (refine fun v hv => ?_))
        simp only [Act.put, List.setIfInBounds_toArray, List.set_cons_zero, List.set_cons_succ]
        refine rel_nil ?_
        have H6 := Lib.hid (FP.last hF (hs 4 (by decide)) (hs 10 (by decide)) HSA.out.hb HSA.out.bm)
        have hgo := hF.2.1
        clear hs hF
        have o0 := cell_block hgo 0
        have o1 := cell_block hgo 1
        have o2 := cell_block hgo 2
        simp at o0 o1 o2
        clear hgo
        have hbb : ∀ r : Bool, (r != r) = false := fun r => by cases r <;> rfl
        go_wp2_with fail
        obtain ⟨qs2, hqa2, hrp2⟩ := H6.out.rq
        refine (alike_any _ b m _ qs2 tt H6.out.bl.tab hrp2 H6.out.rq H6.out.rs).mono ?_
        rintro e w7 ⟨rfl, hg7⟩
        have H7 := Lib.hid (H6.out.grow hg7)
        clear hg7 hqa2 hrp2
        go_wp2_with fail
        go_roundw
        case rel => exact ⟨k + 1, by omega, by go_num, _, H7.out⟩
        case measure => simp [intOf]; omega
      have b1 : (kk == 1) = false := by simpa using h1
      have b2 : (kk == 2) = false := by simpa using h2
      have b3 : (kk == 3) = false := by simpa using h3
      have b4 : (kk == 4) = false := by simpa using h4
      have H6 := HSA
      go_wp2_with fail
      obtain ⟨qs2, hqa2, hrp2⟩ := H6.out.rq
      refine (alike_any _ b m _ qs2 tt H6.out.bl.tab hrp2 H6.out.rq H6.out.rs).mono ?_
      rintro e w7 ⟨rfl, hg7⟩
      have H7 := Lib.hid (H6.out.grow hg7)
      clear hg7 hqa2 hrp2
      go_wp2_with fail
      go_roundw
      case rel => exact ⟨k + 1, by omega, by go_num, _, H7.out⟩
      case measure => simp [intOf]; omega
    · have kn : ¬ (k : Int) < (n : Int) := by omega
      go_wp2
      go_ret
      exact ⟨rfl, HS.out.bl⟩
end Go.Proofs.YtdfadggdegojnaaDoor
