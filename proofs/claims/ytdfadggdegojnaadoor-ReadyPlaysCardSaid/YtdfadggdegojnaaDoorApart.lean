/- The walk of ReadyApart. -/
import Derived.Test.YtdfadggdegojnaaDoorTurns
import Derived.Test.YtdfadggdegojnaaDoorPlainD
import Derived.Test.YtdfadggdegojnaaDoorScript
namespace Go.Proofs.YtdfadggdegojnaaDoor
open Go.RowKit
set_option linter.unusedVariables false
attribute [local irreducible] ctz qCells lvl pushR cutR firstR total inR hd putR turnR removeR moveR lead rowAt r0 doR
set_option maxRecDepth 100000
theorem do1_any (w : World) (b : Nat) (t l : Int) (L : Rows) (h : RQ w b L) : Calls Tryd.prog 9 #[.pointer (some ⟨b, 0, none⟩), .int .i64 t, .int .i64 l] w fun e w' => ∃ v : Int, e = .returned (.int .i64 v) ∧ RQ w' b (doR L 1 t l) ∧ Only b w w' := by
  have e1 : doR L 1 t l = putR L t l := by unfold doR; rw [if_pos rfl]
  rw [e1]
  by_cases hok : putOk L t l
  · exact (put_ok w b t l L hok h).mono fun _ _ ⟨he, hq, ho⟩ => ⟨0, he, hq, ho⟩
  · refine (put_no w b t l L hok h).mono ?_
    rintro e w' ⟨rfl, rfl⟩
    exact ⟨1, rfl, by unfold putR; rw [if_neg hok]; exact h, Only.refl _ _⟩
theorem do2_any (w : World) (b : Nat) (t l : Int) (L : Rows) (h : RQ w b L) : Calls Tryd.prog 12 #[.pointer (some ⟨b, 0, none⟩), .int .i64 t] w fun e w' => ∃ v : Bool, e = .returned (.bool v) ∧ RQ w' b (doR L 2 t l) ∧ Only b w w' := by
  have e1 : doR L 2 t l = removeR L t := by unfold doR; rw [if_neg (by decide), if_pos rfl]
  rw [e1]
  by_cases hok : inR L t
  · exact (remove_ok w b t L hok h).mono fun _ _ ⟨he, hq, ho⟩ => ⟨true, he, hq, ho⟩
  · refine (remove_no w b t L hok h).mono ?_
    rintro e w' ⟨rfl, rfl⟩
    exact ⟨false, rfl, by unfold removeR; rw [if_neg hok]; exact h, Only.refl _ _⟩
theorem do3_any (w : World) (b : Nat) (t l : Int) (L : Rows) (h : RQ w b L) : Calls Tryd.prog 15 #[.pointer (some ⟨b, 0, none⟩), .int .i64 t] w fun e w' => ∃ v : Bool, e = .returned (.bool v) ∧ RQ w' b (doR L 3 t l) ∧ Only b w w' := by
  have e1 : doR L 3 t l = turnR L t := by unfold doR; rw [if_neg (by decide), if_neg (by decide), if_pos rfl]
  rw [e1]
  by_cases hok : inR L t
  · exact (turn_ok w b t L hok h).mono fun _ _ ⟨he, hq, ho⟩ => ⟨true, he, hq, ho⟩
  · refine (turn_no w b t L hok h).mono ?_
    rintro e w' ⟨rfl, rfl⟩
    exact ⟨false, rfl, by unfold turnR; rw [if_neg hok]; exact h, Only.refl _ _⟩
theorem do4_any (w : World) (b : Nat) (t l : Int) (L : Rows) (h : RQ w b L) : Calls Tryd.prog 17 #[.pointer (some ⟨b, 0, none⟩), .int .i64 t, .int .i64 l] w fun e w' => ∃ v : Bool, e = .returned (.bool v) ∧ RQ w' b (doR L 4 t l) ∧ Only b w w' := by
  have e1 : doR L 4 t l = moveR L t l := by unfold doR; rw [if_neg (by decide), if_neg (by decide), if_neg (by decide), if_pos rfl]
  rw [e1]
  by_cases hok : moveOk L t l
  · exact (move_ok w b t l L hok h).mono fun _ _ ⟨he, hq, ho⟩ => ⟨true, he, hq, ho⟩
  · refine (move_no w b t l L hok h).mono ?_
    rintro e w' ⟨rfl, rfl⟩
    exact ⟨false, rfl, by unfold moveR; rw [if_neg hok]; exact h, Only.refl _ _⟩
/-- Two queues lie there, made since. -/
structure S2 (w0 : World) (p q : Nat) (P Q : Rows) (w : World) : Prop where
  bl : Bl w0 w
  hp : w0.heap.size ≤ p
  hq : w0.heap.size ≤ q
  pq : p ≠ q
  rp : RQ w p P
  rq : RQ w q Q
section
variable {w0 w w' : World} {p q : Nat} {P Q : Rows}
theorem S2.onP (h : S2 w0 p q P Q w) {P' : Rows} (hr : RQ w' p P') (ho : Only p w w') : S2 w0 p q P' Q w' :=
  ⟨⟨h.bl.1, h.bl.2.trans (ho.below h.hp h.bl.2.size)⟩, h.hp, h.hq, h.pq, hr, h.rq.only ho (fun e => h.pq e.symm)⟩
theorem S2.onQ (h : S2 w0 p q P Q w) {Q' : Rows} (hr : RQ w' q Q') (ho : Only q w w') : S2 w0 p q P Q' w' :=
  ⟨⟨h.bl.1, h.bl.2.trans (ho.below h.hq h.bl.2.size)⟩, h.hp, h.hq, h.pq, h.rp.only ho h.pq, hr⟩
theorem S2.grow (h : S2 w0 p q P Q w) (hg : Grow w w') : S2 w0 p q P Q w' := ⟨h.bl.below hg, h.hp, h.hq, h.pq, h.rp.below hg, h.rq.below hg⟩
theorem RQ.lt {b : Nat} {L : Rows} (h : RQ w b L) : b < w.heap.size := by obtain ⟨s, hq, _⟩ := h; exact heapAt_lt hq
end
theorem apart_long (A : Option Addr) (n cap : Nat) (l : Int) (w : World) (hT : TabAt w) (hn : 200 < (n : Int)) : Calls Tryd.prog 6 #[.slice A n cap, .int .i64 l] w fun e w' => e = .returned (.bool true) ∧ Bl w w' := by
  have h := Bl.refl hT
  go_enter Tryd.func6, Tryd.ntmps6
  go_wp2_with fail
  refine (awake_bl _ h).mono ?_
  rintro e w2 ⟨rfl, h2⟩
  go_wp2_with fail
  refine (awake_bl _ h2).mono ?_
  rintro e w3 ⟨rfl, h3⟩
  go_wp2
  go_ret
  exact ⟨rfl, h3⟩
set_option maxHeartbeats 2000000 in
theorem apart_walk (A : Option Addr) (n cap : Nat) (K T V : Nat → Int) (task : Int) (w : World) (hT : TabAt w) (hn : (n : Int) ≤ 200) (hcap : (n : Int) ≤ cap) (hM : ScriptAt w A n K T V) : Calls Tryd.prog 6 #[.slice A n cap, .int .i64 task] w fun e w' => e = .returned (.bool true) ∧ Bl w w' := by
  have h := Bl.refl hT
  have HM := Lib.hid hM; clear hM
  go_enter Tryd.func6, Tryd.ntmps6
  go_wp2_with fail
  refine (awake_bl _ h).mono ?_
  rintro e w2 ⟨rfl, h2⟩
  clear h
  go_wp2_with fail
  rw [show Sem.run Tryd.prog (zeroValue 29) w2 = .ok (.agg (qCells zeroS)) w2 from zero29 w2]
  have h3 := new_st w2 h2
  clear h2
  go_wp2_with fail
  generalize hw3 : w2.alloc (.cells (qCells zeroS) 29) = w3 at h3 ⊢
  generalize w2.heap.size = p at h3 ⊢
  clear hw3
  go_wp2_with fail
  rw [show Sem.run Tryd.prog (zeroValue 29) w3 = .ok (.agg (qCells zeroS)) w3 from zero29 w3]
  have h4 := new_st w3 h3.1
  have h5 : S2 w p w3.heap.size r0 r0 (w3.alloc (.cells (qCells zeroS) 29)) := ⟨h4.1, h3.2.1, h4.2.1, by have := h3.2.2.lt; omega, h3.2.2.below (Grow.alloc w3 _), h4.2.2⟩
  clear h3 h4
  go_wp2_with fail
  generalize w3.alloc (.cells (qCells zeroS) 29) = w4 at h5 ⊢
  generalize w3.heap.size = q at h5 ⊢
  have H5 := Lib.hid h5; clear h5
  go_loopw [20] (fun i wr => ∃ k : Nat, k ≤ n ∧ i = .int .i64 k ∧ ∃ P Q, S2 w p q P Q wr ∧ Shadow P Q task) (fun i _ => n - (intOf i).toNat)
  case atStart => exact ⟨0, by omega, rfl, r0, r0, H5.out, by unfold r0; exact shadow_zero task⟩
  case round =>
    obtain ⟨k, hk, rfl, P, Q, hs, hsh⟩ := hrel
    have HS := Lib.hid hs; clear hs
    have HSH := Lib.hid hsh; clear hsh
    by_cases hlt : k < n
    · obtain ⟨a, hA, hm⟩ := (HM.out.grow HS.out.bl.2) (by omega)
      obtain ⟨m0, m1, m2⟩ := hm k hlt
      rw [hA]
      clear hm hA
      generalize K k = kk at *
      generalize T k = tt at *
      generalize V k = vv at *
      have k0 : (0 : Int) ≤ (k : Int) := by omega
      have kn : (k : Int) < (n : Int) := by omega
      have hgA := heapAt_alloc_new wr (.cells #[.int .i64 kk, .int .i64 tt, .int .i64 vv] 44)
      have hsA := HS.out.grow (Grow.alloc wr (.cells #[.int .i64 kk, .int .i64 tt, .int .i64 vv] 44))
      have HGA := Lib.hid hgA; clear hgA
      have HSA := Lib.hid hsA; clear hsA
      have HPL := Lib.hid HS.out.rp.lt
      have HQL := Lib.hid HS.out.rq.lt
      by_cases h1 : kk = 1
      · have hkk := h1
        by_cases htt : tt = task
        · rw [hkk] at m0 HGA HSA
          rw [htt] at m1 HGA HSA
          go_wp2_with fail
          generalize wr.alloc (.cells #[.int .i64 1, .int .i64 task, .int .i64 vv] 44) = wA at HGA HSA ⊢
          refine (do1_any _ q task vv Q HSA.out.rq).mono ?_
          rintro e w5 ⟨v, rfl, hq5, ho5⟩
          have hgo := ho5.at (show wr.heap.size ≠ q from by have := HQL.out; omega) HGA.out
          have H5 := Lib.hid (HSA.out.onQ hq5 ho5)
          have HGO := Lib.hid hgo
          have o0 := cell_block hgo 0
          have o1 := cell_block hgo 1
          have o2 := cell_block hgo 2
          simp at o0 o1 o2
          clear hq5 ho5 hgo
          go_wp2_with fail
          have HSH5 := Lib.hid (shadow_do2 HSH.out 1 vv)
          go_roundw
          case rel => exact ⟨k + 1, by omega, by go_num, _, _, H5.out, HSH5.out⟩
          case measure => simp [intOf]; omega
        · rw [hkk] at m0 HGA HSA
          have hb : (tt == task) = false := by simpa using htt
          go_wp2_with fail
          generalize wr.alloc (.cells #[.int .i64 1, .int .i64 tt, .int .i64 vv] 44) = wA at HGA HSA ⊢
          refine (do1_any _ q tt vv Q HSA.out.rq).mono ?_
          rintro e w5 ⟨v, rfl, hq5, ho5⟩
          have hgo := ho5.at (show wr.heap.size ≠ q from by have := HQL.out; omega) HGA.out
          have H5 := Lib.hid (HSA.out.onQ hq5 ho5)
          have HGO := Lib.hid hgo
          have o0 := cell_block hgo 0
          have o1 := cell_block hgo 1
          have o2 := cell_block hgo 2
          simp at o0 o1 o2
          clear hq5 ho5 hgo
          go_wp2_with fail
          have HSH5 := Lib.hid (shadow_do HSH.out 1 tt vv htt)
          refine (do1_any _ p tt vv P H5.out.rp).mono ?_
          rintro e w6 ⟨v2, rfl, hq6, ho6⟩
          have H6 := Lib.hid (H5.out.onP hq6 ho6)
          clear hq6 ho6
          go_wp2_with fail
          go_roundw
          case rel => exact ⟨k + 1, by omega, by go_num, _, _, H6.out, HSH5.out⟩
          case measure => simp [intOf]; omega
      by_cases h2 : kk = 2
      · have hkk := h2
        by_cases htt : tt = task
        · rw [hkk] at m0 HGA HSA
          rw [htt] at m1 HGA HSA
          go_wp2_with fail
          generalize wr.alloc (.cells #[.int .i64 2, .int .i64 task, .int .i64 vv] 44) = wA at HGA HSA ⊢
          refine (do2_any _ q task vv Q HSA.out.rq).mono ?_
          rintro e w5 ⟨v, rfl, hq5, ho5⟩
          have hgo := ho5.at (show wr.heap.size ≠ q from by have := HQL.out; omega) HGA.out
          have H5 := Lib.hid (HSA.out.onQ hq5 ho5)
          have HGO := Lib.hid hgo
          have o0 := cell_block hgo 0
          have o1 := cell_block hgo 1
          have o2 := cell_block hgo 2
          simp at o0 o1 o2
          clear hq5 ho5 hgo
          go_wp2_with fail
          have HSH5 := Lib.hid (shadow_do2 HSH.out 2 vv)
          go_roundw
          case rel => exact ⟨k + 1, by omega, by go_num, _, _, H5.out, HSH5.out⟩
          case measure => simp [intOf]; omega
        · rw [hkk] at m0 HGA HSA
          have hb : (tt == task) = false := by simpa using htt
          go_wp2_with fail
          generalize wr.alloc (.cells #[.int .i64 2, .int .i64 tt, .int .i64 vv] 44) = wA at HGA HSA ⊢
          refine (do2_any _ q tt vv Q HSA.out.rq).mono ?_
          rintro e w5 ⟨v, rfl, hq5, ho5⟩
          have hgo := ho5.at (show wr.heap.size ≠ q from by have := HQL.out; omega) HGA.out
          have H5 := Lib.hid (HSA.out.onQ hq5 ho5)
          have HGO := Lib.hid hgo
          have o0 := cell_block hgo 0
          have o1 := cell_block hgo 1
          have o2 := cell_block hgo 2
          simp at o0 o1 o2
          clear hq5 ho5 hgo
          go_wp2_with fail
          have HSH5 := Lib.hid (shadow_do HSH.out 2 tt vv htt)
          refine (do2_any _ p tt vv P H5.out.rp).mono ?_
          rintro e w6 ⟨v2, rfl, hq6, ho6⟩
          have H6 := Lib.hid (H5.out.onP hq6 ho6)
          clear hq6 ho6
          go_wp2_with fail
          go_roundw
          case rel => exact ⟨k + 1, by omega, by go_num, _, _, H6.out, HSH5.out⟩
          case measure => simp [intOf]; omega
      by_cases h3 : kk = 3
      · have hkk := h3
        by_cases htt : tt = task
        · rw [hkk] at m0 HGA HSA
          rw [htt] at m1 HGA HSA
          go_wp2_with fail
          generalize wr.alloc (.cells #[.int .i64 3, .int .i64 task, .int .i64 vv] 44) = wA at HGA HSA ⊢
          refine (do3_any _ q task vv Q HSA.out.rq).mono ?_
          rintro e w5 ⟨v, rfl, hq5, ho5⟩
          have hgo := ho5.at (show wr.heap.size ≠ q from by have := HQL.out; omega) HGA.out
          have H5 := Lib.hid (HSA.out.onQ hq5 ho5)
          have HGO := Lib.hid hgo
          have o0 := cell_block hgo 0
          have o1 := cell_block hgo 1
          have o2 := cell_block hgo 2
          simp at o0 o1 o2
          clear hq5 ho5 hgo
          go_wp2_with fail
          have HSH5 := Lib.hid (shadow_do2 HSH.out 3 vv)
          go_roundw
          case rel => exact ⟨k + 1, by omega, by go_num, _, _, H5.out, HSH5.out⟩
          case measure => simp [intOf]; omega
        · rw [hkk] at m0 HGA HSA
          have hb : (tt == task) = false := by simpa using htt
          go_wp2_with fail
          generalize wr.alloc (.cells #[.int .i64 3, .int .i64 tt, .int .i64 vv] 44) = wA at HGA HSA ⊢
          refine (do3_any _ q tt vv Q HSA.out.rq).mono ?_
          rintro e w5 ⟨v, rfl, hq5, ho5⟩
          have hgo := ho5.at (show wr.heap.size ≠ q from by have := HQL.out; omega) HGA.out
          have H5 := Lib.hid (HSA.out.onQ hq5 ho5)
          have HGO := Lib.hid hgo
          have o0 := cell_block hgo 0
          have o1 := cell_block hgo 1
          have o2 := cell_block hgo 2
          simp at o0 o1 o2
          clear hq5 ho5 hgo
          go_wp2_with fail
          have HSH5 := Lib.hid (shadow_do HSH.out 3 tt vv htt)
          refine (do3_any _ p tt vv P H5.out.rp).mono ?_
          rintro e w6 ⟨v2, rfl, hq6, ho6⟩
          have H6 := Lib.hid (H5.out.onP hq6 ho6)
          clear hq6 ho6
          go_wp2_with fail
          go_roundw
          case rel => exact ⟨k + 1, by omega, by go_num, _, _, H6.out, HSH5.out⟩
          case measure => simp [intOf]; omega
      by_cases h4 : kk = 4
      · have hkk := h4
        by_cases htt : tt = task
        · rw [hkk] at m0 HGA HSA
          rw [htt] at m1 HGA HSA
          go_wp2_with fail
          generalize wr.alloc (.cells #[.int .i64 4, .int .i64 task, .int .i64 vv] 44) = wA at HGA HSA ⊢
          refine (do4_any _ q task vv Q HSA.out.rq).mono ?_
          rintro e w5 ⟨v, rfl, hq5, ho5⟩
          have hgo := ho5.at (show wr.heap.size ≠ q from by have := HQL.out; omega) HGA.out
          have H5 := Lib.hid (HSA.out.onQ hq5 ho5)
          have HGO := Lib.hid hgo
          have o0 := cell_block hgo 0
          have o1 := cell_block hgo 1
          have o2 := cell_block hgo 2
          simp at o0 o1 o2
          clear hq5 ho5 hgo
          go_wp2_with fail
          have HSH5 := Lib.hid (shadow_do2 HSH.out 4 vv)
          go_roundw
          case rel => exact ⟨k + 1, by omega, by go_num, _, _, H5.out, HSH5.out⟩
          case measure => simp [intOf]; omega
        · rw [hkk] at m0 HGA HSA
          have hb : (tt == task) = false := by simpa using htt
          go_wp2_with fail
          generalize wr.alloc (.cells #[.int .i64 4, .int .i64 tt, .int .i64 vv] 44) = wA at HGA HSA ⊢
          refine (do4_any _ q tt vv Q HSA.out.rq).mono ?_
          rintro e w5 ⟨v, rfl, hq5, ho5⟩
          have hgo := ho5.at (show wr.heap.size ≠ q from by have := HQL.out; omega) HGA.out
          have H5 := Lib.hid (HSA.out.onQ hq5 ho5)
          have HGO := Lib.hid hgo
          have o0 := cell_block hgo 0
          have o1 := cell_block hgo 1
          have o2 := cell_block hgo 2
          simp at o0 o1 o2
          clear hq5 ho5 hgo
          go_wp2_with fail
          have HSH5 := Lib.hid (shadow_do HSH.out 4 tt vv htt)
          refine (do4_any _ p tt vv P H5.out.rp).mono ?_
          rintro e w6 ⟨v2, rfl, hq6, ho6⟩
          have H6 := Lib.hid (H5.out.onP hq6 ho6)
          clear hq6 ho6
          go_wp2_with fail
          go_roundw
          case rel => exact ⟨k + 1, by omega, by go_num, _, _, H6.out, HSH5.out⟩
          case measure => simp [intOf]; omega
      by_cases htt : tt = task
      · rw [htt] at m1 HGA HSA
        have b1 : (kk == 1) = false := by simpa using h1
        have b2 : (kk == 2) = false := by simpa using h2
        have b3 : (kk == 3) = false := by simpa using h3
        have b4 : (kk == 4) = false := by simpa using h4
        go_wp2_with fail
        go_roundw
        case rel => exact ⟨k + 1, by omega, by go_num, P, Q, HSA.out, HSH.out⟩
        case measure => simp [intOf]; omega
      · have hb : (tt == task) = false := by simpa using htt
        have b1 : (kk == 1) = false := by simpa using h1
        have b2 : (kk == 2) = false := by simpa using h2
        have b3 : (kk == 3) = false := by simpa using h3
        have b4 : (kk == 4) = false := by simpa using h4
        go_wp2_with fail
        go_roundw
        case rel => exact ⟨k + 1, by omega, by go_num, P, Q, HSA.out, HSH.out⟩
        case measure => simp [intOf]; omega
    · have kn : ¬ (k : Int) < (n : Int) := by omega
      have e2 : doR Q 2 task 0 = removeR Q task := by unfold doR; rw [if_neg (by decide), if_pos rfl]
      have HE := Lib.hid e2; clear e2
      go_wp2_with fail
      refine (do2_any _ q task 0 Q HS.out.rq).mono ?_
      rintro e w5 ⟨v, rfl, hq5, ho5⟩
      rw [HE.out] at hq5
      have H5 := Lib.hid (HS.out.onQ hq5 ho5)
      have heq : ∀ j, j < 32 → removeR Q task j = P j := by
        obtain ⟨s, _, hp⟩ := HS.out.rq
        exact shadow_end hp HSH.out
      have HEQ := Lib.hid heq
      clear hq5 ho5 heq
      go_wp2_with fail
      go_loopw [83] (fun i wq => ∃ j : Nat, j ≤ 32 ∧ i = .int .i64 j ∧ S2 w p q P (removeR Q task) wq) (fun i _ => 32 - (intOf i).toNat)
      case atStart => exact ⟨0, by omega, rfl, H5.out⟩
      case round =>
        obtain ⟨j, hj, rfl, h6⟩ := hrel
        have H6 := Lib.hid h6; clear h6
        by_cases hjt : j < 32
        · have j0 : (0 : Int) ≤ (j : Int) := by omega
          have jn : (j : Int) < 32 := by omega
          obtain ⟨xs, hxs⟩ : ∃ xs, xs = P j := ⟨_, rfl⟩
          have hx1 : xs = rowAt P j := by unfold rowAt; rw [if_pos ⟨j0, jn⟩, hxs]; rfl
          have hx2 : xs = rowAt (removeR Q task) j := by unfold rowAt; rw [if_pos ⟨j0, jn⟩, hxs]; exact (HEQ.out j hjt).symm
          have hlen : (xs.length : Int) ≤ 64 := by
            obtain ⟨s, hq, hp⟩ := H6.out.rp
            have := nodup_len 64 (P j) (hp.nodup j hjt) (fun y hy => (hp.mem j hjt y hy).1)
            rw [hxs]; omega
          have HX1 := Lib.hid hx1
          have HX2 := Lib.hid hx2
          clear hxs hx1 hx2
          go_wp2_with fail
          refine (at_any _ p j P xs HX1.out H6.out.rp).mono ?_
          rintro e w7 ⟨A1, c1, rfl, hm1, hc1, hg7⟩
          have H7 := Lib.hid (H6.out.grow hg7)
          clear hg7
          go_wp2_with fail
          refine (at_any _ q j (removeR Q task) xs HX2.out H7.out.rq).mono ?_
          rintro e w8 ⟨A2, c2, rfl, hm2, hc2, hg8⟩
          have H8 := Lib.hid (H7.out.grow hg8)
          have hm18 := hm1.grow hg8
          clear hg8
          go_wp2_with fail
          refine (ints_same _ A1 A2 xs.length c1 c2 (rowM xs) (by omega) (by omega) (by omega) hm18.at hm2.at).mono ?_
          rintro e w9 ⟨rfl, hg9⟩
          have H9 := Lib.hid (H8.out.grow hg9)
          clear hg9 hm1 hm2 hm18
          go_wp2_with fail
          go_roundw
          case rel => exact ⟨j + 1, by omega, by go_num, H9.out⟩
          case measure => simp [intOf]; omega
        · have jn : ¬ (j : Int) < 32 := by omega
          go_wp2
          go_ret
          exact ⟨rfl, H6.out.bl⟩
end Go.Proofs.YtdfadggdegojnaaDoor
