/- The ring's calls in the frames' words: lose, Put. -/
import Derived.Test.YtdicgpbdfnlniaaB
namespace Go.Proofs.Ytdicgpbdfnlniaa
open Go.RowKit
set_option linter.unusedVariables false
set_option linter.unusedSimpArgs false
set_option maxRecDepth 100000
theorem putG_step {cap : Nat} {pol : Int} {t : List UInt8} {s : RG} (h : WF cap s) (h1 : t.length ≤ cap) :
    putG cap pol t s.L.length s = if t.length ≤ cap - s.used then (0, ⟨s.L ++ [t], s.begun, s.gone⟩) else if pol = 0 ∨ cap < t.length + s.rest then (7, ⟨s.L, s.begun, s.gone ++ [t]⟩) else putG cap pol t s.lose.L.length s.lose := by
  cases hL : s.L.length with
  | zero =>
    have : s.used = 0 := by
      have e : s.L = [] := List.eq_nil_of_length_eq_zero hL
      unfold RG.used RG.bytes
      rw [e]; rfl
    rw [if_pos (by omega)]
    rfl
  | succ n =>
    conv => lhs; unfold putG
    split
    · rfl
    · rename_i ha
      split
      · rfl
      · rename_i hb
        have := (lose_len (h.can ha (fun hc => hb (.inr hc)))).1
        have e : s.lose.L.length = n := by omega
        rw [e]
/-- The ring lies there: it holds these frames. -/
def RingAt (w : World) (base r g cap : Nat) (pol : Int) (s : RG) : Prop := 179 ≤ cap ∧ cap ≤ 1048576 ∧ WF cap s ∧ ∃ head R A c, RW w base r g cap pol head R A s.sizes c s.used s.begun s.gone.length ∧ head < cap ∧ RoomAt cap head R s.bytes
theorem rest_le {cap : Nat} {s : RG} (h : WF cap s) : s.rest ≤ cap := by
  have := h.room
  rw [used_len] at this
  unfold RG.rest
  split
  · generalize s.sizes = zs at this ⊢
    cases zs with
    | nil => simp [hd0]
    | cons z zs => simp only [List.sum_cons] at this; show z ≤ cap; omega
  · omega
theorem full_ring {w : World} {base r g cap : Nat} {pol : Int} {s : RG} {t : List UInt8} {hd c gl g2 : Nat} {R : Nat → UInt8} {A : Option Addr} (hcap : 179 ≤ cap) (hcap2 : cap ≤ 1048576) (hwf : WF cap s) (hhd : hd < cap) (hrm : RoomAt cap hd R s.bytes) (hgl : gl = s.gone.length) (hg2 : g2 = gl + 1)
    (h : RW w base r g cap pol hd R A s.sizes c s.used s.begun g2) : RingAt w base r g cap pol ⟨s.L, s.begun, s.gone ++ [t]⟩ := by
  refine ⟨hcap, hcap2, ⟨hwf.1, hwf.2, hwf.3⟩, hd, R, A, c, ?_, hhd, hrm⟩
  have e : (RG.gone ⟨s.L, s.begun, s.gone ++ [t]⟩).length = g2 := by simp; omega
  rw [e]
  exact h
def lenAt (r : Nat) (w : World) : Nat := match w.cell? ⟨r, 3, none⟩ with
  | some (.slice _ n _) => n
  | _ => 0
section
variable {w w' : World} {base r g cap : Nat} {pol : Int} {s : RG}
theorem RingAt.grow (h : RingAt w base r g cap pol s) (hg : Grow w w') : RingAt w' base r g cap pol s := by
  obtain ⟨h1, h2, h3, hd, R, A, c, h4, h5, h6⟩ := h
  exact ⟨h1, h2, h3, hd, R, A, c, h4.grow hg, h5, h6⟩
theorem RingAt.base_le (h : RingAt w base r g cap pol s) : base ≤ w.heap.size := by
  obtain ⟨h1, h2, h3, hd, R, A, c, h4, h5, h6⟩ := h
  exact h4.base_le
theorem RingAt.lenAt (h : RingAt w base r g cap pol s) : lenAt r w = s.L.length := by
  obtain ⟨h1, h2, h3, hd, R, A, c, h4, h5, h6⟩ := h
  unfold Ytdicgpbdfnlniaa.lenAt
  rw [h4.c3]
  simp [RG.sizes]
theorem sizes_len (s : RG) : s.sizes.length = s.L.length := by simp [RG.sizes]
theorem lose_ring (h : RingAt w base r g cap pol s) (hcan : (s.begun = true ∧ ∃ f f1 l, s.L = f :: f1 :: l) ∨ (s.begun = false ∧ ∃ f l, s.L = f :: l)) (hl : s.gone.length < 4611686018427387904) :
    Calls Try.prog 22 #[.pointer (some ⟨r, 0, none⟩)] w fun e w' => e = .returned (.tuple #[]) ∧ RingAt w' base r g cap pol s.lose ∧ FarR base r g w w' := by
  obtain ⟨h1, h2, h3, hd, R, A, c, h4, h5, h6⟩ := h
  have h3' := h3.lose
  have hroom := h3.room
  rcases hcan with ⟨hb, f, f1, l, hL⟩ | ⟨hb, f, l, hL⟩
  · obtain ⟨L, b, go⟩ := s
    simp only at hb hL
    subst hb hL
    have hu : (RG.used ⟨f :: f1 :: l, true, go⟩) = f.length + (f1.length + l.flatten.length) := by simp [RG.used, RG.bytes]
    have hbytes : (RG.bytes ⟨f :: f1 :: l, true, go⟩) = f ++ f1 ++ l.flatten := by simp [RG.bytes]
    rw [hbytes] at h6
    refine (lose_begun (z0 := f.length) (z1 := f1.length) (zr := l.map List.length) h4 (by omega) h5 (by omega) (by omega) (by omega) hl).mono ?_
    rintro e w2 ⟨rfl, hw, hf⟩
    refine ⟨rfl, ⟨h1, h2, h3', (hd + f1.length) % cap, layR R cap ((hd + f1.length) % cap) (peekR cap hd R f.length) f.length, A, c, ?_, Nat.mod_lt _ (by omega), ?_⟩, hf⟩
    · have e1 : (RG.lose ⟨f :: f1 :: l, true, go⟩).used = (RG.used ⟨f :: f1 :: l, true, go⟩) - f1.length := by
        rw [hu]; simp [RG.lose, RG.used, RG.bytes]; try omega
      have e2 : (RG.lose ⟨f :: f1 :: l, true, go⟩).gone.length = go.length + 1 := by simp [RG.lose]
      rw [e1, e2]
      exact hw
    · have e3 : (RG.lose ⟨f :: f1 :: l, true, go⟩).bytes = f ++ l.flatten := by simp [RG.lose, RG.bytes]
      rw [e3, peekR_take h6 (by simp only [List.length_append]; omega)]
      have e4 : (f ++ f1 ++ l.flatten).take f.length = f := by simp
      rw [e4]
      exact RoomAt.lose h6 (by simp only [List.length_append]; omega)
  · obtain ⟨L, b, go⟩ := s
    simp only at hb hL
    subst hb hL
    have hu : (RG.used ⟨f :: l, false, go⟩) = f.length + l.flatten.length := by simp [RG.used, RG.bytes]
    have hbytes : (RG.bytes ⟨f :: l, false, go⟩) = f ++ l.flatten := by simp [RG.bytes]
    rw [hbytes] at h6
    refine (lose_plain (z0 := f.length) (zr := l.map List.length) h4 (by omega) h5 (by omega) (by omega) (by omega) hl).mono ?_
    rintro e w2 ⟨rfl, hw, hf⟩
    refine ⟨rfl, ⟨h1, h2, h3', (hd + f.length) % cap, layR R cap ((hd + f.length) % cap) (peekR cap hd R 0) 0, A, c, ?_, Nat.mod_lt _ (by omega), ?_⟩, hf⟩
    · have e1 : (RG.lose ⟨f :: l, false, go⟩).used = (RG.used ⟨f :: l, false, go⟩) - f.length := by
        rw [hu]; simp [RG.lose, RG.used, RG.bytes]
      have e2 : (RG.lose ⟨f :: l, false, go⟩).gone.length = go.length + 1 := by simp [RG.lose]
      rw [e1, e2]
      exact hw
    · have e3 : (RG.lose ⟨f :: l, false, go⟩).bytes = (f ++ l.flatten).drop f.length := by simp [RG.lose, RG.bytes]
      rw [e3]
      exact RoomAt.drop h6 _
theorem rest_ring (h : RingAt w base r g cap pol s) (x : Nat) (hx : s.rest = x) : Calls Try.prog 21 #[.pointer (some ⟨r, 0, none⟩)] w fun e w' => e = .returned (.int .i64 x) ∧ w' = w := by
  obtain ⟨h1, h2, h3, hd, R, A, c, h4, h5, h6⟩ := h
  refine rest_any h4 x (fun hb => ?_) (by rw [← hx]; rfl)
  rw [sizes_len]
  exact List.length_pos_iff.2 (h3.beg hb)
theorem used_ring (h : RingAt w base r g cap pol s) (x : Nat) (hx : s.used = x) : Calls Try.prog 16 #[.pointer (some ⟨r, 0, none⟩)] w fun e w' => e = .returned (.int .i64 x) ∧ w' = w := by
  obtain ⟨h1, h2, h3, hd, R, A, c, h4, h5, h6⟩ := h
  rw [← hx]
  exact used_any h4
theorem held_ring (h : RingAt w base r g cap pol s) (x : Nat) (hx : s.L.length = x) : Calls Try.prog 17 #[.pointer (some ⟨r, 0, none⟩)] w fun e w' => e = .returned (.int .i64 x) ∧ w' = w := by
  obtain ⟨h1, h2, h3, hd, R, A, c, h4, h5, h6⟩ := h
  rw [← hx, ← sizes_len]
  exact held_any h4
theorem begun_ring (h : RingAt w base r g cap pol s) (x : Bool) (hx : s.begun = x) : Calls Try.prog 18 #[.pointer (some ⟨r, 0, none⟩)] w fun e w' => e = .returned (.bool x) ∧ w' = w := by
  obtain ⟨h1, h2, h3, hd, R, A, c, h4, h5, h6⟩ := h
  rw [← hx]
  exact begun_any h4
theorem lost_ring (h : RingAt w base r g cap pol s) (x : Nat) (hx : s.gone.length = x) : Calls Try.prog 19 #[.pointer (some ⟨r, 0, none⟩)] w fun e w' => e = .returned (.int .u64 x) ∧ w' = w := by
  obtain ⟨h1, h2, h3, hd, R, A, c, h4, h5, h6⟩ := h
  rw [← hx]
  exact lost_any h4
end
theorem push_ring {w : World} {base r g cap : Nat} {pol : Int} {s : RG} {t : List UInt8} {fr us u2 hd c : Nat} {R : Nat → UInt8} {A : Option Addr} (hcap : 179 ≤ cap) (hcap2 : cap ≤ 1048576) (hwf : WF cap s) (ha : t.length ≤ fr) (hfr : fr = cap - us) (hus : us = s.used) (hu2 : u2 = us + t.length) (h1 : 1 ≤ t.length) (hhd : hd < cap) (hrm : RoomAt cap hd R s.bytes) (gl : Nat)
    (h : RW w base r g cap pol hd (layR R cap (hd + us) t t.length) A (s.sizes ++ [t.length]) c u2 s.begun s.gone.length) : RingAt w base r g cap pol ⟨s.L ++ [t], s.begun, s.gone⟩ := by
  subst hfr hus hu2
  refine ⟨hcap, hcap2, hwf.push ha h1, hd, layR R cap (hd + s.used) t t.length, A, c, ?_, hhd, ?_⟩
  · have e1 : RG.sizes ⟨s.L ++ [t], s.begun, s.gone⟩ = s.sizes ++ [t.length] := by simp [RG.sizes]
    have e2 : RG.used ⟨s.L ++ [t], s.begun, s.gone⟩ = s.used + t.length := by simp [RG.used, RG.bytes]
    rw [e1, e2]
    exact h
  · have e3 : RG.bytes ⟨s.L ++ [t], s.begun, s.gone⟩ = s.bytes ++ t := by simp [RG.bytes]
    rw [e3]
    have := hwf.room
    exact RoomAt.push hrm t (by unfold RG.used at ha this; omega)
theorem wpList_append_sz {ops : Array Oper} {rest : List Oper} {o : Oper} {a : Act} {Q : Exit → Act → World → Prop} {w : World} (hgd : o.guard = none) (s x : Operand)
    (ho : o.op = .call { callee := .builtin .append, args := #[s, x], argTypes := #[46, 46] }) {base : Nat} {A : Option Addr} {zs : List Nat} {c : Nat} (h : SzAt w base A zs c) (hbase : base ≤ w.heap.size) (hlen : zs.length < 2000000) (p z : Nat) (hp : w.cell? ⟨p, 0, none⟩ = some (.int .i64 (z : Nat)))
    (hs : a.eval s = .slice A zs.length c) (hx : a.eval x = .slice (some ⟨p, 0, none⟩) 1 1)
    (hK : ∀ A' c' w', SzAt w' base A' (zs ++ [z]) c' → Far (fun _ => False) 3 base w w' → wpList Try.prog ops Q rest (a.put o.dst (.slice A' (zs.length + 1) c')) w') : wpList Try.prog ops Q (o :: rest) a w := by
  refine wpList_plain hgd fun K hK' => ?_
  obtain ⟨A', c', w', hrun, h1, h2⟩ := h.append_run hbase hlen p z hp o.type (fun _ => False)
  unfold Oper.wp execOp
  simp only [ho, resolve, invoke, builtin, Sem.run_bind, Sem.run_pure, Result.andThen_ok, List.map_toArray, List.map_cons, List.map_nil, hs, hx, hrun]
  exact hK' _ _ (hK A' c' w' h1 h2)
attribute [local irreducible] roomC ringC peekR layR strOf putG RG.used RG.rest RG.lose RG.sizes RG.bytes RingAt
section
variable {w : World} {base r g cap : Nat} {pol : Int} {s : RG}
theorem put_bad (h : RingAt w base r g cap pol s) (t : List UInt8) (ht : ¬ (1 ≤ t.length ∧ t.length ≤ 179)) : Calls Try.prog 11 #[.pointer (some ⟨r, 0, none⟩), .string ⟨t.toArray⟩] w fun e w' => e = .returned (.int .i64 1) ∧ w' = w := by
  clear h
  by_cases h1 : (t.length : Int) < 1
  · clear ht
    go_enter Try.func11, Try.ntmps11
    go_wp2_with fail
    go_step3
    go_wp2
    rw [Exit.noGoto_ret]
    go_ret
    exact ⟨rfl, rfl⟩
  · have h2 : (179 : Int) < (t.length : Int) := by omega
    clear ht
    go_enter Try.func11, Try.ntmps11
    go_wp2_with fail
    go_step3
    go_wp2
    rw [Exit.noGoto_ret]
    go_ret
    exact ⟨rfl, rfl⟩
set_option maxHeartbeats 4000000 in
theorem put_walk (h : RingAt w base r g cap pol s) (t : List UInt8) (x : Int) (s2 : RG) (hp : putG cap pol t s.L.length s = (x, s2)) (ht1 : 1 ≤ t.length) (ht2 : t.length ≤ 179) (hl : s.gone.length + s.L.length < 4611686018427387900) :
    Calls Try.prog 11 #[.pointer (some ⟨r, 0, none⟩), .string ⟨t.toArray⟩] w fun e w' => e = .returned (.int .i64 x) ∧ RingAt w' base r g cap pol s2 ∧ FarR base r g w w' := by
  have HR := Lib.hid h
  have HP := Lib.hid hp
  have HL := Lib.hid hl
  have hcap : 179 ≤ cap := by unfold RingAt at h; exact h.1
  have hcap2 : cap ≤ 1048576 := by unfold RingAt at h; exact h.2.1
  clear h hp hl
  go_enter Try.func11, Try.ntmps11
  go_wp2_with fail
  go_step3
  go_wp2_with fail
  go_step3
  go_wp2_with fail
  go_loopw [30] (fun _ wr => ∃ s', RingAt wr base r g cap pol s' ∧ FarR base r g w wr ∧ s'.gone.length + s'.L.length ≤ s.gone.length + s.L.length ∧ putG cap pol t s.L.length s = putG cap pol t s'.L.length s') (fun _ wq => lenAt r wq)
  case atStart => exact ⟨s, HR.out, Far.refl _ _ _ _, Nat.le_refl _, rfl⟩
  case round =>
    obtain ⟨s', h', hf, hl, hp⟩ := hrel
    have hwf : WF cap s' := by unfold RingAt at h'; exact h'.2.2.1
    have hroom := hwf.room
    have hst := putG_step (t := t) (pol := pol) hwf (by omega)
    rw [← hp, HP.out] at hst
    have hl2 := HL.out
    have HR' := Lib.hid h'
    have HF := Lib.hid hf
    obtain ⟨hd, R, A, c, hw, hhd, hrm⟩ : ∃ hd R A c, RW wr base r g cap pol hd R A s'.sizes c s'.used s'.begun s'.gone.length ∧ hd < cap ∧ RoomAt cap hd R s'.bytes := by unfold RingAt at h'; exact h'.2.2.2
    have HW := Lib.hid hw
    have HRM := Lib.hid hrm
    have c0 := hw.c0
    have c1 := hw.c1
    have c4 := hw.c4
    have c6 := hw.c6
    have f6 := hw.fr 6
    obtain ⟨us, hus⟩ : ∃ q, q = s'.used := ⟨_, rfl⟩
    obtain ⟨fr, hfr⟩ : ∃ q, q = cap - us := ⟨_, rfl⟩
    obtain ⟨gl, hgl⟩ : ∃ q, q = s'.gone.length := ⟨_, rfl⟩
    rw [← hus] at c4 hst hroom
    rw [← hgl] at c6 hl
    rw [← hfr] at hst
    have e1 : IntKind.i64.wrap ((cap : Int) - (us : Int)) = (fr : Int) := by rw [IntKind.wrap_i64]; omega
    have HUS := Lib.hid hus
    have HFR := Lib.hid hfr
    have HGL := Lib.hid hgl
    have HWF := Lib.hid hwf
    clear hw hrm h' hf hp hus hfr hgl hwf
    by_cases ha : t.length ≤ fr
    · rw [if_pos ha] at hst
      obtain ⟨rfl, rfl⟩ := Prod.mk.inj hst
      clear hst
      have ha' : ¬ (fr : Int) < (t.length : Int) := by omega
      go_wp2_with fail
      go_quiet (fail)
      have hw1 := HW.out.grow (Grow.drewN wr nq)
      have hf1 : FarR base r g w (wr.drewN nq) := Far.trans HF.out (Far.grow (Grow.drewN wr nq) HW.out.base_le)
      clear c0 c1 c4 c6 f6 e1
      generalize wr.drewN nq = w1 at hw1 hf1 ⊢
      rw [← HUS.out] at hw1
      have c4 := hw1.c4
      have hfrr : fr = cap - us := HFR.out
      have HLAY := Lib.hid (lay_any hw1 us (us : Int) t rfl (by omega) hhd (by omega) (by omega))
      have HF1 := Lib.hid hf1
      clear hw1 hf1
      obtain ⟨u2, hu2⟩ : ∃ q, q = us + t.length := ⟨_, rfl⟩
      have e5 : IntKind.i64.wrap ((us : Int) + (t.length : Int)) = (u2 : Int) := by rw [IntKind.wrap_i64]; omega
      have HU2 := Lib.hid hu2; clear hu2
      have HFRR := Lib.hid hfrr; clear hfrr
      go_wp2_with fail
      refine HLAY.out.mono ?_
      rintro e w2 ⟨rfl, hw2, hf2⟩
      clear c4 HLAY
      have c4 := hw2.c4
      have f4 := hw2.fr 4
      have HW3 := Lib.hid (hw2.set4 u2)
      have HF3 := Lib.hid (show FarR base r g w (w2.setCell ⟨r, 4, none⟩ (.int .i64 (u2 : Nat))) from Far.set (Far.trans HF1.out hf2) (Or.inl rfl) hw2.hr 4 _)
      clear hw2 hf2
      obtain ⟨w3, hw3⟩ : ∃ w3, w3 = w2.setCell ⟨r, 4, none⟩ (.int .i64 (u2 : Nat)) := ⟨_, rfl⟩
      rw [← hw3] at HW3 HF3
      have HQ3 := Lib.hid hw3; clear hw3
      go_upto_region 14 with fail
      rw [← HQ3.out]
      clear c4 f4 e5 HQ3
      have c3 := HW3.out.c3
      obtain ⟨nz, hnz⟩ : ∃ q, q = s'.sizes.length := ⟨_, rfl⟩
      rw [← hnz] at c3
      have hszc : nz ≤ 1048576 := by
        have h1 := HWF.out.len
        have h2 := sizes_len s'
        omega
      have HNZ := Lib.hid hnz; clear hnz
      go_wp2_with (at_builtin; refine wpList_append_sz rfl (.tmp 82) (.tmp 85) rfl (HW3.out.sz.keep fun k cs hk => (Grow.alloc w3 (.cells #[.int .i64 (t.length : Int)] 3)).at hk) (by have := HW3.out.base_le; simp; omega) (by rw [← HNZ.out]; omega) w3.heap.size t.length (cell_block (heapAt_alloc_new w3 _) 0) (by rw [← HNZ.out]; rfl) (by rfl) ?k1)
      case k1 =>
      intro A' c' w4 hsz4 hf4
      have hb4 := hf4.2 r _ ((Grow.alloc w3 (.cells #[.int .i64 (t.length : Int)] 3)).at HW3.out.blk) (fun h => h) (fun cs f e => ne3 _ _ _ _ e.symm)
      have hm4 := hf4.2 g _ ((Grow.alloc w3 (.cells #[.int .i64 (t.length : Int)] 3)).at HW3.out.room) (fun h => h) (fun cs f e => ne35 _ _ _ _ e.symm)
      have c3' := cell_block hb4 3
      rw [ringC3, ← HNZ.out] at c3'
      have f3' := free_block hb4 3
      have hfin := RW.set3 HW3.out.hr HW3.out.hg hb4 hm4 hsz4
      have hff : FarR base r g w w4 := Far.trans HF3.out (Far.trans (Far.grow (Grow.alloc w3 (.cells #[.int .i64 (t.length : Int)] 3)) HW3.out.base_le) ⟨hf4.1, fun k o hk _ ho => hf4.2 k o hk (fun h => h) ho⟩)
      have hlen : (s'.sizes ++ [t.length]).length = nz + 1 := by rw [List.length_append, ← HNZ.out]; rfl
      rw [hlen] at hfin
      have HFIN := Lib.hid hfin
      have HFF := Lib.hid (show FarR base r g w (w4.setCell ⟨r, 3, none⟩ (.slice A' (nz + 1) c')) from Far.set hff (Or.inl rfl) HW3.out.hr 3 _)
      rw [← HNZ.out]
      clear hfin hff hlen hsz4 hf4 hb4 hm4 c3
      go_wp2
      rw [Exit.noGoto_ret]
      go_ret
      refine ⟨rfl, push_ring hcap hcap2 HWF.out ha HFRR.out HUS.out HU2.out ht1 hhd HRM.out 0 HFIN.out, HFF.out⟩
    · rw [if_neg ha] at hst
      have ha' : (fr : Int) < (t.length : Int) := by omega
      obtain ⟨rs, hrs⟩ : ∃ q, s'.rest = q := ⟨_, rfl⟩
      have HREST := Lib.hid fun (n : Nat) => rest_ring (HR'.out.grow (Grow.drewN wr n)) rs hrs
      obtain ⟨g2, hg2⟩ : ∃ q, q = gl + 1 := ⟨_, rfl⟩
      have e6 : IntKind.u64.wrap ((gl : Int) + 1) = (g2 : Int) := by rw [IntKind.wrap_u64]; omega
      have hrsle : rs ≤ 1048576 := by have := rest_le HWF.out; omega
      obtain ⟨sm, hsm⟩ : ∃ q, q = t.length + rs := ⟨_, rfl⟩
      have e2 : IntKind.i64.wrap ((t.length : Int) + (rs : Int)) = (sm : Int) := by rw [IntKind.wrap_i64]; omega
      have HG2 := Lib.hid hg2; clear hg2
      go_wp2_with fail
      go_quiet (fail)
      replace HREST := Lib.hid fun (n2 : Nat) => rest_ring ((HR'.out.grow (Grow.drewN wr nq)).grow (Grow.drewN (wr.drewN nq) n2)) rs hrs
      by_cases hpol : pol = 0
      · rw [if_pos (Or.inl hpol)] at hst
        have hpb : (pol == 0) = true := by simp [hpol]
        clear e2 hsm hrs
        obtain ⟨rfl, rfl⟩ := Prod.mk.inj hst
        clear hst
        have hw1 := HW.out.grow (Grow.drewN wr nq)
        have hf1 : FarR base r g w (wr.drewN nq) := Far.trans HF.out (Far.grow (Grow.drewN wr nq) HW.out.base_le)
        clear c0 c1 c4 c6 f6 e1
        generalize wr.drewN nq = w1 at hw1 hf1 ⊢
        have c0 := hw1.c0
        have c1 := hw1.c1
        have c4 := hw1.c4
        have c6 := hw1.c6
        rw [← HUS.out] at c4
        rw [← HGL.out] at c6
        have f6 := hw1.fr 6
        have HW7 := Lib.hid (hw1.set6 g2)
        have HF7 := Lib.hid (show FarR base r g w (w1.setCell ⟨r, 6, none⟩ (.int .u64 (g2 : Nat))) from Far.set hf1 (Or.inl rfl) hw1.hr 6 _)
        clear hw1 hf1
        go_wp2
        rw [Exit.noGoto_ret]
        go_ret
        exact ⟨rfl, full_ring hcap hcap2 HWF.out hhd HRM.out HGL.out HG2.out HW7.out, HF7.out⟩
      · have hpb : (pol == 0) = false := by simp [hpol]
        clear HREST e1
        have hw1 := HW.out.grow (Grow.drewN wr nq)
        have hr1 := HR'.out.grow (Grow.drewN wr nq)
        have hf1 : FarR base r g w (wr.drewN nq) := Far.trans HF.out (Far.grow (Grow.drewN wr nq) HW.out.base_le)
        clear c0 c1 c4 c6 f6
        generalize wr.drewN nq = w1 at hw1 hr1 hf1 ⊢
        have c0 := hw1.c0
        have c1 := hw1.c1
        have c4 := hw1.c4
        have c6 := hw1.c6
        rw [← HUS.out] at c4
        rw [← HGL.out] at c6
        have f6 := hw1.fr 6
        have HW1 := Lib.hid hw1
        have HR1 := Lib.hid hr1
        have HF1 := Lib.hid hf1
        clear hw1 hr1 hf1
        have HRQ := Lib.hid fun (n : Nat) => rest_ring (HR1.out.grow (Grow.drewN w1 n)) rs hrs
        by_cases hbig : cap < t.length + rs
        · rw [if_pos (Or.inr (by rw [hrs]; exact hbig))] at hst
          obtain ⟨rfl, rfl⟩ := Prod.mk.inj hst
          have hbi : (cap : Int) < (sm : Int) := by omega
          clear hrs hsm hbig hst
          go_wp2_with fail
          go_quiet ((go_at_call 21; exact Calls.quiet_of_same (HRQ.out _)))
          have hw1 := HW1.out.grow (Grow.drewN w1 nq)
          have hr1 := HR1.out.grow (Grow.drewN w1 nq)
          have hf1 : FarR base r g w (w1.drewN nq) := Far.trans HF1.out (Far.grow (Grow.drewN w1 nq) HW1.out.base_le)
          clear c0 c1 c4 c6 f6
          generalize w1.drewN nq = w2 at hw1 hr1 hf1 ⊢
          have c0 := hw1.c0
          have c1 := hw1.c1
          have c4 := hw1.c4
          have c6 := hw1.c6
          rw [← HUS.out] at c4
          rw [← HGL.out] at c6
          have f6 := hw1.fr 6
          have HW2 := Lib.hid hw1
          have HR2 := Lib.hid hr1
          have HF2 := Lib.hid hf1
          clear hw1 hr1 hf1
          have HW7 := Lib.hid (HW2.out.set6 g2)
          have HF7 := Lib.hid (show FarR base r g w (w2.setCell ⟨r, 6, none⟩ (.int .u64 (g2 : Nat))) from Far.set HF2.out (Or.inl rfl) HW2.out.hr 6 _)
          go_wp2
          rw [Exit.noGoto_ret]
          go_ret
          exact ⟨rfl, full_ring hcap hcap2 HWF.out hhd HRM.out HGL.out HG2.out HW7.out, HF7.out⟩
        · have hbi : ¬ (cap : Int) < (sm : Int) := by omega
          have hcan := HWF.out.can (t := t) (by rw [← HUS.out, ← HFR.out]; exact ha) (by rw [hrs]; exact hbig)
          rw [if_neg (by rw [hrs]; intro h; rcases h with h | h; exact hpol h; exact hbig h)] at hst
          have husp : ((us : Int) == 0) = false := by have := HFR.out; simp; omega
          have hlens := lose_len hcan
          have HLO := Lib.hid fun (w5 : World) (h5 : RingAt w5 base r g cap pol s') => lose_ring h5 hcan (by rw [← HGL.out]; omega)
          have HCAN := Lib.hid hlens
          have HST := Lib.hid hst
          clear hrs hsm hbig hst hcan hlens
          go_wp2_with fail
          go_quiet ((go_at_call 21; exact Calls.quiet_of_same (HRQ.out _)))
          have hw1 := HW1.out.grow (Grow.drewN w1 nq)
          have hr1 := HR1.out.grow (Grow.drewN w1 nq)
          have hf1 : FarR base r g w (w1.drewN nq) := Far.trans HF1.out (Far.grow (Grow.drewN w1 nq) HW1.out.base_le)
          clear c0 c1 c4 c6 f6
          generalize w1.drewN nq = w2 at hw1 hr1 hf1 ⊢
          have c0 := hw1.c0
          have c1 := hw1.c1
          have c4 := hw1.c4
          have c6 := hw1.c6
          rw [← HUS.out] at c4
          rw [← HGL.out] at c6
          have f6 := hw1.fr 6
          have HW2 := Lib.hid hw1
          have HR2 := Lib.hid hr1
          have HF2 := Lib.hid hf1
          clear hw1 hr1 hf1
          go_wp2_with fail
          refine (HLO.out w2 HR2.out).mono ?_
          rintro e w3 ⟨rfl, hr3, hf3⟩
          have HR3 := Lib.hid hr3
          have HF3 := Lib.hid (show FarR base r g w w3 from Far.trans HF2.out hf3)
          clear hr3 hf3
          go_wp2_with fail
          go_roundw
          case rel => exact ⟨s'.lose, HR3.out, HF3.out, by have := HCAN.out; have := HGL.out; omega, by rw [HP.out]; exact HST.out⟩
          case measure =>
            rw [HR3.out.lenAt, HR'.out.lenAt]
            have := HCAN.out
            omega

end
end Go.Proofs.Ytdicgpbdfnlniaa
