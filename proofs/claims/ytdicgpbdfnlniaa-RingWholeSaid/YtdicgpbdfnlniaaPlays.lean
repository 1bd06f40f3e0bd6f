/- The walk of RingPlays. -/
import Derived.Test.YtdicgpbdfnlniaaRefDrain
import Derived.Test.YtdicgpbdfnlniaaRelL
namespace Go.Proofs.Ytdicgpbdfnlniaa
open Go.RowKit
set_option linter.unusedVariables false
set_option linter.unusedSimpArgs false
set_option maxRecDepth 100000
theorem ty_ne {w : World} {a b : Nat} {cs cs' : Array Value} {t t' : TypeId} {f f' : Nat × Nat} (ha : w.heap[a]? = some (.cells cs t f)) (hb : w.heap[b]? = some (.cells cs' t' f')) (hne : t ≠ t') : a ≠ b := fun e => by
  subst e
  rw [ha] at hb
  have := Option.some.inj hb
  injection this with _ h2
  exact hne h2
theorem ob_ne {cs cs' : Array Value} {t t' : TypeId} {f f' : Nat × Nat} (hne : t ≠ t') : (Obj.cells cs t f) ≠ .cells cs' t' f' := fun e => by
  injection e with _ h2
  exact hne h2
theorem own_far {w w' : World} {base r g B n : Nat} {v : Value} {xs : List Value} {csr csg : Array Value} (hr : w.heap[r]? = some (.cells csr 48 (0, 0))) (hg : w.heap[g]? = some (.cells csg 5 (0, 0))) (h : w.ownsRow B 9 1 v n xs) (hf : FarR base r g w w') : w'.ownsRow B 9 1 v n xs := by
  refine ⟨h.1, ?_⟩
  rcases h.2 with h1 | ⟨k, cap, cur, h1, hB, hk, hrr⟩
  · exact .inl h1
  · refine .inr ⟨k, cap, cur, h1, hB, hf.2 k _ hk (fun e => ?_) (fun cs f => ob_ne (by decide)), hrr⟩
    rcases e with e | e
    · exact ty_ne hk hr (by decide) e
    · exact ty_ne hk hg (by decide) e
theorem MAt.farR {w w' : World} {base r g m cap : Nat} {pol : Int} {s s' : RG} (h : MAt w base m cap pol s) (hr : RingAt w base r g cap pol s') (hf : FarR base r g w w') : MAt w' base m cap pol s := by
  obtain ⟨_, _, _, _, _, _, _, hr, _⟩ := hr
  obtain ⟨h1, h2, h3, v, v2, h4⟩ := h
  refine ⟨h1, h2, h3, v, v2, h4.hm, hf.2 m _ h4.blk (fun e => ?_) (fun cs f => ob_ne (by decide)), own_far hr.blk hr.room h4.row hf, own_far hr.blk hr.room h4.gon hf, h4.ap⟩
  rcases e with e | e
  · exact ty_ne h4.blk hr.blk (by decide) e
  · exact ty_ne h4.blk hr.room (by decide) e
theorem RingAt.farM {w w' : World} {base r g m cap : Nat} {pol : Int} {s s' : RG} (h : RingAt w base r g cap pol s) (hm : MAt w base m cap pol s') (hf : FarM base m w w') : RingAt w' base r g cap pol s := by
  obtain ⟨_, _, _, v, v2, hm⟩ := hm
  obtain ⟨h1, h2, h3, hd, R, A, c, h4, h5, h6⟩ := h
  refine ⟨h1, h2, h3, hd, R, A, c, ⟨h4.hr, h4.hg, hf.2 r _ h4.blk (ty_ne h4.blk hm.blk (by decide)) (fun cs f => ob_ne (by decide)), hf.2 g _ h4.room (ty_ne h4.room hm.blk (by decide)) (fun cs f => ob_ne (by decide)), h4.sz.keep fun k cs hk => hf.2 k _ hk (ty_ne hk hm.blk (by decide)) (fun cs f => ob_ne (by decide))⟩, h5, h6⟩
theorem MAt.lt {w : World} {base m cap : Nat} {pol : Int} {s : RG} (h : MAt w base m cap pol s) : m < w.heap.size := by
  obtain ⟨_, _, _, v, v2, h⟩ := h
  exact heapAt_lt h.blk
theorem new_ref {w : World} {base cap : Nat} {pol : Int} (h1 : 179 ≤ cap) (h2 : cap ≤ 1048576) (hb : base ≤ w.heap.size) : MAt (w.alloc (.cells #[.int .i64 cap, .int .i64 pol, .slice none 0 0, .bool false, .int .u64 0, .slice none 0 0] 33)) base w.heap.size cap pol s0 :=
  ⟨h1, h2, wf_start cap, .slice none 0 0, .slice none 0 0, hb, heapAt_alloc_new w _, World.ownsRow_nil _ _ _ _, World.ownsRow_nil _ _ _ _, fun g h => by simp [Value.ownBlock] at h⟩
/-- What stands while the two calls of a round come up in whatever order. -/
def FR (w0 : World) (r g m cap : Nat) (pol : Int) (o : Nat) (c : Obj) (s s2 : RG) (i j : Nat) (up : Nat → Bool) (w : World) : Prop :=
  Below w0.heap.size w0 w ∧ w.heap[o]? = some c ∧ RingAt w w0.heap.size r g cap pol (if up i then s2 else s) ∧ MAt w w0.heap.size m cap pol (if up j then s2 else s)
section
variable {w0 w w' : World} {r g m cap o : Nat} {pol : Int} {c : Obj} {s s2 : RG} {i j n : Nat} {up : Nat → Bool}
theorem FR.first (i j : Nat) (h : Below w0.heap.size w0 w) (ho : w.heap[o]? = some c) (hq : RingAt w w0.heap.size r g cap pol s) (hr : MAt w w0.heap.size m cap pol s) : FR w0 r g m cap pol o c s s2 i j (fun _ => false) w := ⟨h, ho, hq, hr⟩
theorem fr_skip (h : FR w0 r g m cap pol o c s s2 i j up w) (hi : (i == n) = false) (hj : (j == n) = false) : FR w0 r g m cap pol o c s s2 i j (fun k => k == n || up k) w := by
  obtain ⟨h1, h2, h3, h4⟩ := h
  refine ⟨h1, h2, ?_, ?_⟩
  · simpa [hi] using h3
  · simpa [hj] using h4
theorem FR.getQ (h : FR w0 r g m cap pol o c s s2 i j up w) (hs : up i = false) : RingAt w w0.heap.size r g cap pol s := by have := h.2.2.1; rw [hs] at this; simpa using this
theorem FR.getR (h : FR w0 r g m cap pol o c s s2 i j up w) (hs : up j = false) : MAt w w0.heap.size m cap pol s := by have := h.2.2.2; rw [hs] at this; simpa using this
theorem FR.onQ {c0 c1 c2 : Value} (h : FR w0 r g m cap pol o (.cells #[c0, c1, c2] 35) s s2 i j up w) (hs : up i = false) (hj : (j == i) = false) (hor : o ≠ r) (hog : o ≠ g) (hq : RingAt w' w0.heap.size r g cap pol s2) (hf : FarR w0.heap.size r g w w') : FR w0 r g m cap pol o (.cells #[c0, c1, c2] 35) s s2 i j (fun k => k == i || up k) w' := by
  have hR := h.getQ hs
  obtain ⟨h1, h2, h3, h4⟩ := h
  refine ⟨Below.trans h1 hf.1, hf.2 o _ h2 (fun e => by rcases e with e | e; exact hor e; exact hog e) (fun cs f => ob_ne (by decide)), ?_, ?_⟩
  · simpa using hq
  · simpa [hj] using h4.farR hR hf
theorem FR.onR {c0 c1 c2 : Value} (h : FR w0 r g m cap pol o (.cells #[c0, c1, c2] 35) s s2 i j up w) (hs : up j = false) (hi : (i == j) = false) (hom : o ≠ m) (hr : MAt w' w0.heap.size m cap pol s2) (hf : FarM w0.heap.size m w w') : FR w0 r g m cap pol o (.cells #[c0, c1, c2] 35) s s2 i j (fun k => k == j || up k) w' := by
  have hM := h.getR hs
  obtain ⟨h1, h2, h3, h4⟩ := h
  refine ⟨Below.trans h1 hf.1, hf.2 o _ h2 hom (fun cs f => ob_ne (by decide)), ?_, ?_⟩
  · simpa [hi] using h3.farM hM hf
  · simpa using hr
theorem FR.last (h : FR w0 r g m cap pol o c s s2 i j up w) (hi : up i = true) (hj : up j = true) : Below w0.heap.size w0 w ∧ RingAt w w0.heap.size r g cap pol s2 ∧ MAt w w0.heap.size m cap pol s2 := by
  obtain ⟨h1, h2, h3, h4⟩ := h
  rw [hi] at h3
  rw [hj] at h4
  exact ⟨h1, by simpa using h3, by simpa using h4⟩
end
attribute [local irreducible] roomC ringC strOf outC RingAt put drain RG.used RG.bytes RG.sizes sumT GP refC texts sumF MAt most
attribute [local simp] RelKnown Is
theorem alike_any {w : World} {base r g m cap : Nat} {pol : Int} {s : RG} (hr : RingAt w base r g cap pol s) (hm : MAt w base m cap pol s) : Calls Try.prog 15 #[.pointer (some ⟨r, 0, none⟩), .pointer (some ⟨m, 0, none⟩)] w fun e w' => e = .returned (.bool true) ∧ Grow w w' := by
  have hcap2 : cap ≤ 1048576 := by unfold MAt at hm; exact hm.2.1
  have hwf : WF cap s := by unfold MAt at hm; exact hm.2.2.1
  obtain ⟨v, v2, hw⟩ : ∃ v v2, MW w base m cap pol v v2 s.L s.gone s.begun s.gone.length := by unfold MAt at hm; exact hm.2.2.2
  have hlen := hwf.len
  have hroom := hwf.room
  obtain ⟨us, hus⟩ : ∃ q, s.used = q := ⟨_, rfl⟩
  obtain ⟨bg, hbg⟩ : ∃ q, s.begun = q := ⟨_, rfl⟩
  obtain ⟨ls, hls⟩ : ∃ q, s.gone.length = q := ⟨_, rfl⟩
  obtain ⟨nl, hnl⟩ : ∃ q, s.L.length = q := ⟨_, rfl⟩
  have H1 := Lib.hid fun (n : Nat) => used_ring (hr.grow (Grow.drewN w n)) us hus
  have H2 := Lib.hid fun (n : Nat) => refUsed_any (hw.grow (Grow.drewN w n)) us (by rw [← hus]; unfold RG.used RG.bytes; rfl) (by omega) (by omega)
  have H3 := Lib.hid fun (n : Nat) => held_ring (hr.grow (Grow.drewN w n)) nl hnl
  have H4 := Lib.hid fun (n : Nat) => begun_ring (hr.grow (Grow.drewN w n)) bg hbg
  have H5 := Lib.hid fun (n : Nat) => lost_ring (hr.grow (Grow.drewN w n)) ls hls
  obtain ⟨A, c, hv, _⟩ := own_texts hw.row
  have c2 := hw.c2
  have c3 := hw.c3
  have c4 := hw.c4
  rw [hv, hnl] at c2
  rw [hbg] at c3
  rw [hls] at c4
  clear hr hm hwf hw hlen hroom hus hbg hls hnl hv
  have hbb : ∀ b : Bool, (b == b) = true := fun b => by cases b <;> rfl
  go_enter Try.func15, Try.ntmps15
  go_wp2_with fail
  go_quiet ((first | (go_at_call 16; exact Calls.quiet_of_same (H1.out _)) | (go_at_call 24; exact Calls.quiet_of_same (H2.out _)) | (go_at_call 17; exact Calls.quiet_of_same (H3.out _)) | (go_at_call 18; exact Calls.quiet_of_same (H4.out _)) | (go_at_call 19; exact Calls.quiet_of_same (H5.out _))))
  have HG := Lib.hid (Grow.drewN w nq)
  go_wp2
  go_ret
  exact ⟨rfl, HG.out⟩
set_option maxHeartbeats 16000000 in
theorem plays_walk (cap : Nat) (pol : Int) (A : Option Addr) (n scap : Nat) (K V : Nat → Int) (T : Nat → List UInt8) (w : World) (hcap : 179 ≤ cap) (hcap2 : cap ≤ 1048576) (hpol : pol = 0 ∨ pol = 1) (hn : n ≤ scap) (hmx : scap ≤ maxLen) (hM : ScriptAt w A n K V T) (hV : ∀ j, j < n → V j ≤ 9223372036854775807) : Calls Try.prog 3 #[.int .i64 cap, .int .i64 pol, .slice A n scap] w fun e w' => e = .returned (.bool true) ∧ Below w.heap.size w w' := by
  have HM := Lib.hid hM; clear hM
  have HV := Lib.hid hV; clear hV
  go_enter Try.func3, Try.ntmps3
  go_wp2_with fail
  refine (new_ok w w.heap.size cap pol hcap hcap2 hpol (Nat.le_refl _)).mono ?_
  rintro e w1 ⟨r, g, rfl, hr, hg⟩
  have HR := Lib.hid hr
  have HG := Lib.hid hg
  clear hr hg
  have i1 : ¬ (cap : Int) < 179 := by omega
  have i2 : ¬ (1048576 : Int) < (cap : Int) := by omega
  have ib : (pol != 0 && pol != 1) = false := by rcases hpol with rfl | rfl <;> rfl
  rcases hpol with hpp | hpp
  · have q0 : (pol != 0) = false := by simp [hpp]
    have HPP := Lib.hid hpp; clear hpp ib
    go_wp2_with fail
    refine (awake_any w1).mono ?_
    rintro e w2 ⟨rfl, hg⟩
    replace HR := Lib.hid (HR.out.grow hg)
    replace HG := Lib.hid (HG.out.trans hg)
    clear hg
    go_wp2_with fail
    refine (great_any w2 A n scap K V T hn hmx (HM.out.grow HG.out)).mono ?_
    rintro e w3 hgp
    unfold GP at hgp
    obtain ⟨b, rfl, hg, hsm⟩ := hgp
    replace HR := Lib.hid (HR.out.grow hg)
    replace HG := Lib.hid (HG.out.trans hg)
    clear hg
    cases b with
    | true =>
      clear hsm
      go_wp2
      go_ret
      exact ⟨rfl, HG.out⟩
    | false =>
      have hn3 := (hsm rfl).1
      clear hsm
      have HMA0 := Lib.hid (new_ref (w := w3) (base := w.heap.size) (cap := cap) (pol := pol) hcap hcap2 HG.out.size)
      have HG4 := Lib.hid (HG.out.trans (Grow.alloc w3 (.cells #[.int .i64 cap, .int .i64 pol, .slice none 0 0, .bool false, .int .u64 0, .slice none 0 0] 33)))
      have HR4 := Lib.hid (HR.out.grow (Grow.alloc w3 (.cells #[.int .i64 cap, .int .i64 pol, .slice none 0 0, .bool false, .int .u64 0, .slice none 0 0] 33)))
      go_wp2_with fail
      generalize w3.alloc _ = w4 at HMA0 HG4 HR4 ⊢
      generalize w3.heap.size = m at HMA0 ⊢
      go_loopw [66] (fun i wr => ∃ k : Nat, k ≤ n ∧ i = .int .i64 k ∧ ∃ s, RingAt wr w.heap.size r g cap pol s ∧ MAt wr w.heap.size m cap pol s ∧ Below w.heap.size w wr ∧ s.gone.length + s.L.length ≤ k) (fun i _ => n - (intOf i).toNat)
      case atStart => exact ⟨0, by omega, rfl, s0, HR4.out, HMA0.out, HG4.out, by simp [s0]⟩
      case round =>
        obtain ⟨k, hk, rfl, s, hs, hm, hbl, hcn⟩ := hrel
        have HS := Lib.hid hs
        have HMM := Lib.hid hm
        have HB := Lib.hid hbl
        clear hs hbl hm
        by_cases hlt : k < n
        · obtain ⟨a, hA, hm⟩ := (HM.out.grow HB.out) (by omega)
          obtain ⟨m0, m1, m2⟩ := hm k hlt
          have HVV := Lib.hid (HV.out k hlt)
          rw [hA]
          clear hm hA
          generalize K k = kk at *
          generalize V k = vv at *
          generalize T k = tt at *
          have k0 : (0 : Int) ≤ (k : Int) := by omega
          have kn : (k : Int) < (n : Int) := by omega
          have HGA := Lib.hid (heapAt_alloc_new wr (.cells #[.int .i64 kk, .int .i64 vv, .string ⟨tt.toArray⟩] 35))
          have HSA := Lib.hid (HS.out.grow (Grow.alloc wr (.cells #[.int .i64 kk, .int .i64 vv, .string ⟨tt.toArray⟩] 35)))
          have HMA := Lib.hid (HMM.out.grow (Grow.alloc wr (.cells #[.int .i64 kk, .int .i64 vv, .string ⟨tt.toArray⟩] 35)))
          have HBA := Lib.hid (show Below w.heap.size w (wr.alloc (.cells #[.int .i64 kk, .int .i64 vv, .string ⟨tt.toArray⟩] 35)) from HB.out.alloc HS.out.base_le _)
          have HOR := Lib.hid (show wr.heap.size ≠ r from by have := HS.out.ltr; omega)
          have HOG := Lib.hid (show wr.heap.size ≠ g from by have := HS.out.ltg; omega)
          have HOM := Lib.hid (show wr.heap.size ≠ m from by have := HMM.out.lt; omega)
          by_cases h1 : kk = 1
          · have hkk := h1
            rw [hkk] at m0 HGA HSA HBA HMA
            obtain ⟨px, s2, hps⟩ : ∃ x s2, put cap pol s tt = (x, s2) := ⟨_, _, rfl⟩
            have hcnt := put_count cap pol tt s
            rw [hps] at hcnt
            have CNT := Lib.hid (show s2.gone.length + s2.L.length ≤ k + 1 by have h1 := hcnt.1; (try dsimp only at h1); omega)
            clear hcnt
            go_wp2_with fail
            refine wp_region_relL _ (fun _ _ => True) (FR w r g m cap pol wr.heap.size (.cells #[.int .i64 1, .int .i64 vv, .string ⟨tt.toArray⟩] 35) s s2 3 7) [([(7, none)], none), ([(12, none)], none), ([(75, some 0)], none), ([(74, some 2), (76, some 0)], none), ([(10, none)], none), ([(12, none)], none), ([(79, some 0)], none), ([(78, some 2), (80, some 0)], none), ([(77, some 4), (81, some 0)], none)] (by kernel_rfl) (by kernel_rfl) (FR.first _ _ (below_drewN HBA.out 1) HGA.out (HSA.out.grow (Grow.drewN _ 1)) (HMA.out.grow (Grow.drewN _ 1))) ?_
            (refine relL_pure ?_; apply Exists.intro; refine ⟨fun sR aR wQ hun hF hk => ?_, ?_⟩; focus (refine relL_none fun K hK => ?_; (try simp at hk); go_simp; exact hK _ _ trivial (fr_skip hF (by rfl) (by rfl)) rfl))
            (refine relL_pure ?_; apply Exists.intro; refine ⟨fun sR aR wQ hun hF hk => ?_, ?_⟩; focus (refine relL_none fun K hK => ?_; (try simp at hk); go_simp; exact hK _ _ trivial (fr_skip hF (by rfl) (by rfl)) rfl))
            (refine relL_pure ?_; apply Exists.intro; refine ⟨fun sR aR wQ hun hF hk => ?_, ?_⟩; focus (refine relL_none fun K hK => ?_; (try simp at hk); have hgo := hF.2.1; have o0 := cell_block hgo 0; have o1 := cell_block hgo 1; have o2 := cell_block hgo 2; simp at o0 o1 o2; go_simp; exact hK _ _ trivial (fr_skip hF (by rfl) (by rfl)) rfl))
            (refine relL_pure ?_; apply Exists.intro; refine ⟨fun sR aR wQ hun hF hk => ?_, ?_⟩; focus (refine relL_none fun K hK => ?_; (try simp at hk); go_simp; refine (put_any (FR.getQ hF hun) tt px s2 hps (by omega)).mono ?_; rintro e w' ⟨rfl, hq, ho⟩; exact hK _ _ trivial (FR.onQ hF hun (by rfl) HOR.out HOG.out hq ho) rfl))
            (refine relL_pure ?_; apply Exists.intro; refine ⟨fun sR aR wQ hun hF hk => ?_, ?_⟩; focus (refine relL_none fun K hK => ?_; (try simp at hk); go_simp; exact hK _ _ trivial (fr_skip hF (by rfl) (by rfl)) rfl))
            (refine relL_pure ?_; apply Exists.intro; refine ⟨fun sR aR wQ hun hF hk => ?_, ?_⟩; focus (refine relL_none fun K hK => ?_; (try simp at hk); go_simp; exact hK _ _ trivial (fr_skip hF (by rfl) (by rfl)) rfl))
            (refine relL_pure ?_; apply Exists.intro; refine ⟨fun sR aR wQ hun hF hk => ?_, ?_⟩; focus (refine relL_none fun K hK => ?_; (try simp at hk); have hgo := hF.2.1; have o0 := cell_block hgo 0; have o1 := cell_block hgo 1; have o2 := cell_block hgo 2; simp at o0 o1 o2; go_simp; exact hK _ _ trivial (fr_skip hF (by rfl) (by rfl)) rfl))
            (refine relL_pure ?_; apply Exists.intro; refine ⟨fun sR aR wQ hun hF hk => ?_, ?_⟩; focus (refine relL_none fun K hK => ?_; (try simp at hk); go_simp; refine (refPut_any (FR.getR hF hun) tt px s2 hps (by omega)).mono ?_; rintro e w' ⟨rfl, hr, hf⟩; exact hK _ _ trivial (FR.onR hF hun (by rfl) HOM.out hr hf) rfl))
            (refine relL_pure ?_; apply Exists.intro; refine ⟨fun sR aR wQ hun hF hk => ?_, ?_⟩; focus (refine relL_none fun K hK => ?_; (try simp at hk); go_simp; exact hK _ _ trivial (fr_skip hF (by rfl) (by rfl)) rfl))
            refine relL_done fun sR wR hs hF => ?_
            repeat (first | (refine fun v hv => ?_; obtain rfl : v = _ := hv) | (refine fun v hv => ?_))
            simp only [Act.put, List.setIfInBounds_toArray, List.set_cons_zero, List.set_cons_succ]
            refine rel_nil ?_
            have H6 := Lib.hid (FR.last hF (hs 3 (by decide)) (hs 7 (by decide)))
            clear hs hF
            go_wp2_with fail
            refine (alike_any H6.out.2.1 H6.out.2.2).mono ?_
            rintro e w7 ⟨rfl, hg7⟩
            have H7 := Lib.hid (show Below w.heap.size w w7 ∧ RingAt w7 w.heap.size r g cap pol s2 ∧ MAt w7 w.heap.size m cap pol s2 from ⟨Below.trans H6.out.1 (hg7.mono H6.out.1.size), H6.out.2.1.grow hg7, H6.out.2.2.grow hg7⟩)
            clear hg7
            go_wp2_with fail
            go_roundw
            case rel => exact ⟨k + 1, by omega, by go_num, s2, H7.out.2.1, H7.out.2.2, H7.out.1, CNT.out⟩
            case measure => simp [intOf]; omega
          by_cases h2 : kk = 2
          · have hkk := h2
            rw [hkk] at m0 HGA HSA HBA HMA
            obtain ⟨s2, hds⟩ : ∃ s2, drain s (most s vv) = s2 := ⟨_, rfl⟩
            have CNT := Lib.hid (show s2.gone.length + s2.L.length ≤ k + 1 by have := drain_count (most s vv) s; rw [hds] at this; omega)
            go_wp2_with fail
            refine wp_region_relL _ (fun _ _ => True) (FR w r g m cap pol wr.heap.size (.cells #[.int .i64 2, .int .i64 vv, .string ⟨tt.toArray⟩] 35) s s2 3 7) [([(7, none)], none), ([(12, none)], none), ([(86, some 0)], none), ([(85, some 2), (87, some 0)], none), ([(10, none)], none), ([(12, none)], none), ([(90, some 0)], none), ([(89, some 2), (91, some 0)], none), ([(88, some 4), (92, some 0)], none)] (by kernel_rfl) (by kernel_rfl) (FR.first _ _ (below_drewN HBA.out 1) HGA.out (HSA.out.grow (Grow.drewN _ 1)) (HMA.out.grow (Grow.drewN _ 1))) ?_
            (refine relL_pure ?_; apply Exists.intro; refine ⟨fun sR aR wQ hun hF hk => ?_, ?_⟩; focus (refine relL_none fun K hK => ?_; (try simp at hk); go_simp; exact hK _ _ trivial (fr_skip hF (by rfl) (by rfl)) rfl))
            (refine relL_pure ?_; apply Exists.intro; refine ⟨fun sR aR wQ hun hF hk => ?_, ?_⟩; focus (refine relL_none fun K hK => ?_; (try simp at hk); go_simp; exact hK _ _ trivial (fr_skip hF (by rfl) (by rfl)) rfl))
            (refine relL_pure ?_; apply Exists.intro; refine ⟨fun sR aR wQ hun hF hk => ?_, ?_⟩; focus (refine relL_none fun K hK => ?_; (try simp at hk); have hgo := hF.2.1; have o0 := cell_block hgo 0; have o1 := cell_block hgo 1; have o2 := cell_block hgo 2; simp at o0 o1 o2; go_simp; exact hK _ _ trivial (fr_skip hF (by rfl) (by rfl)) rfl))
            (refine relL_pure ?_; apply Exists.intro; refine ⟨fun sR aR wQ hun hF hk => ?_, ?_⟩; focus (refine relL_none fun K hK => ?_; (try simp at hk); go_simp; refine (drain_any (FR.getQ hF hun) vv (most s vv) _ s2 (by unfold most; rfl) rfl hds).mono ?_; rintro e w' ⟨rfl, hq, ho⟩; exact hK _ _ trivial (FR.onQ hF hun (by rfl) HOR.out HOG.out hq ho) rfl))
            (refine relL_pure ?_; apply Exists.intro; refine ⟨fun sR aR wQ hun hF hk => ?_, ?_⟩; focus (refine relL_none fun K hK => ?_; (try simp at hk); go_simp; exact hK _ _ trivial (fr_skip hF (by rfl) (by rfl)) rfl))
            (refine relL_pure ?_; apply Exists.intro; refine ⟨fun sR aR wQ hun hF hk => ?_, ?_⟩; focus (refine relL_none fun K hK => ?_; (try simp at hk); go_simp; exact hK _ _ trivial (fr_skip hF (by rfl) (by rfl)) rfl))
            (refine relL_pure ?_; apply Exists.intro; refine ⟨fun sR aR wQ hun hF hk => ?_, ?_⟩; focus (refine relL_none fun K hK => ?_; (try simp at hk); have hgo := hF.2.1; have o0 := cell_block hgo 0; have o1 := cell_block hgo 1; have o2 := cell_block hgo 2; simp at o0 o1 o2; go_simp; exact hK _ _ trivial (fr_skip hF (by rfl) (by rfl)) rfl))
            (refine relL_pure ?_; apply Exists.intro; refine ⟨fun sR aR wQ hun hF hk => ?_, ?_⟩; focus (refine relL_none fun K hK => ?_; (try simp at hk); go_simp; refine (refDrain_any (FR.getR hF hun) vv HVV.out _ s2 rfl hds).mono ?_; rintro e w' ⟨rfl, hr, hf⟩; exact hK _ _ trivial (FR.onR hF hun (by rfl) HOM.out hr hf) rfl))
            (refine relL_pure ?_; apply Exists.intro; refine ⟨fun sR aR wQ hun hF hk => ?_, ?_⟩; focus (refine relL_none fun K hK => ?_; (try simp at hk); go_simp; exact hK _ _ trivial (fr_skip hF (by rfl) (by rfl)) rfl))
            refine relL_done fun sR wR hs hF => ?_
            repeat (first | (refine fun v hv => ?_; obtain rfl : v = _ := hv) | (refine fun v hv => ?_))
            simp only [Act.put, List.setIfInBounds_toArray, List.set_cons_zero, List.set_cons_succ]
            refine rel_nil ?_
            have H6 := Lib.hid (FR.last hF (hs 3 (by decide)) (hs 7 (by decide)))
            clear hs hF
            go_wp2_with fail
            refine (alike_any H6.out.2.1 H6.out.2.2).mono ?_
            rintro e w7 ⟨rfl, hg7⟩
            have H7 := Lib.hid (show Below w.heap.size w w7 ∧ RingAt w7 w.heap.size r g cap pol s2 ∧ MAt w7 w.heap.size m cap pol s2 from ⟨Below.trans H6.out.1 (hg7.mono H6.out.1.size), H6.out.2.1.grow hg7, H6.out.2.2.grow hg7⟩)
            clear hg7
            go_wp2_with fail
            go_roundw
            case rel => exact ⟨k + 1, by omega, by go_num, s2, H7.out.2.1, H7.out.2.2, H7.out.1, CNT.out⟩
            case measure => simp [intOf]; omega
          have b1 : (kk == 1) = false := by simpa using h1
          have b2 : (kk == 2) = false := by simpa using h2
          have CNT := Lib.hid (show s.gone.length + s.L.length ≤ k + 1 by omega)
          have H6 := Lib.hid (And.intro HBA.out (And.intro HSA.out HMA.out))
          go_wp2_with fail
          refine (alike_any H6.out.2.1 H6.out.2.2).mono ?_
          rintro e w7 ⟨rfl, hg7⟩
          have H7 := Lib.hid (show Below w.heap.size w w7 ∧ RingAt w7 w.heap.size r g cap pol s ∧ MAt w7 w.heap.size m cap pol s from ⟨Below.trans H6.out.1 (hg7.mono H6.out.1.size), H6.out.2.1.grow hg7, H6.out.2.2.grow hg7⟩)
          clear hg7
          go_wp2_with fail
          go_roundw
          case rel => exact ⟨k + 1, by omega, by go_num, s, H7.out.2.1, H7.out.2.2, H7.out.1, CNT.out⟩
          case measure => simp [intOf]; omega
        · have kn : ¬ (k : Int) < (n : Int) := by omega
          go_wp2
          go_ret
          exact ⟨rfl, HB.out⟩
  · have q0 : (pol != 0) = true := by simp [hpp]
    have q1 : (pol != 1) = false := by simp [hpp]
    have HPP := Lib.hid hpp; clear hpp ib
    go_wp2_with fail
    refine (awake_any w1).mono ?_
    rintro e w2 ⟨rfl, hg⟩
    replace HR := Lib.hid (HR.out.grow hg)
    replace HG := Lib.hid (HG.out.trans hg)
    clear hg
    go_wp2_with fail
    refine (great_any w2 A n scap K V T hn hmx (HM.out.grow HG.out)).mono ?_
    rintro e w3 hgp
    unfold GP at hgp
    obtain ⟨b, rfl, hg, hsm⟩ := hgp
    replace HR := Lib.hid (HR.out.grow hg)
    replace HG := Lib.hid (HG.out.trans hg)
    clear hg
    cases b with
    | true =>
      clear hsm
      go_wp2
      go_ret
      exact ⟨rfl, HG.out⟩
    | false =>
      have hn3 := (hsm rfl).1
      clear hsm
      have HMA0 := Lib.hid (new_ref (w := w3) (base := w.heap.size) (cap := cap) (pol := pol) hcap hcap2 HG.out.size)
      have HG4 := Lib.hid (HG.out.trans (Grow.alloc w3 (.cells #[.int .i64 cap, .int .i64 pol, .slice none 0 0, .bool false, .int .u64 0, .slice none 0 0] 33)))
      have HR4 := Lib.hid (HR.out.grow (Grow.alloc w3 (.cells #[.int .i64 cap, .int .i64 pol, .slice none 0 0, .bool false, .int .u64 0, .slice none 0 0] 33)))
      go_wp2_with fail
      generalize w3.alloc _ = w4 at HMA0 HG4 HR4 ⊢
      generalize w3.heap.size = m at HMA0 ⊢
      go_loopw [66] (fun i wr => ∃ k : Nat, k ≤ n ∧ i = .int .i64 k ∧ ∃ s, RingAt wr w.heap.size r g cap pol s ∧ MAt wr w.heap.size m cap pol s ∧ Below w.heap.size w wr ∧ s.gone.length + s.L.length ≤ k) (fun i _ => n - (intOf i).toNat)
      case atStart => exact ⟨0, by omega, rfl, s0, HR4.out, HMA0.out, HG4.out, by simp [s0]⟩
      case round =>
        obtain ⟨k, hk, rfl, s, hs, hm, hbl, hcn⟩ := hrel
        have HS := Lib.hid hs
        have HMM := Lib.hid hm
        have HB := Lib.hid hbl
        clear hs hbl hm
        by_cases hlt : k < n
        · obtain ⟨a, hA, hm⟩ := (HM.out.grow HB.out) (by omega)
          obtain ⟨m0, m1, m2⟩ := hm k hlt
          have HVV := Lib.hid (HV.out k hlt)
          rw [hA]
          clear hm hA
          generalize K k = kk at *
          generalize V k = vv at *
          generalize T k = tt at *
          have k0 : (0 : Int) ≤ (k : Int) := by omega
          have kn : (k : Int) < (n : Int) := by omega
          have HGA := Lib.hid (heapAt_alloc_new wr (.cells #[.int .i64 kk, .int .i64 vv, .string ⟨tt.toArray⟩] 35))
          have HSA := Lib.hid (HS.out.grow (Grow.alloc wr (.cells #[.int .i64 kk, .int .i64 vv, .string ⟨tt.toArray⟩] 35)))
          have HMA := Lib.hid (HMM.out.grow (Grow.alloc wr (.cells #[.int .i64 kk, .int .i64 vv, .string ⟨tt.toArray⟩] 35)))
          have HBA := Lib.hid (show Below w.heap.size w (wr.alloc (.cells #[.int .i64 kk, .int .i64 vv, .string ⟨tt.toArray⟩] 35)) from HB.out.alloc HS.out.base_le _)
          have HOR := Lib.hid (show wr.heap.size ≠ r from by have := HS.out.ltr; omega)
          have HOG := Lib.hid (show wr.heap.size ≠ g from by have := HS.out.ltg; omega)
          have HOM := Lib.hid (show wr.heap.size ≠ m from by have := HMM.out.lt; omega)
          by_cases h1 : kk = 1
          · have hkk := h1
            rw [hkk] at m0 HGA HSA HBA HMA
            obtain ⟨px, s2, hps⟩ : ∃ x s2, put cap pol s tt = (x, s2) := ⟨_, _, rfl⟩
            have hcnt := put_count cap pol tt s
            rw [hps] at hcnt
            have CNT := Lib.hid (show s2.gone.length + s2.L.length ≤ k + 1 by have h1 := hcnt.1; (try dsimp only at h1); omega)
            clear hcnt
            go_wp2_with fail
            refine wp_region_relL _ (fun _ _ => True) (FR w r g m cap pol wr.heap.size (.cells #[.int .i64 1, .int .i64 vv, .string ⟨tt.toArray⟩] 35) s s2 3 7) [([(7, none)], none), ([(12, none)], none), ([(75, some 0)], none), ([(74, some 2), (76, some 0)], none), ([(10, none)], none), ([(12, none)], none), ([(79, some 0)], none), ([(78, some 2), (80, some 0)], none), ([(77, some 4), (81, some 0)], none)] (by kernel_rfl) (by kernel_rfl) (FR.first _ _ (below_drewN HBA.out 1) HGA.out (HSA.out.grow (Grow.drewN _ 1)) (HMA.out.grow (Grow.drewN _ 1))) ?_
            (refine relL_pure ?_; apply Exists.intro; refine ⟨fun sR aR wQ hun hF hk => ?_, ?_⟩; focus (refine relL_none fun K hK => ?_; (try simp at hk); go_simp; exact hK _ _ trivial (fr_skip hF (by rfl) (by rfl)) rfl))
            (refine relL_pure ?_; apply Exists.intro; refine ⟨fun sR aR wQ hun hF hk => ?_, ?_⟩; focus (refine relL_none fun K hK => ?_; (try simp at hk); go_simp; exact hK _ _ trivial (fr_skip hF (by rfl) (by rfl)) rfl))
            (refine relL_pure ?_; apply Exists.intro; refine ⟨fun sR aR wQ hun hF hk => ?_, ?_⟩; focus (refine relL_none fun K hK => ?_; (try simp at hk); have hgo := hF.2.1; have o0 := cell_block hgo 0; have o1 := cell_block hgo 1; have o2 := cell_block hgo 2; simp at o0 o1 o2; go_simp; exact hK _ _ trivial (fr_skip hF (by rfl) (by rfl)) rfl))
            (refine relL_pure ?_; apply Exists.intro; refine ⟨fun sR aR wQ hun hF hk => ?_, ?_⟩; focus (refine relL_none fun K hK => ?_; (try simp at hk); go_simp; refine (put_any (FR.getQ hF hun) tt px s2 hps (by omega)).mono ?_; rintro e w' ⟨rfl, hq, ho⟩; exact hK _ _ trivial (FR.onQ hF hun (by rfl) HOR.out HOG.out hq ho) rfl))
            (refine relL_pure ?_; apply Exists.intro; refine ⟨fun sR aR wQ hun hF hk => ?_, ?_⟩; focus (refine relL_none fun K hK => ?_; (try simp at hk); go_simp; exact hK _ _ trivial (fr_skip hF (by rfl) (by rfl)) rfl))
            (refine relL_pure ?_; apply Exists.intro; refine ⟨fun sR aR wQ hun hF hk => ?_, ?_⟩; focus (refine relL_none fun K hK => ?_; (try simp at hk); go_simp; exact hK _ _ trivial (fr_skip hF (by rfl) (by rfl)) rfl))
            (refine relL_pure ?_; apply Exists.intro; refine ⟨fun sR aR wQ hun hF hk => ?_, ?_⟩; focus (refine relL_none fun K hK => ?_; (try simp at hk); have hgo := hF.2.1; have o0 := cell_block hgo 0; have o1 := cell_block hgo 1; have o2 := cell_block hgo 2; simp at o0 o1 o2; go_simp; exact hK _ _ trivial (fr_skip hF (by rfl) (by rfl)) rfl))
            (refine relL_pure ?_; apply Exists.intro; refine ⟨fun sR aR wQ hun hF hk => ?_, ?_⟩; focus (refine relL_none fun K hK => ?_; (try simp at hk); go_simp; refine (refPut_any (FR.getR hF hun) tt px s2 hps (by omega)).mono ?_; rintro e w' ⟨rfl, hr, hf⟩; exact hK _ _ trivial (FR.onR hF hun (by rfl) HOM.out hr hf) rfl))
            (refine relL_pure ?_; apply Exists.intro; refine ⟨fun sR aR wQ hun hF hk => ?_, ?_⟩; focus (refine relL_none fun K hK => ?_; (try simp at hk); go_simp; exact hK _ _ trivial (fr_skip hF (by rfl) (by rfl)) rfl))
            refine relL_done fun sR wR hs hF => ?_
            repeat (first | (refine fun v hv => ?_; obtain rfl : v = _ := hv) | (refine fun v hv => ?_))
            simp only [Act.put, List.setIfInBounds_toArray, List.set_cons_zero, List.set_cons_succ]
            refine rel_nil ?_
            have H6 := Lib.hid (FR.last hF (hs 3 (by decide)) (hs 7 (by decide)))
            clear hs hF
            go_wp2_with fail
            refine (alike_any H6.out.2.1 H6.out.2.2).mono ?_
            rintro e w7 ⟨rfl, hg7⟩
            have H7 := Lib.hid (show Below w.heap.size w w7 ∧ RingAt w7 w.heap.size r g cap pol s2 ∧ MAt w7 w.heap.size m cap pol s2 from ⟨Below.trans H6.out.1 (hg7.mono H6.out.1.size), H6.out.2.1.grow hg7, H6.out.2.2.grow hg7⟩)
            clear hg7
            go_wp2_with fail
            go_roundw
            case rel => exact ⟨k + 1, by omega, by go_num, s2, H7.out.2.1, H7.out.2.2, H7.out.1, CNT.out⟩
            case measure => simp [intOf]; omega
          by_cases h2 : kk = 2
          · have hkk := h2
            rw [hkk] at m0 HGA HSA HBA HMA
            obtain ⟨s2, hds⟩ : ∃ s2, drain s (most s vv) = s2 := ⟨_, rfl⟩
            have CNT := Lib.hid (show s2.gone.length + s2.L.length ≤ k + 1 by have := drain_count (most s vv) s; rw [hds] at this; omega)
            go_wp2_with fail
            refine wp_region_relL _ (fun _ _ => True) (FR w r g m cap pol wr.heap.size (.cells #[.int .i64 2, .int .i64 vv, .string ⟨tt.toArray⟩] 35) s s2 3 7) [([(7, none)], none), ([(12, none)], none), ([(86, some 0)], none), ([(85, some 2), (87, some 0)], none), ([(10, none)], none), ([(12, none)], none), ([(90, some 0)], none), ([(89, some 2), (91, some 0)], none), ([(88, some 4), (92, some 0)], none)] (by kernel_rfl) (by kernel_rfl) (FR.first _ _ (below_drewN HBA.out 1) HGA.out (HSA.out.grow (Grow.drewN _ 1)) (HMA.out.grow (Grow.drewN _ 1))) ?_
            (refine relL_pure ?_; apply Exists.intro; refine ⟨fun sR aR wQ hun hF hk => ?_, ?_⟩; focus (refine relL_none fun K hK => ?_; (try simp at hk); go_simp; exact hK _ _ trivial (fr_skip hF (by rfl) (by rfl)) rfl))
            (refine relL_pure ?_; apply Exists.intro; refine ⟨fun sR aR wQ hun hF hk => ?_, ?_⟩; focus (refine relL_none fun K hK => ?_; (try simp at hk); go_simp; exact hK _ _ trivial (fr_skip hF (by rfl) (by rfl)) rfl))
            (refine relL_pure ?_; apply Exists.intro; refine ⟨fun sR aR wQ hun hF hk => ?_, ?_⟩; focus (refine relL_none fun K hK => ?_; (try simp at hk); have hgo := hF.2.1; have o0 := cell_block hgo 0; have o1 := cell_block hgo 1; have o2 := cell_block hgo 2; simp at o0 o1 o2; go_simp; exact hK _ _ trivial (fr_skip hF (by rfl) (by rfl)) rfl))
            (refine relL_pure ?_; apply Exists.intro; refine ⟨fun sR aR wQ hun hF hk => ?_, ?_⟩; focus (refine relL_none fun K hK => ?_; (try simp at hk); go_simp; refine (drain_any (FR.getQ hF hun) vv (most s vv) _ s2 (by unfold most; rfl) rfl hds).mono ?_; rintro e w' ⟨rfl, hq, ho⟩; exact hK _ _ trivial (FR.onQ hF hun (by rfl) HOR.out HOG.out hq ho) rfl))
            (refine relL_pure ?_; apply Exists.intro; refine ⟨fun sR aR wQ hun hF hk => ?_, ?_⟩; focus (refine relL_none fun K hK => ?_; (try simp at hk); go_simp; exact hK _ _ trivial (fr_skip hF (by rfl) (by rfl)) rfl))
            (refine relL_pure ?_; apply Exists.intro; refine ⟨fun sR aR wQ hun hF hk => ?_, ?_⟩; focus (refine relL_none fun K hK => ?_; (try simp at hk); go_simp; exact hK _ _ trivial (fr_skip hF (by rfl) (by rfl)) rfl))
            (refine relL_pure ?_; apply Exists.intro; refine ⟨fun sR aR wQ hun hF hk => ?_, ?_⟩; focus (refine relL_none fun K hK => ?_; (try simp at hk); have hgo := hF.2.1; have o0 := cell_block hgo 0; have o1 := cell_block hgo 1; have o2 := cell_block hgo 2; simp at o0 o1 o2; go_simp; exact hK _ _ trivial (fr_skip hF (by rfl) (by rfl)) rfl))
            (refine relL_pure ?_; apply Exists.intro; refine ⟨fun sR aR wQ hun hF hk => ?_, ?_⟩; focus (refine relL_none fun K hK => ?_; (try simp at hk); go_simp; refine (refDrain_any (FR.getR hF hun) vv HVV.out _ s2 rfl hds).mono ?_; rintro e w' ⟨rfl, hr, hf⟩; exact hK _ _ trivial (FR.onR hF hun (by rfl) HOM.out hr hf) rfl))
            (refine relL_pure ?_; apply Exists.intro; refine ⟨fun sR aR wQ hun hF hk => ?_, ?_⟩; focus (refine relL_none fun K hK => ?_; (try simp at hk); go_simp; exact hK _ _ trivial (fr_skip hF (by rfl) (by rfl)) rfl))
            refine relL_done fun sR wR hs hF => ?_
            repeat (first | (refine fun v hv => ?_; obtain rfl : v = _ := hv) | (refine fun v hv => ?_))
            simp only [Act.put, List.setIfInBounds_toArray, List.set_cons_zero, List.set_cons_succ]
            refine rel_nil ?_
            have H6 := Lib.hid (FR.last hF (hs 3 (by decide)) (hs 7 (by decide)))
            clear hs hF
            go_wp2_with fail
            refine (alike_any H6.out.2.1 H6.out.2.2).mono ?_
            rintro e w7 ⟨rfl, hg7⟩
            have H7 := Lib.hid (show Below w.heap.size w w7 ∧ RingAt w7 w.heap.size r g cap pol s2 ∧ MAt w7 w.heap.size m cap pol s2 from ⟨Below.trans H6.out.1 (hg7.mono H6.out.1.size), H6.out.2.1.grow hg7, H6.out.2.2.grow hg7⟩)
            clear hg7
            go_wp2_with fail
            go_roundw
            case rel => exact ⟨k + 1, by omega, by go_num, s2, H7.out.2.1, H7.out.2.2, H7.out.1, CNT.out⟩
            case measure => simp [intOf]; omega
          have b1 : (kk == 1) = false := by simpa using h1
          have b2 : (kk == 2) = false := by simpa using h2
          have CNT := Lib.hid (show s.gone.length + s.L.length ≤ k + 1 by omega)
          have H6 := Lib.hid (And.intro HBA.out (And.intro HSA.out HMA.out))
          go_wp2_with fail
          refine (alike_any H6.out.2.1 H6.out.2.2).mono ?_
          rintro e w7 ⟨rfl, hg7⟩
          have H7 := Lib.hid (show Below w.heap.size w w7 ∧ RingAt w7 w.heap.size r g cap pol s ∧ MAt w7 w.heap.size m cap pol s from ⟨Below.trans H6.out.1 (hg7.mono H6.out.1.size), H6.out.2.1.grow hg7, H6.out.2.2.grow hg7⟩)
          clear hg7
          go_wp2_with fail
          go_roundw
          case rel => exact ⟨k + 1, by omega, by go_num, s, H7.out.2.1, H7.out.2.2, H7.out.1, CNT.out⟩
          case measure => simp [intOf]; omega
        · have kn : ¬ (k : Int) < (n : Int) := by omega
          go_wp2
          go_ret
          exact ⟨rfl, HB.out⟩
end Go.Proofs.Ytdicgpbdfnlniaa
