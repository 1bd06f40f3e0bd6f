/- The walk of ReadyDrains. -/
import Derived.Test.YtdfadggdegojnaaDoorApart
import Derived.Test.YtdfadggdegojnaaDoorPlainE
import Derived.BigQuiet
namespace Go.Proofs.YtdfadggdegojnaaDoor
open Go.RowKit
set_option linter.unusedVariables false
set_option linter.unusedSimpArgs false
set_option maxRecDepth 100000
def arr64 (f : Nat → Int) : Array Value := Array.ofFn (n := 64) fun i => .int .i64 (f i)
theorem arr64_size (f : Nat → Int) : (arr64 f).size = 64 := by simp [arr64]
theorem arr64_at (f : Nat → Int) (i : Nat) (h : i < 64) : (arr64 f)[i]? = some (.int .i64 (f i)) := by simp [arr64, h]
theorem lit64 : (#[.int .i64 0, .int .i64 0, .int .i64 0, .int .i64 0, .int .i64 0, .int .i64 0, .int .i64 0, .int .i64 0, .int .i64 0, .int .i64 0, .int .i64 0, .int .i64 0, .int .i64 0, .int .i64 0, .int .i64 0, .int .i64 0, .int .i64 0, .int .i64 0, .int .i64 0, .int .i64 0, .int .i64 0, .int .i64 0, .int .i64 0, .int .i64 0, .int .i64 0, .int .i64 0, .int .i64 0, .int .i64 0, .int .i64 0, .int .i64 0, .int .i64 0, .int .i64 0, .int .i64 0, .int .i64 0, .int .i64 0, .int .i64 0, .int .i64 0, .int .i64 0, .int .i64 0, .int .i64 0, .int .i64 0, .int .i64 0, .int .i64 0, .int .i64 0, .int .i64 0, .int .i64 0, .int .i64 0, .int .i64 0, .int .i64 0, .int .i64 0, .int .i64 0, .int .i64 0, .int .i64 0, .int .i64 0, .int .i64 0, .int .i64 0, .int .i64 0, .int .i64 0, .int .i64 0, .int .i64 0, .int .i64 0, .int .i64 0, .int .i64 0, .int .i64 0] : Array Value) = arr64 (fun _ => 0) := by kernel_rfl
theorem zero30 (w : World) : (zeroValue 30).run Tryd.prog w = .ok (.agg (arr64 fun _ => 0)) w := by kernel_rfl
attribute [local irreducible] ctz qCells lvl pushR cutR firstR total inR hd putR turnR removeR moveR lead rowAt r0 doR arr64
attribute [local simp] RelKnown Is
def ArrAt (w : World) (g : Nat) (f : Nat → Int) : Prop := w.heap[g]? = some (.cells (arr64 f) 30 (0, 0))
theorem ArrAt.cell {w : World} {g : Nat} {f : Nat → Int} (h : ArrAt w g f) (i : Nat) (hi : i < 64) : w.cell? ⟨g, i, none⟩ = some (.int .i64 (f i)) := by rw [cell_block h i, arr64_at f i hi]
theorem ArrAt.free {w : World} {g : Nat} {f : Nat → Int} (h : ArrAt w g f) (i : Nat) : w.frozen? ⟨g, i, none⟩ = false := free_block h i
theorem ArrAt.set {w : World} {g : Nat} {f : Nat → Int} (h : ArrAt w g f) (i : Nat) (hi : i < 64) (v : Int) : ArrAt (w.setCell ⟨g, i, none⟩ (.int .i64 v)) g (up f i v) := by
  have e : (arr64 f).setIfInBounds i (.int .i64 v) = arr64 (up f i v) := by
    apply Array.ext_getElem?
    intro j
    rw [Array.getElem?_setIfInBounds, arr64_size]
    by_cases hj : j < 64
    · skip
      by_cases e : i = j
      · subst e; rw [if_pos rfl, if_pos hj, arr64_at (up f i v) i hj, up_same]
      · rw [if_neg e, arr64_at f j hj, arr64_at (up f i v) j hj, up_other _ _ _ (fun h => e h.symm)]
    · rw [if_neg (by omega), Array.getElem?_eq_none (by rw [arr64_size]; omega), Array.getElem?_eq_none (by rw [arr64_size]; omega)]
  show (w.setCell ⟨g, i, none⟩ (.int .i64 v)).heap[g]? = _
  rw [set_block h, e]
theorem ArrAt.only {w w' : World} {g c : Nat} {f : Nat → Int} (h : ArrAt w g f) (ho : Only c w w') (hne : g ≠ c) : ArrAt w' g f := ho.at hne h
theorem ArrAt.below {w w' : World} {g : Nat} {f : Nat → Int} (h : ArrAt w g f) (hb : Below w.heap.size w w') : ArrAt w' g f := heapAt_below hb (heapAt_lt h) h
/-- The queues and the two tables. -/
structure S3 (w0 : World) (b gI gT : Nat) (L : Rows) (I T : Nat → Int) (w : World) : Prop where
  bl : Bl w0 w
  hb : w0.heap.size ≤ b
  hI : w0.heap.size ≤ gI
  hT : w0.heap.size ≤ gT
  bI : b ≠ gI
  bT : b ≠ gT
  IT : gI ≠ gT
  rq : RQ w b L
  aI : ArrAt w gI I
  aT : ArrAt w gT T
section
variable {w0 w w' : World} {b gI gT : Nat} {L : Rows} {I T : Nat → Int}
theorem S3.onQ (h : S3 w0 b gI gT L I T w) {L' : Rows} (hr : RQ w' b L') (ho : Only b w w') : S3 w0 b gI gT L' I T w' :=
  ⟨⟨h.bl.1, h.bl.2.trans (ho.below h.hb h.bl.2.size)⟩, h.hb, h.hI, h.hT, h.bI, h.bT, h.IT, hr, h.aI.only ho (fun e => h.bI e.symm), h.aT.only ho (fun e => h.bT e.symm)⟩
theorem S3.grow (h : S3 w0 b gI gT L I T w) (hg : Grow w w') : S3 w0 b gI gT L I T w' := ⟨h.bl.below hg, h.hb, h.hI, h.hT, h.bI, h.bT, h.IT, h.rq.below hg, h.aI.below hg, h.aT.below hg⟩
theorem S3.setI (h : S3 w0 b gI gT L I T w) (i : Nat) (hi : i < 64) (v : Int) : S3 w0 b gI gT L (up I i v) T (w.setCell ⟨gI, i, none⟩ (.int .i64 v)) := by
  have ho := (Only.refl gI w).setCell i (.int .i64 v)
  exact ⟨⟨h.bl.1, h.bl.2.trans (ho.below h.hI h.bl.2.size)⟩, h.hb, h.hI, h.hT, h.bI, h.bT, h.IT, h.rq.only ho h.bI, h.aI.set i hi v, h.aT.only ho (fun e => h.IT e.symm)⟩
theorem S3.setT (h : S3 w0 b gI gT L I T w) (i : Nat) (hi : i < 64) (v : Int) : S3 w0 b gI gT L I (up T i v) (w.setCell ⟨gT, i, none⟩ (.int .i64 v)) := by
  have ho := (Only.refl gT w).setCell i (.int .i64 v)
  exact ⟨⟨h.bl.1, h.bl.2.trans (ho.below h.hT h.bl.2.size)⟩, h.hb, h.hI, h.hT, h.bI, h.bT, h.IT, h.rq.only ho h.bT, h.aI.only ho h.IT, h.aT.set i hi v⟩
end
set_option maxHeartbeats 20000000 in
theorem drains_walk (A A2 : Option Addr) (n n2 cap cap2 : Nat) (M M2 : Nat → Int) (w : World) (hTb : TabAt w) (hn : (n : Int) ≤ 100) (hn2 : (n2 : Int) ≤ 100) (hcap : (n : Int) ≤ cap) (hcap2 : (n2 : Int) ≤ cap2) (hM : MemAt w A n M) (hM2 : MemAt w A2 n2 M2) : Calls Tryd.prog 3 #[.slice A n cap, .slice A2 n2 cap2] w fun e w' => e = .returned (.bool true) ∧ Bl w w' := by
  have h := Bl.refl hTb
  have HM := Lib.hid hM; clear hM
  have HM2 := Lib.hid hM2; clear hM2
  go_enter Tryd.func3, Tryd.ntmps3
  go_wp2_with fail
  refine (awake_bl _ h).mono ?_
  rintro e w2 ⟨rfl, h2⟩
  clear h
  go_wp2_with fail
  rw [show Sem.run Tryd.prog (zeroValue 29) w2 = .ok (.agg (qCells zeroS)) w2 from zero29 w2]
  have h3 := new_st w2 h2
  clear h2
  go_wp2_with fail
  rw [lit64]
  have s3 : (w2.alloc (.cells (qCells zeroS) 29)).heap.size = w2.heap.size + 1 := by simp
  generalize w2.alloc (.cells (qCells zeroS) 29) = w3 at h3 s3 ⊢
  generalize w2.heap.size = b at h3 s3 ⊢
  have a1 : ArrAt (w3.alloc (.cells (arr64 fun _ => 0) 30)) (b + 1) (fun _ => 0) := by have := heapAt_alloc_new w3 (.cells (arr64 fun _ => 0) 30); rw [s3] at this; exact this
  have b1 := h3.2.1
  have h4 := h3.grow (Grow.alloc w3 (.cells (arr64 fun _ => 0) 30))
  have s4 : (w3.alloc (.cells (arr64 fun _ => 0) 30)).heap.size = b + 1 + 1 := by simp [s3]
  clear h3 s3
  generalize w3.alloc (.cells (arr64 fun _ => 0) 30) = w4 at h4 a1 s4 ⊢
  have g1 := Grow.alloc w4 (.cells (arr64 fun _ => 0) 30)
  have a2 : ArrAt (w4.alloc (.cells (arr64 fun _ => 0) 30)) (b + 1 + 1) (fun _ => 0) := by have := heapAt_alloc_new w4 (.cells (arr64 fun _ => 0) 30); rw [s4] at this; exact this
  have h5 : S3 w b (b + 1) (b + 1 + 1) r0 (fun _ => 0) (fun _ => 0) (w4.alloc (.cells (arr64 fun _ => 0) 30)) :=
    ⟨(h4.grow g1).1, h4.2.1, by omega, by omega, by omega, by omega, by omega, (h4.grow g1).2.2, a1.below g1, a2⟩
  clear h4 g1 a1 a2 b1 s4
  generalize w4.alloc (.cells (arr64 fun _ => 0) 30) = w5 at h5 ⊢
  generalize b + 1 + 1 = gT at h5 ⊢
  generalize b + 1 = gI at h5 ⊢
  have H5 := Lib.hid h5; clear h5
  go_loopw [32] (fun i wr => ∃ k : Nat, k ≤ n ∧ i = .int .i64 k ∧ ∃ L I T, S3 w b gI gT L I T wr ∧ In L I T k) (fun i _ => n - (intOf i).toNat)
  case atStart => exact ⟨0, by omega, rfl, r0, _, _, H5.out, by unfold r0; exact In.zero⟩
  case round =>
    obtain ⟨k, hk, rfl, L, I, T, hs, hin⟩ := hrel
    have HS := Lib.hid hs; clear hs
    have HIN := Lib.hid hin; clear hin
    by_cases hlt : k < n
    · obtain ⟨a, hA, hm⟩ := (HM.out.grow HS.out.bl.2) (by omega)
      have m1 := hm k hlt
      rw [hA]
      clear hm hA
      generalize M k = tt at *
      have k0 : (0 : Int) ≤ (k : Int) := by omega
      have kn : (k : Int) < (n : Int) := by omega
      by_cases hlt2 : k < n2
      · obtain ⟨a2, hA2, hm2⟩ := (HM2.out.grow HS.out.bl.2) (by omega)
        have m2 := hm2 k hlt2
        rw [hA2]
        clear hm2 hA2
        generalize M2 k = lv at *
        have kn2 : (k : Int) < (n2 : Int) := by omega
        go_wp2_with fail
        by_cases hok : putOk L tt lv
        · have HOK := Lib.hid hok
          refine (put_ok _ b tt lv L hok HS.out.rq).mono ?_
          rintro e w6 ⟨rfl, hq6, ho6⟩
          have H6 := Lib.hid (HS.out.onQ hq6 ho6)
          clear hq6 ho6
          obtain ⟨q, hq⟩ := Int.eq_ofNat_of_zero_le hok.1
          have q64 : q < 64 := by have := hok.2.1; omega
          have hI0 := HIN.out.out q q64 (by have := hok.2.2.2.2; rw [hq] at this; exact this)
          have hp : putR L tt lv = pushR L q (Int.toNat lv) := by rw [show putR L tt lv = pushR L tt.toNat (Int.toNat lv) by unfold putR; rw [if_pos hok], hq]; rfl
          have HIN2 := Lib.hid (HIN.out.put (by omega) q64 (show Int.toNat lv < 32 by have := hok.2.2; omega) (by have := hok.2.2.2.2; rw [hq] at this; exact this))
          have hlv : ((Int.toNat lv : Nat) : Int) = lv := by have := hok.2.2; omega
          rw [hp] at H6
          subst hq
          have q0 : (0 : Int) ≤ (q : Int) := by omega
          have q1 : (q : Int) < 64 := by omega
          have cI := H6.out.aI.cell q q64
          rw [hI0] at cI
          have fI := H6.out.aI.free q
          clear hok hI0 hp
          have HLV := Lib.hid hlv; clear hlv
          have h7 := H6.out.setI q q64 ((k : Int) + 1)
          obtain ⟨w7, hw7⟩ : ∃ x, x = World.setCell w6 ⟨gI, q, none⟩ (.int .i64 ((k : Int) + 1)) := ⟨_, rfl⟩
          rw [← hw7] at h7
          have HW7 := Lib.hid hw7
          have H7 := Lib.hid h7
          clear hw7 h7
          go_upto_region 16 with fail
          rw [← HW7.out]
          clear cI fI HW7
          have cT := H7.out.aT.cell q q64
          have fT := H7.out.aT.free q
          have h8 := H7.out.setT q q64 lv
          obtain ⟨w8, hw8⟩ : ∃ x, x = World.setCell w7 ⟨gT, q, none⟩ (.int .i64 lv) := ⟨_, rfl⟩
          rw [← hw8] at h8
          have HW8 := Lib.hid hw8
          have H8 := Lib.hid h8
          clear hw8 h8
          go_upto_region 17 with fail
          rw [← HW8.out]
          clear cT fT HW8
          go_wp2_with fail
          go_roundw
          case rel => exact ⟨k + 1, by omega, by go_num, _, _, _, H8.out, by have := HIN2.out; rw [HLV.out] at this; exact this⟩
          case measure => simp [intOf]; omega
        · refine (put_no _ b tt lv L hok HS.out.rq).mono ?_
          rintro e w6 ⟨rfl, rfl⟩
          clear hok
          have HIN2 := Lib.hid HIN.out.mono
          go_wp2_with fail
          go_roundw
          case rel => exact ⟨k + 1, by omega, by go_num, _, _, _, HS.out, HIN2.out⟩
          case measure => simp [intOf]; omega
      · have kn2 : ¬ (k : Int) < (n2 : Int) := by omega
        go_wp2_with fail
        by_cases hok : putOk L tt 0
        · have HOK := Lib.hid hok
          refine (put_ok _ b tt 0 L hok HS.out.rq).mono ?_
          rintro e w6 ⟨rfl, hq6, ho6⟩
          have H6 := Lib.hid (HS.out.onQ hq6 ho6)
          clear hq6 ho6
          obtain ⟨q, hq⟩ := Int.eq_ofNat_of_zero_le hok.1
          have q64 : q < 64 := by have := hok.2.1; omega
          have hI0 := HIN.out.out q q64 (by have := hok.2.2.2.2; rw [hq] at this; exact this)
          have hp : putR L tt 0 = pushR L q (Int.toNat 0) := by rw [show putR L tt 0 = pushR L tt.toNat (Int.toNat 0) by unfold putR; rw [if_pos hok], hq]; rfl
          have HIN2 := Lib.hid (HIN.out.put (by omega) q64 (show Int.toNat 0 < 32 by have := hok.2.2; omega) (by have := hok.2.2.2.2; rw [hq] at this; exact this))
          have hlv : ((Int.toNat 0 : Nat) : Int) = 0 := by have := hok.2.2; omega
          rw [hp] at H6
          subst hq
          have q0 : (0 : Int) ≤ (q : Int) := by omega
          have q1 : (q : Int) < 64 := by omega
          have cI := H6.out.aI.cell q q64
          rw [hI0] at cI
          have fI := H6.out.aI.free q
          clear hok hI0 hp
          have HLV := Lib.hid hlv; clear hlv
          have h7 := H6.out.setI q q64 ((k : Int) + 1)
          obtain ⟨w7, hw7⟩ : ∃ x, x = World.setCell w6 ⟨gI, q, none⟩ (.int .i64 ((k : Int) + 1)) := ⟨_, rfl⟩
          rw [← hw7] at h7
          have HW7 := Lib.hid hw7
          have H7 := Lib.hid h7
          clear hw7 h7
          go_upto_region 16 with fail
          rw [← HW7.out]
          clear cI fI HW7
          have cT := H7.out.aT.cell q q64
          have fT := H7.out.aT.free q
          have h8 := H7.out.setT q q64 0
          obtain ⟨w8, hw8⟩ : ∃ x, x = World.setCell w7 ⟨gT, q, none⟩ (.int .i64 0) := ⟨_, rfl⟩
          rw [← hw8] at h8
          have HW8 := Lib.hid hw8
          have H8 := Lib.hid h8
          clear hw8 h8
          go_upto_region 17 with fail
          rw [← HW8.out]
          clear cT fT HW8
          go_wp2_with fail
          go_roundw
          case rel => exact ⟨k + 1, by omega, by go_num, _, _, _, H8.out, by have := HIN2.out; rw [HLV.out] at this; exact this⟩
          case measure => simp [intOf]; omega
        · refine (put_no _ b tt 0 L hok HS.out.rq).mono ?_
          rintro e w6 ⟨rfl, rfl⟩
          clear hok
          have HIN2 := Lib.hid HIN.out.mono
          go_wp2_with fail
          go_roundw
          case rel => exact ⟨k + 1, by omega, by go_num, _, _, _, HS.out, HIN2.out⟩
          case measure => simp [intOf]; omega
    · have kn : ¬ (k : Int) < (n : Int) := by omega
      have htot : total L ≤ 2048 := by
        obtain ⟨s, _, hp⟩ := HS.out.rq
        exact total_le hp
      have HLEN := Lib.hid (len_r _ b L HS.out.rq)
      have HOUT := Lib.hid HIN.out.out0
      go_wp2_with fail
      refine HLEN.out.mono ?_
      rintro e w' ⟨rfl, rfl⟩
      generalize htt : total L = tt at *
      have HTT := Lib.hid htt; clear htt
      go_wp2_with fail
      go_loopw [11, 71] (fun la i wq => ∃ j : Nat, j ≤ tt ∧ i = .int .i64 j ∧ ∃ (L2 : Rows) (last : Int), la = .int .i64 last ∧ S3 w b gI gT L2 I T wq ∧ Out L2 I T last ∧ total L2 + j = tt ∧ (last = -1 ∨ 0 ≤ last)) (fun _ i _ => tt - (intOf i).toNat)
      case atStart => exact ⟨0, by omega, rfl, L, -1, rfl, HS.out, HOUT.out, by rw [HTT.out]; rfl, .inl rfl⟩
      case round =>
        obtain ⟨j, hj, rfl, L2, last, rfl, hs2, ho2, ht2, hlor⟩ := hrel
        have HS2 := Lib.hid hs2; clear hs2
        have HO2 := Lib.hid ho2; clear ho2
        by_cases hjt : j < tt
        · have j0 : (0 : Int) ≤ (j : Int) := by omega
          have jn : (j : Int) < (tt : Int) := by omega
          obtain ⟨l, hl⟩ := lead_total (L := L2) (by omega)
          obtain ⟨s, hsq, hsp⟩ := HS2.out.rq
          obtain ⟨x, hf, hx, hIx, hin, hgt, hout, htot2⟩ := Out.step hsp HO2.out hl
          clear hsq hsp
          have HFI := Lib.hid (first_yes _ b l L2 hl HS2.out.bl.tab HS2.out.rq)
          rw [hf] at HFI
          have HIN2 := Lib.hid hin; clear hin
          have HGT := Lib.hid hgt; clear hgt
          have HOU := Lib.hid hout; clear hout
          have HT2 := Lib.hid (show total (removeR L2 x) + (j + 1) = tt by omega)
          clear htot2 ht2 hf hl
          have x0 : (0 : Int) ≤ (x : Int) := by omega
          have x1 : (x : Int) < 64 := by omega
          have hIb : (I x == 0) = false := by simpa using hIx
          have hNL : ¬ (0 : Int) ≤ last → last < 0 := fun h => by omega
          go_wp2_with fail
          refine HFI.out.mono ?_
          rintro e w6 ⟨rfl, kk, rfl⟩
          have H6 := Lib.hid (HS2.out.grow (Grow.drewN _ kk))
          generalize World.drewN _ kk = w6 at H6 ⊢
          have cI := H6.out.aI.cell x hx
          go_wp2_with fail
          refine (remove_ok _ b x L2 HIN2.out H6.out.rq).mono ?_
          rintro e w7 ⟨rfl, hq7, ho7⟩
          have H7 := Lib.hid (H6.out.onQ hq7 ho7)
          clear hq7 ho7 cI
          by_cases hla : 0 ≤ last
          · obtain ⟨z, rfl⟩ := Int.eq_ofNat_of_zero_le hla
            have hz := (HO2.out.gt z rfl).1
            obtain ⟨g1, g2⟩ := HGT.out z rfl
            have z1 : (z : Int) < 64 := by omega
            have ci1 := H7.out.aI.cell x hx
            have ci2 := H7.out.aI.cell z hz
            have ct1 := H7.out.aT.cell x hx
            have ct2 := H7.out.aT.cell z hz
            have HG1 := Lib.hid g1
            have HG2 := Lib.hid g2
            clear g1 g2
            by_cases hte : T x = T z
            · generalize I x = ix at *
              generalize I z = iz at *
              generalize T x = tx at *
              generalize T z = tz at *
              have g1 := HG1.out
              have g3 : ¬ ix < iz := fun h => HG2.out ⟨hte, h⟩
              have hteb : (tx == tz) = true := by simpa using hte
              go_wp2_with fail
              go_quiet (fail)
              have H8 := Lib.hid (H7.out.grow (Grow.drewN _ nq))
              go_wp2_with fail
              go_roundw
              case rel => exact ⟨j + 1, by omega, by go_num, _, _, rfl, H8.out, HOU.out, HT2.out, .inr (by omega)⟩
              case measure => simp [intOf]; omega
            · have hteb : (T x == T z) = false := by simpa using hte
              have hd1 : decide (T x < T z) = false := decide_eq_false (by have := HG1.out; omega)
              have z0 : (0 : Int) ≤ (z : Int) := by omega
              clear ci1 ci2 ct1 ct2
              go_wp2_with fail
              refine wp_region_rel _ Grow (fun wQ => S3 w b gI gT (removeR L2 x) I T wQ) [([(11, none)], none), ([(98, some 0)], none), ([(99, some 0)], none), ([(100, some 0), (13, none)], some (100, true)), ([(100, some 1), (7, none), (101, some 0)], some (100, true)), ([(100, some 2), (102, some 0)], some (100, true)), ([(100, some 3), (11, none)], some (100, true)), ([(100, some 4), (7, none), (104, some 0)], some (100, true)), ([(100, some 5), (105, some 0)], some (100, true)), ([(100, some 6), (103, some 3), (106, some 0)], some (100, true)), ([(100, some 7), (107, some 0)], some (100, true)), ([(108, some 0), (13, none)], some (108, false)), ([(108, some 1), (7, none), (109, some 0)], some (108, false)), ([(108, some 2), (110, some 0)], some (108, false)), ([(108, some 3), (11, none)], some (108, false)), ([(108, some 4), (7, none), (112, some 0)], some (108, false)), ([(108, some 5), (113, some 0)], some (108, false)), ([(108, some 6), (111, some 3), (114, some 0)], some (108, false)), ([(108, some 7), (115, some 0)], some (108, false)), ([(116, some 0), (13, none)], some (116, true)), ([(116, some 1), (6, none), (117, some 0)], some (116, true)), ([(116, some 2), (118, some 0)], some (116, true)), ([(116, some 3), (11, none)], some (116, true)), ([(116, some 4), (6, none), (120, some 0)], some (116, true)), ([(116, some 5), (121, some 0)], some (116, true)), ([(116, some 6), (119, some 3), (122, some 0)], some (116, true)), ([(108, some 15), (116, some 7), (123, some 0)], some (108, false)), ([(100, some 24), (108, some 16), (124, some 0)], some (100, true)), ([(100, some 25), (125, some 0)], none)] (by kernel_rfl) (by kernel_rfl) (H7.out.grow (Grow.drewN _ 1)) ?_
              (refine rel_pure ?_; apply Exists.intro; refine ⟨fun aR wQ hF hk => ?_, ?_⟩; focus (first | exact rel_no hk.1 rfl rfl | ((first | (refine rel_none fun K hK => ?_) | (refine rel_yes hk.1 fun K hK => ?_)); (try simp at hk); go_simp; (try rw [hd1]); (try rw [hteb]); exact hK _ _ (Grow.refl _) hF rfl)))
              (refine rel_pure ?_; apply Exists.intro; refine ⟨fun aR wQ hF hk => ?_, ?_⟩; focus (first | exact rel_no hk.1 rfl rfl | ((first | (refine rel_none fun K hK => ?_) | (refine rel_yes hk.1 fun K hK => ?_)); (try simp at hk); go_simp; (try rw [hd1]); (try rw [hteb]); exact hK _ _ (Grow.refl _) hF rfl)))
              (refine rel_pure ?_; apply Exists.intro; refine ⟨fun aR wQ hF hk => ?_, ?_⟩; focus (first | exact rel_no hk.1 rfl rfl | ((first | (refine rel_none fun K hK => ?_) | (refine rel_yes hk.1 fun K hK => ?_)); (try simp at hk); go_simp; (try rw [hd1]); (try rw [hteb]); exact hK _ _ (Grow.refl _) hF rfl)))
              (refine rel_pure ?_; apply Exists.intro; refine ⟨fun aR wQ hF hk => ?_, ?_⟩; focus (first | exact rel_no hk.1 rfl rfl | ((first | (refine rel_none fun K hK => ?_) | (refine rel_yes hk.1 fun K hK => ?_)); (try simp at hk); go_simp; (try rw [hd1]); (try rw [hteb]); exact hK _ _ (Grow.refl _) hF rfl)))
              (refine rel_pure ?_; apply Exists.intro; refine ⟨fun aR wQ hF hk => ?_, ?_⟩; focus (first | exact rel_no hk.1 rfl rfl | ((first | (refine rel_none fun K hK => ?_) | (refine rel_yes hk.1 fun K hK => ?_)); (try simp at hk); go_simp; (try rw [hd1]); (try rw [hteb]); exact hK _ _ (Grow.refl _) hF rfl)))
              (refine rel_pure ?_; apply Exists.intro; refine ⟨fun aR wQ hF hk => ?_, ?_⟩; focus (refine rel_yes hk.1 fun K hK => ?_; (try simp at hk); have c := hF.aT.cell x hx; go_simp; (try rw [hd1]); (try rw [hteb]); exact hK _ _ (Grow.refl _) hF rfl))
              (refine rel_pure ?_; apply Exists.intro; refine ⟨fun aR wQ hF hk => ?_, ?_⟩; focus (first | exact rel_no hk.1 rfl rfl | ((first | (refine rel_none fun K hK => ?_) | (refine rel_yes hk.1 fun K hK => ?_)); (try simp at hk); go_simp; (try rw [hd1]); (try rw [hteb]); exact hK _ _ (Grow.refl _) hF rfl)))
              (refine rel_pure ?_; apply Exists.intro; refine ⟨fun aR wQ hF hk => ?_, ?_⟩; focus (first | exact rel_no hk.1 rfl rfl | ((first | (refine rel_none fun K hK => ?_) | (refine rel_yes hk.1 fun K hK => ?_)); (try simp at hk); go_simp; (try rw [hd1]); (try rw [hteb]); exact hK _ _ (Grow.refl _) hF rfl)))
              (refine rel_pure ?_; apply Exists.intro; refine ⟨fun aR wQ hF hk => ?_, ?_⟩; focus (refine rel_yes hk.1 fun K hK => ?_; (try simp at hk); have c := hF.aT.cell z hz; go_simp; (try rw [hd1]); (try rw [hteb]); exact hK _ _ (Grow.refl _) hF rfl))
              (refine rel_pure ?_; apply Exists.intro; refine ⟨fun aR wQ hF hk => ?_, ?_⟩; focus (first | exact rel_no hk.1 rfl rfl | ((first | (refine rel_none fun K hK => ?_) | (refine rel_yes hk.1 fun K hK => ?_)); (try simp at hk); go_simp; (try rw [hd1]); (try rw [hteb]); exact hK _ _ (Grow.refl _) hF rfl)))
              (refine rel_pure ?_; apply Exists.intro; refine ⟨fun aR wQ hF hk => ?_, ?_⟩; focus (first | exact rel_no hk.1 rfl rfl | ((first | (refine rel_none fun K hK => ?_) | (refine rel_yes hk.1 fun K hK => ?_)); (try simp at hk); go_simp; (try rw [hd1]); (try rw [hteb]); exact hK _ _ (Grow.refl _) hF rfl)))
              (refine rel_pure ?_; apply Exists.intro; refine ⟨fun aR wQ hF hk => ?_, ?_⟩; focus (first | exact rel_no hk.1 rfl rfl | ((first | (refine rel_none fun K hK => ?_) | (refine rel_yes hk.1 fun K hK => ?_)); (try simp at hk); go_simp; (try rw [hd1]); (try rw [hteb]); exact hK _ _ (Grow.refl _) hF rfl)))
              (refine rel_pure ?_; apply Exists.intro; refine ⟨fun aR wQ hF hk => ?_, ?_⟩; focus (first | exact rel_no hk.1 rfl rfl | ((first | (refine rel_none fun K hK => ?_) | (refine rel_yes hk.1 fun K hK => ?_)); (try simp at hk); go_simp; (try rw [hd1]); (try rw [hteb]); exact hK _ _ (Grow.refl _) hF rfl)))
              (refine rel_pure ?_; apply Exists.intro; refine ⟨fun aR wQ hF hk => ?_, ?_⟩; focus (refine rel_yes hk.1 fun K hK => ?_; (try simp at hk); have c := hF.aT.cell x hx; go_simp; (try rw [hd1]); (try rw [hteb]); exact hK _ _ (Grow.refl _) hF rfl))
              (refine rel_pure ?_; apply Exists.intro; refine ⟨fun aR wQ hF hk => ?_, ?_⟩; focus (first | exact rel_no hk.1 rfl rfl | ((first | (refine rel_none fun K hK => ?_) | (refine rel_yes hk.1 fun K hK => ?_)); (try simp at hk); go_simp; (try rw [hd1]); (try rw [hteb]); exact hK _ _ (Grow.refl _) hF rfl)))
              (refine rel_pure ?_; apply Exists.intro; refine ⟨fun aR wQ hF hk => ?_, ?_⟩; focus (first | exact rel_no hk.1 rfl rfl | ((first | (refine rel_none fun K hK => ?_) | (refine rel_yes hk.1 fun K hK => ?_)); (try simp at hk); go_simp; (try rw [hd1]); (try rw [hteb]); exact hK _ _ (Grow.refl _) hF rfl)))
              (refine rel_pure ?_; apply Exists.intro; refine ⟨fun aR wQ hF hk => ?_, ?_⟩; focus (refine rel_yes hk.1 fun K hK => ?_; (try simp at hk); have c := hF.aT.cell z hz; go_simp; (try rw [hd1]); (try rw [hteb]); exact hK _ _ (Grow.refl _) hF rfl))
              (refine rel_pure ?_; apply Exists.intro; refine ⟨fun aR wQ hF hk => ?_, ?_⟩; focus (first | exact rel_no hk.1 rfl rfl | ((first | (refine rel_none fun K hK => ?_) | (refine rel_yes hk.1 fun K hK => ?_)); (try simp at hk); go_simp; (try rw [hd1]); (try rw [hteb]); exact hK _ _ (Grow.refl _) hF rfl)))
              (refine rel_pure ?_; apply Exists.intro; refine ⟨fun aR wQ hF hk => ?_, ?_⟩; focus (first | exact rel_no hk.1 rfl rfl | ((first | (refine rel_none fun K hK => ?_) | (refine rel_yes hk.1 fun K hK => ?_)); (try simp at hk); go_simp; (try rw [hd1]); (try rw [hteb]); exact hK _ _ (Grow.refl _) hF rfl)))
              (refine rel_pure ?_; apply Exists.intro; refine ⟨fun aR wQ hF hk => ?_, ?_⟩; focus (first | exact rel_no hk.1 rfl rfl | ((first | (refine rel_none fun K hK => ?_) | (refine rel_yes hk.1 fun K hK => ?_)); (try simp at hk); go_simp; (try rw [hd1]); (try rw [hteb]); exact hK _ _ (Grow.refl _) hF rfl)))
              (refine rel_pure ?_; apply Exists.intro; refine ⟨fun aR wQ hF hk => ?_, ?_⟩; focus (first | exact rel_no hk.1 rfl rfl | ((first | (refine rel_none fun K hK => ?_) | (refine rel_yes hk.1 fun K hK => ?_)); (try simp at hk); go_simp; (try rw [hd1]); (try rw [hteb]); exact hK _ _ (Grow.refl _) hF rfl)))
              (refine rel_pure ?_; apply Exists.intro; refine ⟨fun aR wQ hF hk => ?_, ?_⟩; focus (first | exact rel_no hk.1 rfl rfl | ((first | (refine rel_none fun K hK => ?_) | (refine rel_yes hk.1 fun K hK => ?_)); (try simp at hk); go_simp; (try rw [hd1]); (try rw [hteb]); exact hK _ _ (Grow.refl _) hF rfl)))
              (refine rel_pure ?_; apply Exists.intro; refine ⟨fun aR wQ hF hk => ?_, ?_⟩; focus (first | exact rel_no hk.1 rfl rfl | ((first | (refine rel_none fun K hK => ?_) | (refine rel_yes hk.1 fun K hK => ?_)); (try simp at hk); go_simp; (try rw [hd1]); (try rw [hteb]); exact hK _ _ (Grow.refl _) hF rfl)))
              (refine rel_pure ?_; apply Exists.intro; refine ⟨fun aR wQ hF hk => ?_, ?_⟩; focus (first | exact rel_no hk.1 rfl rfl | ((first | (refine rel_none fun K hK => ?_) | (refine rel_yes hk.1 fun K hK => ?_)); (try simp at hk); go_simp; (try rw [hd1]); (try rw [hteb]); exact hK _ _ (Grow.refl _) hF rfl)))
              (refine rel_pure ?_; apply Exists.intro; refine ⟨fun aR wQ hF hk => ?_, ?_⟩; focus (first | exact rel_no hk.1 rfl rfl | ((first | (refine rel_none fun K hK => ?_) | (refine rel_yes hk.1 fun K hK => ?_)); (try simp at hk); go_simp; (try rw [hd1]); (try rw [hteb]); exact hK _ _ (Grow.refl _) hF rfl)))
              (refine rel_pure ?_; apply Exists.intro; refine ⟨fun aR wQ hF hk => ?_, ?_⟩; focus (first | exact rel_no hk.1 rfl rfl | ((first | (refine rel_none fun K hK => ?_) | (refine rel_yes hk.1 fun K hK => ?_)); (try simp at hk); go_simp; (try rw [hd1]); (try rw [hteb]); exact hK _ _ (Grow.refl _) hF rfl)))
              (refine rel_pure ?_; apply Exists.intro; refine ⟨fun aR wQ hF hk => ?_, ?_⟩; focus (first | exact rel_no hk.1 rfl rfl | ((first | (refine rel_none fun K hK => ?_) | (refine rel_yes hk.1 fun K hK => ?_)); (try simp at hk); go_simp; (try rw [hd1]); (try rw [hteb]); exact hK _ _ (Grow.refl _) hF rfl)))
              (refine rel_pure ?_; apply Exists.intro; refine ⟨fun aR wQ hF hk => ?_, ?_⟩; focus (first | exact rel_no hk.1 rfl rfl | ((first | (refine rel_none fun K hK => ?_) | (refine rel_yes hk.1 fun K hK => ?_)); (try simp at hk); go_simp; (try rw [hd1]); (try rw [hteb]); exact hK _ _ (Grow.refl _) hF rfl)))
              (refine rel_pure ?_; apply Exists.intro; refine ⟨fun aR wQ hF hk => ?_, ?_⟩; focus (first | exact rel_no hk.1 rfl rfl | ((first | (refine rel_none fun K hK => ?_) | (refine rel_yes hk.1 fun K hK => ?_)); (try simp at hk); go_simp; (try rw [hd1]); (try rw [hteb]); exact hK _ _ (Grow.refl _) hF rfl)))
              refine rel_done fun wR hF => ?_
              repeat (first | (refine fun v hv => ?_; obtain rfl : v = _ := hv) | (refine fun v hv => ?_))
              simp only [Act.put, List.setIfInBounds_toArray, List.set_cons_zero, List.set_cons_succ]
              refine rel_nil ?_
              go_wp2_with fail
              go_roundw
              case rel => exact ⟨j + 1, by omega, by go_num, _, _, rfl, hF, HOU.out, HT2.out, .inr (by omega)⟩
              case measure => simp [intOf]; omega
          · have hlm : last = -1 := by omega
            subst hlm
            go_wp2_with fail
            go_quiet (fail)
            have H8 := Lib.hid (H7.out.grow (Grow.drewN _ nq))
            go_wp2_with fail
            go_roundw
            case rel => exact ⟨j + 1, by omega, by go_num, _, _, rfl, H8.out, HOU.out, HT2.out, .inr (by omega)⟩
            case measure => simp [intOf]; omega
        · have jn : ¬ (j : Int) < (tt : Int) := by omega
          have h0 : total L2 = 0 := by omega
          have HF0 := Lib.hid (first_no _ b L2 (total_lead h0) HS2.out.rq)
          have hl0 := len_r _ b L2 HS2.out.rq
          rw [h0] at hl0
          have HL0 := Lib.hid hl0; clear hl0 h0
          go_wp2_with fail
          refine HF0.out.mono ?_
          rintro e w' ⟨rfl, rfl⟩
          go_wp2_with fail
          refine HL0.out.mono ?_
          rintro e w' ⟨rfl, rfl⟩
          go_wp2
          go_ret
          exact ⟨rfl, HS2.out.bl⟩
end Go.Proofs.YtdfadggdegojnaaDoor
