/- Texts of the proof, merged: HuntB, HuntC. -/
import Derived.Test.YtnhmdinpfcoebaaGreatDoorM16
/-! === HuntB -/
section
/- A hunter hunts: the walk. -/
namespace Go.Proofs.YtnhmdinpfcoebaaGreatDoor
open Go.RowKit
set_option linter.unusedVariables false
set_option linter.unusedSimpArgs false
set_option maxRecDepth 100000

attribute [local irreducible] EvAt told GotR Top.frameP
/-- What a frame's reading gives. -/
def FrV (x : Top.Got (Nat × List Top.Ev)) (p q b er : Nat) (es : List Top.Ev) (v : Value) (w : World) : Prop := (er = 0 ∧ (∃ k, x = .yes (q, es) k ∧ b = p + k) ∧ EvAt w v es) ∨ (er ≠ 0 ∧ x = .no er)
theorem frame_uni (w : World) (tb : Nat) (s : ByteArray) (p : Nat) (hs : s.size < 2 ^ 62) (hp : p ≤ s.size) (ht : TabAt w tb) : Calls Tryz.prog 50 #[.pointer (some ⟨tb, 0, none⟩), .string s, .int .i64 p] w fun e w' =>
    ∃ (q : Nat) (A : Option Addr) (n cap b er : Nat) (es : List Top.Ev), e = .returned (.tuple #[.agg (frC q (.slice A n cap)), .int .i64 b, .int .i64 er]) ∧ FrV (Top.frameP (rest s p)) p q b er es (.slice A n cap) w' ∧ Grow w w' := by
  refine (frame_any w tb s p hs hp ht).mono ?_
  rintro e w' ⟨hq, hg⟩
  cases hx : Top.frameP (rest s p) with
  | no er =>
    obtain ⟨rfl, her⟩ := hq.is_no hx
    exact ⟨0, none, 0, 0, 0, er, [], rfl, .inr ⟨her, rfl⟩, hg⟩
  | yes x k =>
    obtain ⟨v, rfl, ho⟩ := hq.is_yes hx
    obtain ⟨A, cap, rfl, _⟩ := own_slice ho
    exact ⟨x.1, A, x.2.length, cap, p + k, 0, x.2, rfl, .inl ⟨rfl, ⟨k, rfl, rfl⟩, by unfold EvAt; exact own_mono ho (Nat.zero_le _)⟩, hg⟩
/-- What is known when a frame has been read. -/
def FrS (x : Top.Got (Nat × List Top.Ev)) (p : Nat) (s5 s6 s7 : Value) (w w' : World) : Prop :=
  ∃ (g q : Nat) (A : Option Addr) (n cap b er : Nat) (es : List Top.Ev), s5 = .pointer (some ⟨g, 0, none⟩) ∧ s6 = .int .i64 (b : Nat) ∧ s7 = .int .i64 (er : Nat) ∧ w'.heap[g]? = some (.cells (frC q (.slice A n cap)) 43 (0, 0)) ∧ FrV x p q b er es (.slice A n cap) w' ∧ Grow w w'
theorem FrV.keep {x : Top.Got (Nat × List Top.Ev)} {p q b er : Nat} {es : List Top.Ev} {v : Value} {w w' : World} (h : FrV x p q b er es v w) (hk : EvAt w v es → EvAt w' v es) : FrV x p q b er es v w' := by
  rcases h with ⟨h1, h2, h3⟩ | h
  · exact .inl ⟨h1, h2, hk h3⟩
  · exact .inr h
theorem frs_new {x : Top.Got (Nat × List Top.Ev)} {p q n cap b er : Nat} {A : Option Addr} {es : List Top.Ev} {wr wx : World} (hf : FrV x p q b er es (.slice A n cap) wx) (hg : Grow wr wx) :
    FrS x p (.pointer (some ⟨wx.heap.size, 0, none⟩)) (.int .i64 b) (.int .i64 er) wr (wx.alloc (.cells (frC q (.slice A n cap)) 43)) :=
  ⟨wx.heap.size, q, A, n, cap, b, er, es, rfl, rfl, rfl, heapAt_alloc_new _ _, hf.keep fun h => h.grow (Grow.alloc _ _), hg.trans (Grow.alloc _ _)⟩
theorem frs_set {x : Top.Got (Nat × List Top.Ev)} {p q n cap b er g : Nat} {A : Option Addr} {es : List Top.Ev} {wr w1 wx : World} (hf : FrV x p q b er es (.slice A n cap) wx) (h1 : Grow wr w1) (hg : Grow w1 wx) (hn : wr.heap.size ≤ g) (hb : wx.heap[g]? = some (.cells (frC 0 (.slice none 0 0)) 43 (0, 0))) :
    FrS x p (.pointer (some ⟨g, 0, none⟩)) (.int .i64 b) (.int .i64 er) wr ((wx.setCell ⟨g, 0, none⟩ (.int .u32 q)).setCell ⟨g, 1, none⟩ (.slice A n cap)) := by
  have ho : Only g wx ((wx.setCell ⟨g, 0, none⟩ (.int .u32 q)).setCell ⟨g, 1, none⟩ (.slice A n cap)) := ((Only.refl g wx).setCell 0 _).setCell 1 _
  exact ⟨g, q, A, n, cap, b, er, es, rfl, rfl, rfl, by simpa using set_whole (set_whole hb 0 (.int .u32 q)) 1 (.slice A n cap), hf.keep fun h => h.only ho hb (by decide), (h1.trans hg).only ho hn⟩
theorem own_reads {w : World} {B s n : Nat} {e : TypeId} {v : Value} {xs : List Value} (h : w.ownsRow B e s v n xs) : ∃ A cap, v = .slice A n cap ∧ Reads w w.heap.size s A n xs := by
  obtain ⟨A, cap, rfl, _⟩ := own_slice h
  refine ⟨A, cap, rfl, h.1, fun hn => ?_⟩
  obtain ⟨b, c2, cur, h1, _, hb, _, hc⟩ := own_at h hn
  injection h1 with h1 _ _
  subst h1
  refine ⟨_, rfl, heapAt_lt hb, fun j u hu => ?_⟩
  have e8 : (⟨b, 0, none⟩ : Addr).add j = ⟨b, j, none⟩ := by unfold Addr.add; split <;> simp_all
  rw [e8]; exact hc j u hu
theorem itsC_one : ∀ (L : List (Top.It × Value)), (∀ p ∈ L, p.2.oneCell' = true) → ∀ u ∈ itsC L, u.oneCell' = true
  | [], _, u, hu => by cases hu
  | p :: l, h, u, hu => by
    rw [itsC, List.mem_append] at hu
    rcases hu with hu | hu
    · exact itL_one (h p (List.mem_cons_self ..)) u hu
    · exact itsC_one l (fun q hq => h q (List.mem_cons_of_mem _ hq)) u hu
theorem frame_bd {l : Top.Bytes} {q k : Nat} {es : List Top.Ev} (h : Top.frameP l = .yes (q, es) k) : q ≤ 4294967295 ∧ 0 < k ∧ k ≤ l.length := by
  refine ⟨?_, Top.frameP_pos h, Top.frameP_reads.len _ _ _ h⟩
  rw [frame_eq] at h
  obtain ⟨x, j, i, h1, h2, _⟩ := Top.seqP_yes h
  have hb := header_bd h1
  obtain ⟨_, _, _, _, h3, _⟩ := Top.seqP_yes h2
  obtain ⟨_, _, h4⟩ := Top.okP_yes h3
  split at h4
  · cases h4
  · split at h4
    · injection h4 with h4; injection h4 with h4 _; omega
    · cases h4
theorem its_out {w : World} {base : Nat} {v : Value} {its : List Top.It} (h : ItsAt w base v its) : ∃ L : List (Top.It × Value), L.map Prod.fst = its ∧ w.ownsRow base 85 4 v L.length (itsC L) ∧ ∀ p ∈ L, EvAt w p.2 p.1.es := h
theorem told_len (n seq : Nat) (es : List Top.Ev) : (told n seq es).length ≤ 2 := by unfold told; split <;> simp
def addH (acc : List Top.It) (r : Top.Hu) : Top.Hu := { r with out := acc ++ r.out }
/-- What a hunter is, when it has hunted. -/
def HuP (w : World) (h tb : Nat) (r : Top.Hu) (c : Bool) : Prop := ∃ t : ByteArray, t.data.toList = r.text ∧ HuAt w h tb t r.next r.skipped r.lost c ∧ r.lost ≤ r.next
/-- The world while a hunter hunts. -/
structure HX (w wr : World) (h tb : Nat) (t : ByteArray) (c : Bool) (R : Top.Hu) (out : Value) (at_ n s l : Nat) (acc : List Top.It) : Prop where
  hu : HuAt wr h tb t n s l c
  it : ItsAt wr w.heap.size out acc
  o : Only h w wr
  le : at_ ≤ t.size
  len : acc.length ≤ 2 * at_
  ll : l ≤ n
  eq : R = addH acc (Top.hunt c (rest t at_) n s l)
theorem HX.grow {w wr w' : World} {h tb at_ n s l : Nat} {t : ByteArray} {c : Bool} {R : Top.Hu} {out : Value} {acc : List Top.It} (x : HX w wr h tb t c R out at_ n s l acc) (hg : Grow wr w') : HX w w' h tb t c R out at_ n s l acc :=
  ⟨x.hu.grow hg, x.it.grow hg, x.o.after hg, x.le, x.len, x.ll, x.eq⟩
theorem HX.skip {w wr : World} {h tb at_ n s l : Nat} {t : ByteArray} {c : Bool} {R : Top.Hu} {out : Value} {acc : List Top.It} (x : HX w wr h tb t c R out at_ n s l acc) (hlt : at_ < t.size)
    (hk : (∃ e, Top.frameP (rest t at_) = .no e ∧ ¬ (e = 2 ∧ c = false)) ∨ ∃ y k, Top.frameP (rest t at_) = .yes y k ∧ y.1 < n) :
    ∀ w', Only h wr w' → w'.heap[h]? = some (.cells #[.pointer (some ⟨tb, 0, none⟩), .string t, .int .u64 n, .int .u64 ((s + 1 : Nat) : Int), .int .u64 l, .bool c] 87 (0, 0)) → s + 1 < 2 ^ 40 → HX w w' h tb t c R out (at_ + 1) n (s + 1) l acc := by
  intro w' ho hb hs
  refine ⟨x.hu.set hb ho x.hu.n ⟨hs, x.hu.s.2⟩, x.it.only ho x.hu.b (by decide) (by decide), x.o.trans ho, hlt, by have := x.len; omega, x.ll, ?_⟩
  rw [x.eq, Top.hunt_skip (by intro h0; have h1 := congrArg List.length h0; rw [rest_len] at h1; simp at h1; omega) hk, rest_add]
theorem HX.done {w wr : World} {h tb at_ n s l : Nat} {t : ByteArray} {c : Bool} {R : Top.Hu} {out : Value} {acc : List Top.It} (x : HX w wr h tb t c R out at_ n s l acc) (hw : Top.hunt c (rest t at_) n s l = ⟨[], rest t at_, n, s, l⟩) :
    ∀ w', Only h wr w' → w'.heap[h]? = some (.cells #[.pointer (some ⟨tb, 0, none⟩), .string (t.extract at_ t.size), .int .u64 n, .int .u64 s, .int .u64 l, .bool c] 87 (0, 0)) → Gives (fun u => ItsAt w' w.heap.size u R.out) (.returned out) ∧ HuP w' h tb R c ∧ Only h w w' := by
  intro w' ho hb
  have he : R = ⟨acc, rest t at_, n, s, l⟩ := by rw [x.eq, hw]; simp [addH]
  subst he
  have hl : (t.extract at_ t.size).data.toList = rest t at_ := by rw [extract_list, List.take_of_length_le (by rw [rest_len]; omega)]
  refine ⟨⟨out, rfl, x.it.only ho x.hu.b (by decide) (by decide)⟩, ⟨t.extract at_ t.size, hl, x.hu.set hb ho x.hu.n ⟨x.hu.s.1, ?_⟩, x.ll⟩, x.o.trans ho⟩
  have := x.hu.s.2
  rw [ByteArray.size_extract]; omega
theorem ItsAt.app {w w' : World} {base : Nat} {v v' : Value} {a b : List Top.It} (L1 L2 : List (Top.It × Value)) (e1 : L1.map Prod.fst = a) (e2 : L2.map Prod.fst = b) (o1 : w.ownsRow base 85 4 v L1.length (itsC L1)) (v1 : ∀ p ∈ L1, EvAt w p.2 p.1.es) (v2 : ∀ p ∈ L2, EvAt w p.2 p.1.es)
    (ho : w'.ownsRow base 85 4 v' (L1.length + L2.length) (itsC L1 ++ itsC L2)) (hg : w.grownBy w' v.ownBlock) : ItsAt w' base v' (a ++ b) :=
  its_mk (L1 ++ L2) (by rw [List.map_append, e1, e2]) (by rw [List.length_append]) (by rw [itsC_append]; exact ho) fun p hp => by
    rcases List.mem_append.1 hp with h | h
    · exact (v1 p h).grown o1 hg (by decide)
    · exact (v2 p h).grown o1 hg (by decide)
theorem HX.tells {w wr w5 w6 : World} {h tb at_ n s l q k : Nat} {t : ByteArray} {c : Bool} {R : Top.Hu} {out out' : Value} {acc : List Top.It} {es : List Top.Ev} (x : HX w wr h tb t c R out at_ n s l acc) (hk : Top.frameP (rest t at_) = .yes (q, es) k) (hq : n ≤ q) (hlt : at_ < t.size)
    (hu : HuAt w5 h tb t (q + 1) s (l + (q - n)) c) (ho : Only h wr w5) (L1 : List (Top.It × Value)) (o1 : w5.ownsRow w.heap.size 85 4 out L1.length (itsC L1)) (hg : w5.grownBy w6 out.ownBlock) (hit : ItsAt w6 w.heap.size out' (acc ++ told n q es)) : HX w w6 h tb t c R out' (at_ + k) (q + 1) s (l + (q - n)) (acc ++ told n q es) := by
  have hb := frame_bd hk
  rw [rest_len] at hb
  refine ⟨hu.grown o1 hg (by decide) (by decide), hit, only_grown (x.o.trans ho) o1 (Nat.le_refl _) hg, by omega, ?_, by have := x.ll; omega, ?_⟩
  · rw [List.length_append]; have := told_len n q es; have := x.len; omega
  · rw [x.eq, Top.hunt_take (by intro h0; have h1 := congrArg List.length h0; rw [rest_len] at h1; simp at h1; omega) hk hq, rest_add]
    simp [addH, told]
attribute [local irreducible] ItsAt
set_option maxHeartbeats 4000000 in
theorem hunt_any (w : World) (h tb n s l : Nat) (t : ByteArray) (c : Bool) (hh : HuAt w h tb t n s l c) (hl : l ≤ n) (hb : s + t.size < 2 ^ 40) : Calls Tryz.prog 32 #[.pointer (some ⟨h, 0, none⟩)] w fun e w' =>
    Gives (fun u => ItsAt w' w.heap.size u (Top.hunt c t.data.toList n s l).out) e ∧ HuP w' h tb (Top.hunt c t.data.toList n s l) c ∧ Only h w w' := by
  obtain ⟨R, hR⟩ : ∃ R, R = Top.hunt c t.data.toList n s l := ⟨_, rfl⟩
  rw [← hR]
  have HB := Lib.hid hb; clear hb
  obtain ⟨i0, hi, hz0, hz1, hz2⟩ := info_parts info85z
  have HI0 := Lib.hid hi; clear hi
  have HZ0 := Lib.hid hz0; clear hz0
  have HZ1 := Lib.hid hz1; clear hz1
  have HZ2 := Lib.hid hz2; clear hz2
  have HX0 := Lib.hid (show HX w w h tb t c R (.slice none 0 0) 0 n s l [] from ⟨hh, ItsAt.nil w _, Only.refl _ _, Nat.zero_le _, Nat.zero_le _, hl, by rw [hR]; rfl⟩)
  clear hR hh hl
  go_enter Tryz.func32, Tryz.ntmps32
  go_wp2_with fail
  go_step3
  go_wp2_with fail
  go_step3
  go_wp2_with fail
  go_loopw [3, 4] (fun out a wr => ∃ at_ n' s' l' acc, a = .int .i64 (at_ : Nat) ∧ HX w wr h tb t c R out at_ n' s' l' acc ∧ s' + (t.size - at_) ≤ s + t.size) (fun _ a _ => t.size - (intOf a).toNat)
  case atStart => exact ⟨0, n, s, l, [], rfl, HX0.out, Nat.le_refl _⟩
  case round =>
    obtain ⟨at_, n', s', l', acc, rfl, hx, hs⟩ := hrel
    have HX1 := Lib.hid hx; clear hx
    have HSB := Lib.hid hs; clear hs
    have c1 := cell_block HX1.out.hu.b 1
    simp at c1
    by_cases hlt : at_ < t.size
    · have hlti : (at_ : Int) < t.size := by omega
      have HLT := Lib.hid hlt
      go_upto_region 4 with (fail)
      have c0 := cell_block HX1.out.hu.b 0
      simp at c0
      have HB1 := Lib.hid (show t.size < 2 ^ 62 by have := HX1.out.hu.s.2; omega)
      go_cut [5, 6, 7] (fun s5 s6 s7 wx => FrS (Top.frameP (rest t at_)) at_ s5 s6 s7 wr wx)
      case first =>
        have HT2 := Lib.hid (HX1.out.hu.t.grow (Grow.alloc wr (.cells #[.int .u32 0, .slice none 0 0] 43)))
        have HBX := Lib.hid (heapAt_alloc_new wr (.cells #[.int .u32 0, .slice none 0 0] 43))
        have HX1b := Lib.hid (HX1.out.hu.grow (Grow.alloc wr (.cells #[.int .u32 0, .slice none 0 0] 43)))
        have d0 := cell_block HX1b.out.b 0
        have d1 := cell_block HX1b.out.b 1
        simp at d0 d1
        go_region_with (first
          | (go_at_call 50; refine (frame_uni _ tb t at_ (by exact HB1.out) (by exact Nat.le_of_lt HLT.out) (by exact HX1.out.hu.t)).mono ?_; rintro e wx ⟨q, A, m, cp, b, er, es, rfl, hf, hg⟩; have HF := Lib.hid hf; have HG := Lib.hid (show Grow wr wx from Grow.trans (show Grow wr wr.drew from Grow.drewN wr 1) hg); clear hf hg)
          | (go_at_call 50; refine (frame_uni _ tb t at_ (by exact HB1.out) (by exact Nat.le_of_lt HLT.out) (by exact HT2.out)).mono ?_; rintro e wx ⟨q, A, m, cp, b, er, es, rfl, hf, hg⟩; have HF := Lib.hid hf; have HG := Lib.hid (show Grow (wr.alloc (.cells #[.int .u32 0, .slice none 0 0] 43)) wx from Grow.trans (show Grow _ (World.drew _) from Grow.drewN _ 1) hg); have HBY := Lib.hid (HG.out.at HBX.out); have y0 := cell_block HBY.out 0; have y1 := cell_block HBY.out 1; have x0 := free_block HBY.out 0; have x1 := free_block HBY.out 1; simp at y0 y1; clear hf hg))
        all_goals
          go_wp2_with fail
          go_meet
          first
            | exact frs_new HF.out HG.out
            | exact frs_set HF.out (Grow.alloc wr (.cells #[.int .u32 0, .slice none 0 0] 43)) HG.out (Nat.le_refl _) HBY.out
      case rest =>
        obtain ⟨g, q, A, m, cp, b, er, es, rfl, rfl, rfl, hbx, hfv, hg⟩ := hcut
        have HBX := Lib.hid hbx; clear hbx
        have HX2 := Lib.hid (HX1.out.grow hg); clear hg c0 c1
        have c2 := cell_block HX2.out.hu.b 2
        have c5 := cell_block HX2.out.hu.b 5
        have b0 := cell_block HBX.out 0
        simp at c2 c5 b0
        rcases hfv with ⟨rfl, ⟨k, hk, rfl⟩, hev⟩ | ⟨her, hk⟩
        · rw [show ((0 : Nat) : Int) = 0 from rfl]
          have HK := Lib.hid hk; clear hk
          have HEV := Lib.hid hev; clear hev
          have HBD := Lib.hid (frame_bd HK.out)
          have i1 : IntKind.u64.wrap (q : Int) = q := by rw [wrap_u64n]; have := HBD.out; omega
          have hq1 : (q : Int) ≤ 4294967295 := by have := HBD.out; omega
          by_cases hqn : q < n'
          · have hqi : (q : Int) < (n' : Int) := by omega
            have HSK := Lib.hid (HX2.out.skip HLT.out (.inr ⟨_, _, HK.out, hqn⟩))
            clear hqn
            go_upto_region 6 with (fail)
            go_quiet (fail)
            have HB3 := Lib.hid (show (wc.drewN nq).heap[h]? = _ from HX2.out.hu.b)
            have c3 := cell_block HB3.out 3
            simp at c3
            have hs0 : (0 : Int) ≤ (s' : Int) := by omega
            have hs1 : (s' : Int) ≤ 1099511627776 := by have := HX2.out.hu.s.1; omega
            have hat : (at_ : Int) ≤ 1099511627776 := by have := HX2.out.hu.s.2; omega
            go_wp2_with (first
              | ((with_reducible refine store_in rfl 53 _ _ rfl h 3 87 _ #[.pointer (some ⟨tb, 0, none⟩), .string t, .int .u64 n', .int .u64 ((s' + 1 : Nat) : Int), .int .u64 l', .bool c] (.int .u64 ((s' : Int) + 1)) info53 HB3.out rfl ?_ ?_ ?_ ?_ ?_); (· rfl); (· rfl); (· simp); (· rfl); intro w4 hw4 hb4 ho4; clear hw4))
            simp only [Act.put, List.setIfInBounds_toArray, List.set_cons_zero, List.set_cons_succ]
            go_roundw
            case rel => exact ⟨at_ + 1, n', s' + 1, l', acc, by go_num, HSK.out _ (Only.before (Grow.drewN wc nq) ho4) hb4 (by have := HSB.out; have := HB.out; omega), by have := HSB.out; omega⟩
            case measure => simp [intOf]; omega
          · have hqi : ¬ (q : Int) < (n' : Int) := by omega
            have HQN := Lib.hid (show n' ≤ q by omega); clear hqn
            go_upto_region 6 with (fail)
            go_quiet (fail)
            have HX3 := Lib.hid (HX2.out.grow (Grow.drewN wc nq))
            have HEV3 := Lib.hid (HEV.out.grow (Grow.drewN wc nq))
            have HBX3 := Lib.hid (show (wc.drewN nq).heap[g]? = _ from HBX.out)
            generalize wc.drewN nq = wd at HX3 HEV3 HBX3 ⊢
            clear i1 hq1 hqi c2 c5 b0
            go_wp2_with (first | ((with_reducible refine wpList_load_blk rfl 43 _ rfl g 43 (frC q (.slice A m cp)) _ ?_ HBX3.out Tryz.underlying43 rfl (info43 ..) ?_); (· rfl)))
            refine (tell_any wd h tb n' s' l' q t c (.slice A m cp) es HX3.out.hu HEV3.out HQN.out HBD.out.1 HX3.out.ll).mono ?_
            rintro _ w5 ⟨⟨u, rfl, hit⟩, hu5, ho5⟩
            obtain ⟨L1, e1, o1, v1⟩ := its_out HX3.out.it
            obtain ⟨L2, e2, o2, v2⟩ := its_out hit
            obtain ⟨A2, cp2, rfl, hr2⟩ := own_reads o2
            have HU5 := Lib.hid hu5; clear hu5
            have HO5 := Lib.hid ho5; clear ho5
            have HE := Lib.hid (And.intro e1 e2)
            have HO1 := Lib.hid (own_only o1 HO5.out HX3.out.hu.b (by decide))
            have HV1 := Lib.hid (fun p (hp : p ∈ L1) => (v1 p hp).only HO5.out HX3.out.hu.b (by decide))
            have HV2 := Lib.hid v2
            have HR2 := Lib.hid hr2
            have HL1 := Lib.hid (show L1.length ≤ 2 * at_ by have := HX3.out.len; rw [← e1, List.length_map] at this; exact this)
            have HL2 := Lib.hid (show L2.length ≤ 2 by have := told_len n' q es; rw [← e2, List.length_map] at this; exact this)
            have HTS := Lib.hid HX3.out.hu.s.2
            have HBW := Lib.hid (show w.heap.size ≤ w5.heap.size from Nat.le_trans HX3.out.o.2.2.2.1 HO5.out.2.2.2.1)
            clear e1 e2 o1 o2 v1 v2 hr2 hit
            generalize hl1 : L1.length = n1 at *
            have HN1 := Lib.hid hl1; clear hl1
            generalize hl2 : L2.length = n2 at *
            have HN2 := Lib.hid hl2; clear hl2
            go_wp2_with (at_builtin; refine wpList_append_any _ rfl (.tmp 61) (.tmp 64) 37 rfl w.heap.size 85 i0 _ 4 40 Tryz.underlying37 HI0.out HZ0.out HZ1.out HZ2.out rfl (by decide) _ n1 (itsC L1) (by rfl) HO1.out _ A2 n2 cp2 (itsC L2) (by rfl) HR2.out (itsC_one L2 fun p hp => (HV2.out p hp).one) ?c4 ?c5 ?c6 ?c7)
            case c4 => have := HL1.out; have := HL2.out; have := HTS.out; have := HLT.out; unfold maxLen; omega
            case c5 => have := HL1.out; have := HL2.out; have := HTS.out; have := HLT.out; omega
            case c6 => exact HBW.out
            case c7 =>
              intro v' w6 hown hgr hblk
              have HX6 := Lib.hid (HX3.out.tells HK.out HQN.out HLT.out HU5.out HO5.out L1 (by rw [HN1.out]; exact HO1.out) hgr (ItsAt.app L1 L2 HE.out.1 HE.out.2 (by rw [HN1.out]; exact HO1.out) HV1.out HV2.out (by rw [HN1.out, HN2.out]; exact hown) hgr))
              clear hown hgr hblk
              go_wp2_with fail
              go_roundw
              case rel => exact ⟨at_ + k, q + 1, s', l' + (q - n'), _, by go_num, HX6.out, by have := HSB.out; omega⟩
              case measure => have := HBD.out; simp [intOf]; omega
        · have hne : ¬ (er : Int) = 0 := by omega
          have hneb : ((er : Int) != 0) = true := by simpa using hne
          by_cases h2 : er = 2
          · subst h2
            cases c
            · have HDN := Lib.hid (HX2.out.done (Top.hunt_wait (by intro h0; have h1 := congrArg List.length h0; rw [rest_len] at h1; simp at h1; omega) hk))
              have HB5 := Lib.hid HX2.out.hu.b
              have c1 := cell_block HB5.out 1
              simp at c1
              have hat0 : (0 : Int) ≤ (at_ : Int) := by omega
              have hat1 : (at_ : Int) ≤ t.size := by omega
              clear hk her
              go_wp2_with (first
                | ((with_reducible refine store_in rfl 9 _ _ rfl h 1 87 _ #[.pointer (some ⟨tb, 0, none⟩), .string (t.extract at_ t.size), .int .u64 n', .int .u64 s', .int .u64 l', .bool false] (.string (t.extract at_ t.size)) info9 HB5.out rfl ?_ ?_ ?_ ?_ ?_); (· rfl); (· rfl); (· simp); (· rfl); intro w4 hw4 hb4 ho4; clear hw4))
              try rw [Exit.noGoto_ret]
              go_ret
              exact HDN.out _ ho4 hb4
            · have HSK := Lib.hid (HX2.out.skip HLT.out (.inl ⟨_, hk, fun h => by cases h.2⟩))
              clear hk her
              go_upto_region 6 with (fail)
              go_quiet (fail)
              have HB3 := Lib.hid (show (wc.drewN nq).heap[h]? = _ from HX2.out.hu.b)
              have c3 := cell_block HB3.out 3
              simp at c3
              have hs0 : (0 : Int) ≤ (s' : Int) := by omega
              have hs1 : (s' : Int) ≤ 1099511627776 := by have := HX2.out.hu.s.1; omega
              have hat : (at_ : Int) ≤ 1099511627776 := by have := HX2.out.hu.s.2; omega
              go_wp2_with (first
                | ((with_reducible refine store_in rfl 53 _ _ rfl h 3 87 _ #[.pointer (some ⟨tb, 0, none⟩), .string t, .int .u64 n', .int .u64 ((s' + 1 : Nat) : Int), .int .u64 l', .bool true] (.int .u64 ((s' : Int) + 1)) info53 HB3.out rfl ?_ ?_ ?_ ?_ ?_); (· rfl); (· rfl); (· simp); (· rfl); intro w4 hw4 hb4 ho4; clear hw4))
              simp only [Act.put, List.setIfInBounds_toArray, List.set_cons_zero, List.set_cons_succ]
              go_roundw
              case rel => exact ⟨at_ + 1, n', s' + 1, l', acc, by go_num, HSK.out _ (Only.before (Grow.drewN wc nq) ho4) hb4 (by have := HSB.out; have := HB.out; omega), by have := HSB.out; omega⟩
              case measure => simp [intOf]; omega
          · have h2i : ¬ (er : Int) = 2 := by omega
            have h2b : ((er : Int) == 2) = false := by simpa using h2i
            have HSK := Lib.hid (HX2.out.skip HLT.out (.inl ⟨_, hk, fun h => h2 h.1⟩))
            clear hk her h2
            go_upto_region 6 with (fail)
            go_quiet (fail)
            have HB3 := Lib.hid (show (wc.drewN nq).heap[h]? = _ from HX2.out.hu.b)
            have c3 := cell_block HB3.out 3
            simp at c3
            have hs0 : (0 : Int) ≤ (s' : Int) := by omega
            have hs1 : (s' : Int) ≤ 1099511627776 := by have := HX2.out.hu.s.1; omega
            have hat : (at_ : Int) ≤ 1099511627776 := by have := HX2.out.hu.s.2; omega
            go_wp2_with (first
              | ((with_reducible refine store_in rfl 53 _ _ rfl h 3 87 _ #[.pointer (some ⟨tb, 0, none⟩), .string t, .int .u64 n', .int .u64 ((s' + 1 : Nat) : Int), .int .u64 l', .bool c] (.int .u64 ((s' : Int) + 1)) info53 HB3.out rfl ?_ ?_ ?_ ?_ ?_); (· rfl); (· rfl); (· simp); (· rfl); intro w4 hw4 hb4 ho4; clear hw4))
            simp only [Act.put, List.setIfInBounds_toArray, List.set_cons_zero, List.set_cons_succ]
            go_roundw
            case rel => exact ⟨at_ + 1, n', s' + 1, l', acc, by go_num, HSK.out _ (Only.before (Grow.drewN wc nq) ho4) hb4 (by have := HSB.out; have := HB.out; omega), by have := HSB.out; omega⟩
            case measure => simp [intOf]; omega
    · have hle : ¬ (at_ : Int) < t.size := by omega
      have hat0 : (0 : Int) ≤ (at_ : Int) := by omega
      have hat1 : (at_ : Int) ≤ t.size := by have := HX1.out.le; omega
      have HDN := Lib.hid (HX1.out.done (by rw [rest_ge t at_ (by omega)]; rfl))
      have HB5 := Lib.hid HX1.out.hu.b
      clear hlt
      go_wp2_with (first
        | ((with_reducible refine store_in rfl 9 _ _ rfl h 1 87 _ #[.pointer (some ⟨tb, 0, none⟩), .string (t.extract at_ t.size), .int .u64 n', .int .u64 s', .int .u64 l', .bool c] (.string (t.extract at_ t.size)) info9 HB5.out rfl ?_ ?_ ?_ ?_ ?_); (· rfl); (· rfl); (· simp); (· rfl); intro w4 hw4 hb4 ho4; clear hw4))
      try rw [Exit.noGoto_ret]
      go_ret
      exact HDN.out _ ho4 hb4
end Go.Proofs.YtnhmdinpfcoebaaGreatDoor
end

/-! === HuntC -/
section
/- A hunter's calls: New, Feed, Close, Skipped: the walks. -/
namespace Go.Proofs.YtnhmdinpfcoebaaGreatDoor
open Go.RowKit
set_option linter.unusedVariables false
set_option linter.unusedSimpArgs false
set_option maxRecDepth 100000

attribute [local irreducible] ItsAt EvAt HuP Top.hunt TabAt
theorem hnew_any (w : World) (tb : Nat) (ht : TabAt w tb) : Calls Tryz.prog 7 #[.pointer (some ⟨tb, 0, none⟩)] w fun e w' =>
    e = .returned (.tuple #[.pointer (some ⟨w.heap.size, 0, none⟩), .int .i64 0]) ∧ HuAt w' w.heap.size tb ByteArray.empty 0 0 0 false ∧ Grow w w' := by
  have HT := Lib.hid ht; clear ht
  go_enter Tryz.func7, Tryz.ntmps7
  go_wp2
  go_ret2
  exact ⟨rfl, ⟨heapAt_alloc_new w _, HT.out.grow (Grow.alloc _ _), by decide, by decide⟩, Grow.alloc _ _⟩
theorem skipped_any {w : World} {h tb n s l : Nat} {t : ByteArray} {c : Bool} (hh : HuAt w h tb t n s l c) : Calls Tryz.prog 16 #[.pointer (some ⟨h, 0, none⟩)] w fun e w' => e = .returned (.int .u64 s) ∧ w' = w := by
  have c3 := cell_block hh.b 3
  simp at c3
  clear hh
  go_enter Tryz.func16, Tryz.ntmps16
  go_wp2
  go_ret
  exact ⟨rfl, rfl⟩
theorem list_append (a b : ByteArray) : (a ++ b).data.toList = a.data.toList ++ b.data.toList := by
  rw [ByteArray.data_append, Array.toList_append]
set_option maxHeartbeats 2000000 in
theorem feed_any {w : World} {h tb n s l : Nat} {t : ByteArray} (x : ByteArray) (hh : HuAt w h tb t n s l false) (hl : l ≤ n) (hb : s + t.size + x.size < 2 ^ 40) (hx : t.size + x.size < 2 ^ 30) : Calls Tryz.prog 13 #[.pointer (some ⟨h, 0, none⟩), .string x] w fun e w' =>
    Gives (fun u => ItsAt w' w.heap.size u (Top.hunt false (t.data.toList ++ x.data.toList) n s l).out) e ∧ HuP w' h tb (Top.hunt false (t.data.toList ++ x.data.toList) n s l) false ∧ Only h w w' := by
  have HH := Lib.hid hh
  have HL := Lib.hid hl; clear hl
  have HB := Lib.hid hb; clear hb
  have HX := Lib.hid hx
  have c1 := cell_block hh.b 1
  have c5 := cell_block hh.b 5
  simp at c1 c5
  have hx1 : t.size ≤ 1073741824 := by omega
  have hx2 : x.size ≤ 1073741824 := by omega
  clear hh hx
  go_enter Tryz.func13, Tryz.ntmps13
  go_wp2_with (first
    | ((with_reducible refine store_in rfl 9 _ _ rfl h 1 87 _ #[.pointer (some ⟨tb, 0, none⟩), .string (t ++ x), .int .u64 n, .int .u64 s, .int .u64 l, .bool false] (.string (t ++ x)) info9 HH.out.b rfl ?_ ?_ ?_ ?_ ?_); (· rfl); (· rfl); (· simp); (· rfl); intro w4 hw4 hb4 ho4; clear hw4))
  have HSZ := Lib.hid (show (t ++ x).size = t.size + x.size by simp)
  have HH4 := Lib.hid (HH.out.set hb4 ho4 HH.out.n ⟨HH.out.s.1, by rw [HSZ.out]; exact HX.out⟩)
  have HO4 := Lib.hid ho4
  clear hb4 ho4
  refine (hunt_any w4 h tb n s l (t ++ x) false HH4.out HL.out (by rw [HSZ.out]; have := HB.out; omega)).mono ?_
  rintro _ w5 ⟨⟨u, rfl, hi⟩, hp, ho⟩
  have HI := Lib.hid (hi.mono HO4.out.2.2.2.1)
  have HP := Lib.hid hp
  have HO := Lib.hid (HO4.out.trans ho)
  clear hi hp ho
  go_wp2
  go_ret
  exact ⟨⟨u, rfl, by rw [← list_append]; exact HI.out⟩, by rw [← list_append]; exact HP.out, HO.out⟩
set_option maxHeartbeats 2000000 in
theorem close_any {w : World} {h tb n s l : Nat} {t : ByteArray} (hh : HuAt w h tb t n s l false) (hl : l ≤ n) (hb : s + t.size < 2 ^ 40) : Calls Tryz.prog 44 #[.pointer (some ⟨h, 0, none⟩)] w fun e w' =>
    Gives (fun u => ItsAt w' w.heap.size u (Top.hunt true t.data.toList n s l).out) e ∧ HuP w' h tb (Top.hunt true t.data.toList n s l) true ∧ Only h w w' := by
  have HH := Lib.hid hh
  have HL := Lib.hid hl; clear hl
  have HB := Lib.hid hb; clear hb
  have c5 := cell_block hh.b 5
  simp at c5
  clear hh
  go_enter Tryz.func44, Tryz.ntmps44
  go_wp2_with (first
    | ((with_reducible refine store_in rfl 4 _ _ rfl h 5 87 _ #[.pointer (some ⟨tb, 0, none⟩), .string t, .int .u64 n, .int .u64 s, .int .u64 l, .bool true] (.bool true) info4 HH.out.b rfl ?_ ?_ ?_ ?_ ?_); (· rfl); (· rfl); (· simp); (· rfl); intro w4 hw4 hb4 ho4; clear hw4))
  have HH4 := Lib.hid (HH.out.set hb4 ho4 HH.out.n HH.out.s)
  have HO4 := Lib.hid ho4
  clear hb4 ho4
  refine (hunt_any w4 h tb n s l t true HH4.out HL.out HB.out).mono ?_
  rintro _ w5 ⟨⟨u, rfl, hi⟩, hp, ho⟩
  have HI := Lib.hid (hi.mono HO4.out.2.2.2.1)
  have HP := Lib.hid hp
  have HO := Lib.hid (HO4.out.trans ho)
  clear hi hp ho
  go_wp2
  go_ret
  exact ⟨⟨u, rfl, HI.out⟩, HP.out, HO.out⟩
end Go.Proofs.YtnhmdinpfcoebaaGreatDoor
end
