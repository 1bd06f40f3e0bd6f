/- Texts of the proof, merged: HuntA, RefW, RefPrint, Same, Print6, Print7. -/
import Derived.Test.YtnhmdinpfcoebaaGreatDoorM15
import Derived.OwnWalk
import Derived.WalkMore
import Derived.KernelRfl
/-! === HuntA -/
section
/- Items and hunters in memory; what a hunter tells of a frame: the walks. -/
namespace Go.Proofs.YtnhmdinpfcoebaaGreatDoor
open Go.RowKit
set_option linter.unusedVariables false
set_option linter.unusedSimpArgs false
set_option maxRecDepth 100000

theorem own_blk {w : World} {B s n k : Nat} {e : TypeId} {v : Value} {xs : List Value} (h : w.ownsRow B e s v n xs) (hk : v.ownBlock = some k) : ∃ cur : Array Value, w.heap[k]? = some (.cells cur e (0, 0)) := by
  rcases h.2 with ⟨h1, _⟩ | ⟨g2, c, cu, h1, hB, hg, _⟩
  · rw [h1] at hk; simp [Value.ownBlock] at hk
  · have e1 : g2 = k := by rw [h1] at hk; simpa [Value.ownBlock] using hk
    subst e1
    exact ⟨cu, hg⟩
theorem at_grown {w w' : World} {B s n k t : Nat} {e : TypeId} {u : Value} {xs : List Value} {cs : Array Value} {fr : Nat × Nat} (ho : w.ownsRow B e s u n xs) (hg : w.grownBy w' u.ownBlock) (hk : w.heap[k]? = some (.cells cs t fr)) (ht : t ≠ e) : w'.heap[k]? = some (.cells cs t fr) := by
  refine (hg.block k (heapAt_lt hk) fun h => ?_).trans hk
  obtain ⟨cur, h2⟩ := own_blk ho h.symm
  rw [hk] at h2
  injection h2 with h2
  injection h2 with _ h2 _
  exact ht h2
theorem only_grown {b : Nat} {w wr w' : World} {B s n : Nat} {e : TypeId} {u : Value} {xs : List Value} (h : Only b w wr) (ho : wr.ownsRow B e s u n xs) (hb : w.heap.size ≤ B) (hg : wr.grownBy w' u.ownBlock) : Only b w w' :=
  ⟨hg.os.trans h.1, hg.tape.trans h.2.1, hg.output.trans h.2.2.1, Nat.le_trans h.2.2.2.1 hg.size, fun k hk hne => (hg.block k (Nat.lt_of_lt_of_le hk h.2.2.2.1) (fun e2 => by have := (ho.lt k e2.symm).1; omega)).trans (h.2.2.2.2 k hk hne)⟩
/-- A slice of events that is read. -/
def EvAt (w : World) (v : Value) (es : List Top.Ev) : Prop := w.ownsRow 0 98 6 v es.length (evsC es)
theorem EvAt.nil (w : World) : EvAt w (.slice none 0 0) [] := World.ownsRow_nil _ _ _ _
theorem EvAt.grow {w w' : World} {v : Value} {es : List Top.Ev} (h : EvAt w v es) (hg : Grow w w') : EvAt w' v es := own_grow h hg
theorem EvAt.keep {w w' : World} {v : Value} {es : List Top.Ev} (h : EvAt w v es) (hk : ∀ (k : Nat) (cs : Array Value), w.heap[k]? = some (.cells cs 98 (0, 0)) → w'.heap[k]? = some (.cells cs 98 (0, 0))) : EvAt w' v es :=
  own_keep h fun g hg => by
    obtain ⟨cur, h2⟩ := own_blk h hg
    rw [h2]; exact hk g cur h2
theorem EvAt.only {w w' : World} {b t : Nat} {v : Value} {es : List Top.Ev} {cs : Array Value} {fr : Nat × Nat} (h : EvAt w v es) (ho : Only b w w') (hb : w.heap[b]? = some (.cells cs t fr)) (ht : t ≠ 98) : EvAt w' v es := own_only h ho hb ht
theorem EvAt.grown {w w' : World} {v u : Value} {es : List Top.Ev} {B s n : Nat} {e : TypeId} {xs : List Value} (h : EvAt w v es) (ho : w.ownsRow B e s u n xs) (hg : w.grownBy w' u.ownBlock) (he : 98 ≠ e) : EvAt w' v es :=
  h.keep fun k cs hk => at_grown ho hg hk he
theorem EvAt.slice {w : World} {v : Value} {es : List Top.Ev} (h : EvAt w v es) : ∃ A cap, v = .slice A es.length cap ∧ es.length ≤ cap := own_slice h
theorem EvAt.one {w : World} {v : Value} {es : List Top.Ev} (h : EvAt w v es) : v.oneCell' = true := own_one h
def _root_.Go.Proofs.YtnhmdinpfcoebaaGreatDoor.Top.It.es : Top.It → List Top.Ev
  | .frame _ es => es
  | .gap _ _ => []
/-- What a frame tells, where so many were told. -/
def told (n seq : Nat) (es : List Top.Ev) : List Top.It := (if n < seq then [Top.It.gap n (seq - n)] else []) ++ [Top.It.frame seq es]
/-- A call gives a value of which this holds. -/
def Gives (P : Value → Prop) (e : Ending) : Prop := ∃ u, e = .returned u ∧ P u
/-- An item's cells. -/
abbrev itL : Top.It × Value → List Value
  | (.frame seq _, v) => [.int .i64 1, .int .u32 seq, .int .u32 0, v]
  | (.gap seq lost, v) => [.int .i64 2, .int .u32 seq, .int .u32 lost, v]
def itsC : List (Top.It × Value) → List Value
  | [] => []
  | p :: l => itL p ++ itsC l
theorem itsC_append : ∀ l m, itsC (l ++ m) = itsC l ++ itsC m
  | [], m => rfl
  | p :: l, m => by rw [List.cons_append, itsC, itsC, itsC_append l m, List.append_assoc]
theorem itL_len (p : Top.It × Value) : (itL p).length = 4 := by obtain ⟨i, v⟩ := p; cases i <;> rfl
theorem itsC_len : ∀ l, (itsC l).length = l.length * 4
  | [] => rfl
  | p :: l => by rw [itsC, List.length_append, itsC_len l, itL_len, show (p :: l).length = l.length + 1 from rfl, Nat.succ_mul]; omega
/-- A slice of items. -/
def ItsAt (w : World) (base : Nat) (v : Value) (its : List Top.It) : Prop := ∃ L : List (Top.It × Value), L.map Prod.fst = its ∧ w.ownsRow base 85 4 v L.length (itsC L) ∧ ∀ p ∈ L, EvAt w p.2 p.1.es
theorem ItsAt.nil (w : World) (base : Nat) : ItsAt w base (.slice none 0 0) [] := ⟨[], rfl, World.ownsRow_nil _ _ _ _, fun p hp => by cases hp⟩
theorem its_mk {w : World} {base m : Nat} {u : Value} {its : List Top.It} (L : List (Top.It × Value)) (h1 : L.map Prod.fst = its) (hm : m = L.length) (h2 : w.ownsRow base 85 4 u m (itsC L)) (h3 : ∀ p ∈ L, EvAt w p.2 p.1.es) : ItsAt w base u its := by subst hm; exact ⟨L, h1, h2, h3⟩
theorem ItsAt.grow {w w' : World} {base : Nat} {v : Value} {its : List Top.It} (h : ItsAt w base v its) (hg : Grow w w') : ItsAt w' base v its := by
  obtain ⟨L, h1, h2, h3⟩ := h
  exact ⟨L, h1, own_grow h2 hg, fun p hp => (h3 p hp).grow hg⟩
theorem ItsAt.mono {w : World} {base b2 : Nat} {v : Value} {its : List Top.It} (h : ItsAt w base v its) (hb : b2 ≤ base) : ItsAt w b2 v its := by
  obtain ⟨L, h1, h2, h3⟩ := h
  exact ⟨L, h1, own_mono h2 hb, h3⟩
theorem ItsAt.only {w w' : World} {base b t : Nat} {v : Value} {its : List Top.It} {cs : Array Value} {fr : Nat × Nat} (h : ItsAt w base v its) (ho : Only b w w') (hb : w.heap[b]? = some (.cells cs t fr)) (ht : t ≠ 98) (ht2 : t ≠ 85) : ItsAt w' base v its := by
  obtain ⟨L, h1, h2, h3⟩ := h
  exact ⟨L, h1, own_only h2 ho hb ht2, fun p hp => (h3 p hp).only ho hb ht⟩
theorem ItsAt.len {w : World} {base : Nat} {v : Value} {its : List Top.It} (h : ItsAt w base v its) : ∃ A cap, v = .slice A its.length cap ∧ its.length ≤ cap := by
  obtain ⟨L, h1, h2, h3⟩ := h
  obtain ⟨A, cap, h4, h5⟩ := own_slice h2
  exact ⟨A, cap, by rw [h4, ← h1, List.length_map], by rw [← h1, List.length_map]; exact h5⟩
theorem info85z : (Tryz.prog.info? 85).map (fun i => (i.zero, i.size, i.bytes)) = some (some (.agg #[.int .i64 0, .int .u32 0, .int .u32 0, .slice none 0 0]), 4, 40) := by kernel_rfl
theorem info9 : (Tryz.prog.info? 9).map (·.size) = some 1 := by kernel_rfl
theorem info4 : (Tryz.prog.info? 4).map (·.size) = some 1 := by kernel_rfl
theorem itL_one {p : Top.It × Value} (h : p.2.oneCell' = true) : ∀ u ∈ itL p, u.oneCell' = true := by
  obtain ⟨i, v⟩ := p
  intro u hu
  cases i <;> (simp only [List.mem_cons, List.not_mem_nil, or_false] at hu; rcases hu with rfl | rfl | rfl | rfl <;> first | rfl | exact h)
theorem reads_it {w : World} {b : Nat} {p : Top.It × Value} {fr : Nat × Nat} (h : w.heap[b]? = some (.cells (itL p).toArray 85 fr)) : Reads w w.heap.size 4 (some ⟨b, 0, none⟩) 1 (itL p) :=
  ⟨itL_len p, fun _ => ⟨_, rfl, heapAt_lt h, fun j u hu => by
    have e8 : (⟨b, 0, none⟩ : Addr).add j = ⟨b, j, none⟩ := by unfold Addr.add; split <;> simp_all
    rw [e8, cell_block h j, ← hu]
    simp⟩⟩
/-- A hunter. -/
structure HuAt (w : World) (h tb : Nat) (text : ByteArray) (next skipped lost : Nat) (closed : Bool) : Prop where
  b : w.heap[h]? = some (.cells #[.pointer (some ⟨tb, 0, none⟩), .string text, .int .u64 next, .int .u64 skipped, .int .u64 lost, .bool closed] 87 (0, 0))
  t : TabAt w tb
  n : next ≤ 4294967296
  s : skipped < 2 ^ 40 ∧ text.size < 2 ^ 30
theorem HuAt.grow {w w' : World} {h tb n s l : Nat} {t : ByteArray} {c : Bool} (hh : HuAt w h tb t n s l c) (hg : Grow w w') : HuAt w' h tb t n s l c := ⟨hg.at hh.b, hh.t.grow hg, hh.n, hh.s⟩
theorem HuAt.grown {w w' : World} {h tb n s l : Nat} {t : ByteArray} {c : Bool} {u : Value} {B z m : Nat} {e : TypeId} {xs : List Value} (hh : HuAt w h tb t n s l c) (ho : w.ownsRow B e z u m xs) (hg : w.grownBy w' u.ownBlock) (h1 : 87 ≠ e) (h2 : 90 ≠ e) : HuAt w' h tb t n s l c :=
  ⟨at_grown ho hg hh.b h1, at_grown ho hg hh.t h2, hh.n, hh.s⟩
theorem HuAt.set {w w' : World} {h tb n s l n' s' l' : Nat} {t t' : ByteArray} {c c' : Bool} (hh : HuAt w h tb t n s l c) (hb : w'.heap[h]? = some (.cells #[.pointer (some ⟨tb, 0, none⟩), .string t', .int .u64 n', .int .u64 s', .int .u64 l', .bool c'] 87 (0, 0))) (ho : Only h w w')
    (h1 : n' ≤ 4294967296) (h3 : s' < 2 ^ 40 ∧ t'.size < 2 ^ 30) : HuAt w' h tb t' n' s' l' c' := ⟨hb, hh.t.only ho (ty_ne hh.t hh.b (by decide)), h1, h3⟩
/-- The world while a frame is told. -/
structure TW (w wr : World) (h tb : Nat) (t : ByteArray) (n s l : Nat) (c : Bool) (g seq : Nat) (v : Value) (es : List Top.Ev) : Prop where
  hu : HuAt wr h tb t n s l c
  bx : wr.heap[g]? = some (.cells (frC seq v) 43 (0, 0))
  ev : EvAt wr v es
  o : Only h w wr
section
variable {w wr w' : World} {h tb n s l g seq : Nat} {t : ByteArray} {c : Bool} {v : Value} {es : List Top.Ev}
theorem TW.grow (x : TW w wr h tb t n s l c g seq v es) (hg : Grow wr w') : TW w w' h tb t n s l c g seq v es := ⟨x.hu.grow hg, hg.at x.bx, x.ev.grow hg, x.o.after hg⟩
theorem TW.grown {u : Value} {B m : Nat} {xs : List Value} (x : TW w wr h tb t n s l c g seq v es) (ho : wr.ownsRow B 85 4 u m xs) (hB : w.heap.size ≤ B) (hg : wr.grownBy w' u.ownBlock) : TW w w' h tb t n s l c g seq v es :=
  ⟨x.hu.grown ho hg (by decide) (by decide), at_grown ho hg x.bx (by decide), x.ev.grown ho hg (by decide), only_grown x.o ho hB hg⟩
theorem TW.set {n' s' l' : Nat} {t' : ByteArray} {c' : Bool} (x : TW w wr h tb t n s l c g seq v es) (hb : w'.heap[h]? = some (.cells #[.pointer (some ⟨tb, 0, none⟩), .string t', .int .u64 n', .int .u64 s', .int .u64 l', .bool c'] 87 (0, 0))) (ho : Only h wr w')
    (h1 : n' ≤ 4294967296) (h3 : s' < 2 ^ 40 ∧ t'.size < 2 ^ 30) : TW w w' h tb t' n' s' l' c' g seq v es :=
  ⟨x.hu.set hb ho h1 h3, ho.at (ty_ne x.bx x.hu.b (by decide)) x.bx, x.ev.only ho x.hu.b (by decide), x.o.trans ho⟩
end

attribute [local irreducible] TabAt EvAt told
set_option maxHeartbeats 4000000 in
theorem tell_any (w : World) (h tb n s l seq : Nat) (t : ByteArray) (c : Bool) (v : Value) (es : List Top.Ev) (hh : HuAt w h tb t n s l c) (hv : EvAt w v es) (hn : n ≤ seq) (hs : seq ≤ 4294967295) (hl : l ≤ n) :
    Calls Tryz.prog 51 #[.pointer (some ⟨h, 0, none⟩), .agg (frC seq v)] w fun e w' => Gives (fun u => ItsAt w' w.heap.size u (told n seq es)) e ∧ HuAt w' h tb t (seq + 1) s (l + (seq - n)) c ∧ Only h w w' := by
  have HN := Lib.hid hn; clear hn
  have HSQ := Lib.hid hs; clear hs
  have HNL := Lib.hid (And.intro hh.n (And.intro hl hh.s))
  have hv1 := hv.one
  obtain ⟨EA, ec, rfl, _⟩ := hv.slice
  clear hl
  obtain ⟨i0, hi, hz0, hz1, hz2⟩ := info_parts info85z
  have HI0 := Lib.hid hi; clear hi
  have HZ0 := Lib.hid hz0; clear hz0
  have HZ1 := Lib.hid hz1; clear hz1
  have HZ2 := Lib.hid hz2; clear hz2
  have HX0 := Lib.hid (show TW w (w.alloc (.cells (frC seq (Value.slice EA es.length ec)) 43)) h tb t n s l c w.heap.size seq (Value.slice EA es.length ec) es from ⟨hh.grow (Grow.alloc _ _), heapAt_alloc_new _ _, hv.grow (Grow.alloc _ _), Only.of_grow (Grow.alloc _ _) h⟩)
  clear hh hv
  obtain ⟨gp, hgp⟩ : ∃ g, g = seq - n := ⟨_, rfl⟩
  rw [← hgp]
  have HGP := Lib.hid hgp; clear hgp
  go_enter Tryz.func51, Tryz.ntmps51
  go_upto_region 2 with (fail)
  generalize w.alloc (.cells #[.int .u32 seq, (Value.slice EA es.length ec)] 43) = w1 at HX0 ⊢
  have HGB := Lib.hid (show w.heap.size < w1.heap.size from heapAt_lt HX0.out.bx)
  obtain ⟨g, hg⟩ : ∃ g, g = w.heap.size := ⟨_, rfl⟩
  rw [← hg] at HX0 HGB ⊢
  have HGE := Lib.hid hg; clear hg
  have c2 := cell_block HX0.out.hu.b 2
  have b0 := cell_block HX0.out.bx 0
  simp at c2 b0
  have i1 : IntKind.u64.wrap (seq : Int) = seq := by rw [wrap_u64n]; have := HSQ.out; omega
  have i2 : IntKind.u64.wrap (gp : Int) = gp := by rw [wrap_u64n]; have := HGP.out; have := HN.out; have := HSQ.out; omega
  have i3 : (seq : Int) - n = gp := by have := HGP.out; have := HN.out; omega
  go_quiet (fail)
  have HX1 := Lib.hid (HX0.out.grow (Grow.drewN w1 nq))
  generalize w1.drewN nq = w2 at HX1 ⊢
  clear c2 b0 i1 i2 i3 HX0 HGB
  by_cases hgt : 0 < gp
  · have hgi : (0 : Int) < (gp : Int) := by omega
    have hgl : (gp : Int) ≤ 4294967295 := by have := HGP.out; have := HSQ.out; omega
    have hnl : (n : Int) ≤ 4294967295 := by have := HGP.out; have := HSQ.out; omega
    have hll : (l : Int) ≤ 4294967296 := by have := HNL.out; omega
    have c2 := cell_block HX1.out.hu.b 2
    simp at c2
    have HB2 := Lib.hid (heapAt_alloc_new w2 (.cells (itL (.gap n gp, .slice none 0 0)).toArray 85))
    have HX2 := Lib.hid (HX1.out.grow (Grow.alloc w2 (.cells (itL (.gap n gp, .slice none 0 0)).toArray 85)))
    have HBA := Lib.hid (show w.heap.size ≤ w2.heap.size from HX1.out.o.2.2.2.1)
    go_wp2_with (at_builtin; refine wpList_append_any _ rfl (.tmp 17) (.tmp 26) 37 rfl w.heap.size 85 i0 _ 4 40 Tryz.underlying37 HI0.out HZ0.out HZ1.out HZ2.out rfl (by decide) _ 0 [] (by rfl) (World.ownsRow_nil _ _ _ _) _ (some ⟨w2.heap.size, 0, none⟩) 1 1 (itL (.gap n gp, .slice none 0 0)) (by rfl) (reads_it HB2.out) (itL_one rfl) ?c4 ?c5 ?c6 ?c7)
    case c4 => unfold maxLen; omega
    case c5 => omega
    case c6 => have := HBA.out; simp; omega
    case c7 =>
      intro u w3 hown hgr hblk
      have HX3 := Lib.hid (HX2.out.grown (World.ownsRow_nil _ _ _ _ : (w2.alloc _).ownsRow w.heap.size 85 4 (.slice none 0 0) 0 []) (Nat.le_refl _) hgr)
      have HOW := Lib.hid (show w3.ownsRow w.heap.size 85 4 u 1 (itsC [(.gap n gp, .slice none 0 0)]) from by rw [show itsC [(Top.It.gap n gp, Value.slice none 0 0)] = itL (.gap n gp, .slice none 0 0) from by simp only [itsC, List.append_nil]]; exact hown)
      clear hown hgr hblk c2
      have c4 := cell_block HX3.out.hu.b 4
      simp at c4
      have HPG := Lib.hid hgt; clear hgt
      go_upto_region 6 with (first
        | ((with_reducible refine store_in rfl 53 _ _ rfl h 4 87 _ #[.pointer (some ⟨tb, 0, none⟩), .string t, .int .u64 n, .int .u64 s, .int .u64 ((l + gp : Nat) : Int), .bool c] (.int .u64 ((l : Int) + gp)) info53 HX3.out.hu.b rfl ?_ ?_ ?_ ?_ ?_); (· rfl); (· rfl); (· simp); (· rfl); intro w4 hw4 hb4 ho4; clear hw4))
      have HOW4 := Lib.hid (own_only HOW.out ho4 HX3.out.hu.b (by decide))
      have HX4 := Lib.hid (HX3.out.set (l' := l + gp) hb4 ho4 HNL.out.1 HNL.out.2.2)
      clear hb4 ho4 c4
      have b0 := cell_block HX4.out.bx 0
      simp at b0
      have hsl : (seq : Int) ≤ 4294967295 := by have := HSQ.out; omega
      go_upto_region 7 with (first
        | ((with_reducible refine store_in rfl 53 _ _ rfl h 2 87 _ #[.pointer (some ⟨tb, 0, none⟩), .string t, .int .u64 ((seq + 1 : Nat) : Int), .int .u64 s, .int .u64 ((l + gp : Nat) : Int), .bool c] (.int .u64 ((seq : Int) + 1)) info53 HX4.out.hu.b rfl ?_ ?_ ?_ ?_ ?_); (· rfl); (· rfl); (· simp); (· rfl); intro w5 hw5 hb5 ho5; clear hw5))
      have HOW5 := Lib.hid (own_only HOW4.out ho5 HX4.out.hu.b (by decide))
      have HX5 := Lib.hid (HX4.out.set (n' := seq + 1) hb5 ho5 (by have := HSQ.out; omega) HNL.out.2.2)
      clear hb5 ho5 b0
      have b0 := cell_block HX5.out.bx 0
      have b1 := cell_block HX5.out.bx 1
      simp at b0 b1
      have HB6 := Lib.hid (heapAt_alloc_new w5 (.cells (itL (.frame seq es, (Value.slice EA es.length ec))).toArray 85))
      have HX6 := Lib.hid (HX5.out.grow (Grow.alloc w5 (.cells (itL (.frame seq es, (Value.slice EA es.length ec))).toArray 85)))
      have HBB := Lib.hid (show w.heap.size ≤ w5.heap.size from HX5.out.o.2.2.2.1)
      have HOW6 := Lib.hid (own_grow HOW5.out (Grow.alloc w5 (.cells (itL (.frame seq es, (Value.slice EA es.length ec))).toArray 85)))
      go_wp2_with (at_builtin; refine wpList_append_any _ rfl (.tmp 43) (.tmp 49) 37 rfl w.heap.size 85 i0 _ 4 40 Tryz.underlying37 HI0.out HZ0.out HZ1.out HZ2.out rfl (by decide) _ 1 (itsC [(Top.It.gap n gp, Value.slice none 0 0)]) (by rfl) HOW6.out _ (some ⟨w5.heap.size, 0, none⟩) 1 1 (itL (.frame seq es, (Value.slice EA es.length ec))) (by rfl) (reads_it HB6.out) (itL_one hv1) ?e4 ?e5 ?e6 ?e7)
      try case e4 => unfold maxLen; omega
      try case e5 => omega
      case e6 => have := HBB.out; simp; omega
      case e7 =>
        intro u2 w6 hown hgr hblk
        have HX7 := Lib.hid (HX6.out.grown HOW6.out (Nat.le_refl _) hgr)
        have HOW7 := Lib.hid (show w6.ownsRow w.heap.size 85 4 u2 (1 + 1) (itsC ([(Top.It.gap n gp, Value.slice none 0 0)] ++ [(.frame seq es, (Value.slice EA es.length ec))])) by rw [itsC_append]; exact hown)
        clear hown hgr hblk b0 b1
        go_wp2
        go_ret
        exact ⟨⟨u2, rfl, its_mk [(Top.It.gap n gp, Value.slice none 0 0), (Top.It.frame seq es, Value.slice EA es.length ec)] (by unfold told; rw [if_pos (by have := HPG.out; have := HGP.out; omega), ← HGP.out]; rfl) rfl HOW7.out fun p hp => by
          have e : p = (.gap n gp, .slice none 0 0) ∨ p = (.frame seq es, (Value.slice EA es.length ec)) := by simpa using hp
          rcases e with e | e
          · rw [e]; exact EvAt.nil _
          · rw [e]; exact HX7.out.ev⟩, HX7.out.hu, HX7.out.o⟩
  · have hgi : ¬ (0 : Int) < (gp : Int) := by omega
    have HG0 := Lib.hid (show gp = 0 by omega)
    have HOW1 := Lib.hid (show w2.ownsRow w.heap.size 85 4 (.slice none 0 0) 0 (itsC []) from World.ownsRow_nil _ _ _ _)
    clear hgt
    go_upto_region 6 with (fail)
    have HX4 := Lib.hid (show TW w w2 h tb t n s (l + gp) c g seq (Value.slice EA es.length ec) es by rw [HG0.out]; exact HX1.out)
    have b0 := cell_block HX4.out.bx 0
    simp at b0
    have hsl : (seq : Int) ≤ 4294967295 := by have := HSQ.out; omega
    go_upto_region 7 with (first
      | ((with_reducible refine store_in rfl 53 _ _ rfl h 2 87 _ #[.pointer (some ⟨tb, 0, none⟩), .string t, .int .u64 ((seq + 1 : Nat) : Int), .int .u64 s, .int .u64 ((l + gp : Nat) : Int), .bool c] (.int .u64 ((seq : Int) + 1)) info53 HX4.out.hu.b rfl ?_ ?_ ?_ ?_ ?_); (· rfl); (· rfl); (· simp); (· rfl); intro w5 hw5 hb5 ho5; clear hw5))
    have HOW5 := Lib.hid (own_only HOW1.out ho5 HX4.out.hu.b (by decide))
    have HX5 := Lib.hid (HX4.out.set (n' := seq + 1) hb5 ho5 (by have := HSQ.out; omega) HNL.out.2.2)
    clear hb5 ho5 b0
    have b0 := cell_block HX5.out.bx 0
    have b1 := cell_block HX5.out.bx 1
    simp at b0 b1
    have HB6 := Lib.hid (heapAt_alloc_new w5 (.cells (itL (.frame seq es, (Value.slice EA es.length ec))).toArray 85))
    have HX6 := Lib.hid (HX5.out.grow (Grow.alloc w5 (.cells (itL (.frame seq es, (Value.slice EA es.length ec))).toArray 85)))
    have HBB := Lib.hid (show w.heap.size ≤ w5.heap.size from HX5.out.o.2.2.2.1)
    have HOW6 := Lib.hid (own_grow HOW5.out (Grow.alloc w5 (.cells (itL (.frame seq es, (Value.slice EA es.length ec))).toArray 85)))
    go_wp2_with (at_builtin; refine wpList_append_any _ rfl (.tmp 43) (.tmp 49) 37 rfl w.heap.size 85 i0 _ 4 40 Tryz.underlying37 HI0.out HZ0.out HZ1.out HZ2.out rfl (by decide) _ 0 (itsC []) (by rfl) HOW6.out _ (some ⟨w5.heap.size, 0, none⟩) 1 1 (itL (.frame seq es, (Value.slice EA es.length ec))) (by rfl) (reads_it HB6.out) (itL_one hv1) ?d4 ?d5 ?d6 ?d7)
    try case d4 => unfold maxLen; omega
    try case d5 => omega
    case d6 => have := HBB.out; simp; omega
    case d7 =>
      intro u2 w6 hown hgr hblk
      have HX7 := Lib.hid (HX6.out.grown HOW6.out (Nat.le_refl _) hgr)
      have HOW7 := Lib.hid (show w6.ownsRow w.heap.size 85 4 u2 (0 + 1) (itsC ([] ++ [(.frame seq es, (Value.slice EA es.length ec))])) by rw [itsC_append]; exact hown)
      clear hown hgr hblk b0 b1
      go_wp2
      go_ret
      exact ⟨⟨u2, rfl, its_mk [(Top.It.frame seq es, Value.slice EA es.length ec)] (by unfold told; rw [if_neg (by have := HG0.out; have := HGP.out; omega)]; rfl) rfl HOW7.out fun p hp => by
        have e : p = (.frame seq es, (Value.slice EA es.length ec)) := by simpa using hp
        rw [e]; exact HX7.out.ev⟩, HX7.out.hu, HX7.out.o⟩

end Go.Proofs.YtnhmdinpfcoebaaGreatDoor
end

/-! === RefW -/
section
/- The reference's events, weakly: the walks. -/
namespace Go.Proofs.YtnhmdinpfcoebaaGreatDoor
open Go.RowKit
set_option linter.unusedVariables false
set_option linter.unusedSimpArgs false
set_option maxRecDepth 100000

def BoolR (e : Ending) : Prop := ∃ b, e = .returned (.bool b)
theorem in_w (w : World) (a b c : Int) : Calls Tryz.prog 99 #[.int .u32 a, .int .u32 b, .int .u32 c] w fun e w' => BoolR e ∧ w' = w := by
  go_enter Tryz.func99, Tryz.ntmps99
  go_wp2
  all_goals (go_ret; exact ⟨⟨_, rfl⟩, rfl⟩)
set_option maxHeartbeats 4000000 in
theorem part63_w (w : World) (ev : Top.Ev) : Calls Tryz.prog 63 #[.agg (evC ev)] w fun e w' => BoolR e ∧ Grow w w' := by
  go_enter Tryz.func63, Tryz.ntmps63
  go_wp2_with (go_at_call 99; refine (in_w _ _ _ _).mono ?_; rintro e w' ⟨⟨b, rfl⟩, rfl⟩)
  all_goals (go_ret; exact ⟨⟨_, rfl⟩, Grow.alloc _ _⟩)
set_option maxHeartbeats 4000000 in
theorem part64_w (w : World) (ev : Top.Ev) : Calls Tryz.prog 64 #[.agg (evC ev)] w fun e w' => BoolR e ∧ Grow w w' := by
  go_enter Tryz.func64, Tryz.ntmps64
  go_wp2_with (go_at_call 99; refine (in_w _ _ _ _).mono ?_; rintro e w' ⟨⟨b, rfl⟩, rfl⟩)
  all_goals (go_ret; exact ⟨⟨_, rfl⟩, Grow.alloc _ _⟩)
set_option maxHeartbeats 4000000 in
theorem part65_w (w : World) (ev : Top.Ev) : Calls Tryz.prog 65 #[.agg (evC ev)] w fun e w' => BoolR e ∧ Grow w w' := by
  go_enter Tryz.func65, Tryz.ntmps65
  go_wp2_with (go_at_call 99; refine (in_w _ _ _ _).mono ?_; rintro e w' ⟨⟨b, rfl⟩, rfl⟩)
  all_goals (go_ret; exact ⟨⟨_, rfl⟩, Grow.alloc _ _⟩)
def IntR (e : Ending) : Prop := ∃ k : Int, e = .returned (.int .i64 k)
def LDX (w : World) (g : Nat) (ev : Top.Ev) : Prop := w.heap[g]? = some (.cells (evC ev) 98 (0, 0))
set_option maxHeartbeats 4000000 in
theorem check5_w (w : World) (ev : Top.Ev) : Calls Tryz.prog 45 #[.agg (evC ev)] w fun e w' => IntR e ∧ Grow w w' := by
  have HB := Lib.hid (heapAt_alloc_new w (.cells (evC ev) 98))
  have HG := Lib.hid (Grow.alloc w (.cells (evC ev) 98))
  have HV := Lib.hid (show ∀ v, v = Value.agg (evC ev) → v = .agg #[.int .i64 ev.kind, .int .u64 ev.cycle, .int .u64 ev.count, .int .u32 ev.a, .int .u32 ev.b, .int .u32 ev.v] from fun v h => h)
  go_enter Tryz.func45, Tryz.ntmps45
  by_cases h1 : ev.kind < 1
  · go_wp2_with fail
    go_ret
    exact ⟨⟨_, rfl⟩, HG.out⟩
  · by_cases h2 : 24 < ev.kind
    · go_wp2_with fail
      go_ret
      exact ⟨⟨_, rfl⟩, HG.out⟩
    · have h1b : ¬ ev.kind < 1 := h1
      go_wp2_with fail
      refine (part63_w _ ev).mono ?_
      rintro _ w2 ⟨⟨b1, rfl⟩, hg⟩
      have HB2 := Lib.hid (hg.at HB.out)
      have HG2 := Lib.hid (HG.out.trans hg); clear hg
      generalize w.heap.size = g at HB2 ⊢
      cases b1
      · go_wp2_with fail
        go_ret
        exact ⟨⟨_, rfl⟩, HG2.out⟩
      · go_wp2_with (first | ((with_reducible refine wpList_load_blk_g 98 _ rfl g 98 (evC ev) _ ?_ ?_ HB2.out Tryz.underlying98 rfl (info98 _) ?_); (· rfl); (· rfl)))
        refine (part64_w _ ev).mono ?_
        rintro _ w3 ⟨⟨b2, rfl⟩, hg⟩
        have HB3 := Lib.hid (hg.at HB2.out)
        have HG3 := Lib.hid (HG2.out.trans hg); clear hg
        cases b2
        · go_wp2_with fail
          go_ret
          exact ⟨⟨_, rfl⟩, HG3.out⟩
        · go_wp2_with (first | ((with_reducible refine wpList_load_blk_g 98 _ rfl g 98 (evC ev) _ ?_ ?_ HB3.out Tryz.underlying98 rfl (info98 _) ?_); (· rfl); (· rfl)))
          refine (part65_w _ ev).mono ?_
          rintro _ w4 ⟨⟨b3, rfl⟩, hg⟩
          have HG4 := Lib.hid (HG3.out.trans hg); clear hg
          cases b3
          · go_wp2_with fail
            go_ret
            exact ⟨⟨_, rfl⟩, HG4.out⟩
          · go_wp2_with fail
            go_ret
            exact ⟨⟨_, rfl⟩, HG4.out⟩
def HasR (e : Ending) : Prop := ∃ a b c : Bool, e = .returned (.agg #[.bool a, .bool b, .bool c])
theorem info149 : (Tryz.prog.info? 149).map (·.size) = some 3 := by kernel_rfl
set_option maxHeartbeats 4000000 in
theorem has_w (w : World) (k : Int) : Calls Tryz.prog 67 #[.int .i64 k] w fun e w' => HasR e ∧ Grow w w' := by
  go_enter Tryz.func67, Tryz.ntmps67
  go_wp2
  all_goals first
    | exact bodyPost_ret (v := .agg #[.bool true, .bool true, .bool true]) (results_cell_row rfl _ _ w.heap.size 149 #[.bool true, .bool true, .bool true] (0, 0) _ (by rfl) (heapAt_alloc_new w _) Tryz.underlying149 rfl info149) rfl ⟨⟨true, true, true, rfl⟩, Grow.alloc _ _⟩
    | exact bodyPost_ret (v := .agg #[.bool true, .bool true, .bool false]) (results_cell_row rfl _ _ w.heap.size 149 #[.bool true, .bool true, .bool false] (0, 0) _ (by rfl) (heapAt_alloc_new w _) Tryz.underlying149 rfl info149) rfl ⟨⟨true, true, false, rfl⟩, Grow.alloc _ _⟩
    | exact bodyPost_ret (v := .agg #[.bool true, .bool false, .bool true]) (results_cell_row rfl _ _ w.heap.size 149 #[.bool true, .bool false, .bool true] (0, 0) _ (by rfl) (heapAt_alloc_new w _) Tryz.underlying149 rfl info149) rfl ⟨⟨true, false, true, rfl⟩, Grow.alloc _ _⟩
    | exact bodyPost_ret (v := .agg #[.bool true, .bool false, .bool false]) (results_cell_row rfl _ _ w.heap.size 149 #[.bool true, .bool false, .bool false] (0, 0) _ (by rfl) (heapAt_alloc_new w _) Tryz.underlying149 rfl info149) rfl ⟨⟨true, false, false, rfl⟩, Grow.alloc _ _⟩
    | exact bodyPost_ret (v := .agg #[.bool false, .bool false, .bool false]) (results_cell_row rfl _ _ w.heap.size 149 #[.bool false, .bool false, .bool false] (0, 0) _ (by rfl) (heapAt_alloc_new w _) Tryz.underlying149 rfl info149) rfl ⟨⟨false, false, false, rfl⟩, Grow.alloc _ _⟩
theorem five_any (w : World) (n : Nat) (hn : n < 2 ^ 32) : Calls Tryz.prog 22 #[.int .u32 n] w fun e w' => e = .returned (.string ⟨(septB 5 n).toArray⟩) ∧ Grow w w' := by
  have hb : (n : Int) ≤ 4294967295 := by omega
  have HN := Lib.hid hn; clear hn
  go_enter Tryz.func22, Tryz.ntmps22
  go_wp2_with fail
  refine (sept4_any w n 5 (by have := HN.out; omega) (by decide)).mono ?_
  rintro _ w1 ⟨rfl, hg⟩
  have HG := Lib.hid hg; clear hg
  go_wp2
  go_ret
  exact ⟨rfl, HG.out⟩
theorem ten_any (w : World) (n : Nat) (hn : n < 2 ^ 64) : Calls Tryz.prog 23 #[.int .u64 n] w fun e w' => e = .returned (.string ⟨(septB 10 n).toArray⟩) ∧ Grow w w' := by
  have HN := Lib.hid hn; clear hn
  go_enter Tryz.func23, Tryz.ntmps23
  go_wp2_with fail
  refine (sept4_any w n 10 HN.out (by decide)).mono ?_
  rintro _ w1 ⟨rfl, hg⟩
  have HG := Lib.hid hg; clear hg
  go_wp2
  go_ret
  exact ⟨rfl, HG.out⟩
def ffs (k : Nat) : ByteArray := ⟨(List.replicate k 255).toArray⟩
theorem ffs_size (k : Nat) : (ffs k).size = k := by show (List.replicate k (255 : UInt8)).toArray.size = k; simp
theorem ffs_succ (k : Nat) : ffs k ++ ⟨#[255]⟩ = ffs (k + 1) := by
  apply ByteArray.ext
  unfold ffs
  rw [ByteArray.data_append, List.replicate_succ', ← List.push_toArray]
  rfl
attribute [local irreducible] ffs
theorem mark7_any (w : World) : Calls Tryz.prog 24 #[] w fun e w' => e = .returned (.string mk) ∧ w' = w := by
  go_enter Tryz.func24, Tryz.ntmps24
  go_wp2
  go_loop [1, 2] (fun s i => ∃ k : Nat, k ≤ 16 ∧ i = .int .i64 k ∧ s = .string (ffs k)) (fun _ i => 16 - (intOf i).toNat)
  case atStart => exact ⟨0, by omega, rfl, by unfold ffs; rfl⟩
  case round =>
    obtain ⟨k, hk, rfl, rfl⟩ := hrel
    have hs := ffs_size k
    have hsu := ffs_succ k
    have hb : (ffs k).size ≤ 16 := by omega
    have HS := Lib.hid hs; clear hs
    have HU := Lib.hid hsu; clear hsu
    by_cases hlt : k < 16
    · have hlti : (k : Int) < 16 := by omega
      go_wp2
      go_round
      case rel => exact ⟨k + 1, by omega, by go_num, by rw [HU.out]⟩
      case measure => simp [intOf]; omega
    · have hlti : ¬ (k : Int) < 16 := by omega
      obtain rfl : k = 16 := by omega
      go_wp2
      go_ret
      exact ⟨by unfold ffs; rfl, rfl⟩
end Go.Proofs.YtnhmdinpfcoebaaGreatDoor
end

/-! === RefPrint -/
section
/- The reference prints events, weakly: the walks. -/
namespace Go.Proofs.YtnhmdinpfcoebaaGreatDoor
open Go.RowKit
set_option linter.unusedVariables false
set_option linter.unusedSimpArgs false
set_option maxRecDepth 100000
attribute [local simp] RelKnown Is
def StepsR (e : Ending) : Prop := ∃ (x y : Int) (ok : Bool), e = .returned (.tuple #[.int .u64 x, .int .u64 y, .bool ok]) ∧ (0 ≤ x ∧ x < 18446744073709551616) ∧ 0 ≤ y ∧ y < 18446744073709551616
set_option maxHeartbeats 4000000 in
theorem steps_w (w : World) (a b : Top.Ev) : Calls Tryz.prog 46 #[.agg (evC a), .agg (evC b)] w fun e w' => StepsR e ∧ Grow w w' := by
  have HG := Lib.hid (Grow.trans (Grow.alloc w (.cells (evC a) 98)) (Grow.alloc _ (.cells (evC b) 98)))
  go_enter Tryz.func46, Tryz.ntmps46
  go_wp2
  all_goals
    go_ret3
    refine ⟨⟨_, _, _, rfl, ?_⟩, HG.out⟩
    (try simp only [wrap_u64n])
    omega
def StrR (m : Nat) (e : Ending) : Prop := ∃ s : ByteArray, e = .returned (.string s) ∧ s.size ≤ m
theorem leb2_w (w : World) (x : Int) (h0 : 0 ≤ x) (h1 : x < 18446744073709551616) : Calls Tryz.prog 66 #[.int .u64 x] w fun e w' => StrR 10 e ∧ Grow w w' := by
  obtain ⟨n, rfl⟩ := Int.eq_ofNat_of_zero_le h0
  refine (leb2_any w n (by omega)).mono ?_
  rintro _ w' ⟨rfl, hg⟩
  refine ⟨⟨_, rfl, ?_⟩, hg⟩
  show (lebB 9 n).toArray.size ≤ 10
  rw [List.size_toArray]
  exact lebB_len 9 n
theorem conv1 (w : World) (g : Nat) (c : UInt8) (h : w.heap[g]? = some (.cells #[.int .u8 (c.toNat : Int)] 5 (0, 0))) : (convert 59 9 (.slice (some ⟨g, 0, none⟩) 1 1)).run Tryz.prog w = .ok (.string ⟨#[c]⟩) w :=
  run_convert_bytes_back (P := Tryz.prog) w 59 9 5 ⟨g, 0, none⟩ 1 [c] Tryz.underlying59 Tryz.underlying5 Tryz.underlying9 fun j hj => by
    have : j = 0 := by simpa using hj
    subst this
    exact cell_block h 0
set_option maxHeartbeats 8000000 in
theorem one_w (w : World) (ev : Top.Ev) (x y : Int) (hx0 : 0 ≤ x) (hx1 : x < 18446744073709551616) (hy0 : 0 ≤ y) (hy1 : y < 18446744073709551616) : Calls Tryz.prog 47 #[.agg (evC ev), .int .u64 x, .int .u64 y] w fun e w' => StrR 51 e ∧ Grow w w' := by
  obtain ⟨nx, rfl⟩ := Int.eq_ofNat_of_zero_le hx0
  obtain ⟨ny, rfl⟩ := Int.eq_ofNat_of_zero_le hy0
  obtain ⟨sx, hsx⟩ : ∃ s : ByteArray, s = ⟨(lebB 9 nx).toArray⟩ := ⟨_, rfl⟩
  obtain ⟨sy, hsy⟩ : ∃ s : ByteArray, s = ⟨(lebB 9 ny).toArray⟩ := ⟨_, rfl⟩
  have HSX := Lib.hid (show sx.size ≤ 10 by rw [hsx]; show (lebB 9 nx).toArray.size ≤ 10; rw [List.size_toArray]; exact lebB_len 9 nx)
  have HSY := Lib.hid (show sy.size ≤ 10 by rw [hsy]; show (lebB 9 ny).toArray.size ≤ 10; rw [List.size_toArray]; exact lebB_len 9 ny)
  have HLX := Lib.hid (fun w => by have h := leb2_any w nx (by omega); rw [← hsx] at h; exact h)
  have HLY := Lib.hid (fun w => by have h := leb2_any w ny (by omega); rw [← hsy] at h; exact h)
  clear hsx hsy hx0 hx1 hy0 hy1
  obtain ⟨kc, hkc⟩ : ∃ c : UInt8, ev.kind % 256 = (c.toNat : Int) := ⟨UInt8.ofNat (ev.kind % 256).toNat, by rw [UInt8.toNat_ofNat']; omega⟩
  have hkw : IntKind.u8.wrap ev.kind = (kc.toNat : Int) := by rw [IntKind.wrap_u8']; exact hkc
  go_enter Tryz.func47, Tryz.ntmps47
  have HB := Lib.hid (heapAt_alloc_new w (.cells (evC ev) 98))
  have HG := Lib.hid (Grow.alloc w (.cells (evC ev) 98))
  go_wp2_with fail
  generalize w.heap.size = g at HB ⊢
  generalize w.alloc (.cells #[.int .i64 ev.kind, .int .u64 ev.cycle, .int .u64 ev.count, .int .u32 ev.a, .int .u32 ev.b, .int .u32 ev.v] 98) = w1 at HB HG ⊢
  refine wp_region_rel _ Grow (fun w' => Grow w1 w') [([(3, none)], none), ([(9, some 0)], none), ([(10, some 0)], none), ([(11, some 0)], none), ([(12, some 0)], none), ([(1, none)], none), ([(14, some 0)], none), ([(13, some 2), (15, some 0)], none), ([(2, none)], none), ([(17, some 0)], none), ([(16, some 2), (18, some 0)], none), ([(19, some 0)], none)] (by kernel_rfl) (by kernel_rfl) (Grow.drewN w1 1) ?_
  (refine rel_pure ?_; apply Exists.intro; refine ⟨fun aR wQ hF hk => ?_, ?_⟩; focus (first | exact rel_no hk.1 rfl rfl | ((first | (refine rel_none fun K hK => ?_) | (refine rel_yes hk.1 fun K hK => ?_)); (try simp at hk); go_simp; exact hK _ _ (Grow.refl _) hF rfl)))
  (refine rel_pure ?_; apply Exists.intro; refine ⟨fun aR wQ hF hk => ?_, ?_⟩; focus (refine rel_none fun K hK => ?_; (try simp at hk); have d0 := cell_block (Grow.at hF HB.out) 0; simp at d0; go_simp; exact hK _ _ (Grow.refl _) hF rfl))
  (refine rel_pure ?_; apply Exists.intro; refine ⟨fun aR wQ hF hk => ?_, ?_⟩; focus (first | exact rel_no hk.1 rfl rfl | ((first | (refine rel_none fun K hK => ?_) | (refine rel_yes hk.1 fun K hK => ?_)); (try simp at hk); go_simp; exact hK _ _ (Grow.refl _) hF rfl)))
  (refine rel_some (fun v w2 => ∃ g2, v = .slice (some ⟨g2, 0, none⟩) 1 1 ∧ w2.heap[g2]? = some (.cells #[.int .u8 (kc.toNat : Int)] 5 (0, 0))) (fun v w1 w2 hg ⟨g2, h1, h2⟩ => ⟨g2, h1, hg.at h2⟩) (fun aR wQ hF hk => ?_) ?_; focus (refine rel_none fun K hK => ?_; (try simp at hk); go_simp; exact hK _ _ (Grow.alloc _ _) (Grow.trans hF (Grow.alloc _ _)) ⟨_, rfl, heapAt_alloc_new _ _⟩))
  (refine rel_pure ?_; apply Exists.intro; refine ⟨fun aR wQ hF hk => ?_, ?_⟩; focus (refine rel_none fun K hK => ?_; simp only [RelKnown] at hk; obtain ⟨⟨g2, hv, hb⟩, -⟩ := hk; have hc := conv1 _ g2 kc hb; go_simp; exact hK _ _ (Grow.refl _) hF rfl))
  (refine rel_pure ?_; apply Exists.intro; refine ⟨fun aR wQ hF hk => ?_, ?_⟩; focus (first | exact rel_no hk.1 rfl rfl | ((first | (refine rel_none fun K hK => ?_) | (refine rel_yes hk.1 fun K hK => ?_)); (try simp at hk); go_simp; exact hK _ _ (Grow.refl _) hF rfl)))
  (refine rel_pure ?_; apply Exists.intro; refine ⟨fun aR wQ hF hk => ?_, ?_⟩; focus (refine rel_none fun K hK => ?_; (try simp at hk); go_simp; refine (HLX.out _).mono ?_; rintro e w' ⟨rfl, hg⟩; exact hK _ _ hg (Grow.trans hF hg) rfl))
  (refine rel_pure ?_; apply Exists.intro; refine ⟨fun aR wQ hF hk => ?_, ?_⟩; focus (refine rel_none fun K hK => ?_; (try simp at hk); have z1 := HSX.out; have z9 : ¬ (9223372036854775807 < 1 + sx.size) := (by omega); go_simp; exact hK _ _ (Grow.refl _) hF rfl))
  (refine rel_pure ?_; apply Exists.intro; refine ⟨fun aR wQ hF hk => ?_, ?_⟩; focus (first | exact rel_no hk.1 rfl rfl | ((first | (refine rel_none fun K hK => ?_) | (refine rel_yes hk.1 fun K hK => ?_)); (try simp at hk); go_simp; exact hK _ _ (Grow.refl _) hF rfl)))
  (refine rel_pure ?_; apply Exists.intro; refine ⟨fun aR wQ hF hk => ?_, ?_⟩; focus (refine rel_none fun K hK => ?_; (try simp at hk); go_simp; refine (HLY.out _).mono ?_; rintro e w' ⟨rfl, hg⟩; exact hK _ _ hg (Grow.trans hF hg) rfl))
  (refine rel_pure ?_; apply Exists.intro; refine ⟨fun aR wQ hF hk => ?_, ?_⟩; focus (refine rel_none fun K hK => ?_; (try simp at hk); have z1 := HSX.out; have z2 := HSY.out; have z0 : (ByteArray.mk #[kc]).size ≤ 1 := Nat.le_refl _; have z9 : ¬ (9223372036854775807 < 1 + sx.size + sy.size) := (by omega); go_simp; exact hK _ _ (Grow.refl _) hF rfl))
  (refine rel_pure ?_; apply Exists.intro; refine ⟨fun aR wQ hF hk => ?_, ?_⟩; focus (first | exact rel_no hk.1 rfl rfl | ((first | (refine rel_none fun K hK => ?_) | (refine rel_yes hk.1 fun K hK => ?_)); (try simp at hk); go_simp; exact hK _ _ (Grow.refl _) hF rfl)))
  refine rel_done fun wR hF => ?_
  repeat (first | (refine fun v hv => ?_; obtain rfl : v = _ := hv) | (refine fun v hv => ?_))
  simp only [Act.put, List.setIfInBounds_toArray, List.set_cons_zero, List.set_cons_succ]
  refine rel_nil ?_
  clear hv
  obtain ⟨s0, hs0⟩ : ∃ s, s = (ByteArray.mk #[kc] ++ sx ++ sy) := ⟨_, rfl⟩
  rw [← hs0]
  have z0 : s0.size ≤ 21 := by
    rw [hs0, ByteArray.size_append, ByteArray.size_append]
    have h1 := HSX.out
    have h2 := HSY.out
    have h3 : (ByteArray.mk #[kc]).size = 1 := rfl
    omega
  have HGR := Lib.hid (HG.out.trans hF)
  have HB2 := Lib.hid (hF.at HB.out)
  clear hs0 hF HG HB hkc hkw HLX HLY HSX HSY
  have d0 := cell_block HB2.out 0
  simp at d0
  go_wp2_with fail
  refine (has_w wR ev.kind).mono ?_
  rintro _ w2 ⟨⟨ha, hb, hc, rfl⟩, hg⟩
  have HG3 := Lib.hid ((HGR.out.trans hg).trans (Grow.alloc w2 (.cells #[.bool ha, .bool hb, .bool hc] 149)))
  have HB3 := Lib.hid ((Grow.alloc w2 (.cells #[.bool ha, .bool hb, .bool hc] 149)).at (hg.at HB2.out))
  have HH3 := Lib.hid (heapAt_alloc_new w2 (.cells #[.bool ha, .bool hb, .bool hc] 149))
  clear d0 HGR HB2 hg
  go_upto_region 3 with (fail)
  generalize w2.heap.size = gh at HH3 ⊢
  generalize w2.alloc (.cells #[.bool ha, .bool hb, .bool hc] 149) = w3 at HG3 HB3 HH3 ⊢
  cases ha <;> cases hb <;> cases hc
  all_goals
    have d3 := cell_block HB3.out 3
    have d4 := cell_block HB3.out 4
    have d5 := cell_block HB3.out 5
    have e0 := cell_block HH3.out 0
    have e1 := cell_block HH3.out 1
    have e2 := cell_block HH3.out 2
    simp at d3 d4 d5 e0 e1 e2
    go_wp2_with (go_at_call 66; refine (leb2_w _ _ (by first | omega | (rw [wrap_u64n]; omega)) (by first | omega | (rw [wrap_u64n]; omega))).mono ?_; rintro _ w4 ⟨⟨s4, rfl, hz4⟩, hg4⟩; replace HB3 := Lib.hid (hg4.at HB3.out); replace HH3 := Lib.hid (hg4.at HH3.out); replace HG3 := Lib.hid (HG3.out.trans hg4); clear d3 d4 d5 e0 e1 e2 hg4; have d3 := cell_block HB3.out 3; have d4 := cell_block HB3.out 4; have d5 := cell_block HB3.out 5; have e0 := cell_block HH3.out 0; have e1 := cell_block HH3.out 1; have e2 := cell_block HH3.out 2; simp at d3 d4 d5 e0 e1 e2)
    go_ret
    exact ⟨⟨_, rfl, by (try simp only [ByteArray.size_append]); omega⟩, HG3.out⟩
end Go.Proofs.YtnhmdinpfcoebaaGreatDoor
end

/-! === Same -/
section
/- Slices of events that are read; the same lists are the same: the walks. -/
namespace Go.Proofs.YtnhmdinpfcoebaaGreatDoor
open Go.RowKit
set_option linter.unusedVariables false
set_option linter.unusedSimpArgs false
set_option maxRecDepth 100000

/-- Events that are read. -/
def EvRd (w : World) (A : Option Addr) (n : Nat) (f : Nat → Top.Ev) : Prop := RowAt w A n 6 fun j => evL (f j)
theorem EvRd.grow {w w' : World} {A : Option Addr} {n : Nat} {f : Nat → Top.Ev} (h : EvRd w A n f) (hg : Grow w w') : EvRd w' A n f := RowAt.grow h hg
theorem EvRd.at {w : World} {A : Option Addr} {n : Nat} {f : Nat → Top.Ev} (h : EvRd w A n f) (j : Nat) (hj : j < n) : ∃ a, A = some a ∧
    w.cell? (a.add (j * 6)) = some (.int .i64 (f j).kind) ∧ w.cell? ⟨(a.add (j * 6)).block, (a.add (j * 6)).off + 1, none⟩ = some (.int .u64 (f j).cycle) ∧ w.cell? ⟨(a.add (j * 6)).block, (a.add (j * 6)).off + 2, none⟩ = some (.int .u64 (f j).count) ∧
    w.cell? ⟨(a.add (j * 6)).block, (a.add (j * 6)).off + 3, none⟩ = some (.int .u32 (f j).a) ∧ w.cell? ⟨(a.add (j * 6)).block, (a.add (j * 6)).off + 4, none⟩ = some (.int .u32 (f j).b) ∧ w.cell? ⟨(a.add (j * 6)).block, (a.add (j * 6)).off + 5, none⟩ = some (.int .u32 (f j).v) := by
  obtain ⟨a, hA, hc⟩ := h (by omega)
  have k := hc j hj
  refine ⟨a, hA, k 0 _ rfl, ?_, ?_, ?_, ?_, ?_⟩
  · have := k 1 _ rfl; rw [add_succ'] at this; exact this
  · have := k 2 _ rfl; rw [add_succ'] at this; exact this
  · have := k 3 _ rfl; rw [add_succ'] at this; exact this
  · have := k 4 _ rfl; rw [add_succ'] at this; exact this
  · have := k 5 _ rfl; rw [add_succ'] at this; exact this
theorem evsC_get : ∀ (l : List Top.Ev) (j r : Nat), j < l.length → r < 6 → (evsC l)[j * 6 + r]? = (evL (l.getD j default))[r]?
  | [], j, r, hj, _ => absurd hj (Nat.not_lt_zero _)
  | e :: l, 0, r, _, hr => by
    rw [evsC, List.getElem?_append_left (by simp; omega)]
    simp
  | e :: l, j + 1, r, hj, hr => by
    have h := evsC_get l j r (by simpa using hj) hr
    rw [evsC, List.getElem?_append_right (by simp; omega)]
    rw [show (j + 1) * 6 + r - (evL e).length = j * 6 + r by simp; omega, h]
    rfl
theorem own_reads2 {w : World} {B s n : Nat} {e : TypeId} {v : Value} {xs : List Value} (h : w.ownsRow B e s v n xs) : ∃ A cap, v = .slice A n cap ∧ (0 < n → ∃ a, A = some a ∧ ∀ j u, xs[j]? = some u → w.cell? (a.add j) = some u) := by
  obtain ⟨A, cap, rfl, _⟩ := own_slice h
  refine ⟨A, cap, rfl, fun hn => ?_⟩
  obtain ⟨b, c2, cur, h1, _, hb, _, hc⟩ := own_at h hn
  injection h1 with h1 _ _
  subst h1
  refine ⟨_, rfl, fun j u hu => ?_⟩
  have e8 : (⟨b, 0, none⟩ : Addr).add j = ⟨b, j, none⟩ := by unfold Addr.add; split <;> simp_all
  rw [e8]; exact hc j u hu
theorem EvAt.rd {w : World} {v : Value} {es : List Top.Ev} (h : EvAt w v es) : ∃ A cap, v = .slice A es.length cap ∧ EvRd w A es.length (fun j => es.getD j default) := by
  obtain ⟨A, cap, rfl, hr⟩ := own_reads2 (show w.ownsRow 0 98 6 v es.length (evsC es) from h)
  refine ⟨A, cap, rfl, fun hn => ?_⟩
  obtain ⟨a, hA, hc⟩ := hr hn
  refine ⟨a, hA, fun j hj r u hu => ?_⟩
  have hr : r < 6 := by have := (List.getElem?_eq_some_iff.1 hu).1; simpa using this
  rw [add_of_add]
  exact hc (j * 6 + r) u ((evsC_get es j r hj hr).trans hu)
set_option maxHeartbeats 4000000 in
theorem same6_eq (w : World) (A1 A2 : Option Addr) (n c1 c2 : Nat) (f : Nat → Top.Ev) (hn : (n : Int) ≤ 1000000) (hM1 : EvRd w A1 n f) (hM2 : EvRd w A2 n f) :
    Calls Tryz.prog 33 #[.slice A1 n c1, .slice A2 n c2] w fun e w' => e = .returned (.bool true) ∧ ∃ m, w' = w.drewN m := by
  have H1 := Lib.hid hM1; clear hM1
  have H2 := Lib.hid hM2; clear hM2
  go_enter Tryz.func33, Tryz.ntmps33
  go_wp2_with fail
  go_loopw [5] (fun i wr => ∃ k : Nat, k ≤ n ∧ i = .int .i64 k ∧ ∃ m, wr = w.drewN m) (fun i _ => n - (intOf i).toNat)
  case atStart => exact ⟨0, by omega, rfl, 0, rfl⟩
  case round =>
    obtain ⟨k, hk, rfl, m, hm⟩ := hrel
    have HM := Lib.hid hm
    have HGr := Lib.hid (show Grow w wr by rw [hm]; exact Grow.drewN w m)
    clear hm
    by_cases hlt : k < n
    · obtain ⟨a1, hA1, p0, p1, p2, p3, p4, p5⟩ := EvRd.at (H1.out.grow HGr.out) k hlt
      obtain ⟨a2, hA2, q0, q1, q2, q3, q4, q5⟩ := EvRd.at (H2.out.grow HGr.out) k hlt
      rw [hA1, hA2]
      clear hA1 hA2
      have k0 : (0 : Int) ≤ (k : Int) := by omega
      have kn : (k : Int) < (n : Int) := by omega
      generalize f k = x1 at *
      go_wp2_with fail
      go_quiet (fail)
      have HG2 := Lib.hid (show wr.drewN nq = w.drewN (m + nq) by rw [HM.out, World.drewN_drewN])
      go_wp2_with fail
      go_roundw
      case rel => exact ⟨k + 1, by omega, by go_num, _, HG2.out⟩
      case measure => simp [intOf]; omega
    · have kn : ¬ (k : Int) < (n : Int) := by omega
      go_wp2
      go_ret
      exact ⟨rfl, m, HM.out⟩
def ik : Top.It → Int
  | .frame _ _ => 1
  | .gap _ _ => 2
def iseq : Top.It → Nat
  | .frame q _ => q
  | .gap q _ => q
def ilost : Top.It → Nat
  | .frame _ _ => 0
  | .gap _ l => l
theorem itL_eq (p : Top.It × Value) : itL p = [.int .i64 (ik p.1), .int .u32 (iseq p.1), .int .u32 (ilost p.1), p.2] := by
  obtain ⟨i, v⟩ := p
  cases i <;> rfl
/-- Items that are read. -/
def ItsRd (w : World) (A : Option Addr) (n : Nat) (g : Nat → Top.It × Value) : Prop := RowAt w A n 4 (fun j => itL (g j)) ∧ ∀ j, j < n → ∃ A2 cap, (g j).2 = .slice A2 (g j).1.es.length cap ∧ EvRd w A2 (g j).1.es.length (fun i => (g j).1.es.getD i default)
theorem ItsRd.grow {w w' : World} {A : Option Addr} {n : Nat} {g : Nat → Top.It × Value} (h : ItsRd w A n g) (hg : Grow w w') : ItsRd w' A n g := by
  refine ⟨h.1.grow hg, fun j hj => ?_⟩
  obtain ⟨A2, cap, h1, h2⟩ := h.2 j hj
  exact ⟨A2, cap, h1, h2.grow hg⟩
theorem ItsRd.less {w : World} {A : Option Addr} {n m : Nat} {g : Nat → Top.It × Value} (h : ItsRd w A n g) (hm : m ≤ n) : ItsRd w A m g := ⟨h.1.less hm, fun j hj => h.2 j (by omega)⟩
theorem ItsRd.at {w : World} {A : Option Addr} {n : Nat} {g : Nat → Top.It × Value} (h : ItsRd w A n g) (j : Nat) (hj : j < n) : ∃ a A2 cap, A = some a ∧ EvRd w A2 (g j).1.es.length (fun i => (g j).1.es.getD i default) ∧
    w.cell? (a.add (j * 4)) = some (.int .i64 (ik (g j).1)) ∧ w.cell? ⟨(a.add (j * 4)).block, (a.add (j * 4)).off + 1, none⟩ = some (.int .u32 (iseq (g j).1)) ∧ w.cell? ⟨(a.add (j * 4)).block, (a.add (j * 4)).off + 2, none⟩ = some (.int .u32 (ilost (g j).1)) ∧
    w.cell? ⟨(a.add (j * 4)).block, (a.add (j * 4)).off + 3, none⟩ = some (.slice A2 (g j).1.es.length cap) := by
  obtain ⟨a, hA, hc⟩ := h.1 (by omega)
  obtain ⟨A2, cap, hv, he⟩ := h.2 j hj
  have k := hc j hj
  simp only at k
  rw [itL_eq, hv] at k
  refine ⟨a, A2, cap, hA, he, k 0 _ rfl, ?_, ?_, ?_⟩
  · have := k 1 _ rfl; rw [add_succ'] at this; exact this
  · have := k 2 _ rfl; rw [add_succ'] at this; exact this
  · have := k 3 _ rfl; rw [add_succ'] at this; exact this
theorem itsC_get : ∀ (l : List (Top.It × Value)) (d : Top.It × Value) (j r : Nat), j < l.length → r < 4 → (itsC l)[j * 4 + r]? = (itL (l.getD j d))[r]?
  | [], d, j, r, hj, _ => absurd hj (Nat.not_lt_zero _)
  | e :: l, d, 0, r, _, hr => by
    rw [itsC, List.getElem?_append_left (by rw [itL_len]; omega)]
    simp
  | e :: l, d, j + 1, r, hj, hr => by
    have h := itsC_get l d j r (by simpa using hj) hr
    rw [itsC, List.getElem?_append_right (by rw [itL_len]; omega)]
    rw [show (j + 1) * 4 + r - (itL e).length = j * 4 + r by rw [itL_len]; omega, h]
    rfl
theorem ItsAt.rd {w : World} {base : Nat} {v : Value} {its : List Top.It} (h : ItsAt w base v its) : ∃ A cap g, v = .slice A its.length cap ∧ its.length ≤ cap ∧ ItsRd w A its.length g ∧ ∀ j, j < its.length → (g j).1 = its.getD j (.gap 0 0) := by
  obtain ⟨L, h1, h2, h3⟩ := h
  obtain ⟨A0, cap0, h4, hcap⟩ := own_slice h2
  obtain ⟨A, cap, rfl, hr⟩ := own_reads2 h2
  have e : L.length = its.length := by rw [← h1, List.length_map]
  have hcap2 : cap0 = cap := by injection h4 with _ _ h5; exact h5.symm
  refine ⟨A, cap, fun j => L.getD j (.gap 0 0, .slice none 0 0), by rw [e], by rw [← e, ← hcap2]; exact hcap, ⟨fun hn => ?_, fun j hj => ?_⟩, fun j hj => ?_⟩
  · obtain ⟨a, hA, hc⟩ := hr (by omega)
    refine ⟨a, hA, fun j hj r u hu => ?_⟩
    have hr4 : r < 4 := by have := (List.getElem?_eq_some_iff.1 hu).1; rw [itL_len] at this; exact this
    rw [add_of_add]
    exact hc (j * 4 + r) u ((itsC_get L _ j r (by omega) hr4).trans hu)
  · have hm : L.getD j (.gap 0 0, .slice none 0 0) ∈ L := by
      rw [List.getD_eq_getElem?_getD, List.getElem?_eq_getElem (by omega)]
      exact List.getElem_mem _
    obtain ⟨A2, c2, h5, h6⟩ := (h3 _ hm).rd
    exact ⟨A2, c2, h5, h6⟩
  · simp only
    rw [← h1, List.getD_eq_getElem?_getD, List.getD_eq_getElem?_getD, List.getElem?_map, List.getElem?_eq_getElem (by omega)]
    rfl
attribute [local irreducible] EvRd ItsRd ik iseq ilost Top.It.es
set_option maxHeartbeats 8000000 in
theorem same9_eq (w : World) (A1 A2 : Option Addr) (n c1 c2 : Nat) (g1 g2 : Nat → Top.It × Value) (hn : (n : Int) ≤ 1000000) (hM1 : ItsRd w A1 n g1) (hM2 : ItsRd w A2 n g2) (hg : ∀ j, j < n → (g1 j).1 = (g2 j).1 ∧ (g1 j).1.es.length ≤ 1000) :
    Calls Tryz.prog 14 #[.slice A1 n c1, .slice A2 n c2] w fun e w' => e = .returned (.bool true) ∧ ∃ m, w' = w.drewN m := by
  have H1 := Lib.hid hM1; clear hM1
  have H2 := Lib.hid hM2; clear hM2
  have HE := Lib.hid hg; clear hg
  go_enter Tryz.func14, Tryz.ntmps14
  go_wp2_with fail
  go_loopw [5] (fun i wr => ∃ k : Nat, k ≤ n ∧ i = .int .i64 k ∧ ∃ m, wr = w.drewN m) (fun i _ => n - (intOf i).toNat)
  case atStart => exact ⟨0, by omega, rfl, 0, rfl⟩
  case round =>
    obtain ⟨k, hk, rfl, m, hm⟩ := hrel
    have HM := Lib.hid hm
    have HGr := Lib.hid (show Grow w wr by rw [hm]; exact Grow.drewN w m)
    clear hm
    by_cases hlt : k < n
    · obtain ⟨a1, B1, cp1, hA1, r1, p0, p1, p2, p3⟩ := ItsRd.at (H1.out.grow HGr.out) k hlt
      obtain ⟨a2, B2, cp2, hA2, r2, q0, q1, q2, q3⟩ := ItsRd.at (H2.out.grow HGr.out) k hlt
      rw [hA1, hA2]
      have HE2 := Lib.hid (HE.out k hlt)
      rw [← HE2.out.1] at r2 q0 q1 q2 q3
      clear hA1 hA2
      have k0 : (0 : Int) ≤ (k : Int) := by omega
      have kn : (k : Int) < (n : Int) := by omega
      have HL := Lib.hid HE2.out.2
      have HS := Lib.hid (fun nq : Nat => same6_eq (wr.drewN nq) B1 B2 (g1 k).1.es.length cp1 cp2 (fun i => (g1 k).1.es.getD i default) (by have := HL.out; omega) (r1.grow (Grow.drewN wr nq)) (r2.grow (Grow.drewN wr nq)))
      clear r1 r2 HE2 HL
      generalize (g1 k).1 = x1 at *
      generalize x1.es.length = el at *
      generalize ik x1 = y0 at *
      generalize iseq x1 = y1 at *
      generalize ilost x1 = y2 at *
      go_wp2_with fail
      go_quiet ((go_at_call 33; exact Calls.quiet_of (HS.out _)))
      have HG2 := Lib.hid (show wr.drewN nq = w.drewN (m + nq) by rw [HM.out, World.drewN_drewN])
      go_wp2_with fail
      go_roundw
      case rel => exact ⟨k + 1, by omega, by go_num, _, HG2.out⟩
      case measure => simp [intOf]; omega
    · have kn : ¬ (k : Int) < (n : Int) := by omega
      go_wp2
      go_ret
      exact ⟨rfl, m, HM.out⟩
end Go.Proofs.YtnhmdinpfcoebaaGreatDoor
end

/-! === Print6 -/
section
/- The reference prints frames, weakly: the walks. -/
namespace Go.Proofs.YtnhmdinpfcoebaaGreatDoor
open Go.RowKit
set_option linter.unusedVariables false
set_option linter.unusedSimpArgs false
set_option maxRecDepth 100000
attribute [local simp] RelKnown Is
theorem EvRd.atS {w : World} {a : Addr} {n : Nat} {f : Nat → Top.Ev} (h : EvRd w (some a) n f) (j : Nat) (hj : j < n) :
    w.cell? (a.add (j * 6)) = some (.int .i64 (f j).kind) ∧ w.cell? ⟨(a.add (j * 6)).block, (a.add (j * 6)).off + 1, none⟩ = some (.int .u64 (f j).cycle) ∧ w.cell? ⟨(a.add (j * 6)).block, (a.add (j * 6)).off + 2, none⟩ = some (.int .u64 (f j).count) ∧
    w.cell? ⟨(a.add (j * 6)).block, (a.add (j * 6)).off + 3, none⟩ = some (.int .u32 (f j).a) ∧ w.cell? ⟨(a.add (j * 6)).block, (a.add (j * 6)).off + 4, none⟩ = some (.int .u32 (f j).b) ∧ w.cell? ⟨(a.add (j * 6)).block, (a.add (j * 6)).off + 5, none⟩ = some (.int .u32 (f j).v) := by
  obtain ⟨a', hA, h1⟩ := h.at j hj
  injection hA with hA
  subst hA
  exact h1
def PrR (m : Nat) (e : Ending) : Prop := ∃ (s : ByteArray) (k : Int), e = .returned (.tuple #[.string s, .int .i64 k]) ∧ s.size ≤ m
def StV (v7 v8 v9 : Value) : Prop := ∃ (x y : Int) (ok : Bool), v7 = .int .u64 x ∧ v8 = .int .u64 y ∧ v9 = .bool ok ∧ (0 ≤ x ∧ x < 18446744073709551616) ∧ 0 ≤ y ∧ y < 18446744073709551616
attribute [local irreducible] EvRd
set_option maxHeartbeats 8000000 in
theorem print6_w (w : World) (A : Option Addr) (n cap : Nat) (f : Nat → Top.Ev) (hn : n ≤ 1000) (hM : EvRd w A n f) : Calls Tryz.prog 20 #[.slice A n cap] w fun e w' => PrR (51 * n) e ∧ Grow w w' := by
  have H1 := Lib.hid hM
  go_enter Tryz.func20, Tryz.ntmps20
  go_wp2_with fail
  go_loopw [4, 5] (fun s i wr => ∃ (k : Nat) (st : ByteArray), k ≤ n ∧ i = .int .i64 k ∧ s = .string st ∧ st.size ≤ 51 * k ∧ Grow w wr) (fun _ i _ => n - (intOf i).toNat)
  case atStart => exact ⟨0, ⟨#[]⟩, by omega, rfl, rfl, Nat.le_refl _, Grow.refl _⟩
  case round =>
    obtain ⟨k, st, hk, rfl, rfl, hst, hg⟩ := hrel
    have HGr := Lib.hid hg; clear hg
    by_cases hlt : k < n
    · obtain ⟨a, rfl⟩ : ∃ a, A = some a := by
        have h := hM
        unfold EvRd at h
        obtain ⟨a, h1, _⟩ := h (by omega)
        exact ⟨a, h1⟩
      clear hM
      have k0 : (0 : Int) ≤ (k : Int) := by omega
      have kn : (k : Int) < (n : Int) := by omega
      have HLT := Lib.hid hlt
      obtain ⟨p0, p1, p2, p3, p4, p5⟩ := EvRd.atS (H1.out.grow HGr.out) k hlt
      generalize hx1 : f k = x1 at *
      have HX1 := Lib.hid hx1; clear hx1
      go_wp2_with fail
      refine (check5_w wr x1).mono ?_
      rintro _ w2 ⟨⟨ck, rfl⟩, hg⟩
      have HG2 := Lib.hid (HGr.out.trans hg); clear hg p0 p1 p2 p3 p4 p5
      by_cases hck : ck = 0
      · subst hck
        obtain ⟨p0, p1, p2, p3, p4, p5⟩ := EvRd.atS (H1.out.grow HG2.out) k hlt
        rw [HX1.out] at p0 p1 p2 p3 p4 p5
        go_upto_region 8 with (fail)
        have HB := Lib.hid (heapAt_alloc_new w2 (.cells (evC x1) 98))
        have HG3 := Lib.hid (HG2.out.trans (Grow.alloc w2 (.cells (evC x1) 98)))
        have HBN := Lib.hid (show w.heap.size ≤ w2.heap.size from HG2.out.size)
        clear p0 p1 p2 p3 p4 p5
        generalize w2.heap.size = g at HB HBN ⊢
        generalize w2.alloc (.cells #[.int .i64 x1.kind, .int .u64 x1.cycle, .int .u64 x1.count, .int .u32 x1.a, .int .u32 x1.b, .int .u32 x1.v] 98) = w3 at HB HG3 ⊢
        go_upto_if 27 with (fail)
        go_cut [] from 27 to 32 (fun wx => (∃ bf : Top.Ev, wx.heap[g]? = some (.cells (evC bf) 98 (0, 0))) ∧ Grow w wx)
        case first =>
          by_cases hk0 : k = 0
          · have hki : ¬ (0 : Int) < (k : Int) := by omega
            clear hk0
            go_wp2_with fail
            go_meet
            exact ⟨⟨x1, HB.out⟩, HG3.out⟩
          · have hki : (0 : Int) < (k : Int) := by omega
            obtain ⟨k', hk'⟩ : ∃ k', k = k' + 1 := ⟨k - 1, by omega⟩
            have e1 : (k : Int) - 1 = (k' : Int) := by omega
            have k1 : (0 : Int) ≤ (k' : Int) := by omega
            have k2 : (k' : Int) < (n : Int) := by omega
            obtain ⟨p0, p1, p2, p3, p4, p5⟩ := EvRd.atS (H1.out.grow HG3.out) k' (by omega)
            clear hk' hk0
            generalize f k' = x0 at *
            go_wp2_with (first
              | ((with_reducible refine wpList_store_blk rfl 98 _ _ rfl g 98 _ (evC x0) ?_ ?_ HB.out rfl (info98 _) (ones98 _) ?_); (· rfl); (· rfl); intro w4 hb4 ho4))
            go_meet
            exact ⟨⟨x0, hb4⟩, HG3.out.only ho4 HBN.out⟩
        case rest =>
          obtain ⟨⟨bf, hbf⟩, hg⟩ := hcut
          have HB4 := Lib.hid hbf; clear hbf
          have HG4 := Lib.hid hg; clear hg HB HG3
          go_upto_region 10 with (fail)
          obtain ⟨p0, p1, p2, p3, p4, p5⟩ := EvRd.atS (H1.out.grow HG4.out) k hlt
          rw [HX1.out] at p0 p1 p2 p3 p4 p5
          have d0 := cell_block HB4.out 0
          have d1 := cell_block HB4.out 1
          have d2 := cell_block HB4.out 2
          have d3 := cell_block HB4.out 3
          have d4 := cell_block HB4.out 4
          have d5 := cell_block HB4.out 5
          simp at d0 d1 d2 d3 d4 d5
          go_cut [7, 8, 9] (fun v7 v8 v9 wx => StV v7 v8 v9 ∧ Grow wc wx)
          case first =>
            go_region_with (first | (go_at_call 46; refine (steps_w _ bf x1).mono ?_; rintro e wx ⟨⟨x, y, ok, rfl, hx, hy⟩, hg⟩; have HS := Lib.hid (And.intro hx hy); have HGX := Lib.hid (show Grow wc wx from Grow.trans (show Grow wc wc.drew from Grow.drewN wc 1) hg); clear hx hy hg))
            all_goals
              go_wp2_with fail
              go_meet
              exact ⟨⟨x, y, ok, rfl, rfl, rfl, HS.out.1, HS.out.2⟩, HGX.out⟩
          case rest =>
            obtain ⟨⟨x, y, ok, rfl, rfl, rfl, hx, hy⟩, hg⟩ := hcut
            have HS := Lib.hid (And.intro hx hy)
            have HG5 := Lib.hid (HG4.out.trans hg)
            clear hx hy hg p0 p1 p2 p3 p4 p5 d0 d1 d2 d3 d4 d5 HG4 HB4
            cases ok
            · go_wp2_with fail
              go_ret2
              exact ⟨⟨_, _, rfl, Nat.zero_le _⟩, HG5.out⟩
            · obtain ⟨p0, p1, p2, p3, p4, p5⟩ := EvRd.atS (H1.out.grow HG5.out) k hlt
              rw [HX1.out] at p0 p1 p2 p3 p4 p5
              go_wp2_with fail
              refine (one_w _ x1 x y HS.out.1.1 HS.out.1.2 HS.out.2.1 HS.out.2.2).mono ?_
              rintro _ w6 ⟨⟨so, rfl, hz⟩, hg⟩
              have HG6 := Lib.hid (HG5.out.trans hg); clear hg p0 p1 p2 p3 p4 p5
              have hz5 : st.size ≤ 60000 := by omega
              have HZ := Lib.hid (show (st ++ so).size ≤ 51 * (k + 1) by rw [ByteArray.size_append]; omega)
              go_wp2_with fail
              go_roundw
              case rel => exact ⟨k + 1, st ++ so, by omega, by go_num, rfl, HZ.out, HG6.out⟩
              case measure => simp [intOf]; omega
      · have hckb : (ck != 0) = true := by simpa using hck
        go_wp2_with fail
        go_ret2
        exact ⟨⟨_, _, rfl, Nat.zero_le _⟩, HG2.out⟩
    · have kn : ¬ (k : Int) < (n : Int) := by omega
      go_wp2
      go_ret2
      exact ⟨⟨_, _, rfl, by have : k = n := by omega
                            rw [this] at hst; exact hst⟩, HGr.out⟩
end Go.Proofs.YtnhmdinpfcoebaaGreatDoor
end

/-! === Print7 -/
section
/- The reference prints a frame, weakly: the walk. -/
namespace Go.Proofs.YtnhmdinpfcoebaaGreatDoor
open Go.RowKit
set_option linter.unusedVariables false
set_option linter.unusedSimpArgs false
set_option maxRecDepth 100000
attribute [local simp] RelKnown Is
def ba (l : Top.Bytes) : ByteArray := ⟨l.toArray⟩
theorem ba_size (l : Top.Bytes) : (ba l).size = l.length := by show l.toArray.size = _; simp
attribute [local irreducible] ba EvRd mk CrcP.Sum
set_option maxHeartbeats 8000000 in
theorem print7_w (w : World) (A : Option Addr) (n cap seq : Nat) (f : Nat → Top.Ev) (hn : n ≤ 1000) (hM : EvRd w A n f) (hseq : seq < 2 ^ 32) (hcy : (f 0).cycle < 2 ^ 64) (hco : (f 0).count < 2 ^ 64) : Calls Tryz.prog 9 #[.agg (frC seq (.slice A n cap))] w fun e w' => PrR 179 e ∧ Grow w w' := by
  have H1 := Lib.hid hM
  have HB := Lib.hid (heapAt_alloc_new w (.cells (frC seq (.slice A n cap)) 43))
  have HG := Lib.hid (Grow.alloc w (.cells (frC seq (.slice A n cap)) 43))
  have HSQ := Lib.hid hseq; clear hseq
  go_enter Tryz.func9, Tryz.ntmps9
  by_cases h0 : n = 0
  · have h0b : ((n : Int) == 0) = true := by rw [h0]; rfl
    go_wp2_with fail
    go_ret2
    exact ⟨⟨_, _, rfl, Nat.zero_le _⟩, Grow.alloc _ _⟩
  · have h0b : ((n : Int) == 0) = false := by simpa using h0
    have hnp : (0 : Int) < (n : Int) := by omega
    obtain ⟨a, rfl⟩ : ∃ a, A = some a := by
      have h := hM
      unfold EvRd at h
      obtain ⟨a, h1, _⟩ := h (by omega)
      exact ⟨a, h1⟩
    clear hM
    have hlt : 0 < n := by omega
    clear h0
    go_wp2_with fail
    refine (print6_w _ (some a) n cap f hn (H1.out.grow HG.out)).mono ?_
    rintro _ w2 ⟨⟨p, k, rfl, hp⟩, hg⟩
    have HB2 := Lib.hid (hg.at HB.out)
    have HG2 := Lib.hid (HG.out.trans hg); clear hg hp
    generalize w.heap.size = g at HB2 ⊢
    by_cases hk : k = 0
    · subst hk
      by_cases hp : 120 < p.size
      · have hpi : (120 : Int) < (p.size : Int) := by omega
        go_wp2_with fail
        go_ret2
        exact ⟨⟨_, _, rfl, Nat.zero_le _⟩, HG2.out⟩
      · have hpi : ¬ (120 : Int) < (p.size : Int) := by omega
        have hpl : p.size ≤ 120 := by omega
        go_wp2_with fail
        refine (sept4_any w2 p.size 2 (by omega) (by decide)).mono ?_
        rintro _ w3 ⟨rfl, hg⟩
        have HB3 := Lib.hid (hg.at HB2.out)
        have HG3 := Lib.hid (HG2.out.trans hg); clear hg
        have HZ := Lib.hid (show (ByteArray.mk (septB 2 p.size).toArray).size = 2 by show (septB 2 p.size).toArray.size = 2; rw [List.size_toArray, septB_len])
        generalize ByteArray.mk (septB 2 p.size).toArray = sz at HZ ⊢
        generalize decide (p.size / 128 ^ 2 = 0) = zb
        go_upto_region 9 with (fail)
        obtain ⟨q0, q1, q2, q3, q4, q5⟩ := EvRd.atS (H1.out.grow HG3.out) 0 hlt
        generalize hf0 : f 0 = x0 at *
        have HF := Lib.hid (fun (n : Nat) (hn : n < 2 ^ 32) w => five_any w n hn)
        obtain ⟨fs, hfs⟩ : ∃ s : ByteArray, s = ⟨(septB 5 seq).toArray⟩ := ⟨_, rfl⟩
        obtain ⟨tc, htc⟩ : ∃ s : ByteArray, s = ⟨(septB 10 x0.cycle).toArray⟩ := ⟨_, rfl⟩
        obtain ⟨tk, htk⟩ : ∃ s : ByteArray, s = ⟨(septB 10 x0.count).toArray⟩ := ⟨_, rfl⟩
        have z1 : fs.size = 5 := by rw [hfs]; show (septB 5 seq).toArray.size = 5; rw [List.size_toArray, septB_len]
        have z2 : tc.size = 10 := by rw [htc]; show (septB 10 x0.cycle).toArray.size = 10; rw [List.size_toArray, septB_len]
        have z3 : tk.size = 10 := by rw [htk]; show (septB 10 x0.count).toArray.size = 10; rw [List.size_toArray, septB_len]
        have HC1 := Lib.hid (fun w => by have h := five_any w seq HSQ.out; rw [← hfs] at h; exact h)
        have HC2 := Lib.hid (fun w => by have h := ten_any w x0.cycle hcy; rw [← htc] at h; exact h)
        have HC3 := Lib.hid (fun w => by have h := ten_any w x0.count hco; rw [← htk] at h; exact h)
        have HZS := Lib.hid (And.intro z1 (And.intro z2 z3))
        clear hfs htc htk z1 z2 z3 hcy hco
        simp only [Nat.zero_mul, add_zero'] at q1 q2
        have HQ := Lib.hid (And.intro q1 q2)
        clear q0 q1 q2 q3 q4 q5
        refine wp_region_rel _ Grow (fun w' => Grow w3 w') [([(1, none)], none), ([(32, some 0)], none), ([(33, some 0)], none), ([(34, some 0)], none), ([(1, none)], none), ([(36, some 0)], none), ([(37, some 0)], none), ([(38, some 0)], none), ([(39, some 0)], none), ([(40, some 0)], none), ([(35, some 6), (41, some 0)], none), ([(1, none)], none), ([(43, some 0)], none), ([(44, some 0)], none), ([(45, some 0)], none), ([(46, some 0)], none), ([(47, some 0)], none), ([(42, some 6), (48, some 0)], none), ([(6, none)], none), ([(49, some 1), (50, some 0)], none), ([(51, some 0)], none)] (by kernel_rfl) (by kernel_rfl) (Grow.drewN w3 1) ?_
        (refine rel_pure ?_; apply Exists.intro; refine ⟨fun aR wQ hF hk => ?_, ?_⟩; focus (first | exact rel_no hk.1 rfl rfl | ((first | (refine rel_none fun K hK => ?_) | (refine rel_yes hk.1 fun K hK => ?_)); (try simp at hk); go_simp; exact hK _ _ (Grow.refl _) hF rfl)))
        (refine rel_pure ?_; apply Exists.intro; refine ⟨fun aR wQ hF hk => ?_, ?_⟩; focus (refine rel_none fun K hK => ?_; (try simp at hk); have d0 := cell_block (Grow.at hF HB3.out) 0; have d1 := cell_block (Grow.at hF HB3.out) 1; simp at d0 d1; go_simp; exact hK _ _ (Grow.refl _) hF rfl))
        (refine rel_pure ?_; apply Exists.intro; refine ⟨fun aR wQ hF hk => ?_, ?_⟩; focus (refine rel_none fun K hK => ?_; (try simp at hk); go_simp; refine (HC1.out _).mono ?_; rintro e w' ⟨rfl, hg⟩; exact hK _ _ hg (Grow.trans hF hg) rfl))
        (refine rel_pure ?_; apply Exists.intro; refine ⟨fun aR wQ hF hk => ?_, ?_⟩; focus (refine rel_none fun K hK => ?_; (try simp at hk); have zz := HZS.out; have zy := HZ.out; have z9 : ¬ (9223372036854775807 < 6 + fs.size) := (by omega); go_simp; exact hK _ _ (Grow.refl _) hF rfl))
        (refine rel_pure ?_; apply Exists.intro; refine ⟨fun aR wQ hF hk => ?_, ?_⟩; focus (first | exact rel_no hk.1 rfl rfl | ((first | (refine rel_none fun K hK => ?_) | (refine rel_yes hk.1 fun K hK => ?_)); (try simp at hk); go_simp; exact hK _ _ (Grow.refl _) hF rfl)))
        (refine rel_pure ?_; apply Exists.intro; refine ⟨fun aR wQ hF hk => ?_, ?_⟩; focus (refine rel_none fun K hK => ?_; (try simp at hk); have d0 := cell_block (Grow.at hF HB3.out) 0; have d1 := cell_block (Grow.at hF HB3.out) 1; simp at d0 d1; go_simp; exact hK _ _ (Grow.refl _) hF rfl))
        (refine rel_pure ?_; apply Exists.intro; refine ⟨fun aR wQ hF hk => ?_, ?_⟩; focus (refine rel_none fun K hK => ?_; (try simp at hk); have hnp2 := hnp; go_simp; exact hK _ _ (Grow.refl _) hF rfl))
        (refine rel_pure ?_; apply Exists.intro; refine ⟨fun aR wQ hF hk => ?_, ?_⟩; focus (first | exact rel_no hk.1 rfl rfl | ((first | (refine rel_none fun K hK => ?_) | (refine rel_yes hk.1 fun K hK => ?_)); (try simp at hk); go_simp; exact hK _ _ (Grow.refl _) hF rfl)))
        (refine rel_pure ?_; apply Exists.intro; refine ⟨fun aR wQ hF hk => ?_, ?_⟩; focus (refine rel_none fun K hK => ?_; (try simp at hk); have e1 := (Grow.cell hF HQ.out.1); have e2 := (Grow.cell hF HQ.out.2); go_simp; exact hK _ _ (Grow.refl _) hF rfl))
        (refine rel_pure ?_; apply Exists.intro; refine ⟨fun aR wQ hF hk => ?_, ?_⟩; focus (refine rel_none fun K hK => ?_; (try simp at hk); go_simp; refine (HC2.out _).mono ?_; rintro e w' ⟨rfl, hg⟩; exact hK _ _ hg (Grow.trans hF hg) rfl))
        (refine rel_pure ?_; apply Exists.intro; refine ⟨fun aR wQ hF hk => ?_, ?_⟩; focus (refine rel_none fun K hK => ?_; (try simp at hk); have zz := HZS.out; have zy := HZ.out; have z9 : ¬ (9223372036854775807 < 6 + fs.size + tc.size) := (by omega); go_simp; exact hK _ _ (Grow.refl _) hF rfl))
        (refine rel_pure ?_; apply Exists.intro; refine ⟨fun aR wQ hF hk => ?_, ?_⟩; focus (first | exact rel_no hk.1 rfl rfl | ((first | (refine rel_none fun K hK => ?_) | (refine rel_yes hk.1 fun K hK => ?_)); (try simp at hk); go_simp; exact hK _ _ (Grow.refl _) hF rfl)))
        (refine rel_pure ?_; apply Exists.intro; refine ⟨fun aR wQ hF hk => ?_, ?_⟩; focus (refine rel_none fun K hK => ?_; (try simp at hk); have d0 := cell_block (Grow.at hF HB3.out) 0; have d1 := cell_block (Grow.at hF HB3.out) 1; simp at d0 d1; go_simp; exact hK _ _ (Grow.refl _) hF rfl))
        (refine rel_pure ?_; apply Exists.intro; refine ⟨fun aR wQ hF hk => ?_, ?_⟩; focus (first | exact rel_no hk.1 rfl rfl | ((first | (refine rel_none fun K hK => ?_) | (refine rel_yes hk.1 fun K hK => ?_)); (try simp at hk); go_simp; exact hK _ _ (Grow.refl _) hF rfl)))
        (refine rel_pure ?_; apply Exists.intro; refine ⟨fun aR wQ hF hk => ?_, ?_⟩; focus (first | exact rel_no hk.1 rfl rfl | ((first | (refine rel_none fun K hK => ?_) | (refine rel_yes hk.1 fun K hK => ?_)); (try simp at hk); go_simp; exact hK _ _ (Grow.refl _) hF rfl)))
        (refine rel_pure ?_; apply Exists.intro; refine ⟨fun aR wQ hF hk => ?_, ?_⟩; focus (refine rel_none fun K hK => ?_; (try simp at hk); have e1 := (Grow.cell hF HQ.out.1); have e2 := (Grow.cell hF HQ.out.2); go_simp; exact hK _ _ (Grow.refl _) hF rfl))
        (refine rel_pure ?_; apply Exists.intro; refine ⟨fun aR wQ hF hk => ?_, ?_⟩; focus (refine rel_none fun K hK => ?_; (try simp at hk); go_simp; refine (HC3.out _).mono ?_; rintro e w' ⟨rfl, hg⟩; exact hK _ _ hg (Grow.trans hF hg) rfl))
        (refine rel_pure ?_; apply Exists.intro; refine ⟨fun aR wQ hF hk => ?_, ?_⟩; focus (refine rel_none fun K hK => ?_; (try simp at hk); have zz := HZS.out; have zy := HZ.out; have z9 : ¬ (9223372036854775807 < 6 + fs.size + tc.size + tk.size) := (by omega); go_simp; exact hK _ _ (Grow.refl _) hF rfl))
        (refine rel_pure ?_; apply Exists.intro; refine ⟨fun aR wQ hF hk => ?_, ?_⟩; focus (first | exact rel_no hk.1 rfl rfl | ((first | (refine rel_none fun K hK => ?_) | (refine rel_yes hk.1 fun K hK => ?_)); (try simp at hk); go_simp; exact hK _ _ (Grow.refl _) hF rfl)))
        (refine rel_pure ?_; apply Exists.intro; refine ⟨fun aR wQ hF hk => ?_, ?_⟩; focus (refine rel_none fun K hK => ?_; (try simp at hk); have zz := HZS.out; have zy := HZ.out; have z9 : ¬ (9223372036854775807 < 6 + fs.size + tc.size + tk.size + sz.size) := (by omega); go_simp; exact hK _ _ (Grow.refl _) hF rfl))
        (refine rel_pure ?_; apply Exists.intro; refine ⟨fun aR wQ hF hk => ?_, ?_⟩; focus (first | exact rel_no hk.1 rfl rfl | ((first | (refine rel_none fun K hK => ?_) | (refine rel_yes hk.1 fun K hK => ?_)); (try simp at hk); go_simp; exact hK _ _ (Grow.refl _) hF rfl)))
        refine rel_done fun wR hF => ?_
        repeat (first | (refine fun v hv => ?_; obtain rfl : v = _ := hv) | (refine fun v hv => ?_))
        simp only [Act.put, List.setIfInBounds_toArray, List.set_cons_zero, List.set_cons_succ]
        refine rel_nil ?_
        obtain ⟨hh, hhh⟩ : ∃ s, s = (ByteArray.mk #[84, 65, 70, 82, 73, 76] ++ fs ++ tc ++ tk ++ sz) := ⟨_, rfl⟩
        rw [← hhh]
        have hhz : hh.size = 33 := by
          rw [hhh]
          simp only [ByteArray.size_append]
          have h1 := HZS.out
          have h2 := HZ.out
          have h3 : (ByteArray.mk #[84, 65, 70, 82, 73, 76]).size = 6 := rfl
          omega
        have HH := Lib.hid hhz
        have HG4 := Lib.hid (HG3.out.trans hF)
        clear hhh hhz hF HC1 HC2 HC3 HQ HZS HZ HB3 HG3
        obtain ⟨c1, hc1⟩ : ∃ c, c = (CrcP.Sum hh.data.toList).toNat := ⟨_, rfl⟩
        obtain ⟨c2, hc2⟩ : ∃ c, c = (CrcP.Sum p.data.toList).toNat := ⟨_, rfl⟩
        have hl1 : c1 < 2 ^ 32 := by rw [hc1]; exact (CrcP.Sum hh.data.toList).isLt
        have hl2 : c2 < 2 ^ 32 := by rw [hc2]; exact (CrcP.Sum p.data.toList).isLt
        have HS1 := Lib.hid (fun w => by have h := refSum_any w hh (by rw [HH.out]; decide); rw [← hc1] at h; exact h)
        have HS2 := Lib.hid (fun w => by have h := refSum_any w p (by omega); rw [← hc2] at h; exact h)
        obtain ⟨k1, hk1⟩ : ∃ s : ByteArray, s = ⟨(septB 5 c1).toArray⟩ := ⟨_, rfl⟩
        obtain ⟨k2, hk2⟩ : ∃ s : ByteArray, s = ⟨(septB 5 c2).toArray⟩ := ⟨_, rfl⟩
        have z1 : k1.size = 5 := by rw [hk1]; show (septB 5 c1).toArray.size = 5; rw [List.size_toArray, septB_len]
        have z2 : k2.size = 5 := by rw [hk2]; show (septB 5 c2).toArray.size = 5; rw [List.size_toArray, septB_len]
        have HC1 := Lib.hid (fun w => by have h := five_any w c1 hl1; rw [← hk1] at h; exact h)
        have HC2 := Lib.hid (fun w => by have h := five_any w c2 hl2; rw [← hk2] at h; exact h)
        have HPL := Lib.hid hpl
        have HZS := Lib.hid (And.intro z1 z2)
        clear hk1 hk2 z1 z2 hc1 hc2 hl1 hl2
        obtain ⟨m16, hm16⟩ : ∃ s, s = mk.extract 0 16 := ⟨_, rfl⟩
        have HM := Lib.hid (show m16.size = 16 by rw [hm16]; unfold mk; rfl)
        have hmk : mk.size = 22 := by unfold mk; rfl
        have HMK := Lib.hid hmk; clear hmk
        have hm16e : mk.extract 0 16 = m16 := hm16.symm
        clear hm16
        go_upto_region 10 with (fail)
        refine wp_region_rel _ Grow (fun w' => Grow wR w') [([], none), ([(52, some 0)], none), ([(8, none)], none), ([(53, some 1), (54, some 0)], none), ([(8, none)], none), ([(56, some 0)], none), ([(57, some 0)], none), ([(55, some 3), (58, some 0)], none), ([(4, none)], none), ([(59, some 1), (60, some 0)], none), ([(4, none)], none), ([(62, some 0)], none), ([(63, some 0)], none), ([(61, some 3), (64, some 0)], none), ([(65, some 0)], none), ([], none)] (by kernel_rfl) (by kernel_rfl) (Grow.drewN wR 1) ?_
        (refine rel_pure ?_; apply Exists.intro; refine ⟨fun aR wQ hF hk => ?_, ?_⟩; focus (refine rel_none fun K hK => ?_; (try simp at hk); go_simp; refine (mark7_any _).mono ?_; rintro e w' ⟨rfl, rfl⟩; exact hK _ _ (Grow.refl _) hF rfl))
        (refine rel_pure ?_; apply Exists.intro; refine ⟨fun aR wQ hF hk => ?_, ?_⟩; focus (refine rel_none fun K hK => ?_; (try simp at hk); have zz := HMK.out; have zy := hm16e; have zu : (16 : Int) ≤ (mk.size : Int) := (by rw [zz]; decide); go_simp; exact hK _ _ (Grow.refl _) hF rfl))
        (refine rel_pure ?_; apply Exists.intro; refine ⟨fun aR wQ hF hk => ?_, ?_⟩; focus (first | exact rel_no hk.1 rfl rfl | ((first | (refine rel_none fun K hK => ?_) | (refine rel_yes hk.1 fun K hK => ?_)); (try simp at hk); go_simp; exact hK _ _ (Grow.refl _) hF rfl)))
        (refine rel_pure ?_; apply Exists.intro; refine ⟨fun aR wQ hF hk => ?_, ?_⟩; focus (refine rel_none fun K hK => ?_; (try simp at hk); have zz := HZS.out; have zy := HH.out; have zx := HM.out; have zw := HPL.out; have z9 : ¬ (9223372036854775807 < m16.size + hh.size) := (by omega); go_simp; exact hK _ _ (Grow.refl _) hF rfl))
        (refine rel_pure ?_; apply Exists.intro; refine ⟨fun aR wQ hF hk => ?_, ?_⟩; focus (first | exact rel_no hk.1 rfl rfl | ((first | (refine rel_none fun K hK => ?_) | (refine rel_yes hk.1 fun K hK => ?_)); (try simp at hk); go_simp; exact hK _ _ (Grow.refl _) hF rfl)))
        (refine rel_pure ?_; apply Exists.intro; refine ⟨fun aR wQ hF hk => ?_, ?_⟩; focus (refine rel_none fun K hK => ?_; (try simp at hk); go_simp; refine Calls.mono (HS1.out _) (fun e w3 h => And.intro h.1 h.2.symm) |>.mono ?_; rintro e w' ⟨rfl, rfl⟩; exact hK _ _ (Grow.refl _) hF rfl))
        (refine rel_pure ?_; apply Exists.intro; refine ⟨fun aR wQ hF hk => ?_, ?_⟩; focus (refine rel_none fun K hK => ?_; (try simp at hk); go_simp; refine (HC1.out _).mono ?_; rintro e w' ⟨rfl, hg⟩; exact hK _ _ hg (Grow.trans hF hg) rfl))
        (refine rel_pure ?_; apply Exists.intro; refine ⟨fun aR wQ hF hk => ?_, ?_⟩; focus (refine rel_none fun K hK => ?_; (try simp at hk); have zz := HZS.out; have zy := HH.out; have zx := HM.out; have zw := HPL.out; have z9 : ¬ (9223372036854775807 < m16.size + hh.size + k1.size) := (by omega); go_simp; exact hK _ _ (Grow.refl _) hF rfl))
        (refine rel_pure ?_; apply Exists.intro; refine ⟨fun aR wQ hF hk => ?_, ?_⟩; focus (first | exact rel_no hk.1 rfl rfl | ((first | (refine rel_none fun K hK => ?_) | (refine rel_yes hk.1 fun K hK => ?_)); (try simp at hk); go_simp; exact hK _ _ (Grow.refl _) hF rfl)))
        (refine rel_pure ?_; apply Exists.intro; refine ⟨fun aR wQ hF hk => ?_, ?_⟩; focus (refine rel_none fun K hK => ?_; (try simp at hk); have zz := HZS.out; have zy := HH.out; have zx := HM.out; have zw := HPL.out; have z9 : ¬ (9223372036854775807 < 54 + p.size) := (by omega); go_simp; exact hK _ _ (Grow.refl _) hF rfl))
        (refine rel_pure ?_; apply Exists.intro; refine ⟨fun aR wQ hF hk => ?_, ?_⟩; focus (first | exact rel_no hk.1 rfl rfl | ((first | (refine rel_none fun K hK => ?_) | (refine rel_yes hk.1 fun K hK => ?_)); (try simp at hk); go_simp; exact hK _ _ (Grow.refl _) hF rfl)))
        (refine rel_pure ?_; apply Exists.intro; refine ⟨fun aR wQ hF hk => ?_, ?_⟩; focus (refine rel_none fun K hK => ?_; (try simp at hk); go_simp; refine Calls.mono (HS2.out _) (fun e w3 h => And.intro h.1 h.2.symm) |>.mono ?_; rintro e w' ⟨rfl, rfl⟩; exact hK _ _ (Grow.refl _) hF rfl))
        (refine rel_pure ?_; apply Exists.intro; refine ⟨fun aR wQ hF hk => ?_, ?_⟩; focus (refine rel_none fun K hK => ?_; (try simp at hk); go_simp; refine (HC2.out _).mono ?_; rintro e w' ⟨rfl, hg⟩; exact hK _ _ hg (Grow.trans hF hg) rfl))
        (refine rel_pure ?_; apply Exists.intro; refine ⟨fun aR wQ hF hk => ?_, ?_⟩; focus (refine rel_none fun K hK => ?_; (try simp at hk); have zz := HZS.out; have zy := HH.out; have zx := HM.out; have zw := HPL.out; have z9 : ¬ (9223372036854775807 < 54 + p.size + 5) := (by omega); have z8 : ¬ (9223372036854775807 < 59 + p.size) := (by omega); go_simp; exact hK _ _ (Grow.refl _) hF rfl))
        (refine rel_pure ?_; apply Exists.intro; refine ⟨fun aR wQ hF hk => ?_, ?_⟩; focus (first | exact rel_no hk.1 rfl rfl | ((first | (refine rel_none fun K hK => ?_) | (refine rel_yes hk.1 fun K hK => ?_)); (try simp at hk); go_simp; exact hK _ _ (Grow.refl _) hF rfl)))
        (refine rel_pure ?_; apply Exists.intro; refine ⟨fun aR wQ hF hk => ?_, ?_⟩; focus (first | exact rel_no hk.1 rfl rfl | ((first | (refine rel_none fun K hK => ?_) | (refine rel_yes hk.1 fun K hK => ?_)); (try simp at hk); go_simp; exact hK _ _ (Grow.refl _) hF rfl)))
        refine rel_done fun wR hF => ?_
        repeat (first | (refine fun v hv => ?_; obtain rfl : v = _ := hv) | (refine fun v hv => ?_))
        simp only [Act.put, List.setIfInBounds_toArray, List.set_cons_zero, List.set_cons_succ]
        refine rel_nil ?_
        have HG5 := Lib.hid (HG4.out.trans hF)
        have HSZ := Lib.hid (show (m16 ++ hh ++ k1 ++ p ++ k2).size ≤ 179 by
          simp only [ByteArray.size_append]
          have h1 := HM.out
          have h2 := HH.out
          have h3 := HZS.out
          have h4 := HPL.out
          omega)
        clear hF
        go_wp2
        go_ret2
        exact ⟨⟨_, _, rfl, HSZ.out⟩, HG5.out⟩
    · have hkb : (k != 0) = true := by simpa using hk
      go_wp2_with fail
      go_ret2
      exact ⟨⟨_, _, rfl, Nat.zero_le _⟩, HG2.out⟩
end Go.Proofs.YtnhmdinpfcoebaaGreatDoor
end
