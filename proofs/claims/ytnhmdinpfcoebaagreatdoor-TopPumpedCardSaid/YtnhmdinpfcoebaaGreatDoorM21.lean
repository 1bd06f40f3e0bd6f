/- Texts of the proof, merged: Pump, PumpB, Law0, Law1, Law2. -/
import Derived.Test.YtnhmdinpfcoebaaGreatDoorM16
import Derived.Test.YtnhmdinpfcoebaaGreatDoorM18
import Derived.Test.YtnhmdinpfcoebaaGreatDoorM20
/-! === Pump -/
section
/- The pipe pumped and fed: the walks. -/
namespace Go.Proofs.YtnhmdinpfcoebaaGreatDoor
open Go.RowKit
set_option linter.unusedVariables false
set_option linter.unusedSimpArgs false
set_option maxRecDepth 100000

open Go.Conc
/-- Items, events, tables and other hunters stay. -/
def KeepI (h : Nat) (w w' : World) : Prop := ∀ (k : Nat) (cs : Array Value) (fr : Nat × Nat) (t : TypeId), t = 85 ∨ t = 98 ∨ t = 90 ∨ (t = 87 ∧ k ≠ h) → w.heap[k]? = some (.cells cs t fr) → w'.heap[k]? = some (.cells cs t fr)
theorem KeepI.refl (h : Nat) (w : World) : KeepI h w w := fun _ _ _ _ _ h => h
theorem KeepI.trans {x : Nat} {a b c : World} (h : KeepI x a b) (g : KeepI x b c) : KeepI x a c := fun k cs fr t ht hk => g k cs fr t ht (h k cs fr t ht hk)
theorem KeepI.grow {w w' : World} (x : Nat) (h : Grow w w') : KeepI x w w' := fun k cs fr t _ hk => h.at hk
theorem KeepI.hunter {w w' : World} {b : Nat} {cs : Array Value} {fr : Nat × Nat} (ho : Only b w w') (hb : w.heap[b]? = some (.cells cs 87 fr)) : KeepI b w w' := fun k cs2 fr2 t2 ht hk => by
  refine ho.at ?_ hk
  rcases ht with rfl | rfl | rfl | ⟨rfl, h⟩
  · exact ty_ne hk hb (by decide)
  · exact ty_ne hk hb (by decide)
  · exact ty_ne hk hb (by decide)
  · exact h
theorem EvAt.keepI {w w' : World} {x : Nat} {v : Value} {es : List Top.Ev} (h : EvAt w v es) (hk : KeepI x w w') : EvAt w' v es := h.keep fun k cs hb => hk k cs _ 98 (.inr (.inl rfl)) hb
theorem ItsAt.keepI {w w' : World} {x base : Nat} {v : Value} {its : List Top.It} (h : ItsAt w base v its) (hk : KeepI x w w') : ItsAt w' base v its := by
  obtain ⟨L, h1, h2, h3⟩ := h
  refine ⟨L, h1, own_keep h2 fun g hg => ?_, fun p hp => (h3 p hp).keepI hk⟩
  obtain ⟨cur, hb⟩ := own_blk h2 hg
  rw [hb]; exact hk g cur _ 85 (.inl rfl) hb
theorem HuAt.keepI {w w' : World} {x h tb n s l : Nat} {t : ByteArray} {c : Bool} (hh : HuAt w h tb t n s l c) (hk : KeepI x w w') (hne : h ≠ x) : HuAt w' h tb t n s l c :=
  ⟨hk h _ _ 87 (.inr (.inr (.inr ⟨rfl, hne⟩))) hh.b, hk tb _ _ 90 (.inr (.inr (.inl rfl))) hh.t, hh.n, hh.s⟩
section
variable {w w' : World} {base r g cap : Nat} {pol : Int} {s : Rg.RG}
theorem ring_blocks (h : Rg.RingAt w base r g cap pol s) : (∃ cs, w.heap[r]? = some (.cells cs 62 (0, 0))) ∧ ∃ cs, w.heap[g]? = some (.cells cs 5 (0, 0)) := by
  obtain ⟨h1, h2, h3, hd, R, A, c, h4, h5, h6⟩ := h
  exact ⟨⟨_, h4.blk⟩, _, h4.room⟩
theorem ring_keep (h : Rg.RingAt w base r g cap pol s) (hk : ∀ (k : Nat) (cs : Array Value) (t : TypeId), t = 62 ∨ t = 5 ∨ t = 3 → w.heap[k]? = some (.cells cs t (0, 0)) → w'.heap[k]? = some (.cells cs t (0, 0))) : Rg.RingAt w' base r g cap pol s := by
  obtain ⟨h1, h2, h3, hd, R, A, c, h4, h5, h6⟩ := h
  exact ⟨h1, h2, h3, hd, R, A, c, ⟨h4.hr, h4.hg, hk _ _ 62 (.inl rfl) h4.blk, hk _ _ 5 (.inr (.inl rfl)) h4.room, h4.sz.keep fun k cs hb => hk k cs 3 (.inr (.inr rfl)) hb⟩, h5, h6⟩
theorem ring_only {b t : Nat} {cs : Array Value} {fr : Nat × Nat} (h : Rg.RingAt w base r g cap pol s) (ho : Only b w w') (hb : w.heap[b]? = some (.cells cs t fr)) (h1 : 62 ≠ t) (h2 : 5 ≠ t) (h3 : 3 ≠ t) : Rg.RingAt w' base r g cap pol s :=
  ring_keep h fun k cs2 t2 ht hk => ho.at (ty_ne hk hb (by rcases ht with rfl | rfl | rfl; exact h1; exact h2; exact h3)) hk
theorem chan_ne {b k t : Nat} {cs : Array Value} {fr : Nat × Nat} {cp : Nat} {buf : Array Value} {cl : Bool} {x y : Nat} {tm : Bool} (hb : w.heap[b]? = some (.chan cp buf cl x y tm)) (hk : w.heap[k]? = some (.cells cs t fr)) : k ≠ b := fun e => by
  subst e
  rw [hb] at hk
  cases hk
theorem ring_chan {c : Nat} {cp : Nat} {buf : Array Value} {cl : Bool} {x y : Nat} {tm : Bool} (h : Rg.RingAt w base r g cap pol s) (ho : Only c w w') (hb : w.heap[c]? = some (.chan cp buf cl x y tm)) : Rg.RingAt w' base r g cap pol s :=
  ring_keep h fun k cs2 t2 ht hk => ho.at (chan_ne hb hk) hk
theorem at_far {k t : Nat} {cs : Array Value} {fr : Nat × Nat} (h : Rg.RingAt w base r g cap pol s) (hf : Rg.FarR base r g w w') (hk : w.heap[k]? = some (.cells cs t fr)) (h1 : t ≠ 62) (h2 : t ≠ 5) (h3 : t ≠ 3) : w'.heap[k]? = some (.cells cs t fr) := by
  obtain ⟨⟨c1, b1⟩, c2, b2⟩ := ring_blocks h
  refine hf.2 k _ hk (fun e => ?_) fun cs2 f2 e => ?_
  · rcases e with e | e
    · exact ty_ne hk b1 h1 e
    · exact ty_ne hk b2 h2 e
  · injection e with _ e _; exact h3 e
end
theorem KeepI.far {w w' : World} {x base r g cap : Nat} {pol : Int} {s : Rg.RG} (h : Rg.RingAt w base r g cap pol s) (hf : Rg.FarR base r g w w') : KeepI x w w' := fun k cs fr t ht hk => by
  rcases ht with rfl | rfl | rfl | ⟨rfl, _⟩
  · exact at_far h hf hk (by decide) (by decide) (by decide)
  · exact at_far h hf hk (by decide) (by decide) (by decide)
  · exact at_far h hf hk (by decide) (by decide) (by decide)
  · exact at_far h hf hk (by decide) (by decide) (by decide)
theorem KeepI.chan {w w' : World} {h c : Nat} {cp : Nat} {buf : Array Value} {cl : Bool} {x y : Nat} {tm : Bool} (ho : Only c w w') (hb : w.heap[c]? = some (.chan cp buf cl x y tm)) : KeepI h w w' := fun k cs fr t ht hk => ho.at (chan_ne hb hk) hk
/-- The world of the law: a ring, a pipe, a hunter. -/
structure SW (w0 w : World) (r g p c h tb room : Nat) (s : Rg.RG) (l : List ByteArray) (t : ByteArray) (n sk lo : Nat) : Prop where
  rg : Rg.RingAt w w0.heap.size r g 1048576 0 s
  pi : ∃ sn rc, PipeAt w p c room l sn rc
  hu : HuAt w h tb t n sk lo false
  ll : lo ≤ n
  b : Below w0.heap.size w0 w
  pc : w0.heap.size ≤ c
  ph : w0.heap.size ≤ h
section
variable {w0 w w' : World} {r g p c h tb room : Nat} {s : Rg.RG} {l : List ByteArray} {t : ByteArray} {n sk lo : Nat}
theorem SW.grow (x : SW w0 w r g p c h tb room s l t n sk lo) (hg : Grow w w') : SW w0 w' r g p c h tb room s l t n sk lo := by
  obtain ⟨sn, rc, hp⟩ := x.pi
  exact ⟨x.rg.grow hg, ⟨sn, rc, hg.at hp.b, hg.at hp.c⟩, x.hu.grow hg, x.ll, Below.trans x.b (hg.mono x.b.size), x.pc, x.ph⟩
theorem SW.ring {s' : Rg.RG} (x : SW w0 w r g p c h tb room s l t n sk lo) (hf : Rg.FarR w0.heap.size r g w w') (hr : Rg.RingAt w' w0.heap.size r g 1048576 0 s') : SW w0 w' r g p c h tb room s' l t n sk lo := by
  obtain ⟨sn, rc, hp⟩ := x.pi
  refine ⟨hr, ⟨sn, rc, at_far x.rg hf hp.b (by decide) (by decide) (by decide), hf.2 c _ hp.c (fun e => ?_) fun cs f e => by cases e⟩, ⟨at_far x.rg hf x.hu.b (by decide) (by decide) (by decide), at_far x.rg hf x.hu.t (by decide) (by decide) (by decide), x.hu.n, x.hu.s⟩, x.ll, Below.trans x.b hf.1, x.pc, x.ph⟩
  obtain ⟨⟨c1, b1⟩, c2, b2⟩ := ring_blocks x.rg
  rcases e with e | e
  · exact chan_ne hp.c b1 e.symm
  · exact chan_ne hp.c b2 e.symm
theorem SW.chan {l' : List ByteArray} {sn rc sn' rc' : Nat} (x : SW w0 w r g p c h tb room s l t n sk lo) (hp : PipeAt w p c room l sn rc) (ho : Only c w w') (hp' : PipeAt w' p c room l' sn' rc') : SW w0 w' r g p c h tb room s l' t n sk lo :=
  ⟨ring_chan x.rg ho hp.c, ⟨sn', rc', hp'⟩, ⟨ho.at (chan_ne hp.c x.hu.b) x.hu.b, ho.at (chan_ne hp.c x.hu.t) x.hu.t, x.hu.n, x.hu.s⟩, x.ll, Below.trans x.b (ho.below x.pc x.b.size), x.pc, x.ph⟩
theorem SW.hunt {t' : ByteArray} {n' sk' lo' : Nat} (x : SW w0 w r g p c h tb room s l t n sk lo) (ho : Only h w w') (hh : HuAt w' h tb t' n' sk' lo' false) (hl : lo' ≤ n') : SW w0 w' r g p c h tb room s l t' n' sk' lo' := by
  obtain ⟨sn, rc, hp⟩ := x.pi
  exact ⟨ring_only x.rg ho x.hu.b (by decide) (by decide) (by decide), ⟨sn, rc, ho.at (ty_ne hp.b x.hu.b (by decide)) hp.b, ho.at (fun e => chan_ne hp.c x.hu.b e.symm) hp.c⟩, hh, hl, Below.trans x.b (ho.below x.ph x.b.size), x.pc, x.ph⟩
theorem SW.own {B m : Nat} {u : Value} {xs : List Value} (x : SW w0 w r g p c h tb room s l t n sk lo) (ho : w.ownsRow B 85 4 u m xs) (hB : w0.heap.size ≤ B) (hg : w.grownBy w' u.ownBlock) : SW w0 w' r g p c h tb room s l t n sk lo := by
  obtain ⟨sn, rc, hp⟩ := x.pi
  have hc : w'.heap[c]? = some (.chan room (chunks l) false sn rc false) := by
    refine (hg.block c (heapAt_lt hp.c) fun e => ?_).trans hp.c
    obtain ⟨cur, h2⟩ := own_blk ho e.symm
    exact chan_ne hp.c h2 rfl
  exact ⟨ring_keep x.rg fun k cs t2 ht hk => at_grown ho hg hk (by rcases ht with rfl | rfl | rfl <;> decide), ⟨sn, rc, at_grown ho hg hp.b (by decide), hc⟩, x.hu.grown ho hg (by decide) (by decide), x.ll, Below.trans x.b (below_grown hg x.b.size fun k hk => Nat.le_trans hB (ho.lt k hk).1), x.pc, x.ph⟩
end
end Go.Proofs.YtnhmdinpfcoebaaGreatDoor
end

/-! === PumpB -/
section
/- The pipe pumped and fed: the walks. -/
namespace Go.Proofs.YtnhmdinpfcoebaaGreatDoor
open Go.RowKit
set_option linter.unusedVariables false
set_option linter.unusedSimpArgs false
set_option maxRecDepth 100000

open Go.Conc
attribute [local irreducible] Rg.RingAt chunks
theorem run_len_chan {W : World} {c cap s r : Nat} {buf : Array Value} {cl : Bool} (h : W.heap[c]? = some (.chan cap buf cl s r false)) (ty : TypeId) : (Builtin.len_ #[56] ty #[.chan (some c)]).run Tryz.prog W = .ok (.int .i64 buf.size) W := by
  simp [Builtin.len_, run_underlying Tryz.underlying56, getObj, Sem.run, h, goInt]
theorem run_cap_chan {W : World} {c cap s r : Nat} {buf : Array Value} {cl : Bool} (h : W.heap[c]? = some (.chan cap buf cl s r false)) (ty : TypeId) : (Builtin.cap_ #[56] ty #[.chan (some c)]).run Tryz.prog W = .ok (.int .i64 cap) W := by
  simp [Builtin.cap_, run_underlying Tryz.underlying56, getObj, Sem.run, h, goInt]
set_option maxHeartbeats 4000000 in
theorem pump_full {w0 w : World} {r g p c h tb room : Nat} {s : Rg.RG} {l : List ByteArray} {t : ByteArray} {n sk lo : Nat} (most : Int) (x : SW w0 w r g p c h tb room s l t n sk lo) (hf : l.length = room) : Calls Tryz.prog 11 #[.pointer (some ⟨r, 0, none⟩), .pointer (some ⟨p, 0, none⟩), .int .i64 most] w fun e w' => IntR e ∧ Grow w w' := by
  have hfb : (l.length : Int) = (room : Int) := by omega
  have hfd : ((l.length : Int) == (room : Int)) = true := by rw [hf]; simp
  obtain ⟨sn, rc, hp⟩ := x.pi
  have hc := hp.c
  have b0 := cell_block hp.b 0
  have b1 := cell_block hp.b 1
  simp at b0 b1
  have hcs : (chunks l).size = l.length := by unfold chunks; simp
  clear x hp
  generalize chunks l = buf at *
  have hlen : ∀ (n : Nat) (ty : TypeId), (Builtin.len_ #[56] ty #[.chan (some c)]).run Tryz.prog (w.drewN n) = .ok (.int .i64 l.length) (w.drewN n) := fun n ty => by rw [← hcs]; exact run_len_chan (W := w.drewN n) hc ty
  have hcap : ∀ (n : Nat) (ty : TypeId), (Builtin.cap_ #[56] ty #[.chan (some c)]).run Tryz.prog (w.drewN n) = .ok (.int .i64 room) (w.drewN n) := fun n ty => run_cap_chan (W := w.drewN n) hc ty
  clear hcs hc
  go_enter Tryz.func11, Tryz.ntmps11
  go_upto_region 1 with (fail)
  go_quiet (fail)
  go_wp2
  go_ret
  exact ⟨⟨_, rfl⟩, Grow.drewN w nq⟩
set_option maxHeartbeats 4000000 in
theorem pump_low {w0 w : World} {r g p c h tb room : Nat} {s : Rg.RG} {l : List ByteArray} {t : ByteArray} {n sk lo : Nat} (most : Int) (x : SW w0 w r g p c h tb room s l t n sk lo) (hf : l.length ≠ room) (hm : most < 1) : Calls Tryz.prog 11 #[.pointer (some ⟨r, 0, none⟩), .pointer (some ⟨p, 0, none⟩), .int .i64 most] w fun e w' => IntR e ∧ Grow w w' := by
  have hfd : ((l.length : Int) == (room : Int)) = false := by simp; omega
  obtain ⟨sn, rc, hp⟩ := x.pi
  have hc := hp.c
  have b0 := cell_block hp.b 0
  have b1 := cell_block hp.b 1
  simp at b0 b1
  have hcs : (chunks l).size = l.length := by unfold chunks; simp
  clear x hp
  generalize chunks l = buf at *
  have hlen : ∀ (n : Nat) (ty : TypeId), (Builtin.len_ #[56] ty #[.chan (some c)]).run Tryz.prog (w.drewN n) = .ok (.int .i64 l.length) (w.drewN n) := fun n ty => by rw [← hcs]; exact run_len_chan (W := w.drewN n) hc ty
  have hcap : ∀ (n : Nat) (ty : TypeId), (Builtin.cap_ #[56] ty #[.chan (some c)]).run Tryz.prog (w.drewN n) = .ok (.int .i64 room) (w.drewN n) := fun n ty => run_cap_chan (W := w.drewN n) hc ty
  clear hcs hc
  go_enter Tryz.func11, Tryz.ntmps11
  go_upto_region 1 with (fail)
  go_quiet (fail)
  go_wp2
  go_ret
  exact ⟨⟨_, rfl⟩, Grow.drewN w nq⟩
set_option maxHeartbeats 4000000 in
theorem pump_none {w0 w : World} {r g p c h tb room : Nat} {s : Rg.RG} {l : List ByteArray} {t : ByteArray} {n sk lo : Nat} (most : Int) (x : SW w0 w r g p c h tb room s l t n sk lo) (hf : l.length ≠ room) (hm : 1 ≤ most) (hu : s.used = 0) : Calls Tryz.prog 11 #[.pointer (some ⟨r, 0, none⟩), .pointer (some ⟨p, 0, none⟩), .int .i64 most] w fun e w' => IntR e ∧ Grow w w' := by
  have hfd : ((l.length : Int) == (room : Int)) = false := by simp; omega
  have hmi : ¬ most < 1 := by omega
  obtain ⟨sn, rc, hp⟩ := x.pi
  have hc := hp.c
  have b0 := cell_block hp.b 0
  have b1 := cell_block hp.b 1
  simp at b0 b1
  have hcs : (chunks l).size = l.length := by unfold chunks; simp
  have HU := Lib.hid (fun k : Nat => Rg.used_ring (x.rg.grow (Grow.drewN w k)) _ hu)
  clear x hp
  generalize chunks l = buf at *
  have hlen : ∀ (n : Nat) (ty : TypeId), (Builtin.len_ #[56] ty #[.chan (some c)]).run Tryz.prog (w.drewN n) = .ok (.int .i64 l.length) (w.drewN n) := fun n ty => by rw [← hcs]; exact run_len_chan (W := w.drewN n) hc ty
  have hcap : ∀ (n : Nat) (ty : TypeId), (Builtin.cap_ #[56] ty #[.chan (some c)]).run Tryz.prog (w.drewN n) = .ok (.int .i64 room) (w.drewN n) := fun n ty => run_cap_chan (W := w.drewN n) hc ty
  clear hcs hc
  go_enter Tryz.func11, Tryz.ntmps11
  go_upto_region 1 with (fail)
  go_quiet ((go_at_call 15; exact Calls.quiet_of_same (HU.out _)))
  go_wp2
  go_ret
  exact ⟨⟨_, rfl⟩, Grow.drewN w nq⟩
set_option maxHeartbeats 8000000 in
theorem pump_yes {w0 w : World} {r g p c h tb room : Nat} {s : Rg.RG} {l : List ByteArray} {t : ByteArray} {n sk lo : Nat} (most : Int) (x : SW w0 w r g p c h tb room s l t n sk lo) (hl : l.length < room) (hm : 1 ≤ most) (hu : s.used ≠ 0) (k : Nat) (hk : k = min most.toNat s.used) : Calls Tryz.prog 11 #[.pointer (some ⟨r, 0, none⟩), .pointer (some ⟨p, 0, none⟩), .int .i64 most] w fun e w' => IntR e ∧ SW w0 w' r g p c h tb room (Rg.drain s k) (l ++ [⟨(s.bytes.take k).toArray⟩]) t n sk lo ∧ KeepI h w w' := by
  have hfd : ((l.length : Int) == (room : Int)) = false := by simp; omega
  have hmi : ¬ most < 1 := by omega
  obtain ⟨us, hus⟩ : ∃ q, s.used = q := ⟨_, rfl⟩
  have hu0 : ((us : Int) == 0) = false := by rw [← hus]; simpa using hu
  have HK := Lib.hid hk; clear hk
  have X := Lib.hid x
  have HLL := Lib.hid hl
  obtain ⟨sn, rc, hp⟩ := x.pi
  have hc := hp.c
  have b0 := cell_block hp.b 0
  have b1 := cell_block hp.b 1
  simp at b0 b1
  have hcs : (chunks l).size = l.length := by unfold chunks; simp
  have HU := Lib.hid (fun k : Nat => Rg.used_ring (x.rg.grow (Grow.drewN w k)) us hus)
  clear x hp hl hm hu
  generalize chunks l = buf at *
  have hlen : ∀ (n : Nat) (ty : TypeId), (Builtin.len_ #[56] ty #[.chan (some c)]).run Tryz.prog (w.drewN n) = .ok (.int .i64 l.length) (w.drewN n) := fun n ty => by rw [← hcs]; exact run_len_chan (W := w.drewN n) hc ty
  have hcap : ∀ (n : Nat) (ty : TypeId), (Builtin.cap_ #[56] ty #[.chan (some c)]).run Tryz.prog (w.drewN n) = .ok (.int .i64 room) (w.drewN n) := fun n ty => run_cap_chan (W := w.drewN n) hc ty
  clear hcs hc
  go_enter Tryz.func11, Tryz.ntmps11
  go_upto_region 1 with (fail)
  go_quiet ((go_at_call 15; exact Calls.quiet_of_same (HU.out _)))
  have X1 := Lib.hid (X.out.grow (Grow.drewN w nq))
  have KI := Lib.hid (KeepI.grow h (Grow.drewN w nq))
  generalize w.drewN nq = w1 at X1 KI ⊢
  clear hlen hcap b0 b1 hfd hmi hu0 HU hus
  go_wp2_with fail
  refine (Rg.drain_ring X1.out.rg most k HK.out).mono ?_
  rintro _ w2 ⟨rfl, hr, hf⟩
  have X2 := Lib.hid (X1.out.ring hf hr)
  have KI2 := Lib.hid (KI.out.trans (KeepI.far X1.out.rg hf))
  clear hr hf
  obtain ⟨st, hst⟩ : ∃ b : ByteArray, b = ⟨(s.bytes.take k).toArray⟩ := ⟨_, rfl⟩
  rw [show Rg.strOf (s.bytes.take k) = .string st by rw [hst]; rfl]
  have HST := Lib.hid hst; clear hst
  go_wp2_with fail
  obtain ⟨sn2, rc2, hp2⟩ := X2.out.pi
  refine (offer_any st hp2 HLL.out).mono ?_
  rintro _ w3 ⟨rfl, hp3, ho3⟩
  have X3 := Lib.hid (X2.out.chan hp2 ho3 hp3)
  have KI3 := Lib.hid (KI2.out.trans (KeepI.chan ho3 hp2.c))
  clear hp2 hp3 ho3
  go_wp2
  go_ret
  exact ⟨⟨_, rfl⟩, by rw [← HST.out]; exact X3.out, KI3.out⟩
def pumpS (room : Nat) (most : Int) (s : Rg.RG) (l : List ByteArray) : Rg.RG × List ByteArray :=
  if l.length = room ∨ most < 1 ∨ s.used = 0 then (s, l) else (Rg.drain s (min most.toNat s.used), l ++ [⟨(s.bytes.take (min most.toNat s.used)).toArray⟩])
theorem pump_any {w0 w : World} {r g p c h tb room : Nat} {s : Rg.RG} {l : List ByteArray} {t : ByteArray} {n sk lo : Nat} (most : Int) (x : SW w0 w r g p c h tb room s l t n sk lo) (hl : l.length ≤ room) : Calls Tryz.prog 11 #[.pointer (some ⟨r, 0, none⟩), .pointer (some ⟨p, 0, none⟩), .int .i64 most] w fun e w' => IntR e ∧ SW w0 w' r g p c h tb room (pumpS room most s l).1 (pumpS room most s l).2 t n sk lo ∧ KeepI h w w' := by
  have key : (l.length = room ∨ most < 1 ∨ s.used = 0) → Calls Tryz.prog 11 #[.pointer (some ⟨r, 0, none⟩), .pointer (some ⟨p, 0, none⟩), .int .i64 most] w fun e w' => IntR e ∧ Grow w w' := by
    intro hc
    by_cases h1 : l.length = room
    · exact pump_full most x h1
    · by_cases h2 : most < 1
      · exact pump_low most x h1 h2
      · exact pump_none most x h1 (by omega) (by omega)
  by_cases hc : l.length = room ∨ most < 1 ∨ s.used = 0
  · refine (key hc).mono ?_
    rintro e w' ⟨he, hg⟩
    unfold pumpS
    rw [if_pos hc]
    exact ⟨he, x.grow hg, KeepI.grow h hg⟩
  · unfold pumpS
    rw [if_neg hc]
    exact pump_yes most x (by omega) (by omega) (by omega) _ rfl
/-- A hunter that is fed. -/
def FedR (base : Nat) (its : List Top.It) (e : Ending) (w : World) : Prop := ∃ u b, e = .returned (.tuple #[u, .bool b]) ∧ ItsAt w base u its
set_option maxHeartbeats 4000000 in
theorem pfeed_none {w0 w : World} {r g p c h tb room : Nat} {s : Rg.RG} {t : ByteArray} {n sk lo : Nat} (x : SW w0 w r g p c h tb room s [] t n sk lo) : Calls Tryz.prog 12 #[.pointer (some ⟨p, 0, none⟩), .pointer (some ⟨h, 0, none⟩)] w fun e w' => FedR w.heap.size [] e w' ∧ w' = w := by
  obtain ⟨sn, rc, hp⟩ := x.pi
  have HP := Lib.hid hp; clear hp x
  go_enter Tryz.func12, Tryz.ntmps12
  go_wp2_with fail
  refine (take_none HP.out).mono ?_
  rintro _ _ ⟨rfl, rfl⟩
  go_wp2
  go_ret2
  exact ⟨⟨_, _, rfl, ItsAt.nil _ _⟩, rfl⟩
attribute [local irreducible] HuP ItsAt Top.hunt
set_option maxHeartbeats 4000000 in
theorem pfeed_some {w0 w : World} {r g p c h tb room : Nat} {s : Rg.RG} {y : ByteArray} {l : List ByteArray} {t : ByteArray} {n sk lo : Nat} (x : SW w0 w r g p c h tb room s (y :: l) t n sk lo) (hb : sk + t.size + y.size < 2 ^ 40) (hx : t.size + y.size < 2 ^ 30) (R : Top.Hu) (hR : R = Top.hunt false (t.data.toList ++ y.data.toList) n sk lo) :
    Calls Tryz.prog 12 #[.pointer (some ⟨p, 0, none⟩), .pointer (some ⟨h, 0, none⟩)] w fun e w' => FedR w.heap.size R.out e w' ∧ (∃ t' : ByteArray, t'.data.toList = R.text ∧ SW w0 w' r g p c h tb room s l t' R.next R.skipped R.lost) ∧ KeepI h w w' := by
  have X := Lib.hid x
  have HB := Lib.hid hb; clear hb
  have HX := Lib.hid hx; clear hx
  have HR := Lib.hid hR; clear hR
  obtain ⟨sn, rc, hp⟩ := x.pi
  have HP := Lib.hid hp; clear hp x
  go_enter Tryz.func12, Tryz.ntmps12
  go_wp2_with fail
  refine (take_some HP.out).mono ?_
  rintro _ w1 ⟨rfl, hp1, ho1⟩
  have X1 := Lib.hid (X.out.chan HP.out ho1 hp1)
  have KI1 := Lib.hid (KeepI.chan (h := h) ho1 HP.out.c)
  have HSZ := Lib.hid (show w.heap.size ≤ w1.heap.size from ho1.2.2.2.1)
  clear hp1 ho1
  go_wp2_with fail
  refine (feed_any y X1.out.hu X1.out.ll HB.out HX.out).mono ?_
  rw [← HR.out]
  rintro _ w2 ⟨⟨u, rfl, hi⟩, hp2, ho2⟩
  have HI := Lib.hid (hi.mono HSZ.out)
  have HW := Lib.hid (show ∃ t' : ByteArray, t'.data.toList = R.text ∧ SW w0 w2 r g p c h tb room s l t' R.next R.skipped R.lost by
    unfold HuP at hp2
    obtain ⟨t', h1, h2, h3⟩ := hp2
    exact ⟨t', h1, X1.out.hunt ho2 h2 h3⟩)
  have KI2 := Lib.hid (KI1.out.trans (KeepI.hunter ho2 X1.out.hu.b))
  clear hi hp2 ho2
  go_wp2
  go_ret2
  exact ⟨⟨_, _, rfl, HI.out⟩, HW.out, KI2.out⟩
end Go.Proofs.YtnhmdinpfcoebaaGreatDoor
end

/-! === Law0 -/
section
/- What a hunter has, by all that it was fed: plain laws. No program in sight. -/
namespace Go.Proofs.YtnhmdinpfcoebaaGreatDoor
open Go.RowKit
set_option linter.unusedVariables false
set_option linter.unusedSimpArgs false
set_option maxRecDepth 100000

theorem readL_len : ∀ (f cy co : Nat) (l : Top.Bytes) (es : List Top.Ev), Top.readL f cy co l = .inr es → es.length ≤ l.length
  | 0, cy, co, l, es, h => by
    simp only [Top.readL] at h
    injection h with h
    subst h; simp
  | f + 1, cy, co, l, es, h => by
    rw [Top.readL] at h
    split at h
    · injection h with h; subst h; simp
    · rename_i hl
      split at h
      · cases h
      · rename_i e k hn
        have hb := nextP_bd hn
        split at h
        · cases h
        · rename_i es2 h2
          injection h with h
          subst h
          have := readL_len f _ _ _ _ h2
          rw [List.length_drop] at this
          have hpos : 0 < l.length := List.length_pos_iff.2 hl
          rw [List.length_cons]; omega
theorem frame_es {l : Top.Bytes} {q k : Nat} {es : List Top.Ev} (h : Top.frameP l = .yes (q, es) k) : es.length ≤ 120 := by
  rw [frame_eq] at h
  obtain ⟨x, j, i, h1, h2, _⟩ := Top.seqP_yes h
  have hb := header_bd h1
  obtain ⟨p, _, _, hp, h3, _⟩ := Top.seqP_yes h2
  obtain ⟨_, _, h4⟩ := Top.okP_yes h3
  have hpl : p.length ≤ 120 := by
    unfold Top.takeP at hp
    split at hp
    · injection hp with hp _
      subst hp
      rw [List.length_take]; omega
    · cases hp
  split at h4
  · cases h4
  · rename_i es2 hr
    split at h4
    · injection h4 with h4
      injection h4 with _ h4
      subst h4
      have := readL_len _ _ _ _ _ hr
      omega
    · cases h4
structure HuBd (r : Top.Hu) (l : Top.Bytes) (n s o : Nat) : Prop where
  sk : r.skipped + r.text.length ≤ s + l.length
  lo : o ≤ n → r.lost ≤ r.next
  ou : r.out.length ≤ 2 * l.length
  es : ∀ it ∈ r.out, it.es.length ≤ 120
theorem huntL_bd (c : Bool) : ∀ (f : Nat) (l : Top.Bytes) (n s o : Nat), HuBd (Top.huntL c f l n s o) l n s o
  | 0, l, n, s, o => ⟨Nat.le_refl _, fun h => h, Nat.zero_le _, fun it h => by cases h⟩
  | f + 1, l, n, s, o => by
    rw [Top.huntL]
    by_cases hl : l = []
    · rw [if_pos hl]
      exact ⟨Nat.le_add_right _ _, fun h => h, Nat.zero_le _, fun it h => by cases h⟩
    · rw [if_neg hl]
      have hpos : 0 < l.length := List.length_pos_iff.2 hl
      have h1 := huntL_bd c f (l.drop 1) n (s + 1) o
      have hskip : HuBd (Top.huntL c f (l.drop 1) n (s + 1) o) l n s o := ⟨by have := h1.sk; rw [List.length_drop] at this; omega, h1.lo, by have := h1.ou; rw [List.length_drop] at this; omega, h1.es⟩
      cases hp : Top.frameP l with
      | no e =>
        simp only
        split
        · exact ⟨Nat.le_refl _, fun h => h, Nat.zero_le _, fun it h => by cases h⟩
        · exact hskip
      | yes x k =>
        obtain ⟨seq, es⟩ := x
        simp only
        have hb := frame_bd hp
        split
        · exact hskip
        · have h2 := huntL_bd c f (l.drop k) (seq + 1) s (o + (seq - n))
          refine ⟨by have := h2.sk; rw [List.length_drop] at this; simp only; omega, fun h => h2.lo (by omega), ?_, ?_⟩
          · have := h2.ou
            rw [List.length_drop] at this
            simp only [List.length_append, List.length_singleton]
            have : (if n < seq then [Top.It.gap n (seq - n)] else []).length ≤ 1 := by split <;> simp
            omega
          · intro it hit
            simp only [List.mem_append] at hit
            rcases hit with (hit | hit) | hit
            · split at hit
              · have : it = Top.It.gap n (seq - n) := by simpa using hit
                subst this; exact Nat.zero_le _
              · cases hit
            · have : it = Top.It.frame seq es := by simpa using hit
              subst this; exact frame_es hp
            · exact h2.es it hit
theorem hunt_bd (c : Bool) (l : Top.Bytes) (n s o : Nat) : HuBd (Top.hunt c l n s o) l n s o := huntL_bd c _ l n s o
/-- What a hunter is that was fed so. -/
def fed (F : Top.Bytes) : Top.Hu := Top.hunt false F 0 0 0
theorem fed_nil : fed [] = ⟨[], [], 0, 0, 0⟩ := rfl
theorem fed_more (F y : Top.Bytes) : fed (F ++ y) = { Top.hunt false ((fed F).text ++ y) (fed F).next (fed F).skipped (fed F).lost with out := (fed F).out ++ (Top.hunt false ((fed F).text ++ y) (fed F).next (fed F).skipped (fed F).lost).out } :=
  Top.hunt_parts F.length F y 0 0 0 (Nat.le_refl _)
theorem fed_bd (F : Top.Bytes) : HuBd (fed F) F 0 0 0 := hunt_bd false F 0 0 0
theorem fed_next (F : Top.Bytes) : (fed F).lost ≤ (fed F).next := (fed_bd F).lo (Nat.le_refl _)
theorem fed_prefix (F y : Top.Bytes) : ∃ more, (fed (F ++ y)).out = (fed F).out ++ more := ⟨_, by rw [fed_more]⟩
def flat (l : List ByteArray) : Top.Bytes := l.flatMap fun x => x.data.toList
theorem flat_append (l m : List ByteArray) : flat (l ++ m) = flat l ++ flat m := List.flatMap_append
theorem pump_flat (room : Nat) (most : Int) (s : Rg.RG) (l : List ByteArray) : flat (pumpS room most s l).2 ++ (pumpS room most s l).1.bytes = flat l ++ s.bytes := by
  unfold pumpS
  split
  · rfl
  · simp only
    rw [flat_append]
    have e : (Rg.drain s (min most.toNat s.used)).bytes = s.bytes.drop (min most.toNat s.used) := Rg.dr_bytes _ _ _
    rw [e]
    show flat l ++ flat [_] ++ _ = _
    rw [show flat [ByteArray.mk (s.bytes.take (min most.toNat s.used)).toArray] = s.bytes.take (min most.toNat s.used) by simp [flat], List.append_assoc, List.take_append_drop]
theorem pump_len {room : Nat} {most : Int} {s : Rg.RG} {l : List ByteArray} (h : l.length ≤ room) : (pumpS room most s l).2.length ≤ room := by
  unfold pumpS
  split
  · exact h
  · simp only [List.length_append, List.length_singleton]; omega
theorem pump_gone {room : Nat} {most : Int} {s : Rg.RG} {l : List ByteArray} : (pumpS room most s l).1.gone = s.gone := by
  unfold pumpS
  split <;> rfl
theorem pump_used (room : Nat) (most : Int) (s : Rg.RG) (l : List ByteArray) : (pumpS room most s l).1.used ≤ s.used ∧ (l.length < room → 1 ≤ most → (pumpS room most s l).1.used = s.used - most.toNat) := by
  unfold pumpS
  by_cases hc : l.length = room ∨ most < 1 ∨ s.used = 0
  · rw [if_pos hc]
    exact ⟨Nat.le_refl _, fun h1 h2 => by simp only; omega⟩
  · rw [if_neg hc]
    have e : (Rg.drain s (min most.toNat s.used)).used = s.used - min most.toNat s.used := by
      unfold Rg.RG.used
      rw [show (Rg.drain s (min most.toNat s.bytes.length)).bytes = s.bytes.drop (min most.toNat s.bytes.length) from Rg.dr_bytes _ _ _, List.length_drop]
    exact ⟨by simp only [e]; omega, fun h1 h2 => by simp only [e]; omega⟩
end Go.Proofs.YtnhmdinpfcoebaaGreatDoor
end

/-! === Law1 -/
section
/- The law's world, step by step. -/
namespace Go.Proofs.YtnhmdinpfcoebaaGreatDoor
open Go.RowKit
set_option linter.unusedVariables false
set_option linter.unusedSimpArgs false
set_option maxRecDepth 100000

open Go.Conc
/-- A frame among the arguments. -/
structure Fr where
  seq : Nat
  A : Option Addr
  n : Nat
  cap : Nat
  f : Nat → Top.Ev
instance : Inhabited Fr := ⟨⟨0, none, 0, 0, fun _ => default⟩⟩
def frL (x : Fr) : List Value := [.int .u32 x.seq, .slice x.A x.n x.cap]
def FrameOk (w : World) (x : Fr) : Prop := x.seq < 2 ^ 32 ∧ EvRd w x.A x.n x.f ∧ ∀ j, j < x.n → (x.f j).cycle < 2 ^ 64 ∧ (x.f j).count < 2 ^ 64
/-- Frames among the arguments. -/
def FramesAt (w : World) (A : Option Addr) (n : Nat) (g : Nat → Fr) : Prop := RowAt w A n 2 (fun j => frL (g j)) ∧ ∀ j, j < n → FrameOk w (g j)
/-- Turns among the arguments. -/
def TurnsAt (w : World) (A : Option Addr) (n : Nat) (g : Nat → Int × Int) : Prop := RowAt w A n 2 fun j => [.int .i64 (g j).1, .int .i64 (g j).2]
theorem cell_below {B : Nat} {w w' : World} {a : Addr} {v : Value} (hb : Below B w w') (hB : w.heap.size ≤ B) (hc : w.cell? a = some v) : w'.cell? a = some v :=
  (World.cell?_of_block (hb.block _ (by have := cell_lt hc; omega))).trans hc
theorem RowAt.below {w w' : World} {A : Option Addr} {n s : Nat} {f : Nat → List Value} (h : RowAt w A n s f) (hb : Below w.heap.size w w') : RowAt w' A n s f := h.grow hb
theorem FramesAt.grow {w w' : World} {A : Option Addr} {n : Nat} {g : Nat → Fr} (h : FramesAt w A n g) (hg : Grow w w') : FramesAt w' A n g :=
  ⟨h.1.grow hg, fun j hj => ⟨(h.2 j hj).1, (h.2 j hj).2.1.grow hg, (h.2 j hj).2.2⟩⟩
theorem FramesAt.at {w : World} {A : Option Addr} {n : Nat} {g : Nat → Fr} (h : FramesAt w A n g) (j : Nat) (hj : j < n) : ∃ a, A = some a ∧ w.cell? (a.add (j * 2)) = some (.int .u32 (g j).seq) ∧ w.cell? ⟨(a.add (j * 2)).block, (a.add (j * 2)).off + 1, none⟩ = some (.slice (g j).A (g j).n (g j).cap) := by
  obtain ⟨a, hA, hc⟩ := h.1 (by omega)
  have k := hc j hj
  refine ⟨a, hA, k 0 _ rfl, ?_⟩
  have := k 1 _ rfl; rw [add_succ'] at this; exact this
theorem TurnsAt.at {w : World} {A : Option Addr} {n : Nat} {g : Nat → Int × Int} (h : TurnsAt w A n g) (j : Nat) (hj : j < n) : ∃ a, A = some a ∧ w.cell? (a.add (j * 2)) = some (.int .i64 (g j).1) ∧ w.cell? ⟨(a.add (j * 2)).block, (a.add (j * 2)).off + 1, none⟩ = some (.int .i64 (g j).2) := by
  obtain ⟨a, hA, hc⟩ := h (by omega)
  have k := hc j hj
  refine ⟨a, hA, k 0 _ rfl, ?_⟩
  have := k 1 _ rfl; rw [add_succ'] at this; exact this
theorem print7_any (w : World) (x : Fr) (h : FrameOk w x) (hn : x.n ≤ 1000) : Calls Tryz.prog 9 #[.agg (frC x.seq (.slice x.A x.n x.cap))] w fun e w' => PrR 179 e ∧ Grow w w' := by
  by_cases h0 : x.n = 0
  · rw [h0]
    exact print7_w w x.A 0 x.cap x.seq (fun _ => default) (by omega) (by unfold EvRd; exact fun h => absurd h (by omega)) h.1 (by decide) (by decide)
  · exact print7_w w x.A x.n x.cap x.seq x.f hn h.2.1 h.1 (h.2.2 0 (by omega)).1 (h.2.2 0 (by omega)).2
/-- The law's world, but for what was got. -/
structure LJ (w0 w : World) (r g p c h tb room : Nat) (s : Rg.RG) (l : List ByteArray) (F : Top.Bytes) : Prop where
  sw : ∃ t : ByteArray, t.data.toList = (fed F).text ∧ SW w0 w r g p c h tb room s l t (fed F).next (fed F).skipped (fed F).lost
  go : s.gone = []
  le : l.length ≤ room
section
variable {w0 w w' : World} {r g p c h tb room : Nat} {s : Rg.RG} {l : List ByteArray} {F : Top.Bytes}
theorem LJ.b (x : LJ w0 w r g p c h tb room s l F) : Below w0.heap.size w0 w := by obtain ⟨t, _, hs⟩ := x.sw; exact hs.b
theorem LJ.rg (x : LJ w0 w r g p c h tb room s l F) : Rg.RingAt w w0.heap.size r g 1048576 0 s := by obtain ⟨t, _, hs⟩ := x.sw; exact hs.rg
theorem LJ.grow (x : LJ w0 w r g p c h tb room s l F) (hg : Grow w w') : LJ w0 w' r g p c h tb room s l F := by
  obtain ⟨t, h1, h2⟩ := x.sw
  exact ⟨⟨t, h1, h2.grow hg⟩, x.go, x.le⟩
theorem LJ.own {B m : Nat} {u : Value} {xs : List Value} (x : LJ w0 w r g p c h tb room s l F) (ho : w.ownsRow B 85 4 u m xs) (hB : w0.heap.size ≤ B) (hg : w.grownBy w' u.ownBlock) : LJ w0 w' r g p c h tb room s l F := by
  obtain ⟨t, h1, h2⟩ := x.sw
  exact ⟨⟨t, h1, h2.own ho hB hg⟩, x.go, x.le⟩
/-- A text is put. -/
def PutS (s s' : Rg.RG) (t : Top.Bytes) : Prop := s'.bytes = s.bytes ++ t ∧ s'.gone = []
theorem LJ.put (x : LJ w0 w r g p c h tb room s l F) (t : ByteArray) (ht : t.size ≤ 179) (hs : s.bytes.length + 179 ≤ 1000000) :
    Calls Tryz.prog 10 #[.pointer (some ⟨r, 0, none⟩), .string t] w fun e w' => IntR e ∧ (∃ s', PutS s s' t.data.toList ∧ LJ w0 w' r g p c h tb room s' l F) ∧ KeepI h w w' := by
  obtain ⟨t0, h1, h2⟩ := x.sw
  have hsz : t.data.toList.length = t.size := by rw [Array.length_toList]; rfl
  have he : t = ⟨t.data.toList.toArray⟩ := by cases t; simp
  by_cases h0 : t.size = 0
  · have h3 := Rg.put_bad h2.rg t.data.toList (by omega)
    rw [← he] at h3
    refine h3.mono ?_
    rintro _ _ ⟨rfl, rfl⟩
    refine ⟨⟨_, rfl⟩, ⟨s, ⟨?_, x.go⟩, x⟩, KeepI.refl _ _⟩
    rw [List.eq_nil_of_length_eq_zero (hsz.trans h0), List.append_nil]
  · have hwf : Rg.WF 1048576 s := by obtain ⟨_, _, hw, _⟩ := h2.rg; exact hw
    have hL := hwf.len
    have hp : Rg.putG 1048576 0 t.data.toList s.L.length s = (0, ⟨s.L ++ [t.data.toList], s.begun, s.gone⟩) := by
      rw [Rg.putG_step hwf (by omega), if_pos (by unfold Rg.RG.used; omega)]
    have h3 := Rg.put_walk h2.rg t.data.toList 0 _ hp (by omega) (by omega) (by rw [x.go]; simp; omega)
    rw [← he] at h3
    refine h3.mono ?_
    rintro _ w' ⟨rfl, hr, hf⟩
    refine ⟨⟨_, rfl⟩, ⟨⟨s.L ++ [t.data.toList], s.begun, s.gone⟩, ⟨?_, x.go⟩, ⟨t0, h1, h2.ring hf hr⟩, x.go, x.le⟩, KeepI.far h2.rg hf⟩
    show (s.L ++ [t.data.toList]).flatten = s.L.flatten ++ t.data.toList
    simp
theorem LJ.pump (x : LJ w0 w r g p c h tb room s l F) (most : Int) :
    Calls Tryz.prog 11 #[.pointer (some ⟨r, 0, none⟩), .pointer (some ⟨p, 0, none⟩), .int .i64 most] w fun e w' => IntR e ∧ LJ w0 w' r g p c h tb room (pumpS room most s l).1 (pumpS room most s l).2 F ∧ KeepI h w w' := by
  obtain ⟨t0, h1, h2⟩ := x.sw
  refine (pump_any most h2 x.le).mono ?_
  rintro e w' ⟨he, hs, hk⟩
  exact ⟨he, ⟨⟨t0, h1, hs⟩, by rw [pump_gone]; exact x.go, pump_len x.le⟩, hk⟩
/-- A chunk is fed, or none. -/
def FeedP (w0 w : World) (r g p c h tb room : Nat) (s : Rg.RG) (l : List ByteArray) (F : Top.Bytes) (e : Ending) (w' : World) : Prop :=
  ∃ its F' l', FedR w.heap.size its e w' ∧ LJ w0 w' r g p c h tb room s l' F' ∧ (fed F').out = (fed F).out ++ its ∧ F' ++ flat l' = F ++ flat l ∧ l'.length = l.length - 1
theorem LJ.feed (x : LJ w0 w r g p c h tb room s l F) (hl : F.length + (flat l).length ≤ 1000000) :
    Calls Tryz.prog 12 #[.pointer (some ⟨p, 0, none⟩), .pointer (some ⟨h, 0, none⟩)] w fun e w' => FeedP w0 w r g p c h tb room s l F e w' ∧ KeepI h w w' := by
  obtain ⟨t0, h1, h2⟩ := x.sw
  cases l with
  | nil =>
    refine (pfeed_none h2).mono ?_
    rintro e _ ⟨he, rfl⟩
    exact ⟨⟨[], F, [], he, x, by simp, rfl, rfl⟩, KeepI.refl _ _⟩
  | cons y l =>
    have hb := fed_bd F
    have hsk := hb.sk
    have hyl : y.data.toList.length = y.size := by rw [Array.length_toList]; rfl
    have htl : t0.data.toList.length = t0.size := by rw [Array.length_toList]; rfl
    have hfl : (flat (y :: l)).length = y.size + (flat l).length := by show (y.data.toList ++ flat l).length = _; rw [List.length_append, hyl]
    rw [h1] at htl
    refine (pfeed_some h2 (by omega) (by omega) _ rfl).mono ?_
    rintro e w' ⟨he, ⟨t', ht', hs⟩, hk⟩
    rw [h1] at he ht' hs
    have hm := fed_more F y.data.toList
    refine ⟨⟨_, F ++ y.data.toList, l, he, ⟨⟨t', by rw [ht', hm], ?_⟩, x.go, by have := x.le; rw [List.length_cons] at this; omega⟩, by rw [hm], by show F ++ y.data.toList ++ flat l = F ++ (y.data.toList ++ flat l); rw [List.append_assoc], by simp⟩, hk⟩
    rw [hm]
    exact hs
end
end Go.Proofs.YtnhmdinpfcoebaaGreatDoor
end

/-! === Law2 -/
section
/- The law's walk. -/
namespace Go.Proofs.YtnhmdinpfcoebaaGreatDoor
open Go.RowKit
set_option linter.unusedVariables false
set_option linter.unusedSimpArgs false
set_option maxRecDepth 100000

open Go.Conc
attribute [local irreducible] FramesAt TurnsAt Rg.RingAt tab
/-- live answers true in every world that has grown from this one. -/
def LiveOk (w0 : World) : Prop := ∀ w : World, Grow w0 w → Calls Tryz.prog 6 #[] w fun e w' => e = .returned (.bool true) ∧ Grow w w'
set_option maxHeartbeats 8000000 in
theorem law_bad (w : World) (FA TA : Option Addr) (fn fcap tn tcap : Nat) (room : Int) (HL : LiveOk w) (h : room < 1 ∨ 64 < room) :
    Calls Tryz.prog 3 #[.slice FA fn fcap, .slice TA tn tcap, .int .i64 room] w fun e w' => e = .returned (.bool true) ∧ Below w.heap.size w w' := by
  have HLV := Lib.hid HL; clear HL
  have HR := Lib.hid h; clear h
  go_enter Tryz.func3, Tryz.ntmps3
  go_wp2_with fail
  refine (pnew_no w room HR.out).mono ?_
  rintro _ w ⟨rfl, rfl⟩
  go_wp2_with fail
  refine (Rg.new_ok w w.heap.size 1048576 0 (by decide) (by decide) (.inl rfl) (Nat.le_refl _)).mono ?_
  rintro _ w1 ⟨r, g, rfl, _, hg⟩
  have HG := Lib.hid hg; clear hg
  go_wp2_with fail
  refine (HLV.out w1 HG.out).mono ?_
  rintro _ w2 ⟨rfl, hg⟩
  have HG2 := Lib.hid (HG.out.trans hg); clear hg HG
  go_wp2_with fail
  refine (HLV.out w2 HG2.out).mono ?_
  rintro _ w3 ⟨rfl, hg⟩
  have HG3 := Lib.hid (HG2.out.trans hg); clear hg HG2
  go_wp2
  go_ret
  exact ⟨rfl, HG3.out⟩
set_option maxHeartbeats 8000000 in
theorem law_wide (w : World) (FA TA : Option Addr) (fn fcap tn tcap : Nat) (room : Nat) (HL : LiveOk w) (h1 : 1 ≤ room) (h2 : room ≤ 64) (h : 40 < fn ∨ 200 < tn) :
    Calls Tryz.prog 3 #[.slice FA fn fcap, .slice TA tn tcap, .int .i64 room] w fun e w' => e = .returned (.bool true) ∧ Below w.heap.size w w' := by
  have HLV := Lib.hid HL; clear HL
  have key : ∀ b1 b2 : Bool, decide ((40 : Int) < (fn : Int)) = b1 → decide ((200 : Int) < (tn : Int)) = b2 → (b1 = true ∨ b2 = true) → Calls Tryz.prog 3 #[.slice FA fn fcap, .slice TA tn tcap, .int .i64 room] w fun e w' => e = .returned (.bool true) ∧ Below w.heap.size w w' := by
    intro b1 b2 e1 e2 hb
    have HB := Lib.hid hb; clear hb h
    go_enter Tryz.func3, Tryz.ntmps3
    go_wp2_with fail
    refine (pnew_any w room h1 h2).mono ?_
    rintro _ w0 ⟨rfl, _, hg⟩
    have HG0 := Lib.hid hg; clear hg
    go_wp2_with fail
    refine (Rg.new_ok w0 w0.heap.size 1048576 0 (by decide) (by decide) (.inl rfl) (Nat.le_refl _)).mono ?_
    rintro _ w1 ⟨r, g, rfl, _, hg⟩
    have HG := Lib.hid (HG0.out.trans hg); clear hg
    go_wp2_with fail
    refine (HLV.out w1 HG.out).mono ?_
    rintro _ w2 ⟨rfl, hg⟩
    have HG2 := Lib.hid (HG.out.trans hg); clear hg HG
    cases b1
    · cases b2
      · exact absurd HB.out (by simp)
      · go_wp2_with fail
        refine (HLV.out w2 HG2.out).mono ?_
        rintro _ w3 ⟨rfl, hg⟩
        have HG3 := Lib.hid (HG2.out.trans hg); clear hg HG2
        go_wp2
        go_ret
        exact ⟨rfl, HG3.out⟩
    · go_wp2_with fail
      refine (HLV.out w2 HG2.out).mono ?_
      rintro _ w3 ⟨rfl, hg⟩
      have HG3 := Lib.hid (HG2.out.trans hg); clear hg HG2
      go_wp2
      go_ret
      exact ⟨rfl, HG3.out⟩
  rcases h with h | h
  · exact key _ _ rfl rfl (.inl (decide_eq_true (by omega)))
  · exact key _ _ rfl rfl (.inr (decide_eq_true (by omega)))
def ListS (A : Top.Bytes) (v : Value) : Prop := ∃ b : ByteArray, v = .string b ∧ b.data.toList = A
/-- The law's loops: what always holds. -/
def LK (w0 : World) (r g p c h tb room nx : Nat) (gv av : Value) (wr : World) : Prop :=
  ∃ (s : Rg.RG) (l : List ByteArray) (F : Top.Bytes) (al : ByteArray), LJ w0 wr r g p c h tb room s l F ∧ ItsAt wr w0.heap.size gv (fed F).out ∧ av = .string al ∧ al.data.toList = F ++ flat l ++ s.bytes ∧ al.size ≤ 179 * nx
theorem TurnsAt.grow {w w' : World} {A : Option Addr} {n : Nat} {g : Nat → Int × Int} (h : TurnsAt w A n g) (hg : Grow w w') : TurnsAt w' A n g := by unfold TurnsAt at h ⊢; exact RowAt.grow h hg
theorem frames_ok {w : World} {A : Option Addr} {n : Nat} {g : Nat → Fr} (h : FramesAt w A n g) (j : Nat) (hj : j < n) : FrameOk w (g j) := by unfold FramesAt at h; exact h.2 j hj
theorem LK.start {w0 w1 w2 w3 w4 : World} {r g p c h tb room : Nat} (hp : PipeAt w1 p c room [] 0 0) (hg1 : Grow w0 w1) (hc : w0.heap.size ≤ c) (hr : Rg.RingAt w2 w0.heap.size r g 1048576 0 Rg.s0) (hg2 : Grow w1 w2) (hg3 : Grow w2 w3)
    (hh : HuAt w4 h tb ByteArray.empty 0 0 0 false) (hg4 : Grow w3 w4) (hle : w0.heap.size ≤ h) : LK w0 r g p c h tb room 0 (.slice none 0 0) (.string ⟨#[]⟩) w4 := by
  refine ⟨Rg.s0, [], [], ⟨#[]⟩, ⟨⟨ByteArray.empty, rfl, ?_⟩, rfl, Nat.zero_le _⟩, ItsAt.nil _ _, rfl, rfl, Nat.le_refl _⟩
  have h24 : Grow w2 w4 := hg3.trans hg4
  have h14 : Grow w1 w4 := hg2.trans h24
  exact ⟨hr.grow h24, ⟨0, 0, h14.at hp.b, h14.at hp.c⟩, hh, Nat.le_refl _, hg1.trans h14, hc, hle⟩
theorem SW.other {w0 w w' : World} {r g p c h tb room : Nat} {s : Rg.RG} {l : List ByteArray} {t : ByteArray} {n sk lo b : Nat} {cs : Array Value} {fr : Nat × Nat} (x : SW w0 w r g p c h tb room s l t n sk lo) (ho : Only b w w') (hb : w.heap[b]? = some (.cells cs 87 fr)) (hne : b ≠ h) (hB : w0.heap.size ≤ b) : SW w0 w' r g p c h tb room s l t n sk lo := by
  obtain ⟨sn, rc, hp⟩ := x.pi
  exact ⟨ring_only x.rg ho hb (by decide) (by decide) (by decide), ⟨sn, rc, ho.at (ty_ne hp.b hb (by decide)) hp.b, ho.at (fun e => chan_ne hp.c hb e.symm) hp.c⟩, ⟨ho.at hne.symm x.hu.b, ho.at (ty_ne x.hu.t hb (by decide)) x.hu.t, x.hu.n, x.hu.s⟩, x.ll, Below.trans x.b (ho.below hB x.b.size), x.pc, x.ph⟩
/-- The law's world behind its first loop. -/
structure LQ (w0 wr : World) (r g p c h tb room h2 tb2 : Nat) (A : Top.Bytes) (t2 : ByteArray) (wv gv : Value) (s : Rg.RG) (l : List ByteArray) (F : Top.Bytes) : Prop where
  j : LJ w0 wr r g p c h tb room s l F
  it : ItsAt wr w0.heap.size gv (fed F).out
  eq : A = F ++ flat l ++ s.bytes
  hu2 : HuAt wr h2 tb2 t2 (fed A).next (fed A).skipped (fed A).lost false
  ne : h2 ≠ h
  wt : ItsAt wr w0.heap.size wv (fed A).out
  ow : ∀ q, gv.ownBlock = some q → wv.ownBlock ≠ some q
theorem LQ.start {w0 w7 w8 : World} {r g p c h tb room h2 tb2 : Nat} {s : Rg.RG} {l : List ByteArray} {F : Top.Bytes} {al : ByteArray} {gv wv : Value} (hj : LJ w0 w7 r g p c h tb room s l F) (hit : ItsAt w7 w0.heap.size gv (fed F).out) (heq : al.data.toList = F ++ flat l ++ s.bytes)
    (hh : HuAt w7 h2 tb2 ByteArray.empty 0 0 0 false) (hne : h2 ≠ h) (hw : ItsAt w8 w7.heap.size wv (Top.hunt false (ByteArray.empty.data.toList ++ al.data.toList) 0 0 0).out) (hp : HuP w8 h2 tb2 (Top.hunt false (ByteArray.empty.data.toList ++ al.data.toList) 0 0 0) false) (ho : Only h2 w7 w8)
    (hown : ∀ q, gv.ownBlock = some q → q < w7.heap.size) (hle2 : w0.heap.size ≤ h2) : ∃ t2, LQ w0 w8 r g p c h tb room h2 tb2 al.data.toList t2 wv gv s l F := by
  have e : Top.hunt false (ByteArray.empty.data.toList ++ al.data.toList) 0 0 0 = fed al.data.toList := rfl
  rw [e] at hw hp
  obtain ⟨t2, _, h4, _⟩ := hp
  obtain ⟨t, h5, h6⟩ := hj.sw
  refine ⟨t2, ⟨⟨t, h5, h6.other ho hh.b hne hle2⟩, hj.go, hj.le⟩, hit.only ho hh.b (by decide) (by decide), heq, h4, hne, hw.mono h6.b.size, fun q hq hq2 => ?_⟩
  obtain ⟨L, _, hL, _⟩ := its_out hw
  have := (hL.lt q hq2).1
  have := hown q hq
  omega
theorem LQ.grow {w0 w w' : World} {r g p c h tb room h2 tb2 : Nat} {A F : Top.Bytes} {t2 : ByteArray} {wv gv : Value} {s : Rg.RG} {l : List ByteArray} (x : LQ w0 w r g p c h tb room h2 tb2 A t2 wv gv s l F) (hg : Grow w w') : LQ w0 w' r g p c h tb room h2 tb2 A t2 wv gv s l F :=
  ⟨x.j.grow hg, x.it.grow hg, x.eq, x.hu2.grow hg, x.ne, x.wt.grow hg, x.ow⟩
theorem LQ.step {w0 w w' : World} {r g p c h tb room h2 tb2 : Nat} {A F : Top.Bytes} {t2 : ByteArray} {wv gv : Value} {s s' : Rg.RG} {l l' : List ByteArray} (x : LQ w0 w r g p c h tb room h2 tb2 A t2 wv gv s l F) (hj : LJ w0 w' r g p c h tb room s' l' F) (hk : KeepI h w w')
    (he : flat l' ++ s'.bytes = flat l ++ s.bytes) : LQ w0 w' r g p c h tb room h2 tb2 A t2 wv gv s' l' F :=
  ⟨hj, x.it.keepI hk, by rw [x.eq, List.append_assoc, List.append_assoc, he], x.hu2.keepI hk x.ne, x.ne, x.wt.keepI hk, x.ow⟩
theorem ItsAt.other {w w' : World} {B m : Nat} {u v : Value} {xs : List Value} {its : List Top.It} (h : ItsAt w B v its) (ho : w.ownsRow B 85 4 u m xs) (hg : w.grownBy w' u.ownBlock) (hne : ∀ q, u.ownBlock = some q → v.ownBlock ≠ some q) : ItsAt w' B v its := by
  obtain ⟨L, h1, h2, h3⟩ := h
  refine ⟨L, h1, own_keep h2 fun q hq => hg.block q (h2.lt q hq).2 fun e => hne q e.symm hq, fun p hp => (h3 p hp).grown ho hg (by decide)⟩
theorem LQ.fed' {w0 w w6 w7 : World} {r g p c h tb room h2 tb2 : Nat} {A F F' : Top.Bytes} {t2 : ByteArray} {wv gv v' : Value} {s : Rg.RG} {l l' : List ByteArray} {its : List Top.It} (x : LQ w0 w r g p c h tb room h2 tb2 A t2 wv gv s l F) (hj : LJ w0 w6 r g p c h tb room s l' F') (hk : KeepI h w w6)
    (hO : (fed F').out = (fed F).out ++ its) (hfl : F' ++ flat l' = F ++ flat l) (L1 L2 : List (Top.It × Value)) (e1 : L1.map Prod.fst = (fed F).out) (e2 : L2.map Prod.fst = its) (o1 : w6.ownsRow w0.heap.size 85 4 gv L1.length (itsC L1)) (v1 : ∀ p ∈ L1, EvAt w6 p.2 p.1.es) (v2 : ∀ p ∈ L2, EvAt w6 p.2 p.1.es)
    (ho : w7.ownsRow w0.heap.size 85 4 v' (L1.length + L2.length) (itsC L1 ++ itsC L2)) (hg : w6.grownBy w7 gv.ownBlock) (hb : v'.ownBlock = gv.ownBlock ∨ v'.ownBlock = some w6.heap.size) : LQ w0 w7 r g p c h tb room h2 tb2 A t2 wv v' s l' F' := by
  have hw6 := x.wt.keepI hk
  refine ⟨hj.own o1 (Nat.le_refl _) hg, by rw [hO]; exact ItsAt.app L1 L2 e1 e2 o1 v1 v2 ho hg, by rw [x.eq, hfl], (x.hu2.keepI hk x.ne).grown o1 hg (by decide) (by decide), x.ne, hw6.other o1 hg x.ow, fun q hq => ?_⟩
  rcases hb with hb | hb
  · exact x.ow q (hb ▸ hq)
  · rw [hb] at hq
    injection hq with hq
    subst hq
    intro e
    obtain ⟨L, _, hL, _⟩ := its_out hw6
    have := (hL.lt _ e).2
    omega
theorem LQ.len {w0 w : World} {r g p c h tb room h2 tb2 : Nat} {A F : Top.Bytes} {t2 : ByteArray} {wv gv : Value} {s : Rg.RG} {l : List ByteArray} (x : LQ w0 w r g p c h tb room h2 tb2 A t2 wv gv s l F) (hA : A.length ≤ 7160) : F.length + (flat l).length + s.bytes.length ≤ 7160 := by
  have := congrArg List.length x.eq
  rw [List.length_append, List.length_append] at this
  omega
attribute [local irreducible] ItsAt fed
set_option maxHeartbeats 8000000 in
theorem law_walk (w : World) (fa : Addr) (TA : Option Addr) (fn fcap tn tcap : Nat) (room : Nat) (gf : Nat → Fr) (gt : Nat → Int × Int) (HL : LiveOk w) (hF : FramesAt w (some fa) fn gf) (hT : TurnsAt w TA tn gt) (h1 : 1 ≤ room) (h2 : room ≤ 64) (hfn : fn ≤ 40) (htn : tn ≤ 200) :
    Calls Tryz.prog 3 #[.slice (some fa) fn fcap, .slice TA tn tcap, .int .i64 room] w fun e w' => e = .returned (.bool true) ∧ Below w.heap.size w w' := by
  have HLV := Lib.hid HL; clear HL
  have HF := Lib.hid hF; clear hF
  have HT := Lib.hid hT; clear hT
  have HH1 := Lib.hid h1; clear h1
  have HH2 := Lib.hid h2; clear h2
  have i40 : ¬ (40 : Int) < (fn : Int) := by omega
  have i200 : ¬ (200 : Int) < (tn : Int) := by omega
  have HFN := Lib.hid hfn; clear hfn
  have HTN := Lib.hid htn; clear htn
  obtain ⟨i0, hi, hz0, hz1, hz2⟩ := info_parts info85z
  have HI0 := Lib.hid hi; clear hi
  have HZ0 := Lib.hid hz0; clear hz0
  have HZ1 := Lib.hid hz1; clear hz1
  have HZ2 := Lib.hid hz2; clear hz2
  go_enter Tryz.func3, Tryz.ntmps3
  go_wp2_with fail
  refine (pnew_any w room HH1.out HH2.out).mono ?_
  rintro _ w1 ⟨rfl, hp, hg⟩
  have HP := Lib.hid hp; clear hp
  have HG1 := Lib.hid hg; clear hg
  obtain ⟨p, hpe⟩ : ∃ p, p = w.heap.size + 1 := ⟨_, rfl⟩
  rw [← hpe] at HP ⊢
  clear hpe
  have HC := Lib.hid (show w.heap.size ≤ w.heap.size from Nat.le_refl _)
  go_wp2_with fail
  refine (Rg.new_ok w1 w.heap.size 1048576 0 (by decide) (by decide) (.inl rfl) HG1.out.size).mono ?_
  rintro _ w2 ⟨r, g, rfl, hr, hg⟩
  have HRG := Lib.hid hr; clear hr
  have HG2 := Lib.hid hg; clear hg
  go_wp2_with fail
  refine (HLV.out w2 (HG1.out.trans HG2.out)).mono ?_
  rintro _ w3 ⟨rfl, hg⟩
  have HG3 := Lib.hid hg; clear hg
  go_wp2_with fail
  refine (make_any w3).mono ?_
  rintro _ w4 ⟨rfl, hw4⟩
  have HTB := Lib.hid (show TabAt w4 w3.heap.size by rw [hw4]; exact heapAt_alloc_new _ _)
  have HG4 := Lib.hid (show Grow w3 w4 by rw [hw4]; exact Grow.alloc _ _)
  clear hw4
  generalize w3.heap.size = tb at HTB ⊢
  go_wp2_with fail
  refine (hnew_any w4 tb HTB.out).mono ?_
  rintro _ w5 ⟨rfl, hh, hg⟩
  have HHU := Lib.hid hh; clear hh
  have HG5 := Lib.hid hg; clear hg
  have HLE := Lib.hid (show w.heap.size ≤ w4.heap.size from Nat.le_trans HG1.out.size (Nat.le_trans HG2.out.size (Nat.le_trans HG3.out.size HG4.out.size)))
  generalize w4.heap.size = h at HHU HLE ⊢
  have HK0 := Lib.hid (LK.start HP.out HG1.out HC.out HRG.out HG2.out (HG3.out.trans HG4.out) HHU.out HG5.out HLE.out)
  obtain ⟨c, hce⟩ : ∃ c, c = w.heap.size := ⟨_, rfl⟩
  rw [← hce] at HK0
  clear HP HRG HHU HG1 HG2 HG3 HG4 HG5 hce HC HTB i40 i200
  go_upto_region 10 with (fail)
  go_loopw [64, 15, 13, 14] (fun i nx av gv wr => ∃ k x : Nat, k ≤ tn ∧ i = .int .i64 k ∧ nx = .int .i64 x ∧ x ≤ fn ∧ LK w r g p c h tb room x gv av wr) (fun i _ _ _ _ => tn - (intOf i).toNat)
  case atStart => exact ⟨0, 0, Nat.zero_le _, rfl, rfl, Nat.zero_le _, HK0.out⟩
  case round =>
    obtain ⟨k, x, hk, rfl, rfl, hx, s, l, F, al, hj, hit, rfl, heq, hsz⟩ := hrel
    have HJ := Lib.hid hj; clear hj
    have HIT := Lib.hid hit; clear hit
    have HEQ := Lib.hid heq; clear heq
    have HSZ := Lib.hid hsz; clear hsz
    have HX := Lib.hid hx; clear hx
    have HAL := Lib.hid (show F.length + (flat l).length + s.bytes.length ≤ 7160 by
      have h1 := congrArg List.length HEQ.out
      rw [List.length_append, List.length_append, Array.length_toList] at h1
      have h2 : al.data.size = al.size := rfl
      have := HSZ.out
      have := HX.out
      have := HFN.out
      omega)
    by_cases hlt : k < tn
    · have hlti : (k : Int) < tn := by omega
      have k0 : (0 : Int) ≤ (k : Int) := by omega
      obtain ⟨ta, hTA, p0, p1⟩ := TurnsAt.at (TurnsAt.grow HT.out HJ.out.b) k hlt
      rw [hTA]
      clear hTA
      generalize (gt k).1 = kd at *
      generalize (gt k).2 = nn at *
      go_upto_region 12 with (fail)
      have HJ1 := Lib.hid (HJ.out.grow (Grow.alloc wr (.cells #[.int .i64 kd, .int .i64 nn] 39)))
      have HIT1 := Lib.hid (HIT.out.grow (Grow.alloc wr (.cells #[.int .i64 kd, .int .i64 nn] 39)))
      have HTB := Lib.hid (heapAt_alloc_new wr (.cells #[.int .i64 kd, .int .i64 nn] 39))
      clear p0 p1
      generalize wr.heap.size = tg at HTB ⊢
      generalize wr.alloc (.cells #[.int .i64 kd, .int .i64 nn] 39) = wt at HJ1 HIT1 HTB ⊢
      have t0 := cell_block HTB.out 0
      have t1 := cell_block HTB.out 1
      simp at t0 t1
      by_cases hk1 : kd = 1
      · subst hk1
        by_cases hxn : x < fn
        · have hxi : (x : Int) < fn := by omega
          have x0 : (0 : Int) ≤ (x : Int) := by omega
          obtain ⟨fa', hFA, q0, q1⟩ := FramesAt.at (FramesAt.grow HF.out HJ1.out.b) x hxn
          injection hFA with hFA
          subst hFA
          have HFO := Lib.hid (frames_ok (FramesAt.grow HF.out HJ1.out.b) x hxn)
          generalize gf x = fx at *
          by_cases h50 : fx.n ≤ 50
          · have h50i : (fx.n : Int) ≤ 50 := by omega
            go_wp2_with fail
            refine (print7_any wt fx HFO.out (by omega)).mono ?_
            rintro _ w6 ⟨⟨st, kk, rfl, hst⟩, hg⟩
            have HJ2 := Lib.hid (HJ1.out.grow hg)
            have HIT2 := Lib.hid (HIT1.out.grow hg)
            have HST := Lib.hid hst; clear hst hg q0 q1
            go_wp2_with fail
            refine (LJ.put HJ2.out st HST.out (by have := HAL.out; omega)).mono ?_
            rintro _ w7 ⟨⟨k2, rfl⟩, ⟨s', hs', hj⟩, hki⟩
            have HLK := Lib.hid (show LK w r g p c h tb room (x + 1) u14 (.string (al ++ st)) w7 from ⟨s', l, F, al ++ st, hj, HIT2.out.keepI hki, rfl, by rw [list_append, HEQ.out, hs'.1, List.append_assoc], by
              rw [ByteArray.size_append]; have := HSZ.out; have := HST.out; omega⟩)
            clear hj hki hs'
            have za : al.size ≤ 7160 := by have := HSZ.out; have := HFN.out; have := HX.out; omega
            have zb : st.size ≤ 179 := HST.out
            go_wp2_with fail
            go_roundw
            case rel => exact ⟨k + 1, x + 1, by omega, by go_num, by rw [show min ((x : Int) + 1) (fn : Int) = ((x + 1 : Nat) : Int) by omega], by omega, HLK.out⟩
            case measure => simp [intOf]; omega
          · have h50i : ¬ (fx.n : Int) ≤ 50 := by omega
            have HLK := Lib.hid (show LK w r g p c h tb room (x + 1) u14 (.string al) wt from ⟨s, l, F, al, HJ1.out, HIT1.out, rfl, HEQ.out, by have := HSZ.out; omega⟩)
            go_wp2_with fail
            go_roundw
            case rel => exact ⟨k + 1, x + 1, by omega, by go_num, by rw [show min ((x : Int) + 1) (fn : Int) = ((x + 1 : Nat) : Int) by omega], by omega, HLK.out⟩
            case measure => simp [intOf]; omega
        · have hxi : ¬ (x : Int) < fn := by omega
          have hxe : x = fn := by have := HX.out; omega
          have xb : (x : Int) ≤ 40 := by have := HX.out; have := HFN.out; omega
          have HLK := Lib.hid (show LK w r g p c h tb room x u14 (.string al) wt from ⟨s, l, F, al, HJ1.out, HIT1.out, rfl, HEQ.out, HSZ.out⟩)
          clear hxn
          have HXE := Lib.hid hxe; clear hxe
          go_wp2_with fail
          go_roundw
          case rel => exact ⟨k + 1, x, by omega, by go_num, by rw [show min ((x : Int) + 1) (fn : Int) = (x : Int) by have := HXE.out; omega], HX.out, HLK.out⟩
          case measure => simp [intOf]; omega
      · have b1 : (kd == 1) = false := by simpa using hk1
        by_cases hk2 : kd = 2
        · subst hk2
          go_wp2_with fail
          refine (LJ.pump HJ1.out nn).mono ?_
          rintro _ w6 ⟨⟨kk, rfl⟩, hj, hki⟩
          have HLK := Lib.hid (show LK w r g p c h tb room x u14 (.string al) w6 from ⟨_, _, F, al, hj, HIT1.out.keepI hki, rfl, by rw [HEQ.out, List.append_assoc, List.append_assoc, pump_flat], HSZ.out⟩)
          clear hj hki t0 t1
          go_wp2_with fail
          go_roundw
          case rel => exact ⟨k + 1, x, by omega, by go_num, rfl, HX.out, HLK.out⟩
          case measure => simp [intOf]; omega
        · have b2 : (kd == 2) = false := by simpa using hk2
          by_cases hk3 : kd = 3
          · subst hk3
            go_wp2_with fail
            refine (LJ.feed HJ1.out (by have := HAL.out; omega)).mono ?_
            rintro _ w6 ⟨⟨its, F', l', ⟨u, ub, rfl, hu⟩, hj, ho, hfl, hll⟩, hki⟩
            have HJ2 := Lib.hid hj
            have HIT2 := Lib.hid (HIT1.out.keepI hki)
            have HO := Lib.hid ho
            have HFL := Lib.hid hfl
            obtain ⟨L1, e1, o1, v1⟩ := its_out HIT2.out
            obtain ⟨L2, e2, o2, v2⟩ := its_out hu
            obtain ⟨A2, cp2, rfl, hr2⟩ := own_reads o2
            have HE := Lib.hid (And.intro e1 e2)
            have HO1 := Lib.hid o1
            have HV1 := Lib.hid v1
            have HV2 := Lib.hid v2
            have HR2 := Lib.hid hr2
            have HLN := Lib.hid (show L1.length ≤ 14320 ∧ L2.length ≤ 14320 by
              have h1 := (fed_bd F').ou
              rw [HO.out, List.length_append, ← e1, ← e2, List.length_map, List.length_map] at h1
              have h2 := congrArg List.length HFL.out
              rw [List.length_append, List.length_append] at h2
              have := HAL.out
              omega)
            have HBW := Lib.hid (show w.heap.size ≤ w6.heap.size from HJ2.out.b.size)
            clear e1 e2 o1 o2 v1 v2 hr2 hu hj ho hfl hll hki
            generalize hl1 : L1.length = n1 at *
            have HN1 := Lib.hid hl1; clear hl1
            generalize hl2 : L2.length = n2 at *
            have HN2 := Lib.hid hl2; clear hl2
            go_wp2_with (at_builtin; refine wpList_append_any _ rfl (.tmp 119) (.tmp 120) 37 rfl w.heap.size 85 i0 _ 4 40 Tryz.underlying37 HI0.out HZ0.out HZ1.out HZ2.out rfl (by decide) _ n1 (itsC L1) (by rfl) HO1.out _ A2 n2 cp2 (itsC L2) (by rfl) HR2.out (itsC_one L2 fun p hp => (HV2.out p hp).one) ?c4 ?c5 ?c6 ?c7)
            case c4 => have := HLN.out; unfold maxLen; omega
            case c5 => have := HLN.out; omega
            case c6 => exact HBW.out
            case c7 =>
              intro v' w7 hown hgr hblk
              have HLK := Lib.hid (show LK w r g p c h tb room x v' (.string al) w7 from ⟨s, l', F', al, HJ2.out.own (by rw [← HN1.out] at HO1; exact HO1.out) (Nat.le_refl _) hgr, by
                rw [HO.out]
                exact ItsAt.app L1 L2 HE.out.1 HE.out.2 (by rw [HN1.out]; exact HO1.out) HV1.out HV2.out (by rw [HN1.out, HN2.out]; exact hown) hgr, rfl, by rw [HEQ.out, HFL.out], HSZ.out⟩)
              clear hown hgr hblk
              go_wp2_with fail
              go_roundw
              case rel => exact ⟨k + 1, x, by omega, by go_num, rfl, HX.out, HLK.out⟩
              case measure => simp [intOf]; omega
          · have b3 : (kd == 3) = false := by simpa using hk3
            have HLK := Lib.hid (show LK w r g p c h tb room x u14 (.string al) wt from ⟨s, l, F, al, HJ1.out, HIT1.out, rfl, HEQ.out, HSZ.out⟩)
            go_wp2_with fail
            go_roundw
            case rel => exact ⟨k + 1, x, by omega, by go_num, rfl, HX.out, HLK.out⟩
            case measure => simp [intOf]; omega
    · have hlti : ¬ (k : Int) < tn := by omega
      go_wp2_with fail
      refine (make_any wr).mono ?_
      rintro _ w6 ⟨rfl, hw6⟩
      have HTB2 := Lib.hid (show TabAt w6 wr.heap.size by rw [hw6]; exact heapAt_alloc_new _ _)
      have HG6 := Lib.hid (show Grow wr w6 by rw [hw6]; exact Grow.alloc _ _)
      clear hw6
      generalize wr.heap.size = tb2 at HTB2 ⊢
      go_wp2_with fail
      refine (hnew_any w6 tb2 HTB2.out).mono ?_
      rintro _ w7 ⟨rfl, hh, hg⟩
      have HHU := Lib.hid hh; clear hh
      have HNE := Lib.hid (show w6.heap.size ≠ h by
        intro e
        obtain ⟨t, _, hs⟩ := HJ.out.sw
        have := heapAt_lt hs.hu.b
        have := HG6.out.size
        omega)
      have HJ7 := Lib.hid (HJ.out.grow (HG6.out.trans hg))
      have HIT7 := Lib.hid (HIT.out.grow (HG6.out.trans hg))
      have HOWN := Lib.hid (show ∀ q, u14.ownBlock = some q → q < w7.heap.size from fun q hq => by
        obtain ⟨L, _, ho, _⟩ := its_out HIT7.out
        exact (ho.lt q hq).2)
      have HL2 := Lib.hid (show w.heap.size ≤ w6.heap.size from Nat.le_trans HJ.out.b.size HG6.out.size)
      clear hg
      generalize w6.heap.size = h2 at HHU HNE HL2 ⊢
      go_wp2_with fail
      refine (feed_any al HHU.out (Nat.le_refl _) (by show 0 + 0 + al.size < 2 ^ 40; have := HSZ.out; have := HX.out; have := HFN.out; omega) (by show 0 + al.size < 2 ^ 30; have := HSZ.out; have := HX.out; have := HFN.out; omega)).mono ?_
      rintro _ w8 ⟨⟨wv, rfl, hw⟩, hp2, ho2⟩
      have HQ8 := Lib.hid (LQ.start HJ7.out HIT7.out HEQ.out HHU.out HNE.out hw hp2 ho2 HOWN.out HL2.out)
      obtain ⟨t2, hq8⟩ := HQ8.out
      have HQ := Lib.hid hq8; clear hq8 HQ8 hw hp2 ho2
      obtain ⟨A1, cp1, g1, rfl, hc1, r1, e1⟩ := ItsAt.rd HQ.out.it
      obtain ⟨A2, cp2, g2, rfl, hc2, r2, e2⟩ := ItsAt.rd HQ.out.wt
      obtain ⟨more, hmore⟩ := fed_prefix F (flat l ++ s.bytes)
      have HMO := Lib.hid (show (fed al.data.toList).out = (fed F).out ++ more by rw [HEQ.out, List.append_assoc]; exact hmore)
      have hle : (fed F).out.length ≤ (fed al.data.toList).out.length := by rw [HMO.out, List.length_append]; omega
      have HS9 := Lib.hid (same9_eq w8 A1 A2 (fed F).out.length cp1 cp2 g1 g2 (by have := (fed_bd F).ou; have := HAL.out; omega) r1 (ItsRd.less r2 hle) (fun j hj => by
        have h1 := e1 j hj
        have h2 := e2 j (by omega)
        refine ⟨?_, ?_⟩
        · rw [h1, h2, HMO.out, List.getD_eq_getElem?_getD, List.getD_eq_getElem?_getD, List.getElem?_append_left hj]
        · rw [h1]
          have hm : (fed F).out.getD j (.gap 0 0) ∈ (fed F).out := by
            rw [List.getD_eq_getElem?_getD, List.getElem?_eq_getElem hj]
            exact List.getElem_mem _
          have := (fed_bd F).es _ hm
          omega))
      have HSZA := Lib.hid (show (fed F).out.length ≤ 20000 ∧ (fed al.data.toList).out.length ≤ 20000 by
        have h1 := (fed_bd F).ou
        have h2 := (fed_bd al.data.toList).ou
        have h3 : al.data.toList.length = al.size := by rw [Array.length_toList]; rfl
        have := HAL.out
        have := HSZ.out
        have := HX.out
        have := HFN.out
        omega)
      clear r1 r2 e1 e2 hmore HJ HIT HHU HJ7 HIT7 HTB2 HG6 HOWN HMO
      generalize hgl : (fed F).out.length = gl at *
      generalize hwl : (fed al.data.toList).out.length = wl at *
      have HGL := Lib.hid hgl; clear hgl
      have HWL := Lib.hid hwl; clear hwl
      have j1 : ¬ (wl : Int) < (gl : Int) := by omega
      have j2 : (0 : Int) ≤ (gl : Int) := by omega
      have j3 : (gl : Int) ≤ (cp2 : Int) := by omega
      go_wp2_with fail
      refine HS9.out.mono ?_
      rintro _ _ ⟨rfl, m9, rfl⟩
      have HQ9 := Lib.hid (HQ.out.grow (Grow.drewN w8 m9))
      have HA := Lib.hid (show al.data.toList.length ≤ 7160 by
        have h3 : al.data.toList.length = al.size := by rw [Array.length_toList]; rfl
        have := HSZ.out
        have := HX.out
        have := HFN.out
        omega)
      clear HS9 HQ j1 j2 j3 HAL HEQ
      generalize w8.drewN m9 = w9 at HQ9 ⊢
      generalize al.data.toList = A at *
      go_upto_region 30 with (fail)
      have hdc : decide (wl < gl) = false := decide_eq_false (by omega)
      rw [hdc]
      clear hdc
      rw [HWL.out.symm] at HSZA
      have hroom : (room : Int) ≤ 64 := by have := HH2.out; omega
      have hroom1 : (1 : Int) ≤ room := by have := HH1.out; omega
      have HC1 := Lib.hid hc1; clear hc1
      have HC2 := Lib.hid hc2; clear hc2
      go_loopw [145, 14] (fun i gv wr => ∃ k : Nat, k ≤ 80 ∧ i = .int .i64 k ∧ ∃ s l F, LQ w wr r g p c h tb room h2 tb2 A t2 (.slice A2 wl cp2) gv s l F ∧ (k = 0 ∨ l = []) ∧ (1 ≤ k → s.used = 0 ∨ s.used + 200 * (k - 1) ≤ 7160)) (fun i _ _ => 80 - (intOf i).toNat)
      case atStart => exact ⟨0, by omega, rfl, s, l, F, HQ9.out, .inl rfl, fun h => absurd h (by omega)⟩
      case round =>
        clear HQ9 HGL HC1
        obtain ⟨k2, hk2, rfl, s0, l0, F0, hq, hl0, hus⟩ := hrel
        have HQ := Lib.hid hq; clear hq
        have HL0 := Lib.hid hl0; clear hl0
        have HUS := Lib.hid hus; clear hus
        by_cases hlt2 : k2 < 80
        · have hlti2 : (k2 : Int) < 80 := by omega
          go_upto_region 32 with (fail)
          go_loopw [149] (fun i wr => ∃ j : Nat, j ≤ room + 1 ∧ i = .int .i64 j ∧ ∃ s1 l1, LQ w wr r g p c h tb room h2 tb2 A t2 (.slice A2 wl cp2) u14 s1 l1 F0 ∧ s1.used ≤ s0.used ∧ (j = 0 → l1 = l0) ∧ (l0 = [] → 1 ≤ j → s1.used ≤ s0.used - 200)) (fun i _ => room + 1 - (intOf i).toNat)
          case atStart => exact ⟨0, by omega, rfl, s0, l0, HQ.out, Nat.le_refl _, fun _ => rfl, fun _ h => absurd h (by omega)⟩
          case round =>
            clear HQ
            obtain ⟨j, hj, rfl, s1, l1, hq, hu1, hl1, hu2⟩ := hrel
            have HQ := Lib.hid hq; clear hq
            have HU := Lib.hid (And.intro hu1 (And.intro hl1 hu2)); clear hu1 hl1 hu2
            by_cases hlt3 : j < room + 1
            · have hlti3 : (j : Int) < (room : Int) + 1 := by omega
              go_wp2_with fail
              refine (LJ.pump HQ.out.j 200).mono ?_
              rintro _ w6 ⟨⟨kk, rfl⟩, hj6, hki⟩
              have HQ6 := Lib.hid (HQ.out.step hj6 hki (pump_flat _ _ _ _))
              have HU6 := Lib.hid (pump_used room 200 s1 l1)
              clear hj6 hki
              go_wp2_with fail
              go_roundw
              case rel => exact ⟨j + 1, by omega, by go_num, _, _, HQ6.out, Nat.le_trans HU6.out.1 HU.out.1, fun h => absurd h (by omega), fun hn _ => by
                by_cases h0 : j = 0
                · have h1 := HU6.out.2 (by rw [HU.out.2.1 h0, hn]; exact HH1.out) (by decide)
                  rw [h1]
                  have := HU.out.1
                  show s1.used - 200 ≤ s0.used - 200
                  omega
                · exact Nat.le_trans HU6.out.1 (HU.out.2.2 hn (by omega))⟩
              case measure => simp [intOf]; omega
            · have hlti3 : ¬ (j : Int) < (room : Int) + 1 := by omega
              have HU2 := Lib.hid (show s1.used ≤ s0.used ∧ (l0 = [] → s1.used ≤ s0.used - 200) from ⟨HU.out.1, fun hn => HU.out.2.2 hn (by omega)⟩)
              clear HU hlt3 hj
              go_upto_region 36 with (fail)
              go_loopw [157, 14] (fun i gv wr => ∃ j : Nat, j ≤ room + 1 ∧ i = .int .i64 j ∧ ∃ l2 F2, LQ w wr r g p c h tb room h2 tb2 A t2 (.slice A2 wl cp2) gv s1 l2 F2 ∧ l2.length ≤ room - j) (fun i _ _ => room + 1 - (intOf i).toNat)
              case atStart => exact ⟨0, by omega, rfl, l1, F0, HQ.out, HQ.out.j.le⟩
              case round =>
                clear HQ
                obtain ⟨j2, hj2, rfl, l2, F2, hq, hl2⟩ := hrel
                have HQ := Lib.hid hq; clear hq
                have HL2' := Lib.hid hl2; clear hl2
                by_cases hlt4 : j2 < room + 1
                · have hlti4 : (j2 : Int) < (room : Int) + 1 := by omega
                  have HAL := Lib.hid (HQ.out.len HA.out)
                  go_wp2_with fail
                  refine (LJ.feed HQ.out.j (by have := HAL.out; omega)).mono ?_
                  rintro _ w6 ⟨⟨its, F', l', ⟨u, ub, rfl, hu⟩, hj, ho, hfl, hll⟩, hki⟩
                  have HJ2 := Lib.hid hj
                  have HKI := Lib.hid hki
                  have HO := Lib.hid ho
                  have HFL := Lib.hid hfl
                  have HLL := Lib.hid hll
                  obtain ⟨L1, e1, o1, v1⟩ := its_out (HQ.out.it.keepI hki)
                  obtain ⟨L2, e2, o2, v2⟩ := its_out hu
                  obtain ⟨A3, cp3, rfl, hr2⟩ := own_reads o2
                  have HE := Lib.hid (And.intro e1 e2)
                  have HO1 := Lib.hid o1
                  have HV1 := Lib.hid v1
                  have HV2 := Lib.hid v2
                  have HR2 := Lib.hid hr2
                  have HLN := Lib.hid (show L1.length ≤ 14320 ∧ L2.length ≤ 14320 by
                    have h1 := (fed_bd F').ou
                    rw [HO.out, List.length_append, ← e1, ← e2, List.length_map, List.length_map] at h1
                    have h2 := congrArg List.length HFL.out
                    rw [List.length_append, List.length_append] at h2
                    have := HAL.out
                    omega)
                  have HBW := Lib.hid (show w.heap.size ≤ w6.heap.size from HJ2.out.b.size)
                  clear e1 e2 o1 o2 v1 v2 hr2 hu hj ho hfl hll hki
                  generalize hl1 : L1.length = n1 at *
                  have HN1 := Lib.hid hl1; clear hl1
                  generalize hl2 : L2.length = n2 at *
                  have HN2 := Lib.hid hl2; clear hl2
                  go_wp2_with (at_builtin; refine wpList_append_any _ rfl (.tmp 165) (.tmp 166) 37 rfl w.heap.size 85 i0 _ 4 40 Tryz.underlying37 HI0.out HZ0.out HZ1.out HZ2.out rfl (by decide) _ n1 (itsC L1) (by rfl) HO1.out _ A3 n2 cp3 (itsC L2) (by rfl) HR2.out (itsC_one L2 fun p hp => (HV2.out p hp).one) ?d4 ?d5 ?d6 ?d7)
                  case d4 => have := HLN.out; unfold maxLen; omega
                  case d5 => have := HLN.out; omega
                  case d6 => exact HBW.out
                  case d7 =>
                    intro v' w7 hown hgr hblk
                    have HQ7 := Lib.hid (HQ.out.fed' HJ2.out HKI.out HO.out HFL.out L1 L2 HE.out.1 HE.out.2 (by rw [HN1.out]; exact HO1.out) HV1.out HV2.out (by rw [HN1.out, HN2.out]; exact hown) hgr hblk)
                    clear hown hgr hblk
                    go_wp2_with fail
                    go_roundw
                    case rel => exact ⟨j2 + 1, by omega, by go_num, l', F', HQ7.out, by have := HL2'.out; have := HLL.out; omega⟩
                    case measure => simp [intOf]; omega
                · have hlti4 : ¬ (j2 : Int) < (room : Int) + 1 := by omega
                  have hl2n : l2 = [] := List.eq_nil_of_length_eq_zero (by have := HL2'.out; omega)
                  subst hl2n
                  clear HL2'
                  go_wp2_with fail
                  go_roundw
                  case rel => exact ⟨k2 + 1, by omega, by go_num, s1, [], F2, HQ.out, .inr rfl, fun _ => by
                    have h1 := HU2.out
                    have h3 := HQ.out.len HA.out
                    have h4 : s1.bytes.length = s1.used := rfl
                    by_cases h0 : k2 = 0
                    · subst h0; right; omega
                    · have h5 := HUS.out (by omega)
                      have h6 := h1.2 (by rcases HL0.out with h | h; · exact absurd h h0
                                          · exact h)
                      omega⟩
                  case measure => simp [intOf]; omega
        · have hlti2 : ¬ (k2 : Int) < 80 := by omega
          have hk80 : k2 = 80 := by omega
          subst hk80
          have hl0n : l0 = [] := by
            rcases HL0.out with h | h
            · exact absurd h (by decide)
            · exact h
          have hu0 : s0.used = 0 := by
            rcases HUS.out (by decide) with h | h
            · exact h
            · omega
          subst hl0n
          have hAF : A = F0 := by
            have h1 := HQ.out.eq
            have h2 : s0.bytes = [] := List.eq_nil_of_length_eq_zero hu0
            rw [h2] at h1
            simpa [flat] using h1
          subst hAF
          have HU0 := Lib.hid hu0; clear hu0
          obtain ⟨A3, cp3, g3, hgv, hc3, r3, e3⟩ := ItsAt.rd HQ.out.it
          subst hgv
          obtain ⟨A4, cp4, g4, hwv, hc4, r4, e4⟩ := ItsAt.rd HQ.out.wt
          injection hwv with hx1 hx2 hx3
          subst hx1 hx3
          have HS9 := Lib.hid (same9_eq wr A3 A2 (fed A).out.length cp3 cp2 g3 g4 (by have := (fed_bd A).ou; have := HA.out; omega) r3 r4 (fun j hj => by
            have h1 := e3 j hj
            have h2 := e4 j hj
            refine ⟨h1.trans h2.symm, ?_⟩
            rw [h1]
            have hm : (fed A).out.getD j (.gap 0 0) ∈ (fed A).out := by
              rw [List.getD_eq_getElem?_getD, List.getElem?_eq_getElem hj]
              exact List.getElem_mem _
            have := (fed_bd A).es _ hm
            omega))
          clear r3 r4 e3 e4 HL0 HUS HSZA
          go_wp2_with fail
          refine HS9.out.mono ?_
          rintro _ _ ⟨rfl, m10, rfl⟩
          have HQA := Lib.hid (HQ.out.grow (Grow.drewN wr m10))
          clear HS9 HQ
          generalize wr.drewN m10 = wa at HQA ⊢
          go_wp2_with fail
          refine (Rg.used_ring HQA.out.j.rg 0 HU0.out).mono ?_
          rintro _ _ ⟨rfl, rfl⟩
          have HSK := Lib.hid HQA.out.j.sw
          obtain ⟨t3, _, hs3⟩ := HSK.out
          have HS3 := Lib.hid hs3; clear hs3
          go_wp2_with fail
          refine (skipped_any HS3.out.hu).mono ?_
          rintro _ _ ⟨rfl, rfl⟩
          go_wp2_with fail
          refine (skipped_any HQA.out.hu2).mono ?_
          rintro _ _ ⟨rfl, rfl⟩
          go_wp2
          go_ret
          exact ⟨rfl, HQA.out.j.b⟩
end Go.Proofs.YtnhmdinpfcoebaaGreatDoor
end
