/- Texts of the proof, merged: RingMem. -/
import Derived.Test.YtnhmdinpfcoebaaGreatDoorRows
import Derived.Test.YtnhmdinpfcoebaaGreatDoorM02
import Derived.Test.YtnhmdinpfcoebaaGreatDoorM04
import Derived.ArgAppend
import Derived.Deep.RegionLaw
import Derived.OneCell
/-! === RingMem -/
section
/- The ring in memory: its struct, its room, the sizes' row. -/
namespace Go.Proofs.YtnhmdinpfcoebaaGreatDoor.Rg
open Go.RowKit
set_option linter.unusedVariables false
theorem info3 : (Tryz.prog.info? 3).map (fun i => (i.zero, i.size, i.bytes)) = some (some (.int .i64 0), 1, 8) := by kernel_rfl
theorem info5 : (Tryz.prog.info? 5).map (fun i => (i.zero, i.size, i.bytes)) = some (some (.int .u8 0), 1, 1) := by kernel_rfl
theorem info9 : (Tryz.prog.info? 9).map (fun i => (i.zero, i.size, i.bytes)) = some (some (.string ⟨#[]⟩), 1, 16) := by kernel_rfl
theorem info_parts {t : TypeId} {z : Value} {s b : Nat} (h : (Tryz.prog.info? t).map (fun i => (i.zero, i.size, i.bytes)) = some (some z, s, b)) : ∃ i, Tryz.prog.info? t = some i ∧ i.zero = some z ∧ i.size = s ∧ i.bytes = b := by
  cases e : Tryz.prog.info? t with
  | none => rw [e] at h; simp at h
  | some i => rw [e] at h; simp at h; exact ⟨i, rfl, h.1, h.2.1, h.2.2⟩
theorem cell_lt {w : World} {a : Addr} {v : Value} (h : w.cell? a = some v) : a.block < w.heap.size := by
  refine Classical.byContradiction fun hn => ?_
  have : w.heap[a.block]? = none := Array.getElem?_eq_none (by omega)
  simp [World.cell?, this] at h
theorem own_form {w : World} {B n : Nat} {e : TypeId} {v : Value} {xs : List Value} (h : w.ownsRow B e 1 v n xs) : ∃ A cap, v = .slice A n cap := by
  rcases h.2 with ⟨h1, h2⟩ | ⟨g, cap, cur, rfl, hB, hg, hcap, _⟩
  · subst h2; exact ⟨_, _, h1⟩
  · exact ⟨_, cap, rfl⟩

/-- Blocks below base, and blocks that are none of these and no rows of this type, are as they were. -/
def Far (Pb : Nat → Prop) (T : TypeId) (base : Nat) (w w' : World) : Prop := Below base w w' ∧ ∀ (k : Nat) (o : Obj), w.heap[k]? = some o → ¬ Pb k → (∀ cs f, o ≠ .cells cs T f) → w'.heap[k]? = some o
theorem Far.refl (Pb : Nat → Prop) (T : TypeId) (base : Nat) (w : World) : Far Pb T base w w := ⟨Below.refl _ _, fun _ _ h _ _ => h⟩
theorem Far.grow {Pb : Nat → Prop} {T : TypeId} {base : Nat} {w w' : World} (h : Grow w w') (hm : base ≤ w.heap.size) : Far Pb T base w w' := ⟨h.mono hm, fun k o hk _ _ => h.at hk⟩
theorem Far.trans {Pb : Nat → Prop} {T : TypeId} {base : Nat} {w w1 w2 : World} (h : Far Pb T base w w1) (g : Far Pb T base w1 w2) : Far Pb T base w w2 := ⟨Below.trans h.1 g.1, fun k o hk hn ho => g.2 k o (h.2 k o hk hn ho) hn ho⟩
theorem Far.set {Pb : Nat → Prop} {T : TypeId} {base : Nat} {w w1 : World} (h : Far Pb T base w w1) {r : Nat} (hr : Pb r) (hb : base ≤ r) (l : Nat) (v : Value) : Far Pb T base w (w1.setCell ⟨r, l, none⟩ v) :=
  ⟨Below.setCell (p := ⟨r, l, none⟩) h.1 hb v, fun k o hk hn ho => (set_block_other (fun e => hn (by subst e; exact hr)) l v).trans (h.2 k o hk hn ho)⟩
theorem Far.setT {Pb : Nat → Prop} {T : TypeId} {base : Nat} {w w1 : World} (h : Far Pb T base w w1) {r : Nat} {cs : Array Value} {f : Nat × Nat} (hr : w1.heap[r]? = some (.cells cs T f)) (hb : base ≤ r) (l : Nat) (v : Value) : Far Pb T base w (w1.setCell ⟨r, l, none⟩ v) :=
  ⟨Below.setCell (p := ⟨r, l, none⟩) h.1 hb v, fun k o hk hn ho => by
    have h1 := h.2 k o hk hn ho
    refine (set_block_other (fun e => ?_) l v).trans h1
    subst e
    rw [hr] at h1
    exact ho cs f (Option.some.inj h1).symm⟩

/-! ### The sizes' row -/
def SzAt (w : World) (base : Nat) (A : Option Addr) (zs : List Nat) (c : Nat) : Prop :=
  zs.length ≤ c ∧ c ≤ maxLen ∧ (A = none → c = 0) ∧ ∀ a, A = some a → ∃ h off cs, a = ⟨h, off, none⟩ ∧ base ≤ h ∧ w.heap[h]? = some (.cells cs 3 (0, 0)) ∧ off + c ≤ cs.size ∧ ∀ j, j < zs.length → cs[off + j]? = some (.int .i64 (zs.getD j 0 : Nat))
theorem SzAt.nil (w : World) (base : Nat) : SzAt w base none [] 0 := ⟨by simp, by unfold maxLen; omega, fun _ => rfl, fun a h => by cases h⟩
theorem SzAt.keep {w w' : World} {base : Nat} {A : Option Addr} {zs : List Nat} {c : Nat} (h : SzAt w base A zs c) (hk : ∀ (k : Nat) (cs : Array Value), w.heap[k]? = some (Obj.cells cs 3 (0, 0)) → w'.heap[k]? = some (Obj.cells cs 3 (0, 0))) : SzAt w' base A zs c :=
  ⟨h.1, h.2.1, h.2.2.1, fun a ha => by
    obtain ⟨b, off, cs, h1, h2, h3, h4, h5⟩ := h.2.2.2 a ha
    exact ⟨b, off, cs, h1, h2, hk b cs h3, h4, h5⟩⟩
theorem SzAt.get {w : World} {base : Nat} {A : Option Addr} {zs : List Nat} {c : Nat} (h : SzAt w base A zs c) (hn : 0 < zs.length) : ∃ b off, A = some ⟨b, off, none⟩ ∧ base ≤ b ∧ (∀ j, j < zs.length → w.cell? ⟨b, off + j, none⟩ = some (.int .i64 (zs.getD j 0 : Nat))) ∧ ∀ j, w.frozen? ⟨b, j, none⟩ = false := by
  cases A with
  | none => have := h.2.2.1 rfl; have := h.1; omega
  | some a =>
    obtain ⟨b, off, cs, h1, h2, h3, h4, h5⟩ := h.2.2.2 a rfl
    exact ⟨b, off, by rw [h1], h2, fun j hj => by rw [cell_block h3]; exact h5 j hj, fun j => free_block h3 j⟩
theorem SzAt.blk {w : World} {base : Nat} {b off : Nat} {zs : List Nat} {c : Nat} (h : SzAt w base (some ⟨b, off, none⟩) zs c) : base ≤ b ∧ ∃ cs, w.heap[b]? = some (.cells cs 3 (0, 0)) := by
  obtain ⟨b', off', cs, h1, h2, h3, _⟩ := h.2.2.2 _ rfl
  injection h1 with h1 h1'
  subst h1
  exact ⟨h2, cs, h3⟩
/-- Without its first. -/
theorem SzAt.tail {w : World} {base : Nat} {b off z : Nat} {zs : List Nat} {c : Nat} (h : SzAt w base (some ⟨b, off, none⟩) (z :: zs) c) : (c = 1 → SzAt w base (some ⟨b, off, none⟩) zs 0) ∧ SzAt w base (some ⟨b, off + 1, none⟩) zs (c - 1) := by
  obtain ⟨h0, h0', _, h1⟩ := h
  obtain ⟨b', off', cs, e, h2, h3, h4, h5⟩ := h1 _ rfl
  injection e with e1 e2
  subst e1 e2
  simp only [List.length_cons] at h0 h5
  constructor
  · intro hc
    have : zs = [] := List.eq_nil_of_length_eq_zero (by omega)
    subst this
    exact ⟨by simp, by unfold maxLen; omega, fun _ => rfl, fun a ha => ⟨b, off, cs, (Option.some.inj ha).symm, h2, h3, by omega, fun j hj => by simp at hj⟩⟩
  · refine ⟨by omega, by omega, fun h => (by cases h), fun a ha => ⟨b, off + 1, cs, (Option.some.inj ha).symm, h2, h3, by omega, fun j hj => ?_⟩⟩
    have := h5 (j + 1) (by omega)
    rw [show off + 1 + j = off + (j + 1) by omega, this]
    simp
/-- Its first is another. -/
theorem SzAt.set0 {w : World} {base : Nat} {b off z : Nat} {zs : List Nat} {c : Nat} (h : SzAt w base (some ⟨b, off, none⟩) (z :: zs) c) (z' : Nat) : SzAt (w.setCell ⟨b, off, none⟩ (.int .i64 (z' : Nat))) base (some ⟨b, off, none⟩) (z' :: zs) c := by
  obtain ⟨h0, h0', _, h1⟩ := h
  obtain ⟨b', off', cs, e, h2, h3, h4, h5⟩ := h1 _ rfl
  injection e with e1 e2
  subst e1 e2
  refine ⟨by simpa using h0, h0', fun h => (by cases h), fun a ha => ⟨b, off, _, (Option.some.inj ha).symm, h2, set_block h3 off _, by simpa using h4, fun j hj => ?_⟩⟩
  rw [Array.getElem?_setIfInBounds]
  cases j with
  | zero =>
    simp only [List.length_cons] at h0
    simp; omega
  | succ j =>
    have := h5 (j + 1) (by simpa using hj)
    rw [if_neg (by omega), this]; simp
theorem setCells_block {b : Nat} {t : TypeId} : ∀ (vs : List Value) (o : Nat) (w : World) (cs : Array Value), w.heap[b]? = some (.cells cs t (0, 0)) → ∃ cs', (w.setCells b o vs).heap[b]? = some (.cells cs' t (0, 0)) ∧ cs'.size = cs.size ∧ (∀ j, j < vs.length → o + j < cs.size → cs'[o + j]? = vs[j]?) ∧ ∀ k, (k < o ∨ o + vs.length ≤ k) → cs'[k]? = cs[k]?
  | [], o, w, cs, h => ⟨cs, h, rfl, fun j hj => by simp at hj, fun _ _ => rfl⟩
  | v :: vs, o, w, cs, h => by
    have h1 := set_block h o v
    obtain ⟨cs', h2, h3, h4, h5⟩ := setCells_block vs (o + 1) (w.setCell ⟨b, o, none⟩ v) _ h1
    refine ⟨cs', h2, by rw [h3]; simp, fun j hj hs => ?_, fun k hk => ?_⟩
    · cases j with
      | zero =>
        have := h5 o (.inl (by omega))
        rw [Nat.add_zero, this, Array.getElem?_setIfInBounds, if_pos rfl, if_pos (by simpa using hs)]; rfl
      | succ j =>
        have := h4 j (by simpa using hj) (by simp; omega)
        rw [show o + (j + 1) = o + 1 + j by omega, this]; simp
    · simp only [List.length_cons] at hk
      rw [h5 k (by omega), Array.getElem?_setIfInBounds, if_neg (by omega)]
theorem setCells_far {Pb : Nat → Prop} {T : TypeId} {base : Nat} {w w1 : World} (h : Far Pb T base w w1) {r : Nat} {cs : Array Value} (hr : w1.heap[r]? = some (.cells cs T (0, 0))) (hb : base ≤ r) : ∀ (vs : List Value) (o : Nat), Far Pb T base w (w1.setCells r o vs) := by
  intro vs
  induction vs generalizing w1 cs with
  | nil => intro o; exact h
  | cons v vs ih => intro o; exact ih (h.setT hr hb o v) (set_block hr o v) (o + 1)
theorem setCells_other {b k : Nat} (hne : k ≠ b) : ∀ (vs : List Value) (o : Nat) (w : World), (w.setCells b o vs).heap[k]? = w.heap[k]?
  | [], _, _ => rfl
  | v :: vs, o, w => (setCells_other hne vs (o + 1) (w.setCell ⟨b, o, none⟩ v)).trans (set_block_other hne o v)
def szVals (zs : List Nat) : List Value := zs.map fun z => .int .i64 (z : Nat)
theorem szVals_len (zs : List Nat) : (szVals zs).length = zs.length := by simp [szVals]
theorem szVals_at (zs : List Nat) (j : Nat) (hj : j < zs.length) : (szVals zs)[j]? = some (.int .i64 (zs.getD j 0 : Nat)) := by simp [szVals, hj]
/-- What lies behind i places is laid i + 1 places ahead: number i is gone. -/
theorem SzAt.cut {w : World} {base : Nat} {b off : Nat} {zs : List Nat} {c : Nat} (h : SzAt w base (some ⟨b, off, none⟩) zs c) (i : Nat) (hi : i < zs.length) : SzAt (w.setCells b (off + i) (szVals (zs.drop (i + 1)))) base (some ⟨b, off, none⟩) (zs.take i ++ zs.drop (i + 1)) c := by
  obtain ⟨h0, h0', _, h1⟩ := h
  obtain ⟨b', off', cs, e, h2, h3, h4, h5⟩ := h1 _ rfl
  injection e with e1 e2
  subst e1 e2
  obtain ⟨cs', k1, k2, k3, k4⟩ := setCells_block (szVals (zs.drop (i + 1))) (off + i) w cs h3
  refine ⟨by simp; omega, h0', fun h => (by cases h), fun a ha => ⟨b, off, cs', (Option.some.inj ha).symm, h2, k1, by omega, fun j hj => ?_⟩⟩
  simp only [List.length_append, List.length_take, List.length_drop] at hj
  by_cases hji : j < i
  · rw [k4 (off + j) (.inl (by omega)), h5 j (by omega)]
    simp only [List.getD_eq_getElem?_getD]
    rw [List.getElem?_append_left (by simp; omega), List.getElem?_take, if_pos hji]
  · have := k3 (j - i) (by rw [szVals_len, List.length_drop]; omega) (by omega)
    rw [show off + i + (j - i) = off + j by omega, szVals_at _ _ (by rw [List.length_drop]; omega)] at this
    rw [this]
    simp only [List.getD_eq_getElem?_getD]
    rw [List.getElem?_append_right (by simp; omega)]
    simp only [List.length_take]
    congr 5
    omega
/-- One is put behind: in place, or into a new block. -/
theorem SzAt.append_run {w : World} {base : Nat} {A : Option Addr} {zs : List Nat} {c : Nat} (h : SzAt w base A zs c) (hbase : base ≤ w.heap.size) (hlen : zs.length < 2000000) (p z : Nat) (hp : w.cell? ⟨p, 0, none⟩ = some (.int .i64 (z : Nat))) (ty : TypeId) (Pb : Nat → Prop) :
    ∃ A' c' w', (Builtin.append_ #[60, 60] ty #[.slice A zs.length c, .slice (some ⟨p, 0, none⟩) 1 1]).run Tryz.prog w = .ok (.slice A' (zs.length + 1) c') w' ∧ SzAt w' base A' (zs ++ [z]) c' ∧ Far Pb 3 base w w' := by
  obtain ⟨i0, hi, hz0, hz1, hz2⟩ := info_parts info3
  have hnews : ∀ j u, [Value.int .i64 (z : Nat)][j]? = some u → w.cell? ((⟨p, 0, none⟩ : Addr).add j) = some u := by
    intro j u hu
    cases j with
    | zero =>
      simp at hu
      subst hu
      have : (⟨p, 0, none⟩ : Addr).add 0 = ⟨p, 0, none⟩ := by unfold Addr.add; split <;> simp_all
      rw [this]; exact hp
    | succ j => simp at hu
  by_cases hr : zs.length + 1 ≤ c
  · cases A with
    | none => have := h.2.2.1 rfl; omega
    | some a =>
      have h' := h
      obtain ⟨h0, h0', _, h1⟩ := h
      obtain ⟨b, off, cs, rfl, h2, h3, h4, h5⟩ := h1 _ rfl
      have hrun := run_append_room_cells (P := Tryz.prog) w 60 ty 3 i0 Tryz.underlying60 hi b off zs.length c ⟨p, 0, none⟩ 1 1 [.int .i64 (z : Nat)] (by rw [hz1]; rfl) hnews (by simp [Value.oneCell']) hr (fun j hj => by
        simp at hj
        subst hj
        rw [hz1, cell_block h3]
        simp; omega) (fun j hj => free_block h3 _)
      rw [hz1, Nat.mul_one] at hrun
      refine ⟨_, _, _, hrun, ?_, setCells_far (Far.refl Pb 3 base w) h3 h2 _ _⟩
      obtain ⟨cs', k1, k2, k3, k4⟩ := setCells_block [Value.int .i64 (z : Nat)] (off + zs.length) w cs h3
      refine ⟨by simpa using hr, h0', fun h => (by cases h), fun a ha => ⟨b, off, cs', (Option.some.inj ha).symm, h2, k1, by omega, fun j hj => ?_⟩⟩
      simp only [List.length_append, List.length_cons, List.length_nil] at hj
      by_cases hjl : j < zs.length
      · rw [k4 (off + j) (.inl (by omega)), h5 j hjl]
        simp [List.getD_eq_getElem?_getD, List.getElem?_append_left, hjl]
      · have e : j = zs.length := by omega
        subst e
        have := k3 0 (by simp) (by omega)
        rw [Nat.add_zero] at this
        rw [this]; simp
  · have hown : ∃ v' w', (Builtin.append_ #[60, 60] ty #[.slice A zs.length c, .slice (some ⟨p, 0, none⟩) 1 1]).run Tryz.prog w = .ok v' w' ∧ w'.ownsRow w.heap.size 3 1 v' (zs.length + 1) (szVals zs ++ [.int .i64 (z : Nat)]) ∧ w.grownBy w' none := by
      cases A with
      | some a =>
        obtain ⟨h0, h0', _, h1⟩ := h
        obtain ⟨b, off, cs, rfl, h2, h3, h4, h5⟩ := h1 _ rfl
        exact run_append_arg_grows (P := Tryz.prog) w 60 ty 3 i0 (.int .i64 0) 1 8 Tryz.underlying60 hi hz0 hz1 hz2 rfl (by decide) ⟨b, off, none⟩ zs.length c (szVals zs) (by rw [szVals_len]; omega) (fun j u hu => by
          have hj : j < zs.length := by rw [← szVals_len]; exact (List.getElem?_eq_some_iff.1 hu).1
          rw [szVals_at zs j hj] at hu
          have e : (⟨b, off, none⟩ : Addr).add j = ⟨b, off + j, none⟩ := Addr.add_lit b off j
          rw [e, cell_block h3, h5 j hj]
          exact hu) ⟨p, 0, none⟩ 1 1 [.int .i64 (z : Nat)] rfl hnews (by omega) (by unfold maxLen; omega) (by omega)
      | none =>
        have hc0 := h.2.2.1 rfl
        have hz : zs = [] := List.eq_nil_of_length_eq_zero (by have := h.1; omega)
        subst hz hc0
        obtain ⟨v', w', hrun, r1, r2, _⟩ := run_append_own (P := Tryz.prog) w w.heap.size 60 ty 3 i0 (.int .i64 0) 1 8 Tryz.underlying60 hi hz0 hz1 hz2 rfl (by decide) (.slice none 0 0) 0 [] (World.ownsRow_nil w _ 3 1) ⟨p, 0, none⟩ 1 1 [.int .i64 (z : Nat)] rfl hnews (by simp [Value.oneCell']) (by unfold maxLen; omega) (by omega) (Nat.le_refl _)
        exact ⟨v', w', hrun, r1, r2⟩
    obtain ⟨v', w', hrun, hown, hg⟩ := hown
    rcases hown.2 with ⟨rfl, h0⟩ | ⟨g, cap, cur, rfl, hB, hgg, hcap, hm, hsz, htake⟩
    · omega
    · refine ⟨_, _, _, hrun, ⟨by simpa using hcap, hm, fun h => (by cases h), fun a ha => ⟨g, 0, cur, (Option.some.inj ha).symm, by omega, hgg, by omega, fun j hj => ?_⟩⟩, ⟨below_grown hg (by omega) (fun k hk => by cases hk), fun k o hk _ _ => (hg.block k (heapAt_lt hk) (by simp)).trans hk⟩⟩
      have hj' : j < zs.length + 1 := by simpa using hj
      have e1 : szVals zs ++ [.int .i64 (z : Nat)] = szVals (zs ++ [z]) := by simp [szVals]
      rw [e1, Nat.mul_one] at htake
      have h6 := szVals_at (zs ++ [z]) j hj
      rw [← htake, List.getElem?_take, if_pos hj'] at h6
      simpa using h6

/-! ### The ring -/
theorem one_szVals (zs : List Nat) : ∀ u ∈ szVals zs, u.oneCell' = true := fun u hu => by unfold szVals at hu; obtain ⟨z, _, rfl⟩ := List.mem_map.1 hu; rfl
theorem news_at {w : World} {b o : Nat} {vs : List Value} (h : ∀ j u, vs[j]? = some u → w.cell? ⟨b, o + j, none⟩ = some u) : ∀ j u, vs[j]? = some u → w.cell? ((⟨b, o, none⟩ : Addr).add j) = some u := fun j u hu => by rw [Addr.add_lit b o j]; exact h j u hu
def ringC (g cap : Nat) (pol : Int) (head : Nat) (A : Option Addr) (n c used : Nat) (begun : Bool) (lost : Nat) : Array Value :=
  #[.slice (some ⟨g, 0, none⟩) cap cap, .int .i64 pol, .int .i64 head, .slice A n c, .int .i64 used, .bool begun, .int .u64 lost]
theorem ringC3 (g cap : Nat) (pol : Int) (head : Nat) (A : Option Addr) (n c used : Nat) (begun : Bool) (lost : Nat) : (ringC g cap pol head A n c used begun lost)[3]? = some (.slice A n c) := rfl
def roomC (cap : Nat) (R : Nat → UInt8) : Array Value := Array.ofFn (n := cap) fun i => .int .u8 ((R i).toNat : Int)
theorem roomC_size (cap : Nat) (R : Nat → UInt8) : (roomC cap R).size = cap := by simp [roomC]
theorem roomC_at (cap : Nat) (R : Nat → UInt8) (i : Nat) (h : i < cap) : (roomC cap R)[i]? = some (.int .u8 ((R i).toNat : Int)) := by simp [roomC, h]
theorem roomC_set (cap : Nat) (R : Nat → UInt8) (i : Nat) (b : UInt8) : (roomC cap R).setIfInBounds i (.int .u8 (b.toNat : Int)) = roomC cap (upR R i b) := by
  apply Array.ext
  · simp [roomC]
  · intro j h1 h2
    rw [Array.getElem_setIfInBounds (by simpa using h1)]
    by_cases e : i = j
    · subst e; simp [roomC, upR]
    · have : j ≠ i := fun h => e h.symm
      simp [roomC, upR, e, this]
/-- The ring lies at r, its room at g. -/
structure RW (w : World) (base r g cap : Nat) (pol : Int) (head : Nat) (R : Nat → UInt8) (A : Option Addr) (zs : List Nat) (c used : Nat) (begun : Bool) (lost : Nat) : Prop where
  hr : base ≤ r
  hg : base ≤ g
  blk : w.heap[r]? = some (.cells (ringC g cap pol head A zs.length c used begun lost) 62 (0, 0))
  room : w.heap[g]? = some (.cells (roomC cap R) 5 (0, 0))
  sz : SzAt w base A zs c
/-- What the ring's calls may change. -/
def FarR (base r g : Nat) (w w' : World) : Prop := Far (fun k => k = r ∨ k = g) 3 base w w'
section
variable {w w' w1 : World} {base r g cap head c used lost : Nat} {pol : Int} {R : Nat → UInt8} {A : Option Addr} {zs : List Nat} {begun : Bool}
theorem RW.c0 (h : RW w base r g cap pol head R A zs c used begun lost) : w.cell? ⟨r, 0, none⟩ = some (.slice (some ⟨g, 0, none⟩) cap cap) := by rw [cell_block h.blk]; rfl
theorem RW.c1 (h : RW w base r g cap pol head R A zs c used begun lost) : w.cell? ⟨r, 1, none⟩ = some (.int .i64 pol) := by rw [cell_block h.blk]; rfl
theorem RW.c2 (h : RW w base r g cap pol head R A zs c used begun lost) : w.cell? ⟨r, 2, none⟩ = some (.int .i64 head) := by rw [cell_block h.blk]; rfl
theorem RW.c3 (h : RW w base r g cap pol head R A zs c used begun lost) : w.cell? ⟨r, 3, none⟩ = some (.slice A zs.length c) := by rw [cell_block h.blk]; rfl
theorem RW.c4 (h : RW w base r g cap pol head R A zs c used begun lost) : w.cell? ⟨r, 4, none⟩ = some (.int .i64 used) := by rw [cell_block h.blk]; rfl
theorem RW.c5 (h : RW w base r g cap pol head R A zs c used begun lost) : w.cell? ⟨r, 5, none⟩ = some (.bool begun) := by rw [cell_block h.blk]; rfl
theorem RW.c6 (h : RW w base r g cap pol head R A zs c used begun lost) : w.cell? ⟨r, 6, none⟩ = some (.int .u64 lost) := by rw [cell_block h.blk]; rfl
theorem RW.fr (h : RW w base r g cap pol head R A zs c used begun lost) (j : Nat) : w.frozen? ⟨r, j, none⟩ = false := free_block h.blk j
theorem RW.rm (h : RW w base r g cap pol head R A zs c used begun lost) (i : Nat) (hi : i < cap) : w.cell? ⟨g, i, none⟩ = some (.int .u8 ((R i).toNat : Int)) := by rw [cell_block h.room, roomC_at cap R i hi]
theorem RW.frg (h : RW w base r g cap pol head R A zs c used begun lost) (j : Nat) : w.frozen? ⟨g, j, none⟩ = false := free_block h.room j
theorem RW.ne (h : RW w base r g cap pol head R A zs c used begun lost) : r ≠ g := fun e => by
  have h1 := h.blk
  rw [e, h.room] at h1
  have := Option.some.inj h1
  injection this with _ h2
  exact absurd h2 (by decide)
theorem RW.base_le (h : RW w base r g cap pol head R A zs c used begun lost) : base ≤ w.heap.size := by have := h.hr; have := heapAt_lt h.blk; omega
theorem RW.grow (h : RW w base r g cap pol head R A zs c used begun lost) (hg : Grow w w') : RW w' base r g cap pol head R A zs c used begun lost :=
  ⟨h.hr, h.hg, hg.at h.blk, hg.at h.room, h.sz.keep fun k cs hk => hg.at hk⟩
theorem setR {cs : Array Value} (hb : w.heap[r]? = some (.cells cs 62 (0, 0))) (j : Nat) (v : Value) {k : Nat} {o : Obj} (hk : w.heap[k]? = some o) (ho : ∀ cs f, o ≠ .cells cs 62 f) : (w.setCell ⟨r, j, none⟩ v).heap[k]? = some o :=
  (set_block_other (fun e => by subst e; rw [hb] at hk; exact ho _ _ (Option.some.inj hk).symm) j v).trans hk
theorem ne5 (cs cs' : Array Value) (f f' : Nat × Nat) : (Obj.cells cs 5 f) ≠ .cells cs' 62 f' := fun e => by injection e with _ h; exact absurd h (by decide)
theorem ne3 (cs cs' : Array Value) (f f' : Nat × Nat) : (Obj.cells cs 3 f) ≠ .cells cs' 62 f' := fun e => by injection e with _ h; exact absurd h (by decide)
theorem ne35 (cs cs' : Array Value) (f f' : Nat × Nat) : (Obj.cells cs 3 f) ≠ .cells cs' 5 f' := fun e => by injection e with _ h; exact absurd h (by decide)
theorem RW.set2 (h : RW w base r g cap pol head R A zs c used begun lost) (x : Nat) : RW (w.setCell ⟨r, 2, none⟩ (.int .i64 (x : Nat))) base r g cap pol x R A zs c used begun lost :=
  ⟨h.hr, h.hg, (set_block h.blk 2 _).trans rfl, setR h.blk 2 _ h.room (fun _ _ => ne5 _ _ _ _), h.sz.keep fun k cs hk => setR h.blk 2 _ hk (fun _ _ => ne3 _ _ _ _)⟩
theorem RW.set4 (h : RW w base r g cap pol head R A zs c used begun lost) (x : Nat) : RW (w.setCell ⟨r, 4, none⟩ (.int .i64 (x : Nat))) base r g cap pol head R A zs c x begun lost :=
  ⟨h.hr, h.hg, (set_block h.blk 4 _).trans rfl, setR h.blk 4 _ h.room (fun _ _ => ne5 _ _ _ _), h.sz.keep fun k cs hk => setR h.blk 4 _ hk (fun _ _ => ne3 _ _ _ _)⟩
theorem RW.set5 (h : RW w base r g cap pol head R A zs c used begun lost) (x : Bool) : RW (w.setCell ⟨r, 5, none⟩ (.bool x)) base r g cap pol head R A zs c used x lost :=
  ⟨h.hr, h.hg, (set_block h.blk 5 _).trans rfl, setR h.blk 5 _ h.room (fun _ _ => ne5 _ _ _ _), h.sz.keep fun k cs hk => setR h.blk 5 _ hk (fun _ _ => ne3 _ _ _ _)⟩
theorem RW.set6 (h : RW w base r g cap pol head R A zs c used begun lost) (x : Nat) : RW (w.setCell ⟨r, 6, none⟩ (.int .u64 (x : Nat))) base r g cap pol head R A zs c used begun x :=
  ⟨h.hr, h.hg, (set_block h.blk 6 _).trans rfl, setR h.blk 6 _ h.room (fun _ _ => ne5 _ _ _ _), h.sz.keep fun k cs hk => setR h.blk 6 _ hk (fun _ _ => ne3 _ _ _ _)⟩
/-- The sizes are another row. -/
theorem RW.set3 (hr : base ≤ r) (hg : base ≤ g) (hb : w.heap[r]? = some (.cells (ringC g cap pol head A zs.length c used begun lost) 62 (0, 0))) (hm : w.heap[g]? = some (.cells (roomC cap R) 5 (0, 0))) {A' : Option Addr} {zs' : List Nat} {c' : Nat} (hs : SzAt w base A' zs' c') :
    RW (w.setCell ⟨r, 3, none⟩ (.slice A' zs'.length c')) base r g cap pol head R A' zs' c' used begun lost :=
  ⟨hr, hg, (set_block hb 3 _).trans rfl, setR hb 3 _ hm (fun _ _ => ne5 _ _ _ _), hs.keep fun k cs hk => setR hb 3 _ hk (fun _ _ => ne3 _ _ _ _)⟩
theorem RW.setRm (h : RW w base r g cap pol head R A zs c used begun lost) (i : Nat) (b : UInt8) : RW (w.setCell ⟨g, i, none⟩ (.int .u8 (b.toNat : Int))) base r g cap pol head (upR R i b) A zs c used begun lost := by
  refine ⟨h.hr, h.hg, (set_block_other h.ne i _).trans h.blk, by rw [set_block h.room, roomC_set], h.sz.keep fun k cs hk => (set_block_other (fun e => ?_) i _).trans hk⟩
  subst e
  rw [h.room] at hk
  exact ne35 _ _ _ _ (Option.some.inj hk).symm
/-- The row's own cells are others. -/
theorem RW.setSz (h : RW w base r g cap pol head R A zs c used begun lost) {b off : Nat} {zs' : List Nat} (hl : zs'.length = zs.length) (hA : A = some ⟨b, off, none⟩) (j : Nat) (v : Value) (hs : SzAt (w.setCell ⟨b, j, none⟩ v) base A zs' c) : RW (w.setCell ⟨b, j, none⟩ v) base r g cap pol head R A zs' c used begun lost := by
  subst hA
  obtain ⟨_, cs, hb⟩ := h.sz.blk
  refine ⟨h.hr, h.hg, ?_, ?_, hs⟩
  · rw [hl]
    refine (set_block_other (fun e => ?_) j v).trans h.blk
    subst e
    exact absurd (Option.some.inj (hb.symm.trans h.blk)) (ne3 _ _ _ _)
  · refine (set_block_other (fun e => ?_) j v).trans h.room
    subst e
    exact absurd (Option.some.inj (hb.symm.trans h.room)) (ne35 _ _ _ _)
end
end Go.Proofs.YtnhmdinpfcoebaaGreatDoor.Rg
end
