/- The reference's ring in memory; its Used. -/
import Derived.Test.YtdicgpbdfnlniaaRoom
import Derived.Deep.Onto
namespace Go.Proofs.Ytdicgpbdfnlniaa
open Go.RowKit
set_option linter.unusedVariables false
set_option linter.unusedSimpArgs false
set_option maxRecDepth 100000
/-- The texts as cells. -/
def texts (L : List (List UInt8)) : List Value := L.map fun f => .string ⟨f.toArray⟩
theorem texts_len (L : List (List UInt8)) : (texts L).length = L.length := by simp [texts]
theorem texts_at (L : List (List UInt8)) (j : Nat) (h : j < L.length) : (texts L)[j]? = some (.string ⟨(L.getD j []).toArray⟩) := by simp [texts, h]
theorem texts_one (L : List (List UInt8)) : ∀ u ∈ texts L, u.oneCell' = true := fun u hu => by unfold texts at hu; obtain ⟨z, _, rfl⟩ := List.mem_map.1 hu; rfl
def refC (cap : Nat) (pol : Int) (v : Value) (begun : Bool) (lost : Nat) (v2 : Value) : Array Value := #[.int .i64 cap, .int .i64 pol, v, .bool begun, .int .u64 lost, v2]
/-- The reference's ring lies at m: it holds these frames. -/
structure MW (w : World) (base m cap : Nat) (pol : Int) (v : Value) (v2 : Value) (L G : List (List UInt8)) (begun : Bool) (lost : Nat) : Prop where
  hm : base ≤ m
  blk : w.heap[m]? = some (.cells (refC cap pol v begun lost v2) 33 (0, 0))
  row : w.ownsRow base 9 1 v L.length (texts L)
  gon : w.ownsRow base 9 1 v2 G.length (texts G)
  ap : ∀ g, v.ownBlock = some g → v2.ownBlock ≠ some g
def FarM (base m : Nat) (w w' : World) : Prop := Far (fun k => k = m) 9 base w w'
theorem own_kind {w : World} {B n g : Nat} {v : Value} {xs : List Value} (h : w.ownsRow B 9 1 v n xs) (hg : v.ownBlock = some g) : ∃ cs f, w.heap[g]? = some (.cells cs 9 f) := by
  rcases h.2 with ⟨rfl, _⟩ | ⟨g', cap, cur, rfl, _, hgg, _⟩
  · simp [Value.ownBlock] at hg
  · simp [Value.ownBlock] at hg
    subst hg
    exact ⟨_, _, hgg⟩
theorem own_grow {w w' : World} {B n : Nat} {v : Value} {xs : List Value} (h : w.ownsRow B 9 1 v n xs) (hg : Grow w w') : w'.ownsRow B 9 1 v n xs := by
  refine ⟨h.1, ?_⟩
  rcases h.2 with h1 | ⟨g, cap, cur, h1, hB, hg', hr⟩
  · exact .inl h1
  · exact .inr ⟨g, cap, cur, h1, hB, hg.at hg', hr⟩
theorem own_mono {w : World} {B B' n : Nat} {v : Value} {xs : List Value} (h : w.ownsRow B' 9 1 v n xs) (hB : B ≤ B') : w.ownsRow B 9 1 v n xs := by
  refine ⟨h.1, ?_⟩
  rcases h.2 with h1 | ⟨g, cap, cur, h1, h2, r⟩
  · exact .inl h1
  · exact .inr ⟨g, cap, cur, h1, Nat.le_trans hB h2, r⟩
/-- A row of texts, read. -/
theorem own_texts {w : World} {B : Nat} {v : Value} {L : List (List UInt8)} (h : w.ownsRow B 9 1 v L.length (texts L)) : ∃ A c, v = .slice A L.length c ∧ L.length ≤ c ∧ (0 < L.length → ∃ g, A = some ⟨g, 0, none⟩ ∧ (∀ j, j < L.length → w.cell? ⟨g, j, none⟩ = some (.string ⟨(L.getD j []).toArray⟩)) ∧ ∀ j, w.frozen? ⟨g, j, none⟩ = false) := by
  rcases h.2 with ⟨rfl, h0⟩ | ⟨g, cap, cur, rfl, hB, hg, hcap, _, _, htake⟩
  · exact ⟨none, 0, by rw [h0], by omega, fun h => by omega⟩
  · refine ⟨_, cap, rfl, hcap, fun hn => ⟨g, rfl, fun j hj => ?_, fun j => free_block hg j⟩⟩
    have := h.cells (g := g) rfl j _ (texts_at L j hj)
    rwa [Addr.add_lit, Nat.zero_add] at this
section
variable {w w' : World} {base m cap lost : Nat} {pol : Int} {v v2 : Value} {L G : List (List UInt8)} {begun : Bool}
theorem MW.c0 (h : MW w base m cap pol v v2 L G begun lost) : w.cell? ⟨m, 0, none⟩ = some (.int .i64 cap) := by rw [cell_block h.blk]; rfl
theorem MW.c1 (h : MW w base m cap pol v v2 L G begun lost) : w.cell? ⟨m, 1, none⟩ = some (.int .i64 pol) := by rw [cell_block h.blk]; rfl
theorem MW.c2 (h : MW w base m cap pol v v2 L G begun lost) : w.cell? ⟨m, 2, none⟩ = some v := by rw [cell_block h.blk]; rfl
theorem MW.c3 (h : MW w base m cap pol v v2 L G begun lost) : w.cell? ⟨m, 3, none⟩ = some (.bool begun) := by rw [cell_block h.blk]; rfl
theorem MW.c4 (h : MW w base m cap pol v v2 L G begun lost) : w.cell? ⟨m, 4, none⟩ = some (.int .u64 lost) := by rw [cell_block h.blk]; rfl
theorem MW.c5 (h : MW w base m cap pol v v2 L G begun lost) : w.cell? ⟨m, 5, none⟩ = some v2 := by rw [cell_block h.blk]; rfl
theorem MW.fr (h : MW w base m cap pol v v2 L G begun lost) (j : Nat) : w.frozen? ⟨m, j, none⟩ = false := free_block h.blk j
theorem MW.base_le (h : MW w base m cap pol v v2 L G begun lost) : base ≤ w.heap.size := by have := h.hm; have := heapAt_lt h.blk; omega
theorem MW.grow (h : MW w base m cap pol v v2 L G begun lost) (hg : Grow w w') : MW w' base m cap pol v v2 L G begun lost := ⟨h.hm, hg.at h.blk, own_grow h.row hg, own_grow h.gon hg, h.ap⟩
/-- A row of texts owns another block than m. -/
theorem own_ne {cs : Array Value} (hb : w.heap[m]? = some (.cells cs 33 (0, 0))) {B n : Nat} {v : Value} {xs : List Value} (h : w.ownsRow B 9 1 v n xs) : v.ownBlock ≠ some m := fun e => by
  obtain ⟨cs', f, hk⟩ := own_kind h e
  rw [hb] at hk
  have := Option.some.inj hk
  injection this with _ h2
  exact absurd h2 (by decide)
theorem MW.set3 (h : MW w base m cap pol v v2 L G begun lost) (b : Bool) : MW (w.setCell ⟨m, 3, none⟩ (.bool b)) base m cap pol v v2 L G b lost :=
  ⟨h.hm, (set_block h.blk 3 _).trans rfl, ownsRow_setCell_other h.row (own_ne h.blk h.row) _, ownsRow_setCell_other h.gon (own_ne h.blk h.gon) _, h.ap⟩
theorem MW.set4 (h : MW w base m cap pol v v2 L G begun lost) (x : Nat) : MW (w.setCell ⟨m, 4, none⟩ (.int .u64 (x : Nat))) base m cap pol v v2 L G begun x :=
  ⟨h.hm, (set_block h.blk 4 _).trans rfl, ownsRow_setCell_other h.row (own_ne h.blk h.row) _, ownsRow_setCell_other h.gon (own_ne h.blk h.gon) _, h.ap⟩
/-- Another row of frames. -/
theorem MW.set2 (h : MW w base m cap pol v v2 L G begun lost) {v' : Value} {L' : List (List UInt8)} (hv : w.ownsRow base 9 1 v' L'.length (texts L')) (hap : ∀ g, v'.ownBlock = some g → v2.ownBlock ≠ some g) : MW (w.setCell ⟨m, 2, none⟩ v') base m cap pol v' v2 L' G begun lost :=
  ⟨h.hm, (set_block h.blk 2 _).trans rfl, ownsRow_setCell_other hv (own_ne h.blk hv) _, ownsRow_setCell_other h.gon (own_ne h.blk h.gon) _, hap⟩
/-- Without one of the rows: the other is grown. -/
theorem MW.push2 (h : MW w base m cap pol v v2 L G begun lost) {v' : Value} {w1 : World} (f : List UInt8) (hown : w1.ownsRow base 9 1 v' (L.length + 1) (texts L ++ [.string ⟨f.toArray⟩])) (hg : w.grownBy w1 v.ownBlock) (hb : v'.ownBlock = v.ownBlock ∨ v'.ownBlock = some w.heap.size) :
    MW (w1.setCell ⟨m, 2, none⟩ v') base m cap pol v' v2 (L ++ [f]) G begun lost ∧ FarM base m w (w1.setCell ⟨m, 2, none⟩ v') := by
  have hb1 : w1.heap[m]? = some (.cells (refC cap pol v begun lost v2) 33 (0, 0)) := by
    rw [hg.block m (heapAt_lt h.blk) (fun e => own_ne h.blk h.row e.symm)]; exact h.blk
  have hown' : w1.ownsRow base 9 1 v' (L ++ [f]).length (texts (L ++ [f])) := by
    have e1 : texts (L ++ [f]) = texts L ++ [.string ⟨f.toArray⟩] := by simp [texts]
    rw [e1, List.length_append]; exact hown
  have hgon : w1.ownsRow base 9 1 v2 G.length (texts G) := h.gon.kept hg (by
    cases e : v2.ownBlock with
    | none => exact .inl rfl
    | some g => exact .inr fun e2 => h.ap g e2.symm e)
  refine ⟨⟨h.hm, (set_block hb1 2 _).trans rfl, ownsRow_setCell_other hown' (own_ne hb1 hown') _, ownsRow_setCell_other hgon (own_ne hb1 hgon) _, fun g hg1 hg2 => ?_⟩, Far.set (Pb := fun k => k = m) ⟨below_grown hg h.base_le (fun k hk => (h.row.lt k hk).1), fun k o hk hn ho => ?_⟩ rfl h.hm 2 v'⟩
  · rcases hb with e | e
    · exact h.ap g (e ▸ hg1) hg2
    · rw [e] at hg1
      injection hg1 with hg1
      have := (h.gon.lt g hg2).2
      omega
  · rw [hg.block k (heapAt_lt hk) (fun e => ?_)]
    · exact hk
    · obtain ⟨cs, f', hkk⟩ := own_kind h.row e.symm
      rw [hk] at hkk
      exact ho cs f' (Option.some.inj hkk)
theorem MW.push5 (h : MW w base m cap pol v v2 L G begun lost) {v' : Value} {w1 : World} (f : List UInt8) (hown : w1.ownsRow base 9 1 v' (G.length + 1) (texts G ++ [.string ⟨f.toArray⟩])) (hg : w.grownBy w1 v2.ownBlock) (hb : v'.ownBlock = v2.ownBlock ∨ v'.ownBlock = some w.heap.size) :
    MW (w1.setCell ⟨m, 5, none⟩ v') base m cap pol v v' L (G ++ [f]) begun lost ∧ FarM base m w (w1.setCell ⟨m, 5, none⟩ v') := by
  have hb1 : w1.heap[m]? = some (.cells (refC cap pol v begun lost v2) 33 (0, 0)) := by
    rw [hg.block m (heapAt_lt h.blk) (fun e => own_ne h.blk h.gon e.symm)]; exact h.blk
  have hown' : w1.ownsRow base 9 1 v' (G ++ [f]).length (texts (G ++ [f])) := by
    have e1 : texts (G ++ [f]) = texts G ++ [.string ⟨f.toArray⟩] := by simp [texts]
    rw [e1, List.length_append]; exact hown
  have hrow : w1.ownsRow base 9 1 v L.length (texts L) := h.row.kept hg (by
    cases e : v.ownBlock with
    | none => exact .inl rfl
    | some g => exact .inr fun e2 => h.ap g e e2.symm)
  refine ⟨⟨h.hm, (set_block hb1 5 _).trans rfl, ownsRow_setCell_other hrow (own_ne hb1 hrow) _, ownsRow_setCell_other hown' (own_ne hb1 hown') _, fun g hg1 hg2 => ?_⟩, Far.set (Pb := fun k => k = m) ⟨below_grown hg h.base_le (fun k hk => (h.gon.lt k hk).1), fun k o hk hn ho => ?_⟩ rfl h.hm 5 v'⟩
  · rcases hb with e | e
    · exact h.ap g hg1 (e ▸ hg2)
    · rw [e] at hg2
      injection hg2 with hg2
      have := (h.row.lt g hg1).2
      omega
  · rw [hg.block k (heapAt_lt hk) (fun e => ?_)]
    · exact hk
    · obtain ⟨cs, f', hkk⟩ := own_kind h.gon e.symm
      rw [hk] at hkk
      exact ho cs f' (Option.some.inj hkk)
def sumF (L : List (List UInt8)) (k : Nat) : Nat := ((L.take k).map List.length).sum
theorem sumF_zero (L : List (List UInt8)) : sumF L 0 = 0 := by unfold sumF; rfl
theorem sumF_succ (L : List (List UInt8)) (k : Nat) (h : k < L.length) : sumF L (k + 1) = sumF L k + (L.getD k []).length := by
  unfold sumF
  rw [← List.take_append_getElem h, List.map_append, List.sum_append]
  simp [List.getD_eq_getElem?_getD, h]
theorem sumF_all (L : List (List UInt8)) : sumF L L.length = L.flatten.length := by unfold sumF; rw [List.take_length, List.length_flatten]
theorem sumF_le (L : List (List UInt8)) (k : Nat) : sumF L k ≤ L.flatten.length := by
  unfold sumF
  rw [← List.length_flatten]
  have : L.flatten = (L.take k).flatten ++ (L.drop k).flatten := by rw [← List.flatten_append, List.take_append_drop]
  rw [this, List.length_append]; omega
attribute [local irreducible] refC texts sumF
theorem refUsed_any (h : MW w base m cap pol v v2 L G begun lost) (x : Nat) (hx : L.flatten.length = x) (hx2 : x ≤ 10000000) (hL : L.length ≤ 10000000) : Calls Try.prog 24 #[.pointer (some ⟨m, 0, none⟩)] w fun e w' => e = .returned (.int .i64 x) ∧ w' = w := by
  obtain ⟨A, c, hv, hc, hT⟩ := own_texts h.row
  have c2 := h.c2
  rw [hv] at c2
  have HT := Lib.hid hT
  clear h hT hv
  have HX := Lib.hid hx; clear hx
  have HZ := Lib.hid (sumF_zero L)
  go_enter Try.func24, Try.ntmps24
  go_wp2_with fail
  go_loopw [3, 4] (fun s i wr => ∃ k : Nat, k ≤ L.length ∧ i = .int .i64 k ∧ s = .int .i64 (sumF L k) ∧ wr = w) (fun _ i _ => L.length - (intOf i).toNat)
  case atStart => exact ⟨0, by omega, rfl, by rw [HZ.out]; rfl, rfl⟩
  case round =>
    obtain ⟨k, hk, rfl, rfl, rfl⟩ := hrel
    by_cases hlt : k < L.length
    · obtain ⟨g, rfl, hcc, _⟩ := HT.out (by omega)
      have z1 := hcc k hlt
      have hs := sumF_succ L k hlt
      have hle := sumF_le L (k + 1)
      have hxx := HX.out
      generalize L.getD k [] = f at *
      obtain ⟨s2, hs2⟩ : ∃ q, q = sumF L (k + 1) := ⟨_, rfl⟩
      rw [← hs2] at hs hle
      generalize sumF L k = s1 at *
      have k0 : (0 : Int) ≤ (k : Int) := by omega
      have kn : (k : Int) < (L.length : Int) := by omega
      have e1 : IntKind.i64.wrap ((s1 : Int) + (f.length : Int)) = (s2 : Int) := by rw [IntKind.wrap_i64]; omega
      have HS2 := Lib.hid hs2
      clear hs hle hxx hs2 hcc
      go_wp2_with fail
      go_roundw
      case rel => exact ⟨k + 1, by omega, by go_num, by rw [HS2.out], trivial⟩
      case measure => simp [intOf]; omega
    · have kn : ¬ (k : Int) < (L.length : Int) := by omega
      have hkn : k = L.length := by omega
      subst hkn
      go_wp2
      go_ret
      exact ⟨by rw [← HX.out, ← sumF_all L]; rfl, rfl⟩
end
end Go.Proofs.Ytdicgpbdfnlniaa
