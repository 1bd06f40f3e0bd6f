/- The reference of layer 20: its words, its lines as they lie in memory, and the walks of its functions. -/
import Derived.Test.YtglnabgageeipaaDoorOne
namespace Go.Proofs.YtglnabgageeipaaDoor
open Go.RowKit
attribute [local irreducible] up ctz

/-- Sixteen bits, as an array's cells. -/
def bitsArr (X : BitVec 32) : Array Value := #[.bool (X.getLsbD 0), .bool (X.getLsbD 1), .bool (X.getLsbD 2), .bool (X.getLsbD 3), .bool (X.getLsbD 4), .bool (X.getLsbD 5), .bool (X.getLsbD 6), .bool (X.getLsbD 7), .bool (X.getLsbD 8), .bool (X.getLsbD 9), .bool (X.getLsbD 10), .bool (X.getLsbD 11), .bool (X.getLsbD 12), .bool (X.getLsbD 13), .bool (X.getLsbD 14), .bool (X.getLsbD 15)]
theorem bitsArr_at (X : BitVec 32) (i : Nat) (h : i < 16) : (bitsArr X)[i]? = some (.bool (X.getLsbD i)) := by
  match i, h with
  | 0, _ => rfl
  | 1, _ => rfl
  | 2, _ => rfl
  | 3, _ => rfl
  | 4, _ => rfl
  | 5, _ => rfl
  | 6, _ => rfl
  | 7, _ => rfl
  | 8, _ => rfl
  | 9, _ => rfl
  | 10, _ => rfl
  | 11, _ => rfl
  | 12, _ => rfl
  | 13, _ => rfl
  | 14, _ => rfl
  | 15, _ => rfl
  | n + 16, h => omega
theorem bitsArr_size (X : BitVec 32) : (bitsArr X).size = 16 := rfl
theorem bitsArr_ext {X Y : BitVec 32} (h : ∀ i, i < 16 → X.getLsbD i = Y.getLsbD i) : bitsArr X = bitsArr Y := by
  apply Array.ext_getElem?
  intro i
  by_cases hi : i < 16
  · rw [bitsArr_at X i hi, bitsArr_at Y i hi, h i hi]
  · rw [Array.getElem?_eq_none (by rw [bitsArr_size]; omega), Array.getElem?_eq_none (by rw [bitsArr_size]; omega)]
theorem bitsArr_set (X Y : BitVec 32) (i : Nat) (b : Bool) (hi : i < 16) (h : ∀ j, j < 16 → Y.getLsbD j = if j = i then b else X.getLsbD j) : (bitsArr X).setIfInBounds i (.bool b) = bitsArr Y := by
  apply Array.ext_getElem?
  intro j
  rw [Array.getElem?_setIfInBounds]
  by_cases hj : j < 16
  · rw [bitsArr_at Y j hj, h j hj, bitsArr_size]
    by_cases e : i = j
    · subst e; simp [hi]
    · rw [if_neg e, bitsArr_at X j hj, if_neg (by omega)]
  · rw [Array.getElem?_eq_none (by rw [bitsArr_size]; omega)]
    rw [if_neg (by omega), Array.getElem?_eq_none (by rw [bitsArr_size]; omega)]
/-- The reference's lines, cell by cell. -/
def refCells (c : Nat) (P M : BitVec 32) (act : Int) : Array Value := #[.int .i64 c] ++ (bitsArr P ++ (bitsArr M ++ #[.int .i64 act]))
theorem refCells_eq (c : Nat) (P M : BitVec 32) (act : Int) : refCells c P M act = #[.int .i64 c] ++ (bitsArr P ++ (bitsArr M ++ #[.int .i64 act])) := rfl
theorem refCells_size (c : Nat) (P M : BitVec 32) (act : Int) : (refCells c P M act).size = 34 := by simp [refCells_eq, bitsArr_size]
theorem refCells_0 (c : Nat) (P M : BitVec 32) (act : Int) : (refCells c P M act)[0]? = some (.int .i64 c) := by
  rw [refCells_eq, Array.getElem?_append_left (by simp)]; rfl
theorem refCells_33 (c : Nat) (P M : BitVec 32) (act : Int) : (refCells c P M act)[33]? = some (.int .i64 act) := by
  rw [refCells_eq, Array.getElem?_append_right (by simp), Array.getElem?_append_right (by simp [bitsArr_size]), Array.getElem?_append_right (by simp [bitsArr_size])]
  have : 33 - (#[Value.int .i64 (c : Int)] : Array Value).size - (bitsArr P).size - (bitsArr M).size = 0 := by simp only [List.size_toArray, List.length_singleton, bitsArr_size]
  rw [this]; rfl
theorem refCells_P (c : Nat) (P M : BitVec 32) (act : Int) (i : Nat) (h : i < 16) : (refCells c P M act)[1 + i]? = some (.bool (P.getLsbD i)) := by
  rw [refCells_eq, Array.getElem?_append_right (by simp), Array.getElem?_append_left (by simp only [List.size_toArray, List.length_singleton, bitsArr_size]; omega)]
  have : 1 + i - (#[Value.int .i64 (c : Int)] : Array Value).size = i := by simp
  rw [this, bitsArr_at P i h]
theorem refCells_M (c : Nat) (P M : BitVec 32) (act : Int) (i : Nat) (h : i < 16) : (refCells c P M act)[17 + i]? = some (.bool (M.getLsbD i)) := by
  rw [refCells_eq, Array.getElem?_append_right (by simp only [List.size_toArray, List.length_singleton]; omega), Array.getElem?_append_right (by simp only [List.size_toArray, List.length_singleton, bitsArr_size]; omega), Array.getElem?_append_left (by simp only [List.size_toArray, List.length_singleton, bitsArr_size]; omega)]
  have : 17 + i - (#[Value.int .i64 (c : Int)] : Array Value).size - (bitsArr P).size = i := by simp only [List.size_toArray, List.length_singleton, bitsArr_size]; omega
  rw [this, bitsArr_at M i h]
theorem refCells_setP (c : Nat) (P P' M : BitVec 32) (act : Int) (i : Nat) (b : Bool) (hi : i < 16) (h : ∀ j, j < 16 → P'.getLsbD j = if j = i then b else P.getLsbD j) :
    (refCells c P M act).setIfInBounds (1 + i) (.bool b) = refCells c P' M act := by
  rw [refCells_eq, refCells_eq, Array.setIfInBounds_append_right (by simp), Array.setIfInBounds_append_left (by simp only [List.size_toArray, List.length_singleton, bitsArr_size]; omega)]
  have : 1 + i - (#[Value.int .i64 (c : Int)] : Array Value).size = i := by simp
  rw [this, bitsArr_set P P' i b hi h]
theorem refCells_setM (c : Nat) (P M M' : BitVec 32) (act : Int) (i : Nat) (b : Bool) (hi : i < 16) (h : ∀ j, j < 16 → M'.getLsbD j = if j = i then b else M.getLsbD j) :
    (refCells c P M act).setIfInBounds (17 + i) (.bool b) = refCells c P M' act := by
  rw [refCells_eq, refCells_eq, Array.setIfInBounds_append_right (by simp only [List.size_toArray, List.length_singleton]; omega), Array.setIfInBounds_append_right (by simp only [List.size_toArray, List.length_singleton, bitsArr_size]; omega), Array.setIfInBounds_append_left (by simp only [List.size_toArray, List.length_singleton, bitsArr_size]; omega)]
  have : 17 + i - (#[Value.int .i64 (c : Int)] : Array Value).size - (bitsArr P).size = i := by simp only [List.size_toArray, List.length_singleton, bitsArr_size]; omega
  rw [this, bitsArr_set M M' i b hi h]
theorem refCells_act (c : Nat) (P M : BitVec 32) (act act' : Int) : (refCells c P M act).setIfInBounds 33 (.int .i64 act') = refCells c P M act' := by
  rw [refCells_eq, refCells_eq, Array.setIfInBounds_append_right (by simp), Array.setIfInBounds_append_right (by simp [bitsArr_size]), Array.setIfInBounds_append_right (by simp [bitsArr_size])]
  congr 1
def ArrAt (w : World) (b : Nat) (X : BitVec 32) : Prop := w.heap[b]? = some (.cells (bitsArr X) 43 (0, 0))
def RefAt (w : World) (g c : Nat) (P M : BitVec 32) (act : Int) : Prop := w.heap[g]? = some (.cells (refCells c P M act) 45 (0, 0))
theorem ArrAt.cell {w : World} {b : Nat} {X : BitVec 32} (h : ArrAt w b X) (i : Nat) (hi : i < 16) : w.cell? ⟨b, i, none⟩ = some (.bool (X.getLsbD i)) := by
  rw [cell_block h, bitsArr_at X i hi]
theorem ArrAt.free {w : World} {b : Nat} {X : BitVec 32} (h : ArrAt w b X) (i : Nat) : w.frozen? ⟨b, i, none⟩ = false := free_block h i
theorem ArrAt.set {w : World} {b : Nat} {X : BitVec 32} (h : ArrAt w b X) (Y : BitVec 32) (i : Nat) (v : Bool) (hi : i < 16) (hY : ∀ j, j < 16 → Y.getLsbD j = if j = i then v else X.getLsbD j) : ArrAt (w.setCell ⟨b, i, none⟩ (.bool v)) b Y := by
  unfold ArrAt; rw [set_block h, bitsArr_set X Y i v hi hY]
theorem ArrAt.far {w : World} {b d : Nat} {X : BitVec 32} (h : ArrAt w b X) (hne : b ≠ d) (i : Nat) (v : Value) : ArrAt (w.setCell ⟨d, i, none⟩ v) b X := (set_block_other hne i v).trans h
section
variable {w : World} {g c : Nat} {P M : BitVec 32} {act : Int}
theorem RefAt.count (h : RefAt w g c P M act) : w.cell? ⟨g, 0, none⟩ = some (.int .i64 c) := by rw [cell_block h, refCells_0]
theorem RefAt.act_ (h : RefAt w g c P M act) : w.cell? ⟨g, 33, none⟩ = some (.int .i64 act) := by rw [cell_block h, refCells_33]
theorem RefAt.wait (h : RefAt w g c P M act) (i : Nat) (hi : i < 16) : w.cell? ⟨g, 1 + i, none⟩ = some (.bool (P.getLsbD i)) := by rw [cell_block h, refCells_P c P M act i hi]
theorem RefAt.let_ (h : RefAt w g c P M act) (i : Nat) (hi : i < 16) : w.cell? ⟨g, 17 + i, none⟩ = some (.bool (M.getLsbD i)) := by rw [cell_block h, refCells_M c P M act i hi]
theorem RefAt.free (h : RefAt w g c P M act) (i : Nat) : w.frozen? ⟨g, i, none⟩ = false := free_block h i
theorem RefAt.setP (h : RefAt w g c P M act) (P' : BitVec 32) (i : Nat) (v : Bool) (hi : i < 16) (hP : ∀ j, j < 16 → P'.getLsbD j = if j = i then v else P.getLsbD j) : RefAt (w.setCell ⟨g, 1 + i, none⟩ (.bool v)) g c P' M act := by
  unfold RefAt; rw [set_block h, refCells_setP c P P' M act i v hi hP]
theorem RefAt.setM (h : RefAt w g c P M act) (M' : BitVec 32) (i : Nat) (v : Bool) (hi : i < 16) (hM : ∀ j, j < 16 → M'.getLsbD j = if j = i then v else M.getLsbD j) : RefAt (w.setCell ⟨g, 17 + i, none⟩ (.bool v)) g c P M' act := by
  unfold RefAt; rw [set_block h, refCells_setM c P M M' act i v hi hM]
theorem RefAt.setA (h : RefAt w g c P M act) (a : Int) : RefAt (w.setCell ⟨g, 33, none⟩ (.int .i64 a)) g c P M a := by
  unfold RefAt; rw [set_block h, refCells_act]
theorem RefAt.far {d : Nat} (h : RefAt w g c P M act) (hne : g ≠ d) (i : Nat) (v : Value) : RefAt (w.setCell ⟨d, i, none⟩ v) g c P M act := (set_block_other hne i v).trans h
end
theorem div_step (x j : Nat) : x / 2 ^ j = 2 * (x / 2 ^ (j + 1)) + if (x / 2 ^ j) % 2 = 1 then 1 else 0 := by
  rw [Nat.pow_succ, ← Nat.div_div_eq_div_mul]
  split <;> omega
theorem bit_div (X : BitVec 32) (j : Nat) : X.getLsbD j = decide (X.toNat / 2 ^ j % 2 = 1) := by
  rw [← BitVec.testBit_toNat, Nat.testBit_eq_decide_div_mod_eq]
attribute [local irreducible] bitsArr refCells

set_option maxRecDepth 100000 in
theorem word_any (w : World) (X : BitVec 32) (hX : X.toNat < 65536) : Calls Tryd.prog 24 #[.agg (bitsArr X)] w fun e w' => e = .returned (.int .u32 X.toNat) ∧ Grow w w' := by
  go_enter Tryd.func24, Tryd.ntmps24
  go_wp2_with fail
  have hA : ArrAt (w.alloc (.cells (bitsArr X) 43)) w.heap.size X := heapAt_alloc_new w _
  have hG : Grow w (w.alloc (.cells (bitsArr X) 43)) := Grow.alloc w _
  generalize w.alloc (.cells (bitsArr X) 43) = w1 at hA hG ⊢
  generalize w.heap.size = b at hA ⊢
  go_loopw [4, 3] (fun i x wr => wr = w1 ∧ ((∃ j : Nat, j < 16 ∧ i = .int .i64 j ∧ x = .int .u32 ((X.toNat / 2 ^ (j + 1) : Nat) : Int)) ∨ (i = .int .i64 (-1) ∧ x = .int .u32 X.toNat))) (fun i _ _ => (intOf i + 1).toNat)
  case atStart => exact ⟨rfl, .inl ⟨15, by omega, rfl, by rw [Nat.div_eq_of_lt (by omega)]; rfl⟩⟩
  case round =>
    obtain ⟨rfl, ⟨j, hj, rfl, rfl⟩ | ⟨rfl, rfl⟩⟩ := hrel
    · have hc := hA.cell j hj
      have HS := Lib.hid (div_step X.toNat j)
      have hle : X.toNat / 2 ^ (j + 1) ≤ X.toNat := Nat.div_le_self _ _
      have hlt : ((X.toNat / 2 ^ (j + 1) : Nat) : Int) < 65536 := by omega
      have HB := Lib.hid (bit_div X j)
      generalize X.toNat / 2 ^ (j + 1) = q at *
      clear hle
      have hj2 : (j : Int) < 16 := by omega
      by_cases hb : X.getLsbD j = true
      · rw [hb] at hc
        have HE : Hid (X.toNat / 2 ^ j = 2 * q + 1) := Lib.hid (by rw [HS.out, if_pos (by have := HB.out; rw [hb] at this; simpa using this.symm)])
        clear hb HS HB
        go_wp2
        go_roundw
        case rel =>
          refine ⟨trivial, ?_⟩
          cases j with
          | zero => exact .inr ⟨by go_num, by have := HE.out; simp at this; rw [this]; go_num⟩
          | succ j => exact .inl ⟨j, by omega, by go_num, by rw [HE.out]; go_num⟩
        case measure => simp [intOf]
      · have hbf : X.getLsbD j = false := by simpa using hb
        rw [hbf] at hc
        have HE : Hid (X.toNat / 2 ^ j = 2 * q) := Lib.hid (by rw [HS.out, if_neg (by have := HB.out; rw [hbf] at this; simpa using this.symm)]; rfl)
        clear hb hbf HS HB
        go_wp2
        go_roundw
        case rel =>
          refine ⟨trivial, ?_⟩
          cases j with
          | zero => exact .inr ⟨by go_num, by have := HE.out; simp at this; rw [this]; go_num⟩
          | succ j => exact .inl ⟨j, by omega, by go_num, by rw [HE.out]; go_num⟩
        case measure => simp [intOf]
    · go_wp2
      go_ret
      exact ⟨rfl, hG⟩
/-- The reference's Mask: a word's bits, as far as there are lines. -/
theorem and_all (X A : BitVec 32) (c j : Nat) (hc : c ≤ 16) (hA : A = BitVec.ofNat 32 (2 ^ c - 1)) : (X &&& A).getLsbD j = (decide (j < c) && X.getLsbD j) := by
  rw [BitVec.getLsbD_and, hA, all_bit c j hc, Bool.and_comm]

theorem low_and (X : BitVec 32) (k j : Nat) (hk : k ≤ 16) : (X &&& BitVec.ofNat 32 (2 ^ k - 1)).getLsbD j = (decide (j < k) && X.getLsbD j) := and_all X _ k j hk rfl
/-- Below k the one word, from there on the other. -/
def mixed (X Y : BitVec 32) (k : Nat) : BitVec 32 := (X &&& BitVec.ofNat 32 (2 ^ k - 1)) ||| (Y &&& ~~~(BitVec.ofNat 32 (2 ^ k - 1)))
theorem mixed_bit (X Y : BitVec 32) (k j : Nat) (hk : k ≤ 16) (hj : j < 32) : (mixed X Y k).getLsbD j = if j < k then X.getLsbD j else Y.getLsbD j := by
  unfold mixed
  rw [BitVec.getLsbD_or, low_and X k j hk, BitVec.getLsbD_and, BitVec.getLsbD_not, all_bit k j hk]
  by_cases h : j < k <;> simp [h, hj]
theorem mixed_step (X Y : BitVec 32) (k : Nat) (hk : k < 16) : ∀ j, j < 16 → (mixed X Y (k + 1)).getLsbD j = if j = k then X.getLsbD k else (mixed X Y k).getLsbD j := fun j hj => by
  rw [mixed_bit X Y (k + 1) j (by omega) (by omega), mixed_bit X Y k j (by omega) (by omega)]
  by_cases h : j = k
  · subst h; rw [if_pos (by omega), if_pos rfl]
  · rw [if_neg h]
    by_cases h2 : j < k
    · rw [if_pos (by omega), if_pos h2]
    · rw [if_neg (by omega), if_neg h2]
attribute [local irreducible] mixed

set_option maxRecDepth 100000 in
theorem mask_ref (w : World) (g c : Nat) (P M X : BitVec 32) (act : Int) (hc : c ≤ 16) (h : RefAt w g c P M act) : Calls Tryd.prog 18 #[.pointer (some ⟨g, 0, none⟩), .int .u32 X.toNat] w fun e w' => e = .returned (.tuple #[]) ∧ RefAt w' g c P (mixed X M c) act ∧ Only g w w' := by
  have H := Lib.hid h; clear h
  have hci : (c : Int) ≤ 16 := by omega
  go_enter Tryd.func18, Tryd.ntmps18
  go_wp2_with fail
  go_loopw [4] (fun i wr => ∃ k : Nat, k ≤ c ∧ i = .int .i64 k ∧ RefAt wr g c P (mixed X M k) act ∧ Only g w wr) (fun i _ => c - (intOf i).toNat)
  case atStart => 
    refine ⟨0, by omega, rfl, ?_, Only.refl _ _⟩
    have : mixed X M 0 = M := by
      apply BitVec.eq_of_getLsbD_eq; intro j hj
      rw [mixed_bit X M 0 j (by omega) hj]; simp
    rw [this]; exact H.out
  case round =>
    obtain ⟨k, hk, rfl, h, hO⟩ := hrel
    have HR := Lib.hid h; clear h
    have HO := Lib.hid hO; clear hO
    have c0 := HR.out.count
    by_cases hlt : k < c
    · have hlti : (k : Int) < 16 := by omega
      have cM := HR.out.let_ k (by omega)
      have fM := HR.out.free (17 + k)
      go_wp2_with fail
      go_still_tail 8, (by kernel_rfl)
      still_call (bit_any _ X k (by omega) (X.getLsbD k) rfl)
      repeat still_step
      refine wpStill_nil ?_
      change wpList _ _ _ _ _ wr.drew
      have hR : RefAt wr.drew g c P (mixed X M k) act := HR.out
      have hO : Only g w wr.drew := HO.out.drew
      generalize wr.drew = w1 at hR hO ⊢
      clear c0 cM fM
      have cM := hR.let_ k (by omega)
      have fM := hR.free (17 + k)
      have HR1 := Lib.hid (hR.setM (mixed X M (k + 1)) k (X.getLsbD k) (by omega) (mixed_step X M k (by omega)))
      have HO1 := Lib.hid (hO.setCell (17 + k) (.bool (X.getLsbD k)))
      clear hR hO
      go_wp2_with fail
      go_roundw
      case rel => exact ⟨k + 1, by omega, by go_num, HR1.out, HO1.out⟩
      case measure => simp [intOf]; omega
    · go_wp2
      go_end0
      obtain rfl : k = c := by omega
      exact ⟨rfl, HR.out, HO.out⟩

theorem enter_ref_no (w : World) (g c : Nat) (P M : BitVec 32) (act : Int) (hno : (act != 255) = true) (h : RefAt w g c P M act) :
    Calls Tryd.prog 17 #[.pointer (some ⟨g, 0, none⟩)] w fun e w' => e = .returned (.int .i64 (-1)) ∧ w' = w := by
  have c3 := h.act_
  go_enter Tryd.func17, Tryd.ntmps17
  go_wp2
  go_ret
  exact ⟨rfl, rfl⟩
set_option maxRecDepth 100000 in
theorem enter_ref_none (w : World) (g c : Nat) (P M : BitVec 32) (hc : c ≤ 16) (hno : ∀ j, j < c → (P.getLsbD j && M.getLsbD j) = false) (h : RefAt w g c P M 255) :
    Calls Tryd.prog 17 #[.pointer (some ⟨g, 0, none⟩)] w fun e w' => e = .returned (.int .i64 (-1)) ∧ w' = w := by
  have H := Lib.hid h; clear h
  have HN := Lib.hid hno; clear hno
  have c0 := H.out.count
  have c3 := H.out.act_
  have hci : (c : Int) ≤ 16 := by omega
  go_enter Tryd.func17, Tryd.ntmps17
  go_wp2_with fail
  go_loopw [3] (fun i wr => ∃ k : Nat, k ≤ c ∧ i = .int .i64 k ∧ wr = w) (fun i _ => c - (intOf i).toNat)
  case atStart => exact ⟨0, by omega, rfl, rfl⟩
  case round =>
    obtain ⟨k, hk, rfl, rfl⟩ := hrel
    by_cases hlt : k < c
    · have hlti : (k : Int) < 16 := by omega
      have cM := H.out.let_ k (by omega)
      have cP := H.out.wait k (by omega)
      have hn := HN.out k hlt
      generalize P.getLsbD k = p at *
      generalize M.getLsbD k = m at *
      cases p <;> cases m <;> first | (simp at hn; done) | skip
      all_goals
        clear hn
        go_wp2
        go_roundw
        case rel => exact ⟨k + 1, by omega, by go_num, trivial⟩
        case measure => simp [intOf]; omega
    · go_wp2
      go_ret
      exact ⟨rfl, rfl⟩
set_option maxRecDepth 100000 in
theorem enter_ref_one (w : World) (g c q : Nat) (P M : BitVec 32) (hc : c ≤ 16) (hq : q < c) (hP : P.getLsbD q = true) (hM : M.getLsbD q = true) (hno : ∀ j, j < q → (P.getLsbD j && M.getLsbD j) = false) (h : RefAt w g c P M 255) :
    Calls Tryd.prog 17 #[.pointer (some ⟨g, 0, none⟩)] w fun e w' => e = .returned (.int .i64 q) ∧ RefAt w' g c (P &&& ~~~(1#32 <<< q)) M q ∧ Only g w w' := by
  have H := Lib.hid h; clear h
  have HN := Lib.hid hno; clear hno
  have HP := Lib.hid hP; clear hP
  have HM := Lib.hid hM; clear hM
  have c0 := H.out.count
  have c3 := H.out.act_
  have hci : (c : Int) ≤ 16 := by omega
  go_enter Tryd.func17, Tryd.ntmps17
  go_wp2_with fail
  go_loopw [3] (fun i wr => ∃ k : Nat, k ≤ q ∧ i = .int .i64 k ∧ wr = w) (fun i _ => q - (intOf i).toNat)
  case atStart => exact ⟨0, by omega, rfl, rfl⟩
  case round =>
    obtain ⟨k, hk, rfl, rfl⟩ := hrel
    have hkc : k < c := by omega
    have hlti : (k : Int) < 16 := by omega
    have cM := H.out.let_ k (by omega)
    have cP := H.out.wait k (by omega)
    by_cases hlt : k < q
    · have hn := HN.out k hlt
      generalize P.getLsbD k = p at *
      generalize M.getLsbD k = m at *
      cases p <;> cases m <;> first | (simp at hn; done) | skip
      all_goals
        clear hn
        go_wp2
        go_roundw
        case rel => exact ⟨k + 1, by omega, by go_num, trivial⟩
        case measure => simp [intOf]; omega
    · obtain rfl : k = q := by omega
      rw [HP.out] at cP
      rw [HM.out] at cM
      have fP := H.out.free (1 + k)
      have hR := H.out.setP (P &&& ~~~(1#32 <<< k)) k false (by omega) (fun j hj => by
        rw [BitVec.getLsbD_and, BitVec.getLsbD_not, BitVec.getLsbD_shiftLeft]
        by_cases e : j = k
        · subst e; simp
        · rw [if_neg e]
          have : (1#32).getLsbD (j - k) = true → j - k = 0 := by simp
          by_cases hjk : j < k
          · simp [hjk]; omega
          · simp [show j < 32 by omega, hjk]; omega)
      have a3 := hR.act_
      have f3 := hR.free 33
      have HR1 := Lib.hid (hR.setA k)
      have HO1 := Lib.hid (((Only.refl g wr).setCell (1 + k) (.bool false)).setCell 33 (.int .i64 k))
      clear hR
      go_wp2
      go_ret
      exact ⟨rfl, HR1.out, HO1.out⟩

theorem new_ref_bad (w : World) (n : Int) (m : BitVec 32) (h : n < 0 ∨ 16 < n) : Calls Tryd.prog 15 #[.int .i64 n, .int .u32 m.toNat] w fun e w' => e = .returned (.tuple #[.pointer none, .bool false]) ∧ w' = w := by
  rcases h with h | h
  · go_enter Tryd.func15, Tryd.ntmps15
    go_wp2
    go_ret2
    exact ⟨rfl, rfl⟩
  · go_enter Tryd.func15, Tryd.ntmps15
    go_wp2
    go_ret2
    exact ⟨rfl, rfl⟩
theorem zero_cells (c : Nat) : #[Value.int .i64 (c : Int), Value.bool false, Value.bool false, Value.bool false, Value.bool false, Value.bool false, Value.bool false, Value.bool false, Value.bool false, Value.bool false, Value.bool false, Value.bool false, Value.bool false, Value.bool false, Value.bool false, Value.bool false, Value.bool false, Value.bool false, Value.bool false, Value.bool false, Value.bool false, Value.bool false, Value.bool false, Value.bool false, Value.bool false, Value.bool false, Value.bool false, Value.bool false, Value.bool false, Value.bool false, Value.bool false, Value.bool false, Value.bool false, Value.int .i64 255] = refCells c 0#32 0#32 255 := by
  unfold refCells bitsArr
  simp
theorem low_step (m : BitVec 32) (k : Nat) (hk : k < 16) : ∀ j, j < 16 → (mixed m 0#32 (k + 1)).getLsbD j = if j = k then m.getLsbD k else (mixed m 0#32 k).getLsbD j := mixed_step m 0#32 k hk
theorem low_skip (m : BitVec 32) (k : Nat) (hk : k < 16) (h : m.getLsbD k = false) : mixed m 0#32 (k + 1) = mixed m 0#32 k := by
  apply BitVec.eq_of_getLsbD_eq
  intro j hj
  rw [mixed_bit _ _ (k + 1) j (by omega) hj, mixed_bit _ _ k j (by omega) hj]
  by_cases e : j = k
  · subst e; rw [if_pos (by omega), if_neg (by omega), h]; simp
  · by_cases h2 : j < k
    · rw [if_pos (by omega), if_pos h2]
    · rw [if_neg (by omega), if_neg h2]
theorem mixed_zero (m Y : BitVec 32) : mixed m Y 0 = Y := by
  apply BitVec.eq_of_getLsbD_eq; intro j hj
  rw [mixed_bit m Y 0 j (by omega) hj]; simp
theorem mixed_all (m : BitVec 32) (c : Nat) (hc : c ≤ 16) (hm : ∀ j, c ≤ j → j < 32 → m.getLsbD j = false) : mixed m 0#32 c = m := by
  apply BitVec.eq_of_getLsbD_eq; intro j hj
  rw [mixed_bit m _ c j hc hj]
  by_cases h : j < c
  · rw [if_pos h]
  · rw [if_neg h, hm j (by omega) hj]; simp
/-- Below k the word's bits. -/
def lows (m : BitVec 32) (k : Nat) : BitVec 32 := mixed m 0#32 (if k ≤ 16 then k else 16)
theorem lows_step (m : BitVec 32) (k : Nat) (hk : k < 16) : ∀ j, j < 16 → (lows m (k + 1)).getLsbD j = if j = k then m.getLsbD k else (lows m k).getLsbD j := by
  unfold lows
  rw [if_pos (by omega), if_pos (by omega)]
  exact mixed_step m 0#32 k hk
theorem lows_skip (m : BitVec 32) (k : Nat) (h : m.getLsbD k = false) : lows m (k + 1) = lows m k := by
  unfold lows
  by_cases h1 : k < 16
  · rw [if_pos (by omega), if_pos (by omega), low_skip m k h1 h]
  · rw [if_neg (by omega)]
    by_cases h2 : k ≤ 16
    · rw [if_pos h2]; congr 1; omega
    · rw [if_neg h2]
theorem lows_zero (m : BitVec 32) : lows m 0 = 0#32 := mixed_zero m _
theorem lows_all (m : BitVec 32) (c : Nat) (hc : c ≤ 16) (hm : ∀ j, c ≤ j → j < 32 → m.getLsbD j = false) : lows m 32 = m := by
  show mixed m 0#32 16 = m
  exact mixed_all m 16 (by omega) fun j h1 h2 => hm j (by omega) h2
attribute [local irreducible] lows

set_option maxRecDepth 100000 in
theorem new_ref_ok (w : World) (c : Nat) (m : BitVec 32) (hc : c ≤ 16) (hm : ∀ j, c ≤ j → j < 32 → m.getLsbD j = false) : Calls Tryd.prog 15 #[.int .i64 c, .int .u32 m.toNat] w fun e w' =>
    ∃ g, e = .returned (.tuple #[.pointer (some ⟨g, 0, none⟩), .bool true]) ∧ RefAt w' g c 0#32 m 255 ∧ w.heap.size ≤ g ∧ Grow w w' := by
  have HM := Lib.hid hm; clear hm
  have hci : (c : Int) ≤ 16 := by omega
  go_enter Tryd.func15, Tryd.ntmps15
  go_wp2_with fail
  rw [zero_cells c]
  have hR : RefAt (w.alloc (.cells (refCells c 0#32 0#32 255) 45)) w.heap.size c 0#32 0#32 255 := heapAt_alloc_new w _
  have hG := Grow.alloc w (.cells (refCells c 0#32 0#32 255) 45)
  generalize w.alloc (.cells (refCells c 0#32 0#32 255) 45) = w1 at hR hG ⊢
  obtain ⟨g, hg⟩ : ∃ g, g = w.heap.size := ⟨_, rfl⟩
  rw [← hg] at hR ⊢
  have hge : w.heap.size ≤ g := by omega
  clear hg
  have HR := Lib.hid hR; clear hR
  have HG := Lib.hid hG; clear hG
  go_loopw [7] (fun i wr => ∃ k : Nat, k ≤ 32 ∧ i = .int .i64 k ∧ RefAt wr g c 0#32 (lows m k) 255 ∧ Grow w wr) (fun i _ => 32 - (intOf i).toNat)
  case atStart => exact ⟨0, by omega, rfl, by rw [lows_zero]; exact HR.out, HG.out⟩
  case round =>
    obtain ⟨k, hk, rfl, hR, hG⟩ := hrel
    have HR := Lib.hid hR; clear hR
    have HG := Lib.hid hG; clear hG
    by_cases hlt : k < 32
    · by_cases hb : m.getLsbD k = true
      · have hkc : k < c := by
          refine Classical.byContradiction fun hn => ?_
          rw [HM.out k (by omega) hlt] at hb; cases hb
        have hge2 : decide (c ≤ k) = false := by simp; omega
        have cM := HR.out.let_ k (by omega)
        have fM := HR.out.free (17 + k)
        have hlti : (k : Int) < 16 := by omega
        have HR1 := Lib.hid (HR.out.setM (lows m (k + 1)) k true (by omega) (fun j hj => by rw [lows_step m k (by omega) j hj, hb]))
        have HB := Lib.hid hb; clear hb
        go_wp2_with fail
        refine (bit_any _ m k (by omega) true HB.out.symm).mono ?_
        rintro e w' ⟨rfl, rfl⟩
        go_wp2_with fail
        go_roundw
        case rel => exact ⟨k + 1, by omega, by go_num, HR1.out, (HG.out).setCell hge _⟩
        case measure => simp [intOf]; omega
      · have hbf : m.getLsbD k = false := by simpa using hb
        clear hb
        have HR1 : Hid (RefAt _ _ _ _ _ _) := Lib.hid (by have := HR.out; rw [← lows_skip m k hbf] at this; exact this)
        have HB := Lib.hid hbf; clear hbf
        go_wp2_with fail
        refine (bit_any _ m k (by omega) false HB.out.symm).mono ?_
        rintro e w' ⟨rfl, rfl⟩
        go_wp2_with fail
        go_roundw
        case rel => exact ⟨k + 1, by omega, by go_num, HR1.out, HG.out⟩
        case measure => simp [intOf]; omega
    · have : k = 32 := by omega
      have HR1 : Hid (RefAt _ _ _ _ _ _) := Lib.hid (by have h := HR.out; rw [this, lows_all m c hc HM.out] at h; exact h)
      go_wp2
      go_ret2
      exact ⟨g, rfl, HR1.out, hge, HG.out⟩
set_option maxRecDepth 100000 in
theorem new_ref_over (w : World) (c : Nat) (m : BitVec 32) (hc : c ≤ 16) (q : Nat) (hcq : c ≤ q) (hq : q < 32) (hm : m.getLsbD q = true) (hno : ∀ j, c ≤ j → j < q → m.getLsbD j = false) : Calls Tryd.prog 15 #[.int .i64 c, .int .u32 m.toNat] w fun e w' =>
    e = .returned (.tuple #[.pointer none, .bool false]) ∧ Grow w w' := by
  have HN := Lib.hid hno; clear hno
  have HMq := Lib.hid hm; clear hm
  have hci : (c : Int) ≤ 16 := by omega
  go_enter Tryd.func15, Tryd.ntmps15
  go_wp2_with fail
  rw [zero_cells c]
  have hR : RefAt (w.alloc (.cells (refCells c 0#32 0#32 255) 45)) w.heap.size c 0#32 0#32 255 := heapAt_alloc_new w _
  have hG := Grow.alloc w (.cells (refCells c 0#32 0#32 255) 45)
  generalize w.alloc (.cells (refCells c 0#32 0#32 255) 45) = w1 at hR hG ⊢
  obtain ⟨g, hg⟩ : ∃ g, g = w.heap.size := ⟨_, rfl⟩
  rw [← hg] at hR ⊢
  have hge : w.heap.size ≤ g := by omega
  clear hg
  have HR := Lib.hid hR; clear hR
  have HG := Lib.hid hG; clear hG
  go_loopw [7] (fun i wr => ∃ k : Nat, k ≤ q ∧ i = .int .i64 k ∧ RefAt wr g c 0#32 (lows m k) 255 ∧ Grow w wr) (fun i _ => 32 - (intOf i).toNat)
  case atStart => exact ⟨0, by omega, rfl, by rw [lows_zero]; exact HR.out, HG.out⟩
  case round =>
    obtain ⟨k, hk, rfl, hR, hG⟩ := hrel
    have HR := Lib.hid hR; clear hR
    have HG := Lib.hid hG; clear hG
    have hk32 : k < 32 := by omega
    by_cases hlt : k < q
    · by_cases hb : m.getLsbD k = true
      · have hkc : k < c := by
          refine Classical.byContradiction fun hn => ?_
          rw [HN.out k (by omega) hlt] at hb; cases hb
        have hge2 : decide (c ≤ k) = false := by simp; omega
        have cM := HR.out.let_ k (by omega)
        have fM := HR.out.free (17 + k)
        have hlti : (k : Int) < 16 := by omega
        have HR1 := Lib.hid (HR.out.setM (lows m (k + 1)) k true (by omega) (fun j hj => by rw [lows_step m k (by omega) j hj, hb]))
        have HB := Lib.hid hb; clear hb
        go_wp2_with fail
        refine (bit_any _ m k (by omega) true HB.out.symm).mono ?_
        rintro e w' ⟨rfl, rfl⟩
        go_wp2_with fail
        go_roundw
        case rel => exact ⟨k + 1, by omega, by go_num, HR1.out, (HG.out).setCell hge _⟩
        case measure => simp [intOf]; omega
      · have hbf : m.getLsbD k = false := by simpa using hb
        clear hb
        have HR1 : Hid (RefAt _ _ _ _ _ _) := Lib.hid (by have := HR.out; rw [← lows_skip m k hbf] at this; exact this)
        have HB := Lib.hid hbf; clear hbf
        go_wp2_with fail
        refine (bit_any _ m k (by omega) false HB.out.symm).mono ?_
        rintro e w' ⟨rfl, rfl⟩
        go_wp2_with fail
        go_roundw
        case rel => exact ⟨k + 1, by omega, by go_num, HR1.out, HG.out⟩
        case measure => simp [intOf]; omega
    · have hkq : k = q := by omega
      have hck : decide (c ≤ k) = true := by simp; omega
      have HB : Hid (m.getLsbD k = true) := Lib.hid (by rw [hkq]; exact HMq.out)
      clear hkq
      go_wp2_with fail
      refine (bit_any _ m k (by omega) true HB.out.symm).mono ?_
      rintro e w' ⟨rfl, rfl⟩
      go_wp2
      go_ret2
      exact ⟨rfl, HG.out⟩
end Go.Proofs.YtglnabgageeipaaDoor
