/- The walks of Name, Op, Names and of the law's awake. -/
import Derived.Test.YtfgbfdhpllcjhaaCost
namespace Go.Proofs.Ytfgbfdhpllcjhaa
open Go.RowKit
set_option linter.unusedVariables false
attribute [local irreducible] hasA hasB hasC hasD hasK bitsOf regP hasStr letter formP bad4 bad6 bad8 bad10 costR checkR mayP

def nameList : List ByteArray := [⟨#[]⟩, ⟨#[115, 101, 116]⟩, ⟨#[109, 111, 118]⟩, ⟨#[97, 100, 100]⟩, ⟨#[115, 117, 98]⟩, ⟨#[109, 117, 108]⟩, ⟨#[100, 105, 118]⟩, ⟨#[109, 111, 100]⟩, ⟨#[97, 110, 100]⟩, ⟨#[111, 114]⟩, ⟨#[120, 111, 114]⟩, ⟨#[115, 104, 108]⟩, ⟨#[115, 104, 114]⟩, ⟨#[108, 116]⟩, ⟨#[101, 113]⟩, ⟨#[108, 111, 97, 100]⟩, ⟨#[115, 116, 111, 114, 101]⟩, ⟨#[106, 109, 112]⟩, ⟨#[106, 122]⟩, ⟨#[106, 110, 122]⟩, ⟨#[119, 111, 114, 107]⟩, ⟨#[105, 110]⟩, ⟨#[111, 117, 116]⟩, ⟨#[109, 97, 115, 107]⟩, ⟨#[115, 101, 108, 102]⟩, ⟨#[110, 111, 119]⟩, ⟨#[112, 111, 115, 116]⟩, ⟨#[115, 101, 110, 100]⟩, ⟨#[114, 101, 99, 118]⟩, ⟨#[97, 114, 109]⟩, ⟨#[100, 105, 115, 97, 114, 109]⟩, ⟨#[108, 111, 99, 107]⟩, ⟨#[117, 110, 108, 111, 99, 107]⟩, ⟨#[119, 97, 105, 116]⟩, ⟨#[115, 108, 101, 101, 112]⟩, ⟨#[121, 105, 101, 108, 100]⟩, ⟨#[110, 101, 120, 116]⟩, ⟨#[104, 97, 108, 116]⟩, ⟨#[105, 114, 101, 116]⟩]
def nameArr : Array Value := #[.string ⟨#[]⟩, .string ⟨#[115, 101, 116]⟩, .string ⟨#[109, 111, 118]⟩, .string ⟨#[97, 100, 100]⟩, .string ⟨#[115, 117, 98]⟩, .string ⟨#[109, 117, 108]⟩, .string ⟨#[100, 105, 118]⟩, .string ⟨#[109, 111, 100]⟩, .string ⟨#[97, 110, 100]⟩, .string ⟨#[111, 114]⟩, .string ⟨#[120, 111, 114]⟩, .string ⟨#[115, 104, 108]⟩, .string ⟨#[115, 104, 114]⟩, .string ⟨#[108, 116]⟩, .string ⟨#[101, 113]⟩, .string ⟨#[108, 111, 97, 100]⟩, .string ⟨#[115, 116, 111, 114, 101]⟩, .string ⟨#[106, 109, 112]⟩, .string ⟨#[106, 122]⟩, .string ⟨#[106, 110, 122]⟩, .string ⟨#[119, 111, 114, 107]⟩, .string ⟨#[105, 110]⟩, .string ⟨#[111, 117, 116]⟩, .string ⟨#[109, 97, 115, 107]⟩, .string ⟨#[115, 101, 108, 102]⟩, .string ⟨#[110, 111, 119]⟩, .string ⟨#[112, 111, 115, 116]⟩, .string ⟨#[115, 101, 110, 100]⟩, .string ⟨#[114, 101, 99, 118]⟩, .string ⟨#[97, 114, 109]⟩, .string ⟨#[100, 105, 115, 97, 114, 109]⟩, .string ⟨#[108, 111, 99, 107]⟩, .string ⟨#[117, 110, 108, 111, 99, 107]⟩, .string ⟨#[119, 97, 105, 116]⟩, .string ⟨#[115, 108, 101, 101, 112]⟩, .string ⟨#[121, 105, 101, 108, 100]⟩, .string ⟨#[110, 101, 120, 116]⟩, .string ⟨#[104, 97, 108, 116]⟩, .string ⟨#[105, 114, 101, 116]⟩]
theorem nameArr_eq : nameArr = (nameList.map Value.string).toArray := by unfold nameArr nameList; rfl
theorem nameList_len : nameList.length = 39 := by unfold nameList; rfl
def nameAt (k : Nat) : ByteArray := nameList.getD k ⟨#[]⟩
theorem nameArr_at (k : Nat) (h : k < 39) : nameArr[k]? = some (.string (nameAt k)) := by
  rw [nameArr_eq]
  unfold nameAt
  rw [List.getD_eq_getElem?_getD]
  have h2 : k < nameList.length := by rw [nameList_len]; exact h
  simp [List.getElem?_eq_getElem h2]
theorem name_inj : ∀ j : Fin 39, ∀ k : Fin 39, nameAt j = nameAt k → j = k := by decide +kernel
theorem name_ne : ∀ j : Fin 39, j.val ≠ 0 → ((nameAt j).data.toList.isEmpty) = false := by decide +kernel
attribute [local irreducible] nameList nameArr nameAt
/-- An instruction by its name. -/
def nameP (op : Int) : ByteArray := if 1 ≤ op ∧ op ≤ 38 then nameAt op.toNat else ⟨#[]⟩
theorem nameArr_lit : (#[.string ⟨#[]⟩, .string ⟨#[115, 101, 116]⟩, .string ⟨#[109, 111, 118]⟩, .string ⟨#[97, 100, 100]⟩, .string ⟨#[115, 117, 98]⟩, .string ⟨#[109, 117, 108]⟩, .string ⟨#[100, 105, 118]⟩, .string ⟨#[109, 111, 100]⟩, .string ⟨#[97, 110, 100]⟩, .string ⟨#[111, 114]⟩, .string ⟨#[120, 111, 114]⟩, .string ⟨#[115, 104, 108]⟩, .string ⟨#[115, 104, 114]⟩, .string ⟨#[108, 116]⟩, .string ⟨#[101, 113]⟩, .string ⟨#[108, 111, 97, 100]⟩, .string ⟨#[115, 116, 111, 114, 101]⟩, .string ⟨#[106, 109, 112]⟩, .string ⟨#[106, 122]⟩, .string ⟨#[106, 110, 122]⟩, .string ⟨#[119, 111, 114, 107]⟩, .string ⟨#[105, 110]⟩, .string ⟨#[111, 117, 116]⟩, .string ⟨#[109, 97, 115, 107]⟩, .string ⟨#[115, 101, 108, 102]⟩, .string ⟨#[110, 111, 119]⟩, .string ⟨#[112, 111, 115, 116]⟩, .string ⟨#[115, 101, 110, 100]⟩, .string ⟨#[114, 101, 99, 118]⟩, .string ⟨#[97, 114, 109]⟩, .string ⟨#[100, 105, 115, 97, 114, 109]⟩, .string ⟨#[108, 111, 99, 107]⟩, .string ⟨#[117, 110, 108, 111, 99, 107]⟩, .string ⟨#[119, 97, 105, 116]⟩, .string ⟨#[115, 108, 101, 101, 112]⟩, .string ⟨#[121, 105, 101, 108, 100]⟩, .string ⟨#[110, 101, 120, 116]⟩, .string ⟨#[104, 97, 108, 116]⟩, .string ⟨#[105, 114, 101, 116]⟩] : Array Value) = nameArr := by unfold nameArr; rfl
theorem nameArr_size : nameArr.size = 39 := by unfold nameArr; rfl
theorem nameArr_one : nameArr.all (·.oneCell') = true := by unfold nameArr; simp [Value.oneCell']
theorem info48 : (Try.prog.info? 48).map (·.size) = some nameArr.size := by rw [nameArr_size]; kernel_rfl
set_option maxRecDepth 100000 in
theorem name_yes (k : Nat) (hk1 : 1 ≤ k) (hk2 : k ≤ 38) (w : World) : Calls Try.prog 20 #[.int .i64 k] w fun e w' => e = .returned (.string (nameAt k)) ∧ Grow w w' := by
  have hi : decide (1 ≤ (k : Int) ∧ (k : Int) ≤ 38) = true := by simp; omega
  have hk3 : (k : Int) ≤ 38 := by omega
  have hk4 : (1 : Int) ≤ (k : Int) := by omega
  go_enter Try.func20, Try.ntmps20
  go_wp2_with (with_reducible refine wpList_store_blk rfl 48 (.tmp 3) (.tmp 4) rfl w.heap.size 48 ?c0 nameArr ?c1 ?c2 ?c3 ?c4 info48 ?c6 ?c7)
  case c1 => rfl
  case c2 => exact congrArg Value.agg nameArr_lit
  case c3 => exact heapAt_alloc_new w _
  case c4 => rw [nameArr_size]; rfl
  case c6 => exact nameArr_one
  case c7 =>
    intro w1 hb ho
    have hG := Lib.hid ((Grow.alloc w _).only ho (Nat.le_refl _))
    have hc : w1.cell? ⟨w.heap.size, k, none⟩ = some (.string (nameAt k)) := by rw [cell_block hb, nameArr_at k (by omega)]
    clear hb ho
    go_wp2_with (go_at_call 21; refine (is_any _ _).mono ?_; rintro e w' ⟨rfl, rfl⟩)
    go_ret
    exact ⟨rfl, hG.out⟩
set_option maxRecDepth 100000 in
theorem name_no (op : Int) (h : ¬ (1 ≤ op ∧ op ≤ 38)) (w : World) : Calls Try.prog 20 #[.int .i64 op] w fun e w' => e = .returned (.string ⟨#[]⟩) ∧ Grow w w' := by
  have hi : decide (1 ≤ op ∧ op ≤ 38) = false := by simp; omega
  go_enter Try.func20, Try.ntmps20
  go_wp2_with (with_reducible refine wpList_store_blk rfl 48 (.tmp 3) (.tmp 4) rfl w.heap.size 48 ?c0 nameArr ?c1 ?c2 ?c3 ?c4 info48 ?c6 ?c7)
  case c1 => rfl
  case c2 => exact congrArg Value.agg nameArr_lit
  case c3 => exact heapAt_alloc_new w _
  case c4 => rw [nameArr_size]; rfl
  case c6 => exact nameArr_one
  case c7 =>
    intro w1 hb ho
    have hG := Lib.hid ((Grow.alloc w _).only ho (Nat.le_refl _))
    clear hb ho
    go_wp2_with (go_at_call 21; refine (is_any _ _).mono ?_; rintro e w' ⟨rfl, rfl⟩)
    go_ret
    exact ⟨rfl, hG.out⟩
theorem name_any (op : Int) (w : World) : Calls Try.prog 20 #[.int .i64 op] w fun e w' => e = .returned (.string (nameP op)) ∧ Grow w w' := by
  unfold nameP
  by_cases h : 1 ≤ op ∧ op ≤ 38
  · rw [if_pos h]
    obtain ⟨k, rfl⟩ := Int.eq_ofNat_of_zero_le (show 0 ≤ op by omega)
    exact name_yes k (by omega) (by omega) w
  · rw [if_neg h]; exact name_no op h w
attribute [local irreducible] nameP
theorem toList_iff (a b : ByteArray) : (a.toList == b.toList) = decide (a = b) := by
  rw [ByteArray.toList_eq, ByteArray.toList_eq]
  by_cases h : a = b
  · subst h; simp
  · have : a.data.toList ≠ b.data.toList := fun e => h (by cases a; cases b; simp only at e; congr 1; exact Array.toList_inj.1 e)
    simp [h]
    exact fun e => this (congrArg Array.toList e)
/-- The instruction of a name; 0: none. -/
def opOf (name : ByteArray) (k : Nat) : Nat → Int
  | 0 => 0
  | n + 1 => if nameAt k = name then (k : Int) else opOf name (k + 1) n
set_option maxRecDepth 100000 in
theorem op_any (name : ByteArray) (w : World) : Calls Try.prog 19 #[.string name] w fun e w' => e = .returned (.int .i64 (opOf name 1 38)) ∧ Grow w w' := by
  go_enter Try.func19, Try.ntmps19
  go_wp2_with fail
  go_loopw [3] (fun i wr => Grow w wr ∧ ∃ k : Nat, 1 ≤ k ∧ k ≤ 39 ∧ i = .int .i64 k ∧ opOf name 1 38 = opOf name k (39 - k)) (fun i _ => 39 - (intOf i).toNat)
  case atStart => exact ⟨Grow.refl _, 1, by omega, by omega, rfl, rfl⟩
  case round =>
    obtain ⟨hg, k, hk1, hk2, rfl, he⟩ := hrel
    have HE := Lib.hid he; clear he
    have HG := Lib.hid hg; clear hg
    by_cases hlt : k < 39
    · have hlt2 : (k : Int) ≤ 38 := by omega
      go_wp2_with fail
      refine (name_yes k hk1 (by omega) _).mono ?_
      rintro e w1 ⟨rfl, hg1⟩
      have HG1 := Lib.hid (HG.out.trans hg1)
      clear hg1
      by_cases hb : nameAt k = name
      · have hb2 : ((nameAt k).toList == name.toList) = true := by rw [toList_iff]; simp [hb]
        have HE1 : Hid (opOf name 1 38 = (k : Int)) := Lib.hid (by
          rw [HE.out, show 39 - k = (38 - k) + 1 by omega]
          unfold opOf
          rw [if_pos hb])
        clear hb
        go_wp2
        go_ret
        exact ⟨by rw [HE1.out]; rfl, HG1.out⟩
      · have hb2 : ((nameAt k).toList == name.toList) = false := by rw [toList_iff]; simp [hb]
        have HE1 : Hid (opOf name 1 38 = opOf name (k + 1) (39 - (k + 1))) := Lib.hid (by
          rw [HE.out, show 39 - k = (39 - (k + 1)) + 1 by omega]
          conv => lhs; unfold opOf
          rw [if_neg hb])
        clear hb
        go_wp2
        go_roundw
        case rel => exact ⟨HG1.out, k + 1, by omega, by omega, by go_num, HE1.out⟩
        case measure => simp [intOf]; omega
    · have HE0 : Hid (opOf name 1 38 = 0) := Lib.hid (by rw [HE.out, show 39 - k = 0 by omega]; rfl)
      go_wp2
      go_ret
      exact ⟨by rw [HE0.out]; rfl, HG.out⟩
attribute [local irreducible] opOf
theorem opOf_spec (name : ByteArray) : ∀ (n k : Nat), (opOf name k n = 0 ∧ ∀ j, k ≤ j → j < k + n → nameAt j ≠ name) ∨ ∃ j, k ≤ j ∧ j < k + n ∧ opOf name k n = (j : Int) ∧ nameAt j = name
  | 0, k => .inl ⟨by unfold opOf; rfl, fun j h1 h2 => by omega⟩
  | n + 1, k => by
    unfold opOf
    by_cases h : nameAt k = name
    · rw [if_pos h]; exact .inr ⟨k, by omega, by omega, rfl, h⟩
    · rw [if_neg h]
      rcases opOf_spec name n (k + 1) with ⟨h1, h2⟩ | ⟨j, h1, h2, h3, h4⟩
      · refine .inl ⟨h1, fun j hj1 hj2 => ?_⟩
        by_cases e : j = k
        · subst e; exact h
        · exact h2 j (by omega) (by omega)
      · exact .inr ⟨j, by omega, by omega, h3, h4⟩
/-- Of a name that is some instruction's. -/
theorem opOf_name (k : Nat) (h1 : 1 ≤ k) (h2 : k ≤ 38) : opOf (nameAt k) 1 38 = (k : Int) := by
  rcases opOf_spec (nameAt k) 38 1 with ⟨_, h⟩ | ⟨j, hj1, hj2, hj3, hj4⟩
  · exact absurd rfl (h k h1 (by omega))
  · have := name_inj ⟨j, by omega⟩ ⟨k, by omega⟩ hj4
    rw [hj3]
    simp at this
    omega
set_option maxRecDepth 100000 in
theorem names_any (w : World) : Calls Try.prog 18 #[] w fun e w' => ∃ g, e = .returned (.slice (some ⟨g, 0, none⟩) 39 39) ∧ w'.heap[g]? = some (.cells nameArr 9) ∧ Grow w w' := by
  go_enter Try.func18, Try.ntmps18
  go_wp2_with fail
  go_ret
  exact ⟨w.heap.size, rfl, (heapAt_alloc_new w _).trans (by rw [nameArr_lit]), Grow.alloc _ _⟩
/-! ### awake -/
theorem v_form1 : formP 27 1 2 3 2 0 = 0 := by decide +kernel
theorem v_form2 : formP 27 1 2 3 1 0 = 5 := by decide +kernel
theorem v_check1 : checkP 27 1 2 3 2 0 1 true = 14 := by decide +kernel
theorem v_check2 : checkP 27 1 2 3 2 0 1 false = 0 := by decide +kernel
theorem v_cost : costP 27 1 2 3 2 0 = 12 := by decide +kernel
theorem v_name : nameP 38 = ⟨#[105, 114, 101, 116]⟩ := by decide +kernel
theorem v_op : opOf ⟨#[108, 111, 97, 100]⟩ 1 38 = 15 := by decide +kernel
theorem a_form1 (w : World) : Calls Try.prog 9 #[.agg #[.int .i64 27, .int .i64 1, .int .i64 2, .int .i64 3, .int .i64 2, .int .u32 0]] w fun e w' => e = .returned (.int .i64 0) ∧ Grow w w' := by
  have := form_any 27 1 2 3 2 0 w; rw [v_form1] at this; exact this
theorem a_form2 (w : World) : Calls Try.prog 9 #[.agg #[.int .i64 27, .int .i64 1, .int .i64 2, .int .i64 3, .int .i64 1, .int .u32 0]] w fun e w' => e = .returned (.int .i64 5) ∧ Grow w w' := by
  have := form_any 27 1 2 3 1 0 w; rw [v_form2] at this; exact this
theorem a_check1 (w : World) : Calls Try.prog 13 #[.agg #[.int .i64 27, .int .i64 1, .int .i64 2, .int .i64 3, .int .i64 2, .int .u32 0], .int .i64 1, .bool true] w fun e w' => e = .returned (.int .i64 14) ∧ Grow w w' := by
  have := check_any 27 1 2 3 2 0 1 true (by omega) (by omega) (by omega) (by omega) w; rw [v_check1] at this; exact this
theorem a_check2 (w : World) : Calls Try.prog 13 #[.agg #[.int .i64 27, .int .i64 1, .int .i64 2, .int .i64 3, .int .i64 2, .int .u32 0], .int .i64 1, .bool false] w fun e w' => e = .returned (.int .i64 0) ∧ Grow w w' := by
  have := check_any 27 1 2 3 2 0 1 false (by omega) (by omega) (by omega) (by omega) w; rw [v_check2] at this; exact this
theorem a_cost (w : World) : Calls Try.prog 11 #[.agg #[.int .i64 27, .int .i64 1, .int .i64 2, .int .i64 3, .int .i64 2, .int .u32 0]] w fun e w' => e = .returned (.int .i64 12) ∧ Grow w w' := by
  have := cost_any 27 1 2 3 2 0 (by omega) (by omega) w; rw [v_cost] at this; exact this
theorem a_name (w : World) : Calls Try.prog 20 #[.int .i64 38] w fun e w' => e = .returned (.string ⟨#[105, 114, 101, 116]⟩) ∧ Grow w w' := by
  have := name_any 38 w; rw [v_name] at this; exact this
theorem a_op (w : World) : Calls Try.prog 19 #[.string ⟨#[108, 111, 97, 100]⟩] w fun e w' => e = .returned (.int .i64 15) ∧ Grow w w' := by
  have := op_any ⟨#[108, 111, 97, 100]⟩ w; rw [v_op] at this; exact this
set_option maxRecDepth 100000 in
theorem awake_any (w : World) : Calls Try.prog 8 #[] w fun e w' => e = .returned (.bool true) ∧ Grow w w' := by
  go_enter Try.func8, Try.ntmps8
  go_wp2_with fail
  have hG : Grow w ((w.alloc (.cells #[.int .i64 27, .int .i64 1, .int .i64 2, .int .i64 3, .int .i64 2, .int .u32 0] 24)).alloc (.cells #[.int .i64 27, .int .i64 1, .int .i64 2, .int .i64 3, .int .i64 1, .int .u32 0] 24)) := (Grow.alloc w _).trans (Grow.alloc _ _)
  have O1 := heap_alloc2_old w (.cells #[.int .i64 27, .int .i64 1, .int .i64 2, .int .i64 3, .int .i64 2, .int .u32 0] 24) (.cells #[.int .i64 27, .int .i64 1, .int .i64 2, .int .i64 3, .int .i64 1, .int .u32 0] 24)
  have O2 := heap_alloc2_new w (.cells #[.int .i64 27, .int .i64 1, .int .i64 2, .int .i64 3, .int .i64 2, .int .u32 0] 24) (.cells #[.int .i64 27, .int .i64 1, .int .i64 2, .int .i64 3, .int .i64 1, .int .u32 0] 24)
  generalize (w.alloc (.cells #[.int .i64 27, .int .i64 1, .int .i64 2, .int .i64 3, .int .i64 2, .int .u32 0] 24)).alloc (.cells #[.int .i64 27, .int .i64 1, .int .i64 2, .int .i64 3, .int .i64 1, .int .u32 0] 24) = w0 at hG O1 O2 ⊢
  generalize w.heap.size = g at O1 O2 ⊢
  refine (a_form1 _).mono ?_
  rintro e w1 ⟨rfl, hg⟩
  have hG := hG.trans hg
  have O1 := hg.at O1
  have O2 := hg.at O2
  clear hg
  have o20 := cell_block O2 0
  have o21 := cell_block O2 1
  have o22 := cell_block O2 2
  have o23 := cell_block O2 3
  have o24 := cell_block O2 4
  have o25 := cell_block O2 5
  simp at o20 o21 o22 o23 o24 o25
  have HG := Lib.hid hG
  have P1 := Lib.hid O1
  have P2 := Lib.hid O2
  clear hG O1 O2
  go_wp2_with fail
  clear o20 o21 o22 o23 o24 o25
  have hG := HG.out
  have O1 := P1.out
  have O2 := P2.out
  clear HG P1 P2
  refine (a_form2 _).mono ?_
  rintro e w2 ⟨rfl, hg⟩
  have hG := hG.trans hg
  have O1 := hg.at O1
  have O2 := hg.at O2
  clear hg
  have o10 := cell_block O1 0
  have o11 := cell_block O1 1
  have o12 := cell_block O1 2
  have o13 := cell_block O1 3
  have o14 := cell_block O1 4
  have o15 := cell_block O1 5
  simp at o10 o11 o12 o13 o14 o15
  have HG := Lib.hid hG
  have P1 := Lib.hid O1
  have P2 := Lib.hid O2
  clear hG O1 O2
  go_wp2_with fail
  clear o10 o11 o12 o13 o14 o15
  have hG := HG.out
  have O1 := P1.out
  have O2 := P2.out
  clear HG P1 P2
  refine (a_check1 _).mono ?_
  rintro e w3 ⟨rfl, hg⟩
  have hG := hG.trans hg
  have O1 := hg.at O1
  have O2 := hg.at O2
  clear hg
  have o10 := cell_block O1 0
  have o11 := cell_block O1 1
  have o12 := cell_block O1 2
  have o13 := cell_block O1 3
  have o14 := cell_block O1 4
  have o15 := cell_block O1 5
  simp at o10 o11 o12 o13 o14 o15
  have HG := Lib.hid hG
  have P1 := Lib.hid O1
  have P2 := Lib.hid O2
  clear hG O1 O2
  go_wp2_with fail
  clear o10 o11 o12 o13 o14 o15
  have hG := HG.out
  have O1 := P1.out
  have O2 := P2.out
  clear HG P1 P2
  refine (a_check2 _).mono ?_
  rintro e w4 ⟨rfl, hg⟩
  have hG := hG.trans hg
  have O1 := hg.at O1
  have O2 := hg.at O2
  clear hg
  have o10 := cell_block O1 0
  have o11 := cell_block O1 1
  have o12 := cell_block O1 2
  have o13 := cell_block O1 3
  have o14 := cell_block O1 4
  have o15 := cell_block O1 5
  simp at o10 o11 o12 o13 o14 o15
  have HG := Lib.hid hG
  have P1 := Lib.hid O1
  have P2 := Lib.hid O2
  clear hG O1 O2
  go_wp2_with fail
  clear o10 o11 o12 o13 o14 o15
  have hG := HG.out
  have O1 := P1.out
  have O2 := P2.out
  clear HG P1 P2
  refine (a_cost _).mono ?_
  rintro e w5 ⟨rfl, hg⟩
  have hG := hG.trans hg
  have O1 := hg.at O1
  have O2 := hg.at O2
  clear hg
  have HG := Lib.hid hG
  have P1 := Lib.hid O1
  have P2 := Lib.hid O2
  clear hG O1 O2
  go_wp2_with fail
  have hG := HG.out
  have O1 := P1.out
  have O2 := P2.out
  clear HG P1 P2
  refine (a_name _).mono ?_
  rintro e w6 ⟨rfl, hg⟩
  have hG := hG.trans hg
  have O1 := hg.at O1
  have O2 := hg.at O2
  clear hg
  have HG := Lib.hid hG
  have P1 := Lib.hid O1
  have P2 := Lib.hid O2
  clear hG O1 O2
  go_wp2_with fail
  have hG := HG.out
  have O1 := P1.out
  have O2 := P2.out
  clear HG P1 P2
  refine (a_op _).mono ?_
  rintro e w7 ⟨rfl, hg⟩
  have hG := hG.trans hg
  have O1 := hg.at O1
  have O2 := hg.at O2
  clear hg
  have HG := Lib.hid hG
  have P1 := Lib.hid O1
  have P2 := Lib.hid O2
  clear hG O1 O2
  go_wp2_with fail
  go_ret
  exact ⟨rfl, HG.out⟩
end Go.Proofs.Ytfgbfdhpllcjhaa
