/- Texts of the proof, merged: QuQ, QuOps, QuFirst. -/
import Derived.Test.YtnhmdinpfcoebaaGreatDoorM12
import Derived.Deep.DeepCutAuto
import Derived.Test.YtnhmdinpfcoebaaGreatDoorM05
import Derived.BigQuiet
/-! === QuQ -/
section
/- The walks of package ready. -/
namespace Go.Proofs.YtnhmdinpfcoebaaGreatDoor.Qu
open Go.RowKit
set_option linter.unusedVariables false
set_option linter.unusedSimpArgs false
attribute [local irreducible] ctz kCells
set_option maxRecDepth 100000

variable {K : KS}
theorem is_any (w : World) (t l : Int) (r : Bool) (hr : r = true ↔ (0 ≤ t ∧ t < 64 ∧ 0 ≤ l ∧ l < 32)) : Calls Tryz.prog 168 #[.int .i64 t, .int .i64 l] w fun e w' => e = .returned (.bool r) ∧ w' = w := by
  have HR := Lib.hid hr; clear hr
  go_enter Tryz.func168, Tryz.ntmps168
  go_wp2
  all_goals go_ret
  all_goals refine ⟨?_, rfl⟩
  all_goals refine congrArg (fun b => Ending.returned (.bool b)) ?_
  all_goals (have h := HR.out; clear HR; cases r <;> simp at h ⊢ <;> omega)
theorem has_nil (w : World) (t : Int) : Calls Tryz.prog 169 #[.pointer none, .int .i64 t] w fun e w' => e = .returned (.bool false) ∧ w' = w := by
  go_enter Tryz.func169, Tryz.ntmps169
  go_wp2
  go_ret
  exact ⟨rfl, rfl⟩
theorem has_out (w : World) (b : Nat) (t : Int) (h : ¬ (0 ≤ t ∧ t < 64)) : Calls Tryz.prog 169 #[.pointer (some ⟨b, 260, none⟩), .int .i64 t] w fun e w' => e = .returned (.bool false) ∧ w' = w := by
  have HR := Lib.hid (show false = true ↔ (0 ≤ t ∧ t < 64 ∧ (0 : Int) ≤ 0 ∧ (0 : Int) < 32) from ⟨fun h => (by cases h), fun h2 => absurd ⟨h2.1, h2.2.1⟩ h⟩)
  clear h
  go_enter Tryz.func169, Tryz.ntmps169
  go_wp2_with fail
  refine (is_any _ t 0 false (by simpa using HR.out)).mono ?_
  rintro e w' ⟨rfl, rfl⟩
  go_wp2
  go_ret
  exact ⟨rfl, rfl⟩
theorem has_in (w : World) (b t : Nat) (s : QS) (ht : t < 64) (h : QAt K w b s) : Calls Tryz.prog 169 #[.pointer (some ⟨b, 260, none⟩), .int .i64 t] w fun e w' => e = .returned (.bool (decide (0 < s.level t))) ∧ w' = w := by
  have HR := Lib.hid (show true = true ↔ (0 ≤ (t : Int) ∧ (t : Int) < 64 ∧ (0 : Int) ≤ 0 ∧ (0 : Int) < 32) from ⟨fun _ => (by omega), fun _ => rfl⟩)
  have h1 := h.level t ht
  have t0 : (0 : Int) ≤ (t : Int) := by omega
  have t1 : (t : Int) < 64 := by omega
  clear h
  go_enter Tryz.func169, Tryz.ntmps169
  go_wp2_with fail
  refine (is_any _ t 0 true (by simpa using HR.out)).mono ?_
  rintro e w' ⟨rfl, rfl⟩
  go_wp2
  go_ret
  exact ⟨rfl, rfl⟩

theorem bit_word (x : BitVec 32) (l : Nat) (hl : l < 32) : (bits .and .u32 ((x.toNat : Int) / 2 ^ l) 1 == 0) = !x.getLsbD l := by
  have h := bits_and32 (BitVec.ofNat 32 (x.toNat / 2 ^ l)) 1#32
  have hx : x.toNat / 2 ^ l < 4294967296 := Nat.lt_of_le_of_lt (Nat.div_le_self _ _) x.isLt
  rw [BitVec.toNat_and, BitVec.toNat_ofNat, Nat.mod_eq_of_lt (show _ < 2 ^ 32 from hx)] at h
  have e0 : ((x.toNat : Int) / 2 ^ l) = ((x.toNat / 2 ^ l : Nat) : Int) := by rw [Int.natCast_ediv, Int.natCast_pow]; rfl
  rw [e0, show (1 : Int) = ((1#32).toNat : Int) from rfl, h, ← BitVec.testBit_toNat, Nat.testBit_eq_decide_div_mod_eq]
  have : x.toNat / 2 ^ l &&& (1#32).toNat = x.toNat / 2 ^ l % 2 := Nat.and_one_is_mod _
  rw [this]
  rcases Nat.mod_two_eq_zero_or_one (x.toNat / 2 ^ l) with e | e <;> rw [e] <;> rfl
theorem or_word (x : BitVec 32) (l : Nat) (hl : l < 32) : bits .or .u32 (x.toNat : Int) (2 ^ l % 4294967296) = ((x ||| 1#32 <<< l).toNat : Int) := by
  have h := bits_or32 x (1#32 <<< l)
  rw [← h]
  congr 1
  rw [BitVec.toNat_shiftLeft]
  simp [Nat.shiftLeft_eq]
set_option maxHeartbeats 1000000 in
theorem push_any (w : World) (b t l : Nat) (s : QS) (ht : t < 64) (hl : l < 32) (hc0 : 0 ≤ s.count) (hc1 : s.count < 100000) (hb : s.some.getLsbD l = true → ∃ z : Nat, z < 64 ∧ s.back l = z) (h : QAt K w b s) :
    Calls Tryz.prog 170 #[.pointer (some ⟨b, 260, none⟩), .int .i64 t, .int .i64 l] w fun e w' => e = .returned (.tuple #[]) ∧ QAt K w' b (pushS s t l) ∧ Only b w w' := by
  have HQ := Lib.hid h; clear h
  have HO := Lib.hid (Only.refl b w)
  have t0 : (0 : Int) ≤ (t : Int) := by omega
  have t1 : (t : Int) < 64 := by omega
  have l0 : (0 : Int) ≤ (l : Int) := by omega
  have l1 : (l : Int) < 32 := by omega
  have x0 := HQ.out.c0
  have hw0 := bit_word s.some l hl
  go_enter Tryz.func170, Tryz.ntmps170
  by_cases hbit : s.some.getLsbD l = true
  · rw [hbit] at hw0
    simp only [Bool.not_true] at hw0
    go_upto_region 3 with fail
    clear x0 hw0
    obtain ⟨z, hz, hbz⟩ := hb hbit
    have cb := HQ.out.back l hl
    rw [hbz] at cb
    have z0 : (0 : Int) ≤ (z : Int) := by omega
    have z1 : (z : Int) < 64 := by omega
    have c := HQ.out.after z hz
    have f := HQ.out.free (389 + z)
    have hQ := HQ.out.set_after z hz t
    try dsimp only at hQ
    have hO := HO.out.setCell (389 + z) (.int .i8 (t : Int))
    obtain ⟨wa1, hw⟩ : ∃ x, x = World.setCell w ⟨b, 389 + z, none⟩ (.int .i8 (t : Int)) := ⟨_, rfl⟩
    rw [← hw] at hQ hO
    replace HQ := Lib.hid hQ
    replace HO := Lib.hid hO
    have HW := Lib.hid hw
    clear hQ hO hw
    go_region
    rw [← HW.out]
    clear HW c f
    replace HQ := Lib.hid HQ.out.drew
    replace HO := Lib.hid HO.out.drew
    generalize wa1.drew = wa1d at HQ HO ⊢
    go_upto_region 4 with fail
    clear cb
    have cb := HQ.out.back l hl
    simp only [hbz] at cb
    have c := HQ.out.ahead t ht
    have f := HQ.out.free (325 + t)
    have hQ := HQ.out.set_ahead t ht z
    try dsimp only at hQ
    have hO := HO.out.setCell (325 + t) (.int .i8 (z : Int))
    obtain ⟨wa2, hw⟩ : ∃ x, x = World.setCell wa1d ⟨b, 325 + t, none⟩ (.int .i8 (z : Int)) := ⟨_, rfl⟩
    rw [← hw] at hQ hO
    replace HQ := Lib.hid hQ
    replace HO := Lib.hid hO
    have HW := Lib.hid hw
    clear hQ hO hw
    go_region
    rw [← HW.out]
    clear HW c f
    replace HQ := Lib.hid HQ.out.drew
    replace HO := Lib.hid HO.out.drew
    generalize wa2.drew = wa2d at HQ HO ⊢
    clear cb
    go_upto_region 5 with fail
    have c := HQ.out.after t ht
    have f := HQ.out.free (389 + t)
    have hQ := HQ.out.set_after t ht (-1)
    try dsimp only at hQ
    have hO := HO.out.setCell (389 + t) (.int .i8 (-1))
    obtain ⟨wa3, hw⟩ : ∃ x, x = World.setCell wa2d ⟨b, 389 + t, none⟩ (.int .i8 (-1)) := ⟨_, rfl⟩
    rw [← hw] at hQ hO
    replace HQ := Lib.hid hQ
    replace HO := Lib.hid hO
    have HW := Lib.hid hw
    clear hQ hO hw
    go_upto_region 6 with fail
    rw [← HW.out]
    clear HW c f
    have c := HQ.out.back l hl
    have f := HQ.out.free (293 + l)
    have hQ := HQ.out.set_back l hl t
    try dsimp only at hQ
    have hO := HO.out.setCell (293 + l) (.int .i8 (t : Int))
    obtain ⟨wa4, hw⟩ : ∃ x, x = World.setCell wa3 ⟨b, 293 + l, none⟩ (.int .i8 (t : Int)) := ⟨_, rfl⟩
    rw [← hw] at hQ hO
    replace HQ := Lib.hid hQ
    replace HO := Lib.hid hO
    have HW := Lib.hid hw
    clear hQ hO hw
    go_upto_region 7 with fail
    rw [← HW.out]
    clear HW c f
    have c := HQ.out.c0
    have f := HQ.out.free (260)
    have hQ := HQ.out.set_some (s.some ||| 1#32 <<< l)
    try dsimp only at hQ
    have hO := HO.out.setCell (260) (.int .u32 ((s.some ||| 1#32 <<< l).toNat : Int))
    rw [← or_word s.some l hl] at hQ hO
    obtain ⟨wa5, hw⟩ : ∃ x, x = World.setCell wa4 ⟨b, 260, none⟩ (.int .u32 (bits .or .u32 (s.some.toNat : Int) (2 ^ l % 4294967296))) := ⟨_, rfl⟩
    rw [← hw] at hQ hO
    replace HQ := Lib.hid hQ
    replace HO := Lib.hid hO
    have HW := Lib.hid hw
    clear hQ hO hw
    go_region
    rw [← HW.out]
    clear HW c f
    replace HQ := Lib.hid HQ.out.drew
    replace HO := Lib.hid HO.out.drew
    generalize wa5.drew = wa5d at HQ HO ⊢
    go_upto_region 8 with fail
    have c := HQ.out.level t ht
    have f := HQ.out.free (453 + t)
    have hQ := HQ.out.set_level t ht ((l : Int) + 1)
    try dsimp only at hQ
    have hO := HO.out.setCell (453 + t) (.int .i8 ((l : Int) + 1))
    obtain ⟨wa6, hw⟩ : ∃ x, x = World.setCell wa5d ⟨b, 453 + t, none⟩ (.int .i8 ((l : Int) + 1)) := ⟨_, rfl⟩
    rw [← hw] at hQ hO
    replace HQ := Lib.hid hQ
    replace HO := Lib.hid hO
    have HW := Lib.hid hw
    clear hQ hO hw
    go_upto_region 9 with fail
    rw [← HW.out]
    clear HW c f
    have c := HQ.out.count
    have f := HQ.out.free (517)
    have hQ := HQ.out.set_count (s.count + 1)
    try dsimp only at hQ
    have hO := HO.out.setCell (517) (.int .i64 (s.count + 1))
    obtain ⟨wa7, hw⟩ : ∃ x, x = World.setCell wa6 ⟨b, 517, none⟩ (.int .i64 (s.count + 1)) := ⟨_, rfl⟩
    rw [← hw] at hQ hO
    replace HQ := Lib.hid hQ
    replace HO := Lib.hid hO
    have HW := Lib.hid hw
    clear hQ hO hw
    go_wp2
    rw [← HW.out]
    clear HW c f
    go_end0
    refine ⟨rfl, ?_, HO.out⟩
    have h := HQ.out
    unfold pushS
    rw [if_neg (by rw [hbit]; decide)]
    simp only [hbz, Int.toNat_natCast]
    exact h
  · have hbf : s.some.getLsbD l = false := by simpa using hbit
    rw [hbf] at hw0
    simp only [Bool.not_false] at hw0
    go_upto_region 1 with fail
    clear x0 hw0
    have c := HQ.out.front l hl
    have f := HQ.out.free (261 + l)
    have hQ := HQ.out.set_front l hl t
    try dsimp only at hQ
    have hO := HO.out.setCell (261 + l) (.int .i8 (t : Int))
    obtain ⟨wa8, hw⟩ : ∃ x, x = World.setCell w ⟨b, 261 + l, none⟩ (.int .i8 (t : Int)) := ⟨_, rfl⟩
    rw [← hw] at hQ hO
    replace HQ := Lib.hid hQ
    replace HO := Lib.hid hO
    have HW := Lib.hid hw
    clear hQ hO hw
    go_upto_region 2 with fail
    rw [← HW.out]
    clear HW c f
    have c := HQ.out.ahead t ht
    have f := HQ.out.free (325 + t)
    have hQ := HQ.out.set_ahead t ht (-1)
    try dsimp only at hQ
    have hO := HO.out.setCell (325 + t) (.int .i8 (-1))
    obtain ⟨wa9, hw⟩ : ∃ x, x = World.setCell wa8 ⟨b, 325 + t, none⟩ (.int .i8 (-1)) := ⟨_, rfl⟩
    rw [← hw] at hQ hO
    replace HQ := Lib.hid hQ
    replace HO := Lib.hid hO
    have HW := Lib.hid hw
    clear hQ hO hw
    go_upto_region 5 with fail
    rw [← HW.out]
    clear HW c f
    have c := HQ.out.after t ht
    have f := HQ.out.free (389 + t)
    have hQ := HQ.out.set_after t ht (-1)
    try dsimp only at hQ
    have hO := HO.out.setCell (389 + t) (.int .i8 (-1))
    obtain ⟨wa10, hw⟩ : ∃ x, x = World.setCell wa9 ⟨b, 389 + t, none⟩ (.int .i8 (-1)) := ⟨_, rfl⟩
    rw [← hw] at hQ hO
    replace HQ := Lib.hid hQ
    replace HO := Lib.hid hO
    have HW := Lib.hid hw
    clear hQ hO hw
    go_upto_region 6 with fail
    rw [← HW.out]
    clear HW c f
    have c := HQ.out.back l hl
    have f := HQ.out.free (293 + l)
    have hQ := HQ.out.set_back l hl t
    try dsimp only at hQ
    have hO := HO.out.setCell (293 + l) (.int .i8 (t : Int))
    obtain ⟨wa11, hw⟩ : ∃ x, x = World.setCell wa10 ⟨b, 293 + l, none⟩ (.int .i8 (t : Int)) := ⟨_, rfl⟩
    rw [← hw] at hQ hO
    replace HQ := Lib.hid hQ
    replace HO := Lib.hid hO
    have HW := Lib.hid hw
    clear hQ hO hw
    go_upto_region 7 with fail
    rw [← HW.out]
    clear HW c f
    have c := HQ.out.c0
    have f := HQ.out.free (260)
    have hQ := HQ.out.set_some (s.some ||| 1#32 <<< l)
    try dsimp only at hQ
    have hO := HO.out.setCell (260) (.int .u32 ((s.some ||| 1#32 <<< l).toNat : Int))
    rw [← or_word s.some l hl] at hQ hO
    obtain ⟨wa12, hw⟩ : ∃ x, x = World.setCell wa11 ⟨b, 260, none⟩ (.int .u32 (bits .or .u32 (s.some.toNat : Int) (2 ^ l % 4294967296))) := ⟨_, rfl⟩
    rw [← hw] at hQ hO
    replace HQ := Lib.hid hQ
    replace HO := Lib.hid hO
    have HW := Lib.hid hw
    clear hQ hO hw
    go_region
    rw [← HW.out]
    clear HW c f
    replace HQ := Lib.hid HQ.out.drew
    replace HO := Lib.hid HO.out.drew
    generalize wa12.drew = wa12d at HQ HO ⊢
    go_upto_region 8 with fail
    have c := HQ.out.level t ht
    have f := HQ.out.free (453 + t)
    have hQ := HQ.out.set_level t ht ((l : Int) + 1)
    try dsimp only at hQ
    have hO := HO.out.setCell (453 + t) (.int .i8 ((l : Int) + 1))
    obtain ⟨wa13, hw⟩ : ∃ x, x = World.setCell wa12d ⟨b, 453 + t, none⟩ (.int .i8 ((l : Int) + 1)) := ⟨_, rfl⟩
    rw [← hw] at hQ hO
    replace HQ := Lib.hid hQ
    replace HO := Lib.hid hO
    have HW := Lib.hid hw
    clear hQ hO hw
    go_upto_region 9 with fail
    rw [← HW.out]
    clear HW c f
    have c := HQ.out.count
    have f := HQ.out.free (517)
    have hQ := HQ.out.set_count (s.count + 1)
    try dsimp only at hQ
    have hO := HO.out.setCell (517) (.int .i64 (s.count + 1))
    obtain ⟨wa14, hw⟩ : ∃ x, x = World.setCell wa13 ⟨b, 517, none⟩ (.int .i64 (s.count + 1)) := ⟨_, rfl⟩
    rw [← hw] at hQ hO
    replace HQ := Lib.hid hQ
    replace HO := Lib.hid hO
    have HW := Lib.hid hw
    clear hQ hO hw
    go_wp2
    rw [← HW.out]
    clear HW c f
    go_end0
    refine ⟨rfl, ?_, HO.out⟩
    have h := HQ.out
    unfold pushS
    rw [if_pos hbf]
    exact h
theorem andnot_word (x : BitVec 32) (l : Nat) (hl : l < 32) : bits .andNot .u32 (x.toNat : Int) (2 ^ l % 4294967296) = ((x &&& ~~~(1#32 <<< l)).toNat : Int) := by
  have h := bits_andNot32 x (1#32 <<< l)
  rw [← h]
  congr 1
  rw [BitVec.toNat_shiftLeft]
  simp [Nat.shiftLeft_eq]
set_option maxHeartbeats 1000000 in
theorem cut_af (w : World) (b t l : Nat) (s : QS) (ht : t < 64) (hl : l < 32) (hlv : s.level t = l + 1) (ha : s.ahead t = -1) (hf : s.after t = -1) (hc0 : 0 ≤ s.count) (hc1 : s.count < 100000) (h : QAt K w b s) :
    Calls Tryz.prog 218 #[.pointer (some ⟨b, 260, none⟩), .int .i64 t] w fun e w' => e = .returned (.tuple #[]) ∧ QAt K w' b (cutS s t) ∧ Only b w w' := by
  have HQ := Lib.hid h; clear h
  have HO := Lib.hid (Only.refl b w)
  have t0 : (0 : Int) ≤ (t : Int) := by omega
  have t1 : (t : Int) < 64 := by omega
  have l0 : (0 : Int) ≤ (l : Int) := by omega
  have l1 : (l : Int) < 32 := by omega
  go_enter Tryz.func218, Tryz.ntmps218
  have cl := HQ.out.level t ht
  rw [hlv] at cl
  have ca := HQ.out.ahead t ht
  have cf := HQ.out.after t ht
  rw [ha] at ca
  rw [hf] at cf
  go_upto_region 1 with fail
  go_region
  replace HQ := Lib.hid HQ.out.drew
  replace HO := Lib.hid HO.out.drew
  generalize w.drew = w0 at HQ HO ⊢
  clear cl ca cf
  go_upto_region 3 with fail
  have c := HQ.out.front l hl
  have f := HQ.out.free (261 + l)
  have hQ := HQ.out.set_front l hl (-1)
  try dsimp only at hQ
  have hO := HO.out.setCell (261 + l) (.int .i8 (-1))
  obtain ⟨wa15, hw⟩ : ∃ x, x = World.setCell w0 ⟨b, 261 + l, none⟩ (.int .i8 (-1)) := ⟨_, rfl⟩
  rw [← hw] at hQ hO
  replace HQ := Lib.hid hQ
  replace HO := Lib.hid hO
  have HW := Lib.hid hw
  clear hQ hO hw
  go_upto_region 6 with fail
  rw [← HW.out]
  clear HW c f
  have c := HQ.out.back l hl
  have f := HQ.out.free (293 + l)
  have hQ := HQ.out.set_back l hl (-1)
  try dsimp only at hQ
  have hO := HO.out.setCell (293 + l) (.int .i8 (-1))
  obtain ⟨wa16, hw⟩ : ∃ x, x = World.setCell wa15 ⟨b, 293 + l, none⟩ (.int .i8 (-1)) := ⟨_, rfl⟩
  rw [← hw] at hQ hO
  replace HQ := Lib.hid hQ
  replace HO := Lib.hid hO
  have HW := Lib.hid hw
  clear hQ hO hw
  go_upto_region 9 with fail
  rw [← HW.out]
  clear HW c f
  have c := HQ.out.c0
  have f := HQ.out.free (260)
  have hQ := HQ.out.set_some (s.some &&& ~~~(1#32 <<< l))
  try dsimp only at hQ
  have hO := HO.out.setCell (260) (.int .u32 ((s.some &&& ~~~(1#32 <<< l)).toNat : Int))
  rw [← andnot_word s.some l hl] at hQ hO
  obtain ⟨wa17, hw⟩ : ∃ x, x = World.setCell wa16 ⟨b, 260, none⟩ (.int .u32 (bits .andNot .u32 (s.some.toNat : Int) (2 ^ l % 4294967296))) := ⟨_, rfl⟩
  rw [← hw] at hQ hO
  replace HQ := Lib.hid hQ
  replace HO := Lib.hid hO
  have HW := Lib.hid hw
  clear hQ hO hw
  go_region
  rw [← HW.out]
  clear HW c f
  replace HQ := Lib.hid HQ.out.drew
  replace HO := Lib.hid HO.out.drew
  generalize wa17.drew = wa17d at HQ HO ⊢
  go_upto_region 10 with fail
  have c := HQ.out.level t ht
  have f := HQ.out.free (453 + t)
  have hQ := HQ.out.set_level t ht 0
  try dsimp only at hQ
  have hO := HO.out.setCell (453 + t) (.int .i8 0)
  obtain ⟨wa18, hw⟩ : ∃ x, x = World.setCell wa17d ⟨b, 453 + t, none⟩ (.int .i8 0) := ⟨_, rfl⟩
  rw [← hw] at hQ hO
  replace HQ := Lib.hid hQ
  replace HO := Lib.hid hO
  have HW := Lib.hid hw
  clear hQ hO hw
  go_upto_region 11 with fail
  rw [← HW.out]
  clear HW c f
  have c := HQ.out.count
  have f := HQ.out.free (517)
  have hQ := HQ.out.set_count (s.count - 1)
  try dsimp only at hQ
  have hO := HO.out.setCell (517) (.int .i64 (s.count - 1))
  obtain ⟨wa19, hw⟩ : ∃ x, x = World.setCell wa18 ⟨b, 517, none⟩ (.int .i64 (s.count - 1)) := ⟨_, rfl⟩
  rw [← hw] at hQ hO
  replace HQ := Lib.hid hQ
  replace HO := Lib.hid hO
  have HW := Lib.hid hw
  clear hQ hO hw
  go_wp2
  rw [← HW.out]
  clear HW c f
  go_end0
  refine ⟨rfl, ?_, HO.out⟩
  have h := HQ.out
  unfold cutS
  simp only [hlv, show ((l : Int) + 1 - 1).toNat = l by omega, ha, hf, show (-1 : Int) < 0 by omega, if_true, if_false, and_true, and_false, true_and, false_and, and_self, Int.toNat_natCast]
  exact h
set_option maxHeartbeats 1000000 in
theorem cut_ay (w : World) (b t l : Nat) (s : QS) (ht : t < 64) (hl : l < 32) (hlv : s.level t = l + 1) (ha : s.ahead t = -1) (hf : ∃ z : Nat, z < 64 ∧ s.after t = z) (hc0 : 0 ≤ s.count) (hc1 : s.count < 100000) (h : QAt K w b s) :
    Calls Tryz.prog 218 #[.pointer (some ⟨b, 260, none⟩), .int .i64 t] w fun e w' => e = .returned (.tuple #[]) ∧ QAt K w' b (cutS s t) ∧ Only b w w' := by
  have HQ := Lib.hid h; clear h
  have HO := Lib.hid (Only.refl b w)
  have t0 : (0 : Int) ≤ (t : Int) := by omega
  have t1 : (t : Int) < 64 := by omega
  have l0 : (0 : Int) ≤ (l : Int) := by omega
  have l1 : (l : Int) < 32 := by omega
  go_enter Tryz.func218, Tryz.ntmps218
  have cl := HQ.out.level t ht
  rw [hlv] at cl
  have ca := HQ.out.ahead t ht
  have cf := HQ.out.after t ht
  rw [ha] at ca
  obtain ⟨y, hy, hf⟩ := hf
  rw [hf] at cf
  have y0 : (0 : Int) ≤ (y : Int) := by omega
  have y1 : (y : Int) < 64 := by omega
  have y2 : ¬ (y : Int) < 0 := by omega
  go_upto_region 1 with fail
  go_region
  replace HQ := Lib.hid HQ.out.drew
  replace HO := Lib.hid HO.out.drew
  generalize w.drew = w0 at HQ HO ⊢
  clear cl ca cf
  go_upto_region 3 with fail
  have c := HQ.out.front l hl
  have f := HQ.out.free (261 + l)
  have hQ := HQ.out.set_front l hl (y : Int)
  try dsimp only at hQ
  have hO := HO.out.setCell (261 + l) (.int .i8 ((y : Int)))
  obtain ⟨wa20, hw⟩ : ∃ x, x = World.setCell w0 ⟨b, 261 + l, none⟩ (.int .i8 ((y : Int))) := ⟨_, rfl⟩
  rw [← hw] at hQ hO
  replace HQ := Lib.hid hQ
  replace HO := Lib.hid hO
  have HW := Lib.hid hw
  clear hQ hO hw
  go_upto_region 7 with fail
  rw [← HW.out]
  clear HW c f
  have c := HQ.out.ahead y hy
  have f := HQ.out.free (325 + y)
  have hQ := HQ.out.set_ahead y hy (-1)
  try dsimp only at hQ
  have hO := HO.out.setCell (325 + y) (.int .i8 (-1))
  obtain ⟨wa21, hw⟩ : ∃ x, x = World.setCell wa20 ⟨b, 325 + y, none⟩ (.int .i8 (-1)) := ⟨_, rfl⟩
  rw [← hw] at hQ hO
  replace HQ := Lib.hid hQ
  replace HO := Lib.hid hO
  have HW := Lib.hid hw
  clear hQ hO hw
  go_upto_region 10 with fail
  rw [← HW.out]
  clear HW c f
  have c := HQ.out.level t ht
  have f := HQ.out.free (453 + t)
  have hQ := HQ.out.set_level t ht 0
  try dsimp only at hQ
  have hO := HO.out.setCell (453 + t) (.int .i8 0)
  obtain ⟨wa22, hw⟩ : ∃ x, x = World.setCell wa21 ⟨b, 453 + t, none⟩ (.int .i8 0) := ⟨_, rfl⟩
  rw [← hw] at hQ hO
  replace HQ := Lib.hid hQ
  replace HO := Lib.hid hO
  have HW := Lib.hid hw
  clear hQ hO hw
  go_upto_region 11 with fail
  rw [← HW.out]
  clear HW c f
  have c := HQ.out.count
  have f := HQ.out.free (517)
  have hQ := HQ.out.set_count (s.count - 1)
  try dsimp only at hQ
  have hO := HO.out.setCell (517) (.int .i64 (s.count - 1))
  obtain ⟨wa23, hw⟩ : ∃ x, x = World.setCell wa22 ⟨b, 517, none⟩ (.int .i64 (s.count - 1)) := ⟨_, rfl⟩
  rw [← hw] at hQ hO
  replace HQ := Lib.hid hQ
  replace HO := Lib.hid hO
  have HW := Lib.hid hw
  clear hQ hO hw
  go_wp2
  rw [← HW.out]
  clear HW c f
  go_end0
  refine ⟨rfl, ?_, HO.out⟩
  have h := HQ.out
  unfold cutS
  simp only [hlv, show ((l : Int) + 1 - 1).toNat = l by omega, ha, hf, show (-1 : Int) < 0 by omega, y2, if_true, if_false, and_true, and_false, true_and, false_and, and_self, Int.toNat_natCast]
  exact h
set_option maxHeartbeats 1000000 in
theorem cut_zf (w : World) (b t l : Nat) (s : QS) (ht : t < 64) (hl : l < 32) (hlv : s.level t = l + 1) (ha : ∃ z : Nat, z < 64 ∧ s.ahead t = z) (hf : s.after t = -1) (hc0 : 0 ≤ s.count) (hc1 : s.count < 100000) (h : QAt K w b s) :
    Calls Tryz.prog 218 #[.pointer (some ⟨b, 260, none⟩), .int .i64 t] w fun e w' => e = .returned (.tuple #[]) ∧ QAt K w' b (cutS s t) ∧ Only b w w' := by
  have HQ := Lib.hid h; clear h
  have HO := Lib.hid (Only.refl b w)
  have t0 : (0 : Int) ≤ (t : Int) := by omega
  have t1 : (t : Int) < 64 := by omega
  have l0 : (0 : Int) ≤ (l : Int) := by omega
  have l1 : (l : Int) < 32 := by omega
  go_enter Tryz.func218, Tryz.ntmps218
  have cl := HQ.out.level t ht
  rw [hlv] at cl
  have ca := HQ.out.ahead t ht
  have cf := HQ.out.after t ht
  obtain ⟨z, hz, ha⟩ := ha
  rw [ha] at ca
  have z0 : (0 : Int) ≤ (z : Int) := by omega
  have z1 : (z : Int) < 64 := by omega
  have z2 : ¬ (z : Int) < 0 := by omega
  rw [hf] at cf
  go_upto_region 1 with fail
  go_region
  replace HQ := Lib.hid HQ.out.drew
  replace HO := Lib.hid HO.out.drew
  generalize w.drew = w0 at HQ HO ⊢
  clear cl ca cf
  go_upto_region 4 with fail
  have c := HQ.out.after z hz
  have f := HQ.out.free (389 + z)
  have hQ := HQ.out.set_after z hz (-1)
  try dsimp only at hQ
  have hO := HO.out.setCell (389 + z) (.int .i8 (-1))
  obtain ⟨wa24, hw⟩ : ∃ x, x = World.setCell w0 ⟨b, 389 + z, none⟩ (.int .i8 (-1)) := ⟨_, rfl⟩
  rw [← hw] at hQ hO
  replace HQ := Lib.hid hQ
  replace HO := Lib.hid hO
  have HW := Lib.hid hw
  clear hQ hO hw
  go_upto_region 6 with fail
  rw [← HW.out]
  clear HW c f
  have c := HQ.out.back l hl
  have f := HQ.out.free (293 + l)
  have hQ := HQ.out.set_back l hl (z : Int)
  try dsimp only at hQ
  have hO := HO.out.setCell (293 + l) (.int .i8 ((z : Int)))
  obtain ⟨wa25, hw⟩ : ∃ x, x = World.setCell wa24 ⟨b, 293 + l, none⟩ (.int .i8 ((z : Int))) := ⟨_, rfl⟩
  rw [← hw] at hQ hO
  replace HQ := Lib.hid hQ
  replace HO := Lib.hid hO
  have HW := Lib.hid hw
  clear hQ hO hw
  go_upto_region 10 with fail
  rw [← HW.out]
  clear HW c f
  have c := HQ.out.level t ht
  have f := HQ.out.free (453 + t)
  have hQ := HQ.out.set_level t ht 0
  try dsimp only at hQ
  have hO := HO.out.setCell (453 + t) (.int .i8 0)
  obtain ⟨wa26, hw⟩ : ∃ x, x = World.setCell wa25 ⟨b, 453 + t, none⟩ (.int .i8 0) := ⟨_, rfl⟩
  rw [← hw] at hQ hO
  replace HQ := Lib.hid hQ
  replace HO := Lib.hid hO
  have HW := Lib.hid hw
  clear hQ hO hw
  go_upto_region 11 with fail
  rw [← HW.out]
  clear HW c f
  have c := HQ.out.count
  have f := HQ.out.free (517)
  have hQ := HQ.out.set_count (s.count - 1)
  try dsimp only at hQ
  have hO := HO.out.setCell (517) (.int .i64 (s.count - 1))
  obtain ⟨wa27, hw⟩ : ∃ x, x = World.setCell wa26 ⟨b, 517, none⟩ (.int .i64 (s.count - 1)) := ⟨_, rfl⟩
  rw [← hw] at hQ hO
  replace HQ := Lib.hid hQ
  replace HO := Lib.hid hO
  have HW := Lib.hid hw
  clear hQ hO hw
  go_wp2
  rw [← HW.out]
  clear HW c f
  go_end0
  refine ⟨rfl, ?_, HO.out⟩
  have h := HQ.out
  unfold cutS
  simp only [hlv, show ((l : Int) + 1 - 1).toNat = l by omega, ha, hf, show (-1 : Int) < 0 by omega, z2, if_true, if_false, and_true, and_false, true_and, false_and, and_self, Int.toNat_natCast]
  exact h
set_option maxHeartbeats 1000000 in
theorem cut_zy (w : World) (b t l : Nat) (s : QS) (ht : t < 64) (hl : l < 32) (hlv : s.level t = l + 1) (ha : ∃ z : Nat, z < 64 ∧ s.ahead t = z) (hf : ∃ z : Nat, z < 64 ∧ s.after t = z) (hc0 : 0 ≤ s.count) (hc1 : s.count < 100000) (h : QAt K w b s) :
    Calls Tryz.prog 218 #[.pointer (some ⟨b, 260, none⟩), .int .i64 t] w fun e w' => e = .returned (.tuple #[]) ∧ QAt K w' b (cutS s t) ∧ Only b w w' := by
  have HQ := Lib.hid h; clear h
  have HO := Lib.hid (Only.refl b w)
  have t0 : (0 : Int) ≤ (t : Int) := by omega
  have t1 : (t : Int) < 64 := by omega
  have l0 : (0 : Int) ≤ (l : Int) := by omega
  have l1 : (l : Int) < 32 := by omega
  go_enter Tryz.func218, Tryz.ntmps218
  have cl := HQ.out.level t ht
  rw [hlv] at cl
  have ca := HQ.out.ahead t ht
  have cf := HQ.out.after t ht
  obtain ⟨z, hz, ha⟩ := ha
  rw [ha] at ca
  have z0 : (0 : Int) ≤ (z : Int) := by omega
  have z1 : (z : Int) < 64 := by omega
  have z2 : ¬ (z : Int) < 0 := by omega
  obtain ⟨y, hy, hf⟩ := hf
  rw [hf] at cf
  have y0 : (0 : Int) ≤ (y : Int) := by omega
  have y1 : (y : Int) < 64 := by omega
  have y2 : ¬ (y : Int) < 0 := by omega
  go_upto_region 1 with fail
  go_region
  replace HQ := Lib.hid HQ.out.drew
  replace HO := Lib.hid HO.out.drew
  generalize w.drew = w0 at HQ HO ⊢
  clear cl ca cf
  go_upto_region 4 with fail
  have c := HQ.out.after z hz
  have f := HQ.out.free (389 + z)
  have hQ := HQ.out.set_after z hz (y : Int)
  try dsimp only at hQ
  have hO := HO.out.setCell (389 + z) (.int .i8 ((y : Int)))
  obtain ⟨wa28, hw⟩ : ∃ x, x = World.setCell w0 ⟨b, 389 + z, none⟩ (.int .i8 ((y : Int))) := ⟨_, rfl⟩
  rw [← hw] at hQ hO
  replace HQ := Lib.hid hQ
  replace HO := Lib.hid hO
  have HW := Lib.hid hw
  clear hQ hO hw
  go_upto_region 7 with fail
  rw [← HW.out]
  clear HW c f
  have c := HQ.out.ahead y hy
  have f := HQ.out.free (325 + y)
  have hQ := HQ.out.set_ahead y hy (z : Int)
  try dsimp only at hQ
  have hO := HO.out.setCell (325 + y) (.int .i8 ((z : Int)))
  obtain ⟨wa29, hw⟩ : ∃ x, x = World.setCell wa28 ⟨b, 325 + y, none⟩ (.int .i8 ((z : Int))) := ⟨_, rfl⟩
  rw [← hw] at hQ hO
  replace HQ := Lib.hid hQ
  replace HO := Lib.hid hO
  have HW := Lib.hid hw
  clear hQ hO hw
  go_upto_region 10 with fail
  rw [← HW.out]
  clear HW c f
  have c := HQ.out.level t ht
  have f := HQ.out.free (453 + t)
  have hQ := HQ.out.set_level t ht 0
  try dsimp only at hQ
  have hO := HO.out.setCell (453 + t) (.int .i8 0)
  obtain ⟨wa30, hw⟩ : ∃ x, x = World.setCell wa29 ⟨b, 453 + t, none⟩ (.int .i8 0) := ⟨_, rfl⟩
  rw [← hw] at hQ hO
  replace HQ := Lib.hid hQ
  replace HO := Lib.hid hO
  have HW := Lib.hid hw
  clear hQ hO hw
  go_upto_region 11 with fail
  rw [← HW.out]
  clear HW c f
  have c := HQ.out.count
  have f := HQ.out.free (517)
  have hQ := HQ.out.set_count (s.count - 1)
  try dsimp only at hQ
  have hO := HO.out.setCell (517) (.int .i64 (s.count - 1))
  obtain ⟨wa31, hw⟩ : ∃ x, x = World.setCell wa30 ⟨b, 517, none⟩ (.int .i64 (s.count - 1)) := ⟨_, rfl⟩
  rw [← hw] at hQ hO
  replace HQ := Lib.hid hQ
  replace HO := Lib.hid hO
  have HW := Lib.hid hw
  clear hQ hO hw
  go_wp2
  rw [← HW.out]
  clear HW c f
  go_end0
  refine ⟨rfl, ?_, HO.out⟩
  have h := HQ.out
  unfold cutS
  simp only [hlv, show ((l : Int) + 1 - 1).toNat = l by omega, ha, hf, z2, y2, if_true, if_false, and_true, and_false, true_and, false_and, and_self, Int.toNat_natCast]
  exact h
theorem cut_any (w : World) (b t l : Nat) (s : QS) (ht : t < 64) (hl : l < 32) (hlv : s.level t = l + 1) (ha : s.ahead t = -1 ∨ ∃ z : Nat, z < 64 ∧ s.ahead t = z) (hf : s.after t = -1 ∨ ∃ z : Nat, z < 64 ∧ s.after t = z) (hc0 : 0 ≤ s.count) (hc1 : s.count < 100000) (h : QAt K w b s) :
    Calls Tryz.prog 218 #[.pointer (some ⟨b, 260, none⟩), .int .i64 t] w fun e w' => e = .returned (.tuple #[]) ∧ QAt K w' b (cutS s t) ∧ Only b w w' := by
  rcases ha with ha | ha <;> rcases hf with hf | hf
  · exact cut_af w b t l s ht hl hlv ha hf hc0 hc1 h
  · exact cut_ay w b t l s ht hl hlv ha hf hc0 hc1 h
  · exact cut_zf w b t l s ht hl hlv ha hf hc0 hc1 h
  · exact cut_zy w b t l s ht hl hlv ha hf hc0 hc1 h
end Go.Proofs.YtnhmdinpfcoebaaGreatDoor.Qu
end

/-! === QuOps -/
section
/- The walks of the calls, in the rows' words. -/
namespace Go.Proofs.YtnhmdinpfcoebaaGreatDoor.Qu
open Go.RowKit
set_option linter.unusedVariables false
set_option linter.unusedSimpArgs false
attribute [local irreducible] ctz kCells lvl pushR cutR firstR total inR
set_option maxRecDepth 100000

/-- The queues lie at b, with these rows. -/
def RQ (K : KS) (w : World) (b : Nat) (L : Rows) : Prop := ∃ s, QAt K w b s ∧ Rep s L
variable {K : KS}
theorem RQ.only {w w' : World} {b c : Nat} {L : Rows} (h : RQ K w b L) (ho : Only c w w') (hne : b ≠ c) : RQ K w' b L := by
  obtain ⟨s, h1, h2⟩ := h
  exact ⟨s, h1.only ho hne, h2⟩
theorem RQ.below {w w' : World} {b : Nat} {L : Rows} (h : RQ K w b L) (hb : Below w.heap.size w w') : RQ K w' b L := by
  obtain ⟨s, h1, h2⟩ := h
  exact ⟨s, h1.below hb, h2⟩
theorem RQ.drewN {w : World} {b : Nat} {L : Rows} (h : RQ K w b L) (n : Nat) : RQ K (w.drewN n) b L := h
theorem push_r (w : World) (b t l : Nat) (L : Rows) (ht : t < 64) (hl : l < 32) (hno : lvl L (t : Int) = -1) (h : RQ K w b L) :
    Calls Tryz.prog 170 #[.pointer (some ⟨b, 260, none⟩), .int .i64 t, .int .i64 l] w fun e w' => e = .returned (.tuple #[]) ∧ RQ K w' b (pushR L t l) ∧ Only b w w' := by
  obtain ⟨s, hq, hr⟩ := h
  have hc : s.count = total L := hr.count
  have hT := total_le hr
  refine (push_any w b t l s ht hl (by omega) (by omega) (hr.back_in hl) hq).mono ?_
  rintro e w' ⟨rfl, h1, h2⟩
  refine ⟨rfl, ⟨_, h1, ?_⟩, h2⟩
  have := rep_push hr ht hl (by rw [hr.level_eq ht, hno]; omega)
  unfold pushR; exact this
theorem cut_r (w : World) (b t l : Nat) (L : Rows) (hl : l < 32) (hm : t ∈ L l) (h : RQ K w b L) :
    Calls Tryz.prog 218 #[.pointer (some ⟨b, 260, none⟩), .int .i64 t] w fun e w' => e = .returned (.tuple #[]) ∧ RQ K w' b (cutR L t l) ∧ lvl (cutR L t l) (t : Int) = -1 ∧ Only b w w' := by
  obtain ⟨s, hq, hr⟩ := h
  have hc : s.count = total L := hr.count
  have hT := total_le hr
  obtain ⟨ha, hf⟩ := hr.ends hl hm
  obtain ⟨ht, hlv⟩ := hr.mem l hl t hm
  refine (cut_any w b t l s ht hl hlv ha hf (by omega) (by omega) hq).mono ?_
  rintro e w' ⟨rfl, h1, h2⟩
  refine ⟨rfl, ⟨_, h1, ?_⟩, cut_no hr hl hm, h2⟩
  have := rep_cut hr hl hm
  unfold cutR; exact this
theorem has_r (w : World) (b : Nat) (t : Int) (L : Rows) (r : Bool) (hr : r = decide (inR L t)) (h : RQ K w b L) : Calls Tryz.prog 169 #[.pointer (some ⟨b, 260, none⟩), .int .i64 t] w fun e w' => e = .returned (.bool r) ∧ w' = w := by
  obtain ⟨s, hq, hp⟩ := h
  by_cases ht : 0 ≤ t ∧ t < 64
  · obtain ⟨k, rfl⟩ := Int.eq_ofNat_of_zero_le ht.1
    refine (has_in w b k s (by omega) hq).mono ?_
    rintro e w' ⟨rfl, rfl⟩
    refine ⟨?_, rfl⟩
    rw [hr, hp.level_eq (show k < 64 by omega)]
    congr 2
    unfold inR
    exact decide_eq_decide.2 (by omega)
  · refine (has_out w b t ht).mono ?_
    rintro e w' ⟨rfl, rfl⟩
    refine ⟨?_, rfl⟩
    rw [hr]
    congr 2
    exact (decide_eq_false (by unfold inR; rw [lvl_out hp ht]; omega)).symm
theorem level_r (w : World) (b : Nat) (t : Int) (L : Rows) (v : Int) (hv : v = lvl L t) (h : RQ K w b L) : Calls Tryz.prog 226 #[.pointer (some ⟨b, 260, none⟩), .int .i64 t] w fun e w' => e = .returned (.int .i64 v) ∧ w' = w := by
  have hh := has_r w b t L _ rfl h
  by_cases hin : inR L t
  · rw [decide_eq_true hin] at hh
    have HH := Lib.hid hh
    obtain ⟨l, hl, hlv, h0, hm⟩ := inR_pos hin
    obtain ⟨k, rfl⟩ := Int.eq_ofNat_of_zero_le h0
    obtain ⟨s, hq, hp⟩ := h
    have hk := (hp.mem l hl k (by simpa using hm)).1
    have c := hq.level k hk
    rw [(hp.mem l hl k (by simpa using hm)).2] at c
    rw [hlv] at hv
    subst hv
    have l0 : (0 : Int) ≤ (l : Int) := by omega
    have l1 : (l : Int) < 32 := by omega
    have k0 : (0 : Int) ≤ (k : Int) := by omega
    have k1 : (k : Int) < 64 := by omega
    clear hh hp hq hm hlv hin hl
    go_enter Tryz.func226, Tryz.ntmps226
    go_wp2_with fail
    refine HH.out.mono ?_
    rintro e w' ⟨rfl, rfl⟩
    go_wp2
    go_ret
    exact ⟨rfl, rfl⟩
  · rw [decide_eq_false hin] at hh
    have HH := Lib.hid hh
    have hv2 : v = -1 := by
      rw [hv]
      rcases lvl_cases L t with ⟨e, _⟩ | ⟨l, _, e, _⟩
      · exact e
      · exact absurd (by unfold inR; omega) hin
    subst hv2
    clear hh hin h hv
    go_enter Tryz.func226, Tryz.ntmps226
    go_wp2_with fail
    refine HH.out.mono ?_
    rintro e w' ⟨rfl, rfl⟩
    go_wp2
    go_ret
    exact ⟨rfl, rfl⟩
theorem level_nil (w : World) (t : Int) : Calls Tryz.prog 226 #[.pointer none, .int .i64 t] w fun e w' => e = .returned (.int .i64 (-1)) ∧ w' = w := by
  go_enter Tryz.func226, Tryz.ntmps226
  go_wp2_with fail
  refine (has_nil _ _).mono ?_
  rintro e w' ⟨rfl, rfl⟩
  go_wp2
  go_ret
  exact ⟨rfl, rfl⟩
theorem put_nil (w : World) (t l : Int) : Calls Tryz.prog 140 #[.pointer none, .int .i64 t, .int .i64 l] w fun e w' => e = .returned (.int .i64 16) ∧ w' = w := by
  go_enter Tryz.func140, Tryz.ntmps140
  go_wp2
  go_ret
  exact ⟨rfl, rfl⟩
theorem put_ok (w : World) (b : Nat) (t l : Int) (L : Rows) (hok : putOk L t l) (h : RQ K w b L) : Calls Tryz.prog 140 #[.pointer (some ⟨b, 260, none⟩), .int .i64 t, .int .i64 l] w fun e w' => e = .returned (.int .i64 0) ∧ RQ K w' b (putR L t l) ∧ Only b w w' := by
  have HOK := Lib.hid hok
  obtain ⟨t0, t1, l0, l1, hno⟩ := hok
  have HIS := Lib.hid (is_any w t l true ⟨fun _ => ⟨t0, t1, l0, l1⟩, fun _ => rfl⟩)
  have HH := Lib.hid (has_r w b t L false (by rw [decide_eq_false (by unfold inR; omega)]) h)
  obtain ⟨k, rfl⟩ := Int.eq_ofNat_of_zero_le t0
  obtain ⟨m, rfl⟩ := Int.eq_ofNat_of_zero_le l0
  have HP := Lib.hid (push_r w b k m L (by omega) (by omega) hno h)
  clear h hno
  go_enter Tryz.func140, Tryz.ntmps140
  go_wp2_with fail
  refine HIS.out.mono ?_
  rintro e w' ⟨rfl, rfl⟩
  go_wp2_with fail
  refine HH.out.mono ?_
  rintro e w' ⟨rfl, rfl⟩
  go_wp2_with fail
  refine HP.out.mono ?_
  rintro e w' ⟨rfl, hq, ho⟩
  have HQ := Lib.hid hq; clear hq
  have HO := Lib.hid ho; clear ho
  go_wp2
  go_ret
  refine ⟨rfl, ?_, HO.out⟩
  have := HQ.out
  unfold putR
  rw [if_pos HOK.out]
  simpa using this
theorem put_no (w : World) (b : Nat) (t l : Int) (L : Rows) (hok : ¬ putOk L t l) (h : RQ K w b L) : Calls Tryz.prog 140 #[.pointer (some ⟨b, 260, none⟩), .int .i64 t, .int .i64 l] w fun e w' => e = .returned (.int .i64 1) ∧ w' = w := by
  by_cases hi : 0 ≤ t ∧ t < 64 ∧ 0 ≤ l ∧ l < 32
  · have HIS := Lib.hid (is_any w t l true ⟨fun _ => hi, fun _ => rfl⟩)
    have hin : inR L t := by
      unfold inR
      rcases lvl_cases L t with ⟨e, _⟩ | ⟨j, _, e, _⟩
      · exact absurd ⟨hi.1, hi.2.1, hi.2.2.1, hi.2.2.2, e⟩ hok
      · omega
    have HH := Lib.hid (has_r w b t L true (by rw [decide_eq_true hin]) h)
    clear hi hin hok h
    go_enter Tryz.func140, Tryz.ntmps140
    go_wp2_with fail
    refine HIS.out.mono ?_
    rintro e w' ⟨rfl, rfl⟩
    go_wp2_with fail
    refine HH.out.mono ?_
    rintro e w' ⟨rfl, rfl⟩
    go_wp2
    go_ret
    exact ⟨rfl, rfl⟩
  · have HIS := Lib.hid (is_any w t l false ⟨fun h => (by cases h), fun h => absurd h hi⟩)
    clear hi hok h
    go_enter Tryz.func140, Tryz.ntmps140
    go_wp2_with fail
    refine HIS.out.mono ?_
    rintro e w' ⟨rfl, rfl⟩
    go_wp2
    go_ret
    exact ⟨rfl, rfl⟩
theorem remove_nil (w : World) (t : Int) : Calls Tryz.prog 183 #[.pointer none, .int .i64 t] w fun e w' => e = .returned (.bool false) ∧ w' = w := by
  go_enter Tryz.func183, Tryz.ntmps183
  go_wp2_with fail
  refine (has_nil _ _).mono ?_
  rintro e w' ⟨rfl, rfl⟩
  go_wp2
  go_ret
  exact ⟨rfl, rfl⟩
theorem turn_nil (w : World) (t : Int) : Calls Tryz.prog 192 #[.pointer none, .int .i64 t] w fun e w' => e = .returned (.bool false) ∧ w' = w := by
  go_enter Tryz.func192, Tryz.ntmps192
  go_wp2_with fail
  refine (has_nil _ _).mono ?_
  rintro e w' ⟨rfl, rfl⟩
  go_wp2
  go_ret
  exact ⟨rfl, rfl⟩
theorem move_nil (w : World) (t l : Int) : Calls Tryz.prog 222 #[.pointer none, .int .i64 t, .int .i64 l] w fun e w' => e = .returned (.bool false) ∧ w' = w := by
  go_enter Tryz.func222, Tryz.ntmps222
  go_wp2_with fail
  refine (has_nil _ _).mono ?_
  rintro e w' ⟨rfl, rfl⟩
  go_wp2
  go_ret
  exact ⟨rfl, rfl⟩
theorem first_nil (w : World) : Calls Tryz.prog 154 #[.pointer none] w fun e w' => e = .returned (.tuple #[.int .i64 0, .bool false]) ∧ w' = w := by
  go_enter Tryz.func154, Tryz.ntmps154
  go_wp2
  go_ret2
  exact ⟨rfl, rfl⟩
theorem remove_no (w : World) (b : Nat) (t : Int) (L : Rows) (hin : ¬ inR L t) (h : RQ K w b L) : Calls Tryz.prog 183 #[.pointer (some ⟨b, 260, none⟩), .int .i64 t] w fun e w' => e = .returned (.bool false) ∧ w' = w := by
  have HH := Lib.hid (has_r w b t L false (by rw [decide_eq_false hin]) h)
  clear hin h
  go_enter Tryz.func183, Tryz.ntmps183
  go_wp2_with fail
  refine HH.out.mono ?_
  rintro e w' ⟨rfl, rfl⟩
  go_wp2
  go_ret
  exact ⟨rfl, rfl⟩
theorem turn_no (w : World) (b : Nat) (t : Int) (L : Rows) (hin : ¬ inR L t) (h : RQ K w b L) : Calls Tryz.prog 192 #[.pointer (some ⟨b, 260, none⟩), .int .i64 t] w fun e w' => e = .returned (.bool false) ∧ w' = w := by
  have HH := Lib.hid (has_r w b t L false (by rw [decide_eq_false hin]) h)
  clear hin h
  go_enter Tryz.func192, Tryz.ntmps192
  go_wp2_with fail
  refine HH.out.mono ?_
  rintro e w' ⟨rfl, rfl⟩
  go_wp2
  go_ret
  exact ⟨rfl, rfl⟩
theorem remove_ok (w : World) (b : Nat) (t : Int) (L : Rows) (hin : inR L t) (h : RQ K w b L) : Calls Tryz.prog 183 #[.pointer (some ⟨b, 260, none⟩), .int .i64 t] w fun e w' => e = .returned (.bool true) ∧ RQ K w' b (removeR L t) ∧ Only b w w' := by
  have HH := Lib.hid (has_r w b t L true (by rw [decide_eq_true hin]) h)
  obtain ⟨l, hl, hlv, h0, hm⟩ := inR_pos hin
  have HR := Lib.hid (show removeR L t = cutR L t.toNat l by unfold removeR; rw [if_pos hin, hlv]; rfl)
  obtain ⟨k, rfl⟩ := Int.eq_ofNat_of_zero_le h0
  have HC := Lib.hid (cut_r w b k l L hl (by simpa using hm) h)
  clear hin h hm hlv
  go_enter Tryz.func183, Tryz.ntmps183
  go_wp2_with fail
  refine HH.out.mono ?_
  rintro e w' ⟨rfl, rfl⟩
  go_wp2_with fail
  refine HC.out.mono ?_
  rintro e w2 ⟨rfl, hq, hn, ho⟩
  have HQ := Lib.hid hq; clear hq hn
  have HO := Lib.hid ho; clear ho
  go_wp2
  go_ret
  refine ⟨rfl, ?_, HO.out⟩
  rw [HR.out]; simpa using HQ.out
theorem turn_ok (w : World) (b : Nat) (t : Int) (L : Rows) (hin : inR L t) (h : RQ K w b L) : Calls Tryz.prog 192 #[.pointer (some ⟨b, 260, none⟩), .int .i64 t] w fun e w' => e = .returned (.bool true) ∧ RQ K w' b (turnR L t) ∧ Only b w w' := by
  have HH := Lib.hid (has_r w b t L true (by rw [decide_eq_true hin]) h)
  obtain ⟨l, hl, hlv, h0, hm⟩ := inR_pos hin
  have HLV := Lib.hid (level_r w b t L l hlv.symm h)
  have HR := Lib.hid (show turnR L t = pushR (cutR L t.toNat l) t.toNat l by unfold turnR; rw [if_pos hin, hlv]; rfl)
  have ht : t < 64 := by
    obtain ⟨s, _, hp⟩ := h
    have := (hp.mem l hl _ hm).1
    omega
  obtain ⟨k, rfl⟩ := Int.eq_ofNat_of_zero_le h0
  have HC := Lib.hid (cut_r w b k l L hl (by simpa using hm) h)
  clear hin h hm hlv
  go_enter Tryz.func192, Tryz.ntmps192
  go_wp2_with fail
  refine HH.out.mono ?_
  rintro e w' ⟨rfl, rfl⟩
  go_wp2_with fail
  refine HLV.out.mono ?_
  rintro e w' ⟨rfl, rfl⟩
  go_wp2_with fail
  refine HC.out.mono ?_
  rintro e w2 ⟨rfl, hq, hn, ho⟩
  have HP := Lib.hid (push_r w2 b k l (cutR L k l) (by omega) hl hn hq)
  clear hq hn
  have HO := Lib.hid ho; clear ho
  go_wp2_with fail
  refine HP.out.mono ?_
  rintro e w3 ⟨rfl, hq, ho⟩
  have HQ := Lib.hid hq; clear hq
  replace HO := Lib.hid (HO.out.trans ho); clear ho
  go_wp2
  go_ret
  refine ⟨rfl, ?_, HO.out⟩
  rw [HR.out]; simpa using HQ.out
theorem move_ok (w : World) (b : Nat) (t d : Int) (L : Rows) (hok : moveOk L t d) (h : RQ K w b L) : Calls Tryz.prog 222 #[.pointer (some ⟨b, 260, none⟩), .int .i64 t, .int .i64 d] w fun e w' => e = .returned (.bool true) ∧ RQ K w' b (moveR L t d) ∧ Only b w w' := by
  obtain ⟨h1, d0, d1, hne⟩ := id hok
  have hin : inR L t := by unfold inR; exact h1
  have HH := Lib.hid (has_r w b t L true (by rw [decide_eq_true hin]) h)
  obtain ⟨l, hl, hlv, h0, hm⟩ := inR_pos hin
  have HLV := Lib.hid (level_r w b t L l hlv.symm h)
  have HR := Lib.hid (show moveR L t d = pushR (cutR L t.toNat l) t.toNat d.toNat by unfold moveR; rw [if_pos hok, hlv]; rfl)
  have ht : t < 64 := by
    obtain ⟨s, _, hp⟩ := h
    have := (hp.mem l hl _ hm).1
    omega
  have HIS := Lib.hid (is_any w t d true ⟨fun _ => ⟨h0, ht, d0, d1⟩, fun _ => rfl⟩)
  obtain ⟨k, rfl⟩ := Int.eq_ofNat_of_zero_le h0
  obtain ⟨m, rfl⟩ := Int.eq_ofNat_of_zero_le d0
  have hne2 : ((l : Int) == (m : Int)) = false := by rw [hlv] at hne; simpa using hne
  have HC := Lib.hid (cut_r w b k l L hl (by simpa using hm) h)
  clear hin h hm hlv hok hne h1
  go_enter Tryz.func222, Tryz.ntmps222
  go_wp2_with fail
  refine HH.out.mono ?_
  rintro e w' ⟨rfl, rfl⟩
  go_wp2_with fail
  refine HIS.out.mono ?_
  rintro e w' ⟨rfl, rfl⟩
  go_wp2_with fail
  refine HLV.out.mono ?_
  rintro e w' ⟨rfl, rfl⟩
  go_wp2_with fail
  refine HC.out.mono ?_
  rintro e w2 ⟨rfl, hq, hn, ho⟩
  have HP := Lib.hid (push_r w2 b k m (cutR L k l) (by omega) (by omega) hn hq)
  clear hq hn
  have HO := Lib.hid ho; clear ho
  go_wp2_with fail
  refine HP.out.mono ?_
  rintro e w3 ⟨rfl, hq, ho⟩
  have HQ := Lib.hid hq; clear hq
  replace HO := Lib.hid (HO.out.trans ho); clear ho
  go_wp2
  go_ret
  refine ⟨rfl, ?_, HO.out⟩
  rw [HR.out]; simpa using HQ.out
theorem move_no (w : World) (b : Nat) (t d : Int) (L : Rows) (hok : ¬ moveOk L t d) (h : RQ K w b L) : Calls Tryz.prog 222 #[.pointer (some ⟨b, 260, none⟩), .int .i64 t, .int .i64 d] w fun e w' => e = .returned (.bool false) ∧ w' = w := by
  by_cases hin : inR L t
  · have HH := Lib.hid (has_r w b t L true (by rw [decide_eq_true hin]) h)
    obtain ⟨l, hl, hlv, h0, hm⟩ := inR_pos hin
    have ht : t < 64 := by
      obtain ⟨s, _, hp⟩ := h
      have := (hp.mem l hl _ hm).1
      omega
    by_cases hd : 0 ≤ d ∧ d < 32
    · have HIS := Lib.hid (is_any w t d true ⟨fun _ => ⟨h0, ht, hd.1, hd.2⟩, fun _ => rfl⟩)
      have hld : (l : Int) = d := Classical.byContradiction fun hne => hok ⟨by unfold inR at hin; exact hin, hd.1, hd.2, by rw [hlv]; exact hne⟩
      have HLV := Lib.hid (level_r w b t L d (by rw [hlv, hld]) h)
      clear hin h hm hlv hok hld hd h0 ht
      go_enter Tryz.func222, Tryz.ntmps222
      go_wp2_with fail
      refine HH.out.mono ?_
      rintro e w' ⟨rfl, rfl⟩
      go_wp2_with fail
      refine HIS.out.mono ?_
      rintro e w' ⟨rfl, rfl⟩
      go_wp2_with fail
      refine HLV.out.mono ?_
      rintro e w' ⟨rfl, rfl⟩
      go_wp2
      go_ret
      exact ⟨rfl, rfl⟩
    · have HIS := Lib.hid (is_any w t d false ⟨fun h => (by cases h), fun h => absurd h.2.2 hd⟩)
      clear hin h hm hlv hok hd h0 ht
      go_enter Tryz.func222, Tryz.ntmps222
      go_wp2_with fail
      refine HH.out.mono ?_
      rintro e w' ⟨rfl, rfl⟩
      go_wp2_with fail
      refine HIS.out.mono ?_
      rintro e w' ⟨rfl, rfl⟩
      go_wp2
      go_ret
      exact ⟨rfl, rfl⟩
  · have HH := Lib.hid (has_r w b t L false (by rw [decide_eq_false hin]) h)
    clear hin h hok
    go_enter Tryz.func222, Tryz.ntmps222
    go_wp2_with fail
    refine HH.out.mono ?_
    rintro e w' ⟨rfl, rfl⟩
    go_wp2
    go_ret
    exact ⟨rfl, rfl⟩
end Go.Proofs.YtnhmdinpfcoebaaGreatDoor.Qu
end

/-! === QuFirst -/
section
/- The walk of First. -/
namespace Go.Proofs.YtnhmdinpfcoebaaGreatDoor.Qu
open Go.RowKit
set_option linter.unusedVariables false
variable {K : KS}
theorem lead_some {L : Rows} {l : Nat} (h : lead L = some l) : l < 32 ∧ L l ≠ [] ∧ ∀ j, j < l → L j = [] := by
  unfold lead at h
  have h1 := List.find?_some h
  have h2 := List.mem_range.1 (List.mem_of_find?_eq_some h)
  refine ⟨h2, by simpa using h1, fun j hj => ?_⟩
  obtain ⟨_, as1, bs1, e, h3⟩ := List.find?_eq_some_iff_append.1 h
  have hlen : as1.length = l := by
    have := congrArg (fun xs => xs[as1.length]?) e
    simp only [List.getElem?_append_right (Nat.le_refl _), Nat.sub_self, List.getElem?_cons_zero] at this
    have hlt : as1.length < 32 := by
      refine Classical.byContradiction fun hn => ?_
      rw [List.getElem?_eq_none (by simp; omega)] at this; cases this
    rw [List.getElem?_range hlt] at this
    exact Option.some.inj this
  have hj2 : as1[j]? = some j := by
    have := congrArg (fun xs => xs[j]?) e
    simp only [List.getElem?_append_left (show j < as1.length by omega)] at this
    rw [List.getElem?_range (by omega)] at this
    exact this.symm
  have := h3 j (List.mem_of_getElem? hj2)
  simpa using this
theorem lead_none {L : Rows} (h : lead L = none) : ∀ j, j < 32 → L j = [] := fun j hj => by
  have := List.find?_eq_none.1 h j (List.mem_range.2 hj)
  simpa using this
theorem Rep.none0 {s : QS} {L : Rows} (h : Rep s L) (hl : lead L = none) : s.some = 0#32 := by
  apply BitVec.eq_of_getLsbD_eq
  intro i hi
  rw [(h.some i hi).2 (lead_none hl i hi)]; simp
theorem Rep.some1 {s : QS} {L : Rows} (h : Rep s L) {l : Nat} (hl : lead L = .some l) : s.some ≠ 0#32 ∧ ctz s.some = l ∧ s.front l = firstR L ∧ 0 ≤ firstR L ∧ firstR L < 64 := by
  obtain ⟨h1, h2, h3⟩ := lead_some hl
  have hb : s.some.getLsbD l = true := by
    cases e : s.some.getLsbD l with
    | true => rfl
    | false => exact absurd ((h.some l h1).1 e) h2
  have hf : firstR L = hd (-1) (L l) := by unfold firstR; rw [hl]
  obtain ⟨z, hz, e⟩ := hd_mem (-1) (L l) h2
  have hz64 := (h.mem l h1 z hz).1
  exact ⟨fun e => by rw [e] at hb; simp at hb, ctz_eq hb (fun j hj => (h.some j (by omega)).2 (h3 j hj)), by rw [hf]; exact h.front l h1 h2, by rw [hf, e]; omega, by rw [hf, e]; omega⟩
theorem firstR_none {L : Rows} (h : lead L = none) : firstR L = -1 := by unfold firstR; rw [h]
attribute [local irreducible] ctz kCells lvl pushR cutR firstR total inR lead
set_option maxRecDepth 100000
theorem first_no (w : World) (b : Nat) (L : Rows) (hl : lead L = none) (h : RQ K w b L) : Calls Tryz.prog 154 #[.pointer (some ⟨b, 260, none⟩)] w fun e w' => e = .returned (.tuple #[.int .i64 0, .bool false]) ∧ w' = w := by
  obtain ⟨s, hq, hp⟩ := h
  have c := hq.c0
  rw [hp.none0 hl] at c
  simp only [BitVec.toNat_ofNat, Nat.zero_mod] at c
  clear hq hp hl
  go_enter Tryz.func154, Tryz.ntmps154
  go_wp2
  go_ret2
  exact ⟨rfl, rfl⟩
theorem first_yes (w : World) (b l : Nat) (L : Rows) (hl : lead L = some l) (hT : TabAt w) (h : RQ K w b L) : Calls Tryz.prog 154 #[.pointer (some ⟨b, 260, none⟩)] w fun e w' => e = .returned (.tuple #[.int .i64 (firstR L), .bool true]) ∧ ∃ k, w' = w.drewN k := by
  obtain ⟨s, hq, hp⟩ := h
  obtain ⟨hne, hctz, hf, f0, f1⟩ := hp.some1 hl
  have hl32 := (lead_some hl).1
  have c := hq.c0
  have c1 := hq.front l hl32
  rw [hf] at c1
  have hsz : ((s.some.toNat : Int) == 0) = false := by
    have : s.some.toNat ≠ 0 := fun e => hne (BitVec.eq_of_toNat_eq (by simpa using e))
    simp; omega
  have hz := fun (n : Nat) => tz_any (w.drewN n) s.some hne (show TabAt (w.drewN n) from hT)
  rw [hctz] at hz
  have HZ := Lib.hid hz; clear hz
  have l0 : (0 : Int) ≤ (l : Int) := by omega
  have l1 : (l : Int) < 32 := by omega
  clear hq hp hl hctz hf hT
  generalize firstR L = fr at *
  go_enter Tryz.func154, Tryz.ntmps154
  go_wp2_with fail
  go_quiet (first | (go_at_call 153; refine Calls.quiet_of_same (HZ.out _)))
  go_wp2
  go_ret2
  exact ⟨rfl, _, rfl⟩
end Go.Proofs.YtnhmdinpfcoebaaGreatDoor.Qu
end
