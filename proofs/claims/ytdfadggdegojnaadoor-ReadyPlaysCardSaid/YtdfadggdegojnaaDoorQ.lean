/- The walks of package ready. -/
import Derived.Test.YtdfadggdegojnaaDoorMem
import Derived.Deep.DeepCutAuto
namespace Go.Proofs.YtdfadggdegojnaaDoor
open Go.RowKit
set_option linter.unusedVariables false
set_option linter.unusedSimpArgs false
attribute [local irreducible] ctz qCells
set_option maxRecDepth 100000

theorem is_any (w : World) (t l : Int) (r : Bool) (hr : r = true ↔ (0 ≤ t ∧ t < 64 ∧ 0 ≤ l ∧ l < 32)) : Calls Tryd.prog 23 #[.int .i64 t, .int .i64 l] w fun e w' => e = .returned (.bool r) ∧ w' = w := by
  have HR := Lib.hid hr; clear hr
  go_enter Tryd.func23, Tryd.ntmps23
  go_wp2
  all_goals go_ret
  all_goals refine ⟨?_, rfl⟩
  all_goals refine congrArg (fun b => Ending.returned (.bool b)) ?_
  all_goals (have h := HR.out; clear HR; cases r <;> simp at h ⊢ <;> omega)
theorem has_nil (w : World) (t : Int) : Calls Tryd.prog 24 #[.pointer none, .int .i64 t] w fun e w' => e = .returned (.bool false) ∧ w' = w := by
  go_enter Tryd.func24, Tryd.ntmps24
  go_wp2
  go_ret
  exact ⟨rfl, rfl⟩
theorem has_out (w : World) (b : Nat) (t : Int) (h : ¬ (0 ≤ t ∧ t < 64)) : Calls Tryd.prog 24 #[.pointer (some ⟨b, 0, none⟩), .int .i64 t] w fun e w' => e = .returned (.bool false) ∧ w' = w := by
  have HR := Lib.hid (show false = true ↔ (0 ≤ t ∧ t < 64 ∧ (0 : Int) ≤ 0 ∧ (0 : Int) < 32) from ⟨fun h => (by cases h), fun h2 => absurd ⟨h2.1, h2.2.1⟩ h⟩)
  clear h
  go_enter Tryd.func24, Tryd.ntmps24
  go_wp2_with fail
  refine (is_any _ t 0 false (by simpa using HR.out)).mono ?_
  rintro e w' ⟨rfl, rfl⟩
  go_wp2
  go_ret
  exact ⟨rfl, rfl⟩
theorem has_in (w : World) (b t : Nat) (s : QS) (ht : t < 64) (h : QAt w b s) : Calls Tryd.prog 24 #[.pointer (some ⟨b, 0, none⟩), .int .i64 t] w fun e w' => e = .returned (.bool (decide (0 < s.level t))) ∧ w' = w := by
  have HR := Lib.hid (show true = true ↔ (0 ≤ (t : Int) ∧ (t : Int) < 64 ∧ (0 : Int) ≤ 0 ∧ (0 : Int) < 32) from ⟨fun _ => (by omega), fun _ => rfl⟩)
  have h1 := h.level t ht
  have t0 : (0 : Int) ≤ (t : Int) := by omega
  have t1 : (t : Int) < 64 := by omega
  clear h
  go_enter Tryd.func24, Tryd.ntmps24
  go_wp2_with fail
  refine (is_any _ t 0 true (by simpa using HR.out)).mono ?_
  rintro e w' ⟨rfl, rfl⟩
  go_wp2
  go_ret
  exact ⟨rfl, rfl⟩

theorem bit_word (x : BitVec 32) (l : Nat) (hl : l < 32) : (bits .and .u32 ((x.toNat : Int) / 2 ^ l) 1 == 0) = !x.getLsbD l := by
  have h := bits_and32 (BitVec.ofNat 32 (x.toNat / 2 ^ l)) 1#32
  have hx : x.toNat / 2 ^ l < 4294967296 := Nat.lt_of_le_of_lt (Nat.div_le_self _ _) x.isLt
  rw [BitVec.toNat_and, BitVec.toNat_ofNat, Nat.mod_eq_of_lt (show _ < 2 ^ 32 from hx)] at h
  have e0 : ((x.toNat : Int) / 2 ^ l) = ((x.toNat / 2 ^ l : Nat) : Int) := by rw [Int.natCast_ediv, Int.natCast_pow]; rfl
  rw [e0, show (1 : Int) = ((1#32).toNat : Int) from rfl, h, ← BitVec.testBit_toNat, Nat.testBit_eq_decide_div_mod_eq]
  have : x.toNat / 2 ^ l &&& (1#32).toNat = x.toNat / 2 ^ l % 2 := Nat.and_one_is_mod _
  rw [this]
  rcases Nat.mod_two_eq_zero_or_one (x.toNat / 2 ^ l) with e | e <;> rw [e] <;> rfl
theorem or_word (x : BitVec 32) (l : Nat) (hl : l < 32) : bits .or .u32 (x.toNat : Int) (2 ^ l % 4294967296) = ((x ||| 1#32 <<< l).toNat : Int) := by
  have h := bits_or32 x (1#32 <<< l)
  rw [← h]
  congr 1
  rw [BitVec.toNat_shiftLeft]
  simp [Nat.shiftLeft_eq]
set_option maxHeartbeats 1000000 in
theorem push_any (w : World) (b t l : Nat) (s : QS) (ht : t < 64) (hl : l < 32) (hc0 : 0 ≤ s.count) (hc1 : s.count < 100000) (hb : s.some.getLsbD l = true → ∃ z : Nat, z < 64 ∧ s.back l = z) (h : QAt w b s) :
    Calls Tryd.prog 25 #[.pointer (some ⟨b, 0, none⟩), .int .i64 t, .int .i64 l] w fun e w' => e = .returned (.tuple #[]) ∧ QAt w' b (pushS s t l) ∧ Only b w w' := by
  have HQ := Lib.hid h; clear h
  have HO := Lib.hid (Only.refl b w)
  have t0 : (0 : Int) ≤ (t : Int) := by omega
  have t1 : (t : Int) < 64 := by omega
  have l0 : (0 : Int) ≤ (l : Int) := by omega
  have l1 : (l : Int) < 32 := by omega
  have x0 := HQ.out.c0
  have hw0 := bit_word s.some l hl
  go_enter Tryd.func25, Tryd.ntmps25
  by_cases hbit : s.some.getLsbD l = true
  · rw [hbit] at hw0
    simp only [Bool.not_true] at hw0
    go_upto_region 3 with fail
    clear x0 hw0
    obtain ⟨z, hz, hbz⟩ := hb hbit
    have cb := HQ.out.back l hl
    rw [hbz] at cb
    have z0 : (0 : Int) ≤ (z : Int) := by omega
    have z1 : (z : Int) < 64 := by omega
    have c := HQ.out.after z hz
    have f := HQ.out.free (129 + z)
    have hQ := HQ.out.set_after z hz t
    try dsimp only at hQ
    have hO := HO.out.setCell (129 + z) (.int .i8 (t : Int))
    obtain ⟨wa1, hw⟩ : ∃ x, x = World.setCell w ⟨b, 129 + z, none⟩ (.int .i8 (t : Int)) := ⟨_, rfl⟩
    rw [← hw] at hQ hO
    replace HQ := Lib.hid hQ
    replace HO := Lib.hid hO
    have HW := Lib.hid hw
    clear hQ hO hw
    go_region
    rw [← HW.out]
    clear HW c f
    replace HQ := Lib.hid HQ.out.drew
    replace HO := Lib.hid HO.out.drew
    generalize wa1.drew = wa1d at HQ HO ⊢
    go_upto_region 4 with fail
    clear cb
    have cb := HQ.out.back l hl
    simp only [hbz] at cb
    have c := HQ.out.ahead t ht
    have f := HQ.out.free (65 + t)
    have hQ := HQ.out.set_ahead t ht z
    try dsimp only at hQ
    have hO := HO.out.setCell (65 + t) (.int .i8 (z : Int))
    obtain ⟨wa2, hw⟩ : ∃ x, x = World.setCell wa1d ⟨b, 65 + t, none⟩ (.int .i8 (z : Int)) := ⟨_, rfl⟩
    rw [← hw] at hQ hO
    replace HQ := Lib.hid hQ
    replace HO := Lib.hid hO
    have HW := Lib.hid hw
    clear hQ hO hw
    go_region
    rw [← HW.out]
    clear HW c f
    replace HQ := Lib.hid HQ.out.drew
    replace HO := Lib.hid HO.out.drew
    generalize wa2.drew = wa2d at HQ HO ⊢
    clear cb
    go_upto_region 5 with fail
    have c := HQ.out.after t ht
    have f := HQ.out.free (129 + t)
    have hQ := HQ.out.set_after t ht (-1)
    try dsimp only at hQ
    have hO := HO.out.setCell (129 + t) (.int .i8 (-1))
    obtain ⟨wa3, hw⟩ : ∃ x, x = World.setCell wa2d ⟨b, 129 + t, none⟩ (.int .i8 (-1)) := ⟨_, rfl⟩
    rw [← hw] at hQ hO
    replace HQ := Lib.hid hQ
    replace HO := Lib.hid hO
    have HW := Lib.hid hw
    clear hQ hO hw
    go_upto_region 6 with fail
    rw [← HW.out]
    clear HW c f
    have c := HQ.out.back l hl
    have f := HQ.out.free (33 + l)
    have hQ := HQ.out.set_back l hl t
    try dsimp only at hQ
    have hO := HO.out.setCell (33 + l) (.int .i8 (t : Int))
    obtain ⟨wa4, hw⟩ : ∃ x, x = World.setCell wa3 ⟨b, 33 + l, none⟩ (.int .i8 (t : Int)) := ⟨_, rfl⟩
    rw [← hw] at hQ hO
    replace HQ := Lib.hid hQ
    replace HO := Lib.hid hO
    have HW := Lib.hid hw
    clear hQ hO hw
    go_upto_region 7 with fail
    rw [← HW.out]
    clear HW c f
    have c := HQ.out.c0
    have f := HQ.out.free (0)
    have hQ := HQ.out.set_some (s.some ||| 1#32 <<< l)
    try dsimp only at hQ
    have hO := HO.out.setCell (0) (.int .u32 ((s.some ||| 1#32 <<< l).toNat : Int))
    rw [← or_word s.some l hl] at hQ hO
    obtain ⟨wa5, hw⟩ : ∃ x, x = World.setCell wa4 ⟨b, 0, none⟩ (.int .u32 (bits .or .u32 (s.some.toNat : Int) (2 ^ l % 4294967296))) := ⟨_, rfl⟩
    rw [← hw] at hQ hO
    replace HQ := Lib.hid hQ
    replace HO := Lib.hid hO
    have HW := Lib.hid hw
    clear hQ hO hw
    go_region
    rw [← HW.out]
    clear HW c f
    replace HQ := Lib.hid HQ.out.drew
    replace HO := Lib.hid HO.out.drew
    generalize wa5.drew = wa5d at HQ HO ⊢
    go_upto_region 8 with fail
    have c := HQ.out.level t ht
    have f := HQ.out.free (193 + t)
    have hQ := HQ.out.set_level t ht ((l : Int) + 1)
    try dsimp only at hQ
    have hO := HO.out.setCell (193 + t) (.int .i8 ((l : Int) + 1))
    obtain ⟨wa6, hw⟩ : ∃ x, x = World.setCell wa5d ⟨b, 193 + t, none⟩ (.int .i8 ((l : Int) + 1)) := ⟨_, rfl⟩
    rw [← hw] at hQ hO
    replace HQ := Lib.hid hQ
    replace HO := Lib.hid hO
    have HW := Lib.hid hw
    clear hQ hO hw
    go_upto_region 9 with fail
    rw [← HW.out]
    clear HW c f
    have c := HQ.out.count
    have f := HQ.out.free (257)
    have hQ := HQ.out.set_count (s.count + 1)
    try dsimp only at hQ
    have hO := HO.out.setCell (257) (.int .i64 (s.count + 1))
    obtain ⟨wa7, hw⟩ : ∃ x, x = World.setCell wa6 ⟨b, 257, none⟩ (.int .i64 (s.count + 1)) := ⟨_, rfl⟩
    rw [← hw] at hQ hO
    replace HQ := Lib.hid hQ
    replace HO := Lib.hid hO
    have HW := Lib.hid hw
    clear hQ hO hw
    go_wp2
    rw [← HW.out]
    clear HW c f
    go_end0
    refine ⟨rfl, ?_, HO.out⟩
    have h := HQ.out
    unfold pushS
    rw [if_neg (by rw [hbit]; decide)]
    simp only [hbz, Int.toNat_natCast]
    exact h
  · have hbf : s.some.getLsbD l = false := by simpa using hbit
    rw [hbf] at hw0
    simp only [Bool.not_false] at hw0
    go_upto_region 1 with fail
    clear x0 hw0
    have c := HQ.out.front l hl
    have f := HQ.out.free (1 + l)
    have hQ := HQ.out.set_front l hl t
    try dsimp only at hQ
    have hO := HO.out.setCell (1 + l) (.int .i8 (t : Int))
    obtain ⟨wa8, hw⟩ : ∃ x, x = World.setCell w ⟨b, 1 + l, none⟩ (.int .i8 (t : Int)) := ⟨_, rfl⟩
    rw [← hw] at hQ hO
    replace HQ := Lib.hid hQ
    replace HO := Lib.hid hO
    have HW := Lib.hid hw
    clear hQ hO hw
    go_upto_region 2 with fail
    rw [← HW.out]
    clear HW c f
    have c := HQ.out.ahead t ht
    have f := HQ.out.free (65 + t)
    have hQ := HQ.out.set_ahead t ht (-1)
    try dsimp only at hQ
    have hO := HO.out.setCell (65 + t) (.int .i8 (-1))
    obtain ⟨wa9, hw⟩ : ∃ x, x = World.setCell wa8 ⟨b, 65 + t, none⟩ (.int .i8 (-1)) := ⟨_, rfl⟩
    rw [← hw] at hQ hO
    replace HQ := Lib.hid hQ
    replace HO := Lib.hid hO
    have HW := Lib.hid hw
    clear hQ hO hw
    go_upto_region 5 with fail
    rw [← HW.out]
    clear HW c f
    have c := HQ.out.after t ht
    have f := HQ.out.free (129 + t)
    have hQ := HQ.out.set_after t ht (-1)
    try dsimp only at hQ
    have hO := HO.out.setCell (129 + t) (.int .i8 (-1))
    obtain ⟨wa10, hw⟩ : ∃ x, x = World.setCell wa9 ⟨b, 129 + t, none⟩ (.int .i8 (-1)) := ⟨_, rfl⟩
    rw [← hw] at hQ hO
    replace HQ := Lib.hid hQ
    replace HO := Lib.hid hO
    have HW := Lib.hid hw
    clear hQ hO hw
    go_upto_region 6 with fail
    rw [← HW.out]
    clear HW c f
    have c := HQ.out.back l hl
    have f := HQ.out.free (33 + l)
    have hQ := HQ.out.set_back l hl t
    try dsimp only at hQ
    have hO := HO.out.setCell (33 + l) (.int .i8 (t : Int))
    obtain ⟨wa11, hw⟩ : ∃ x, x = World.setCell wa10 ⟨b, 33 + l, none⟩ (.int .i8 (t : Int)) := ⟨_, rfl⟩
    rw [← hw] at hQ hO
    replace HQ := Lib.hid hQ
    replace HO := Lib.hid hO
    have HW := Lib.hid hw
    clear hQ hO hw
    go_upto_region 7 with fail
    rw [← HW.out]
    clear HW c f
    have c := HQ.out.c0
    have f := HQ.out.free (0)
    have hQ := HQ.out.set_some (s.some ||| 1#32 <<< l)
    try dsimp only at hQ
    have hO := HO.out.setCell (0) (.int .u32 ((s.some ||| 1#32 <<< l).toNat : Int))
    rw [← or_word s.some l hl] at hQ hO
    obtain ⟨wa12, hw⟩ : ∃ x, x = World.setCell wa11 ⟨b, 0, none⟩ (.int .u32 (bits .or .u32 (s.some.toNat : Int) (2 ^ l % 4294967296))) := ⟨_, rfl⟩
    rw [← hw] at hQ hO
    replace HQ := Lib.hid hQ
    replace HO := Lib.hid hO
    have HW := Lib.hid hw
    clear hQ hO hw
    go_region
    rw [← HW.out]
    clear HW c f
    replace HQ := Lib.hid HQ.out.drew
    replace HO := Lib.hid HO.out.drew
    generalize wa12.drew = wa12d at HQ HO ⊢
    go_upto_region 8 with fail
    have c := HQ.out.level t ht
    have f := HQ.out.free (193 + t)
    have hQ := HQ.out.set_level t ht ((l : Int) + 1)
    try dsimp only at hQ
    have hO := HO.out.setCell (193 + t) (.int .i8 ((l : Int) + 1))
    obtain ⟨wa13, hw⟩ : ∃ x, x = World.setCell wa12d ⟨b, 193 + t, none⟩ (.int .i8 ((l : Int) + 1)) := ⟨_, rfl⟩
    rw [← hw] at hQ hO
    replace HQ := Lib.hid hQ
    replace HO := Lib.hid hO
    have HW := Lib.hid hw
    clear hQ hO hw
    go_upto_region 9 with fail
    rw [← HW.out]
    clear HW c f
    have c := HQ.out.count
    have f := HQ.out.free (257)
    have hQ := HQ.out.set_count (s.count + 1)
    try dsimp only at hQ
    have hO := HO.out.setCell (257) (.int .i64 (s.count + 1))
    obtain ⟨wa14, hw⟩ : ∃ x, x = World.setCell wa13 ⟨b, 257, none⟩ (.int .i64 (s.count + 1)) := ⟨_, rfl⟩
    rw [← hw] at hQ hO
    replace HQ := Lib.hid hQ
    replace HO := Lib.hid hO
    have HW := Lib.hid hw
    clear hQ hO hw
    go_wp2
    rw [← HW.out]
    clear HW c f
    go_end0
    refine ⟨rfl, ?_, HO.out⟩
    have h := HQ.out
    unfold pushS
    rw [if_pos hbf]
    exact h
theorem andnot_word (x : BitVec 32) (l : Nat) (hl : l < 32) : bits .andNot .u32 (x.toNat : Int) (2 ^ l % 4294967296) = ((x &&& ~~~(1#32 <<< l)).toNat : Int) := by
  have h := bits_andNot32 x (1#32 <<< l)
  rw [← h]
  congr 1
  rw [BitVec.toNat_shiftLeft]
  simp [Nat.shiftLeft_eq]
set_option maxHeartbeats 1000000 in
theorem cut_af (w : World) (b t l : Nat) (s : QS) (ht : t < 64) (hl : l < 32) (hlv : s.level t = l + 1) (ha : s.ahead t = -1) (hf : s.after t = -1) (hc0 : 0 ≤ s.count) (hc1 : s.count < 100000) (h : QAt w b s) :
    Calls Tryd.prog 27 #[.pointer (some ⟨b, 0, none⟩), .int .i64 t] w fun e w' => e = .returned (.tuple #[]) ∧ QAt w' b (cutS s t) ∧ Only b w w' := by
  have HQ := Lib.hid h; clear h
  have HO := Lib.hid (Only.refl b w)
  have t0 : (0 : Int) ≤ (t : Int) := by omega
  have t1 : (t : Int) < 64 := by omega
  have l0 : (0 : Int) ≤ (l : Int) := by omega
  have l1 : (l : Int) < 32 := by omega
  go_enter Tryd.func27, Tryd.ntmps27
  have cl := HQ.out.level t ht
  rw [hlv] at cl
  have ca := HQ.out.ahead t ht
  have cf := HQ.out.after t ht
  rw [ha] at ca
  rw [hf] at cf
  go_upto_region 1 with fail
  go_region
  replace HQ := Lib.hid HQ.out.drew
  replace HO := Lib.hid HO.out.drew
  generalize w.drew = w0 at HQ HO ⊢
  clear cl ca cf
  go_upto_region 3 with fail
  have c := HQ.out.front l hl
  have f := HQ.out.free (1 + l)
  have hQ := HQ.out.set_front l hl (-1)
  try dsimp only at hQ
  have hO := HO.out.setCell (1 + l) (.int .i8 (-1))
  obtain ⟨wa15, hw⟩ : ∃ x, x = World.setCell w0 ⟨b, 1 + l, none⟩ (.int .i8 (-1)) := ⟨_, rfl⟩
  rw [← hw] at hQ hO
  replace HQ := Lib.hid hQ
  replace HO := Lib.hid hO
  have HW := Lib.hid hw
  clear hQ hO hw
  go_upto_region 6 with fail
  rw [← HW.out]
  clear HW c f
  have c := HQ.out.back l hl
  have f := HQ.out.free (33 + l)
  have hQ := HQ.out.set_back l hl (-1)
  try dsimp only at hQ
  have hO := HO.out.setCell (33 + l) (.int .i8 (-1))
  obtain ⟨wa16, hw⟩ : ∃ x, x = World.setCell wa15 ⟨b, 33 + l, none⟩ (.int .i8 (-1)) := ⟨_, rfl⟩
  rw [← hw] at hQ hO
  replace HQ := Lib.hid hQ
  replace HO := Lib.hid hO
  have HW := Lib.hid hw
  clear hQ hO hw
  go_upto_region 9 with fail
  rw [← HW.out]
  clear HW c f
  have c := HQ.out.c0
  have f := HQ.out.free (0)
  have hQ := HQ.out.set_some (s.some &&& ~~~(1#32 <<< l))
  try dsimp only at hQ
  have hO := HO.out.setCell (0) (.int .u32 ((s.some &&& ~~~(1#32 <<< l)).toNat : Int))
  rw [← andnot_word s.some l hl] at hQ hO
  obtain ⟨wa17, hw⟩ : ∃ x, x = World.setCell wa16 ⟨b, 0, none⟩ (.int .u32 (bits .andNot .u32 (s.some.toNat : Int) (2 ^ l % 4294967296))) := ⟨_, rfl⟩
  rw [← hw] at hQ hO
  replace HQ := Lib.hid hQ
  replace HO := Lib.hid hO
  have HW := Lib.hid hw
  clear hQ hO hw
  go_region
  rw [← HW.out]
  clear HW c f
  replace HQ := Lib.hid HQ.out.drew
  replace HO := Lib.hid HO.out.drew
  generalize wa17.drew = wa17d at HQ HO ⊢
  go_upto_region 10 with fail
  have c := HQ.out.level t ht
  have f := HQ.out.free (193 + t)
  have hQ := HQ.out.set_level t ht 0
  try dsimp only at hQ
  have hO := HO.out.setCell (193 + t) (.int .i8 0)
  obtain ⟨wa18, hw⟩ : ∃ x, x = World.setCell wa17d ⟨b, 193 + t, none⟩ (.int .i8 0) := ⟨_, rfl⟩
  rw [← hw] at hQ hO
  replace HQ := Lib.hid hQ
  replace HO := Lib.hid hO
  have HW := Lib.hid hw
  clear hQ hO hw
  go_upto_region 11 with fail
  rw [← HW.out]
  clear HW c f
  have c := HQ.out.count
  have f := HQ.out.free (257)
  have hQ := HQ.out.set_count (s.count - 1)
  try dsimp only at hQ
  have hO := HO.out.setCell (257) (.int .i64 (s.count - 1))
  obtain ⟨wa19, hw⟩ : ∃ x, x = World.setCell wa18 ⟨b, 257, none⟩ (.int .i64 (s.count - 1)) := ⟨_, rfl⟩
  rw [← hw] at hQ hO
  replace HQ := Lib.hid hQ
  replace HO := Lib.hid hO
  have HW := Lib.hid hw
  clear hQ hO hw
  go_wp2
  rw [← HW.out]
  clear HW c f
  go_end0
  refine ⟨rfl, ?_, HO.out⟩
  have h := HQ.out
  unfold cutS
  simp only [hlv, show ((l : Int) + 1 - 1).toNat = l by omega, ha, hf, show (-1 : Int) < 0 by omega, if_true, if_false, and_true, and_false, true_and, false_and, and_self, Int.toNat_natCast]
  exact h
set_option maxHeartbeats 1000000 in
theorem cut_ay (w : World) (b t l : Nat) (s : QS) (ht : t < 64) (hl : l < 32) (hlv : s.level t = l + 1) (ha : s.ahead t = -1) (hf : ∃ z : Nat, z < 64 ∧ s.after t = z) (hc0 : 0 ≤ s.count) (hc1 : s.count < 100000) (h : QAt w b s) :
    Calls Tryd.prog 27 #[.pointer (some ⟨b, 0, none⟩), .int .i64 t] w fun e w' => e = .returned (.tuple #[]) ∧ QAt w' b (cutS s t) ∧ Only b w w' := by
  have HQ := Lib.hid h; clear h
  have HO := Lib.hid (Only.refl b w)
  have t0 : (0 : Int) ≤ (t : Int) := by omega
  have t1 : (t : Int) < 64 := by omega
  have l0 : (0 : Int) ≤ (l : Int) := by omega
  have l1 : (l : Int) < 32 := by omega
  go_enter Tryd.func27, Tryd.ntmps27
  have cl := HQ.out.level t ht
  rw [hlv] at cl
  have ca := HQ.out.ahead t ht
  have cf := HQ.out.after t ht
  rw [ha] at ca
  obtain ⟨y, hy, hf⟩ := hf
  rw [hf] at cf
  have y0 : (0 : Int) ≤ (y : Int) := by omega
  have y1 : (y : Int) < 64 := by omega
  have y2 : ¬ (y : Int) < 0 := by omega
  go_upto_region 1 with fail
  go_region
  replace HQ := Lib.hid HQ.out.drew
  replace HO := Lib.hid HO.out.drew
  generalize w.drew = w0 at HQ HO ⊢
  clear cl ca cf
  go_upto_region 3 with fail
  have c := HQ.out.front l hl
  have f := HQ.out.free (1 + l)
  have hQ := HQ.out.set_front l hl (y : Int)
  try dsimp only at hQ
  have hO := HO.out.setCell (1 + l) (.int .i8 ((y : Int)))
  obtain ⟨wa20, hw⟩ : ∃ x, x = World.setCell w0 ⟨b, 1 + l, none⟩ (.int .i8 ((y : Int))) := ⟨_, rfl⟩
  rw [← hw] at hQ hO
  replace HQ := Lib.hid hQ
  replace HO := Lib.hid hO
  have HW := Lib.hid hw
  clear hQ hO hw
  go_upto_region 7 with fail
  rw [← HW.out]
  clear HW c f
  have c := HQ.out.ahead y hy
  have f := HQ.out.free (65 + y)
  have hQ := HQ.out.set_ahead y hy (-1)
  try dsimp only at hQ
  have hO := HO.out.setCell (65 + y) (.int .i8 (-1))
  obtain ⟨wa21, hw⟩ : ∃ x, x = World.setCell wa20 ⟨b, 65 + y, none⟩ (.int .i8 (-1)) := ⟨_, rfl⟩
  rw [← hw] at hQ hO
  replace HQ := Lib.hid hQ
  replace HO := Lib.hid hO
  have HW := Lib.hid hw
  clear hQ hO hw
  go_upto_region 10 with fail
  rw [← HW.out]
  clear HW c f
  have c := HQ.out.level t ht
  have f := HQ.out.free (193 + t)
  have hQ := HQ.out.set_level t ht 0
  try dsimp only at hQ
  have hO := HO.out.setCell (193 + t) (.int .i8 0)
  obtain ⟨wa22, hw⟩ : ∃ x, x = World.setCell wa21 ⟨b, 193 + t, none⟩ (.int .i8 0) := ⟨_, rfl⟩
  rw [← hw] at hQ hO
  replace HQ := Lib.hid hQ
  replace HO := Lib.hid hO
  have HW := Lib.hid hw
  clear hQ hO hw
  go_upto_region 11 with fail
  rw [← HW.out]
  clear HW c f
  have c := HQ.out.count
  have f := HQ.out.free (257)
  have hQ := HQ.out.set_count (s.count - 1)
  try dsimp only at hQ
  have hO := HO.out.setCell (257) (.int .i64 (s.count - 1))
  obtain ⟨wa23, hw⟩ : ∃ x, x = World.setCell wa22 ⟨b, 257, none⟩ (.int .i64 (s.count - 1)) := ⟨_, rfl⟩
  rw [← hw] at hQ hO
  replace HQ := Lib.hid hQ
  replace HO := Lib.hid hO
  have HW := Lib.hid hw
  clear hQ hO hw
  go_wp2
  rw [← HW.out]
  clear HW c f
  go_end0
  refine ⟨rfl, ?_, HO.out⟩
  have h := HQ.out
  unfold cutS
  simp only [hlv, show ((l : Int) + 1 - 1).toNat = l by omega, ha, hf, show (-1 : Int) < 0 by omega, y2, if_true, if_false, and_true, and_false, true_and, false_and, and_self, Int.toNat_natCast]
  exact h
set_option maxHeartbeats 1000000 in
theorem cut_zf (w : World) (b t l : Nat) (s : QS) (ht : t < 64) (hl : l < 32) (hlv : s.level t = l + 1) (ha : ∃ z : Nat, z < 64 ∧ s.ahead t = z) (hf : s.after t = -1) (hc0 : 0 ≤ s.count) (hc1 : s.count < 100000) (h : QAt w b s) :
    Calls Tryd.prog 27 #[.pointer (some ⟨b, 0, none⟩), .int .i64 t] w fun e w' => e = .returned (.tuple #[]) ∧ QAt w' b (cutS s t) ∧ Only b w w' := by
  have HQ := Lib.hid h; clear h
  have HO := Lib.hid (Only.refl b w)
  have t0 : (0 : Int) ≤ (t : Int) := by omega
  have t1 : (t : Int) < 64 := by omega
  have l0 : (0 : Int) ≤ (l : Int) := by omega
  have l1 : (l : Int) < 32 := by omega
  go_enter Tryd.func27, Tryd.ntmps27
  have cl := HQ.out.level t ht
  rw [hlv] at cl
  have ca := HQ.out.ahead t ht
  have cf := HQ.out.after t ht
  obtain ⟨z, hz, ha⟩ := ha
  rw [ha] at ca
  have z0 : (0 : Int) ≤ (z : Int) := by omega
  have z1 : (z : Int) < 64 := by omega
  have z2 : ¬ (z : Int) < 0 := by omega
  rw [hf] at cf
  go_upto_region 1 with fail
  go_region
  replace HQ := Lib.hid HQ.out.drew
  replace HO := Lib.hid HO.out.drew
  generalize w.drew = w0 at HQ HO ⊢
  clear cl ca cf
  go_upto_region 4 with fail
  have c := HQ.out.after z hz
  have f := HQ.out.free (129 + z)
  have hQ := HQ.out.set_after z hz (-1)
  try dsimp only at hQ
  have hO := HO.out.setCell (129 + z) (.int .i8 (-1))
  obtain ⟨wa24, hw⟩ : ∃ x, x = World.setCell w0 ⟨b, 129 + z, none⟩ (.int .i8 (-1)) := ⟨_, rfl⟩
  rw [← hw] at hQ hO
  replace HQ := Lib.hid hQ
  replace HO := Lib.hid hO
  have HW := Lib.hid hw
  clear hQ hO hw
  go_upto_region 6 with fail
  rw [← HW.out]
  clear HW c f
  have c := HQ.out.back l hl
  have f := HQ.out.free (33 + l)
  have hQ := HQ.out.set_back l hl (z : Int)
  try dsimp only at hQ
  have hO := HO.out.setCell (33 + l) (.int .i8 ((z : Int)))
  obtain ⟨wa25, hw⟩ : ∃ x, x = World.setCell wa24 ⟨b, 33 + l, none⟩ (.int .i8 ((z : Int))) := ⟨_, rfl⟩
  rw [← hw] at hQ hO
  replace HQ := Lib.hid hQ
  replace HO := Lib.hid hO
  have HW := Lib.hid hw
  clear hQ hO hw
  go_upto_region 10 with fail
  rw [← HW.out]
  clear HW c f
  have c := HQ.out.level t ht
  have f := HQ.out.free (193 + t)
  have hQ := HQ.out.set_level t ht 0
  try dsimp only at hQ
  have hO := HO.out.setCell (193 + t) (.int .i8 0)
  obtain ⟨wa26, hw⟩ : ∃ x, x = World.setCell wa25 ⟨b, 193 + t, none⟩ (.int .i8 0) := ⟨_, rfl⟩
  rw [← hw] at hQ hO
  replace HQ := Lib.hid hQ
  replace HO := Lib.hid hO
  have HW := Lib.hid hw
  clear hQ hO hw
  go_upto_region 11 with fail
  rw [← HW.out]
  clear HW c f
  have c := HQ.out.count
  have f := HQ.out.free (257)
  have hQ := HQ.out.set_count (s.count - 1)
  try dsimp only at hQ
  have hO := HO.out.setCell (257) (.int .i64 (s.count - 1))
  obtain ⟨wa27, hw⟩ : ∃ x, x = World.setCell wa26 ⟨b, 257, none⟩ (.int .i64 (s.count - 1)) := ⟨_, rfl⟩
  rw [← hw] at hQ hO
  replace HQ := Lib.hid hQ
  replace HO := Lib.hid hO
  have HW := Lib.hid hw
  clear hQ hO hw
  go_wp2
  rw [← HW.out]
  clear HW c f
  go_end0
  refine ⟨rfl, ?_, HO.out⟩
  have h := HQ.out
  unfold cutS
  simp only [hlv, show ((l : Int) + 1 - 1).toNat = l by omega, ha, hf, show (-1 : Int) < 0 by omega, z2, if_true, if_false, and_true, and_false, true_and, false_and, and_self, Int.toNat_natCast]
  exact h
set_option maxHeartbeats 1000000 in
theorem cut_zy (w : World) (b t l : Nat) (s : QS) (ht : t < 64) (hl : l < 32) (hlv : s.level t = l + 1) (ha : ∃ z : Nat, z < 64 ∧ s.ahead t = z) (hf : ∃ z : Nat, z < 64 ∧ s.after t = z) (hc0 : 0 ≤ s.count) (hc1 : s.count < 100000) (h : QAt w b s) :
    Calls Tryd.prog 27 #[.pointer (some ⟨b, 0, none⟩), .int .i64 t] w fun e w' => e = .returned (.tuple #[]) ∧ QAt w' b (cutS s t) ∧ Only b w w' := by
  have HQ := Lib.hid h; clear h
  have HO := Lib.hid (Only.refl b w)
  have t0 : (0 : Int) ≤ (t : Int) := by omega
  have t1 : (t : Int) < 64 := by omega
  have l0 : (0 : Int) ≤ (l : Int) := by omega
  have l1 : (l : Int) < 32 := by omega
  go_enter Tryd.func27, Tryd.ntmps27
  have cl := HQ.out.level t ht
  rw [hlv] at cl
  have ca := HQ.out.ahead t ht
  have cf := HQ.out.after t ht
  obtain ⟨z, hz, ha⟩ := ha
  rw [ha] at ca
  have z0 : (0 : Int) ≤ (z : Int) := by omega
  have z1 : (z : Int) < 64 := by omega
  have z2 : ¬ (z : Int) < 0 := by omega
  obtain ⟨y, hy, hf⟩ := hf
  rw [hf] at cf
  have y0 : (0 : Int) ≤ (y : Int) := by omega
  have y1 : (y : Int) < 64 := by omega
  have y2 : ¬ (y : Int) < 0 := by omega
  go_upto_region 1 with fail
  go_region
  replace HQ := Lib.hid HQ.out.drew
  replace HO := Lib.hid HO.out.drew
  generalize w.drew = w0 at HQ HO ⊢
  clear cl ca cf
  go_upto_region 4 with fail
  have c := HQ.out.after z hz
  have f := HQ.out.free (129 + z)
  have hQ := HQ.out.set_after z hz (y : Int)
  try dsimp only at hQ
  have hO := HO.out.setCell (129 + z) (.int .i8 ((y : Int)))
  obtain ⟨wa28, hw⟩ : ∃ x, x = World.setCell w0 ⟨b, 129 + z, none⟩ (.int .i8 ((y : Int))) := ⟨_, rfl⟩
  rw [← hw] at hQ hO
  replace HQ := Lib.hid hQ
  replace HO := Lib.hid hO
  have HW := Lib.hid hw
  clear hQ hO hw
  go_upto_region 7 with fail
  rw [← HW.out]
  clear HW c f
  have c := HQ.out.ahead y hy
  have f := HQ.out.free (65 + y)
  have hQ := HQ.out.set_ahead y hy (z : Int)
  try dsimp only at hQ
  have hO := HO.out.setCell (65 + y) (.int .i8 ((z : Int)))
  obtain ⟨wa29, hw⟩ : ∃ x, x = World.setCell wa28 ⟨b, 65 + y, none⟩ (.int .i8 ((z : Int))) := ⟨_, rfl⟩
  rw [← hw] at hQ hO
  replace HQ := Lib.hid hQ
  replace HO := Lib.hid hO
  have HW := Lib.hid hw
  clear hQ hO hw
  go_upto_region 10 with fail
  rw [← HW.out]
  clear HW c f
  have c := HQ.out.level t ht
  have f := HQ.out.free (193 + t)
  have hQ := HQ.out.set_level t ht 0
  try dsimp only at hQ
  have hO := HO.out.setCell (193 + t) (.int .i8 0)
  obtain ⟨wa30, hw⟩ : ∃ x, x = World.setCell wa29 ⟨b, 193 + t, none⟩ (.int .i8 0) := ⟨_, rfl⟩
  rw [← hw] at hQ hO
  replace HQ := Lib.hid hQ
  replace HO := Lib.hid hO
  have HW := Lib.hid hw
  clear hQ hO hw
  go_upto_region 11 with fail
  rw [← HW.out]
  clear HW c f
  have c := HQ.out.count
  have f := HQ.out.free (257)
  have hQ := HQ.out.set_count (s.count - 1)
  try dsimp only at hQ
  have hO := HO.out.setCell (257) (.int .i64 (s.count - 1))
  obtain ⟨wa31, hw⟩ : ∃ x, x = World.setCell wa30 ⟨b, 257, none⟩ (.int .i64 (s.count - 1)) := ⟨_, rfl⟩
  rw [← hw] at hQ hO
  replace HQ := Lib.hid hQ
  replace HO := Lib.hid hO
  have HW := Lib.hid hw
  clear hQ hO hw
  go_wp2
  rw [← HW.out]
  clear HW c f
  go_end0
  refine ⟨rfl, ?_, HO.out⟩
  have h := HQ.out
  unfold cutS
  simp only [hlv, show ((l : Int) + 1 - 1).toNat = l by omega, ha, hf, z2, y2, if_true, if_false, and_true, and_false, true_and, false_and, and_self, Int.toNat_natCast]
  exact h
theorem cut_any (w : World) (b t l : Nat) (s : QS) (ht : t < 64) (hl : l < 32) (hlv : s.level t = l + 1) (ha : s.ahead t = -1 ∨ ∃ z : Nat, z < 64 ∧ s.ahead t = z) (hf : s.after t = -1 ∨ ∃ z : Nat, z < 64 ∧ s.after t = z) (hc0 : 0 ≤ s.count) (hc1 : s.count < 100000) (h : QAt w b s) :
    Calls Tryd.prog 27 #[.pointer (some ⟨b, 0, none⟩), .int .i64 t] w fun e w' => e = .returned (.tuple #[]) ∧ QAt w' b (cutS s t) ∧ Only b w w' := by
  rcases ha with ha | ha <;> rcases hf with hf | hf
  · exact cut_af w b t l s ht hl hlv ha hf hc0 hc1 h
  · exact cut_ay w b t l s ht hl hlv ha hf hc0 hc1 h
  · exact cut_zf w b t l s ht hl hlv ha hf hc0 hc1 h
  · exact cut_zy w b t l s ht hl hlv ha hf hc0 hc1 h
end Go.Proofs.YtdfadggdegojnaaDoor
