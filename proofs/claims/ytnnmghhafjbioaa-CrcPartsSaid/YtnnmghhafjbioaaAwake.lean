/- The walk of awake: the answers that the document fixes are given. -/
import Derived.Test.YtnnmghhafjbioaaSpoil
namespace Go.Proofs.Ytnnmghhafjbioaa
open Go.RowKit

theorem aw_sum : CrcP.Sum [49, 50, 51, 52, 53, 54, 55, 56, 57] = 0xcbf43926#32 := by decide +kernel
theorem aw_zero : holdsB [0, 0, 0, 0] = true := by decide +kernel
theorem aw_bytes : CrcP.bytes 1#32 = [1, 0, 0, 0] := by decide +kernel
theorem aw_join : CrcP.shN (8 * 5) (CrcP.Sum [49, 50, 51, 52]) ^^^ CrcP.Sum [53, 54, 55, 56, 57] = 0xcbf43926#32 := by decide +kernel

attribute [local irreducible] CrcP.shN tab zeros tw mat CrcP.Sum holdsB CrcP.bytes

theorem make_ok (w : World) : Calls Try.prog 11 #[] w fun e w' => e = .returned (.pointer (some ⟨w.heap.size, 0, none⟩)) ∧ Ok w w.heap.size w' :=
  (make_any w).mono fun _ _ ⟨he, hw⟩ => ⟨he, by
    subst hw
    refine ⟨fun i hi => ?_, by simp, (Below.refl _ _).alloc (Nat.le_refl _) _⟩
    rw [World.cell?_alloc_mark]
    simp [tab, hi]⟩

theorem sum_two {w0 : World} (w : World) (b pb cap : Nat) (h : Ok w0 b w) (h0 : w.cell? ⟨pb, 0, none⟩ = some (.string ⟨#[49, 50, 51, 52]⟩)) (h1 : w.cell? ⟨pb, 1, none⟩ = some (.string ⟨#[53, 54, 55, 56, 57]⟩)) :
    Calls Try.prog 12 #[.pointer (some ⟨b, 0, none⟩), .slice (some ⟨pb, 0, none⟩) 2 cap] w fun e w' => e = .returned (.int .u32 3421780262) ∧ Ok w0 b w' :=
  (sum_any w b pb 0 cap [⟨#[49, 50, 51, 52]⟩, ⟨#[53, 54, 55, 56, 57]⟩] h.1 (fun i hi => by
      match i, hi with
      | 0, _ => simpa using h0
      | 1, _ => simpa using h1) (by simp) (fun i hi => by
      match i, hi with
      | 0, _ => decide
      | 1, _ => decide)).mono fun _ _ ⟨he, n, hn⟩ => ⟨by
    rw [he]
    have e : CrcP.Sum (List.flatMap (fun s => s.data.toList) [(⟨#[49, 50, 51, 52]⟩ : ByteArray), ⟨#[53, 54, 55, 56, 57]⟩]) = 0xcbf43926#32 := aw_sum
    rw [e]; rfl, by rw [hn]; exact h.drewN n⟩
theorem sum_none_ok {w0 : World} (w : World) (b : Nat) (h : Ok w0 b w) : Calls Try.prog 12 #[.pointer (some ⟨b, 0, none⟩), .slice none 0 0] w fun e w' => e = .returned (.int .u32 0) ∧ Ok w0 b w' :=
  (sum_none w b).mono fun _ _ ⟨he, hw⟩ => ⟨he, by rw [hw]; exact h⟩
theorem holds_zero {w0 : World} (w : World) (b : Nat) (h : Ok w0 b w) : Calls Try.prog 14 #[.pointer (some ⟨b, 0, none⟩), .string ⟨#[0, 0, 0, 0]⟩] w fun e w' => e = .returned (.bool true) ∧ Ok w0 b w' :=
  (holds_ok w b ⟨#[0, 0, 0, 0]⟩ (by decide) h).mono fun _ _ ⟨he, hw⟩ => ⟨by rw [he]; exact congrArg (fun b => Ending.returned (.bool b)) aw_zero, hw⟩
theorem bytes_one {w0 : World} {b : Nat} (w : World) (h : Ok w0 b w) : Calls Try.prog 16 #[.int .u32 1] w fun e w' => e = .returned (.string ⟨#[1, 0, 0, 0]⟩) ∧ Ok w0 b w' :=
  (bytes_ok w 1#32 h).mono fun _ _ ⟨he, hw⟩ => ⟨by rw [he, aw_bytes], hw⟩
theorem join_five {w0 : World} {b : Nat} (w : World) (h : Ok w0 b w) : Calls Try.prog 18 #[.int .u32 (CrcP.Sum [49, 50, 51, 52]).toNat, .int .u32 (CrcP.Sum [53, 54, 55, 56, 57]).toNat, .int .i64 5] w fun e w' => e = .returned (.int .u32 3421780262) ∧ Ok w0 b w' :=
  (join_ok w _ _ 5 (by decide) (by decide) h).mono fun _ _ ⟨he, hw⟩ => ⟨by
    rw [he]
    have e : CrcP.shN (8 * (5 : Int).toNat) (CrcP.Sum [49, 50, 51, 52]) ^^^ CrcP.Sum [53, 54, 55, 56, 57] = 0xcbf43926#32 := aw_join
    rw [e]; rfl, hw⟩
theorem sum_lit {w0 : World} (w : World) (b pb cap : Nat) (s : ByteArray) (l : List UInt8) (hl : s.data.toList = l) (h : Ok w0 b w) (hc : w.cell? ⟨pb, 0, none⟩ = some (.string s)) (hs : (s.size : Int) ≤ 9223372036854775807) :
    Calls Try.prog 12 #[.pointer (some ⟨b, 0, none⟩), .slice (some ⟨pb, 0, none⟩) 1 cap] w fun e w' => e = .returned (.int .u32 (CrcP.Sum l).toNat) ∧ Ok w0 b w' := by
  subst hl; exact sum_ok w b pb cap s h hc hs

set_option maxRecDepth 100000 in
theorem awake_any (w : World) : Calls Try.prog 10 #[] w fun e w' => e = .returned (.bool true) ∧ Below w.heap.size w w' := by
  go_enter Try.func10, Try.ntmps10
  go_wp2_with fail
  refine (make_ok w).mono ?_
  rintro e w1 ⟨rfl, hok1⟩
  generalize w.heap.size = b at *
  go_wp2_with fail
  refine (sum_two (w0 := w) _ b _ _ (Ok.alloc hok1 _) (World.cell?_alloc_mark _ _ _ _ _) (World.cell?_alloc_mark _ _ _ _ _)).mono ?_
  rintro e w2 ⟨rfl, hok2⟩
  clear hok1
  go_wp2_with fail
  refine (sum_none_ok (w0 := w) _ b hok2).mono ?_
  rintro e w3 ⟨rfl, hok3⟩
  clear hok2
  go_wp2_with fail
  refine (holds_zero (w0 := w) _ b hok3).mono ?_
  rintro e w4 ⟨rfl, hok4⟩
  clear hok3
  go_wp2_with fail
  refine (bytes_one (w0 := w) (b := b) _ hok4).mono ?_
  rintro e w5 ⟨rfl, hok5⟩
  clear hok4
  go_wp2_with fail
  refine (sum_lit (w0 := w) _ b _ _ _ [49, 50, 51, 52] rfl (Ok.alloc hok5 _) (World.cell?_alloc_mark _ _ _ _ _) (by decide)).mono ?_
  rintro e w6 ⟨rfl, hok6⟩
  clear hok5
  go_wp2_with fail
  refine (sum_lit (w0 := w) _ b _ _ _ [53, 54, 55, 56, 57] rfl (Ok.alloc hok6 _) (World.cell?_alloc_mark _ _ _ _ _) (by decide)).mono ?_
  rintro e w7 ⟨rfl, hok7⟩
  clear hok6
  go_wp2_with fail
  refine (join_five (w0 := w) (b := b) _ hok7).mono ?_
  rintro e w8 ⟨rfl, hok8⟩
  clear hok7
  go_wp2
  go_ret
  exact ⟨rfl, hok8.2.2⟩
end Go.Proofs.Ytnnmghhafjbioaa
