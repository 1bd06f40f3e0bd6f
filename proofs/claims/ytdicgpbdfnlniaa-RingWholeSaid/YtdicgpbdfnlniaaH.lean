/- great: is there more than is played? -/
import Derived.Test.YtdicgpbdfnlniaaScript
import Derived.Test.YtdicgpbdfnlniaaF
namespace Go.Proofs.Ytdicgpbdfnlniaa
open Go.RowKit
set_option linter.unusedVariables false
set_option maxRecDepth 100000
def sumT (T : Nat → List UInt8) (k : Nat) : Nat := ((List.range k).map fun j => (T j).length).sum
theorem sumT_zero (T : Nat → List UInt8) : sumT T 0 = 0 := by unfold sumT; rfl
theorem sumT_succ (T : Nat → List UInt8) (k : Nat) : sumT T (k + 1) = sumT T k + (T k).length := by
  unfold sumT
  rw [List.range_succ, List.map_append, List.sum_append]; simp
/-- What great answers. -/
def GP (T : Nat → List UInt8) (n : Nat) (w : World) (e : Ending) (w' : World) : Prop := ∃ b : Bool, e = .returned (.bool b) ∧ Grow w w' ∧ (b = false → n ≤ 300 ∧ sumT T n ≤ 32768)
attribute [local irreducible] sumT GP
set_option maxHeartbeats 2000000 in
theorem great_any (w : World) (A : Option Addr) (n cap : Nat) (K V : Nat → Int) (T : Nat → List UInt8) (hcap : n ≤ cap) (hmx : cap ≤ maxLen) (hM : ScriptAt w A n K V T) : Calls Try.prog 10 #[.slice A n cap] w fun e w' => GP T n w e w' := by
  have hnm : (n : Int) ≤ 9223372036854775807 := by unfold maxLen at hmx; omega
  clear hmx
  have HM := Lib.hid hM; clear hM
  by_cases hbig : 300 < n
  · go_enter Try.func10, Try.ntmps10
    go_wp2_with fail
    go_loopw [10, 3] (fun i s wr => ∃ k : Nat, k ≤ n ∧ i = .int .i64 k ∧ (∃ x : Int, s = .int .i64 x) ∧ Grow w wr) (fun i _ _ => n - (intOf i).toNat)
    case atStart => exact ⟨0, by omega, rfl, ⟨_, rfl⟩, Grow.refl _⟩
    case round =>
      obtain ⟨k, hk, rfl, ⟨s0, rfl⟩, hgr⟩ := hrel
      have HGr := Lib.hid hgr; clear hgr
      by_cases hlt : k < n
      · obtain ⟨a, hA, hm⟩ := (HM.out.grow HGr.out) (by omega)
        obtain ⟨m0, m1, m2⟩ := hm k hlt
        rw [hA]
        clear hm hA
        have k0 : (0 : Int) ≤ (k : Int) := by omega
        have kn : (k : Int) < (n : Int) := by omega
        have HGA := Lib.hid (HGr.out.trans (Grow.alloc wr (.cells #[.int .i64 (K k), .int .i64 (V k), .string ⟨(T k).toArray⟩] 35)))
        by_cases hle : (T k).length ≤ 65536
        · have hmn : ((T k).length : Int) ≤ 65536 := by omega
          obtain ⟨y, hy⟩ : ∃ y : Int, IntKind.i64.wrap (s0 + ((T k).length : Int)) = y := ⟨_, rfl⟩
          by_cases hb : (32768 : Int) < y
          · go_wp2
            go_ret
            unfold GP; exact ⟨true, rfl, HGA.out, fun h => by cases h⟩
          · go_wp2_with fail
            go_roundw
            case rel => exact ⟨k + 1, by omega, by go_num, ⟨_, rfl⟩, HGA.out⟩
            case measure => simp [intOf]; omega
        · have hmn : ¬ ((T k).length : Int) ≤ 65536 := by omega
          obtain ⟨y, hy⟩ : ∃ y : Int, IntKind.i64.wrap (s0 + 65536) = y := ⟨_, rfl⟩
          by_cases hb : (32768 : Int) < y
          · go_wp2
            go_ret
            unfold GP; exact ⟨true, rfl, HGA.out, fun h => by cases h⟩
          · go_wp2_with fail
            go_roundw
            case rel => exact ⟨k + 1, by omega, by go_num, ⟨_, rfl⟩, HGA.out⟩
            case measure => simp [intOf]; omega
      · have kn : ¬ (k : Int) < (n : Int) := by omega
        have g2 : (300 : Int) < (n : Int) := by omega
        by_cases g1 : (32768 : Int) < s0
        · go_wp2
          go_ret
          unfold GP; exact ⟨true, rfl, HGr.out, fun h => by cases h⟩
        · go_wp2
          go_ret
          unfold GP; exact ⟨true, rfl, HGr.out, fun h => by cases h⟩
  · go_enter Try.func10, Try.ntmps10
    go_wp2_with fail
    go_loopw [10, 3] (fun i s wr => ∃ k : Nat, k ≤ n ∧ i = .int .i64 k ∧ (∃ x : Nat, s = .int .i64 x ∧ x = n + sumT T k ∧ (0 < k → x ≤ 32768)) ∧ Grow w wr) (fun i _ _ => n - (intOf i).toNat)
    case atStart => exact ⟨0, by omega, rfl, ⟨n, rfl, by rw [sumT_zero]; rfl, fun h => by omega⟩, Grow.refl _⟩
    case round =>
      obtain ⟨k, hk, rfl, ⟨s0, rfl, hs0, hs1⟩, hgr⟩ := hrel
      have HGr := Lib.hid hgr; clear hgr
      have HS0 := Lib.hid hs0; clear hs0
      have hs2 : s0 ≤ 32768 := by
        rcases Nat.eq_zero_or_pos k with h1 | h1
        · subst h1; have := HS0.out; rw [sumT_zero] at this; omega
        · exact hs1 h1
      clear hs1
      by_cases hlt : k < n
      · obtain ⟨a, hA, hm⟩ := (HM.out.grow HGr.out) (by omega)
        obtain ⟨m0, m1, m2⟩ := hm k hlt
        rw [hA]
        clear hm hA
        have k0 : (0 : Int) ≤ (k : Int) := by omega
        have kn : (k : Int) < (n : Int) := by omega
        have HGA := Lib.hid (HGr.out.trans (Grow.alloc wr (.cells #[.int .i64 (K k), .int .i64 (V k), .string ⟨(T k).toArray⟩] 35)))
        by_cases hle : (T k).length ≤ 65536
        · have hmn : ((T k).length : Int) ≤ 65536 := by omega
          obtain ⟨y, hy⟩ : ∃ y : Nat, y = s0 + (T k).length := ⟨_, rfl⟩
          have e1 : IntKind.i64.wrap ((s0 : Int) + ((T k).length : Int)) = (y : Int) := by rw [IntKind.wrap_i64]; omega
          by_cases hb : (32768 : Int) < (y : Int)
          · have HY := Lib.hid hy; clear hy
            go_wp2
            go_ret
            unfold GP; exact ⟨true, rfl, HGA.out, fun h => by cases h⟩
          · have HY := Lib.hid hy; clear hy
            go_wp2_with fail
            go_roundw
            case rel => exact ⟨k + 1, by omega, by go_num, ⟨y, rfl, by have := HY.out; have := HS0.out; rw [sumT_succ]; omega, fun _ => by omega⟩, HGA.out⟩
            case measure => simp [intOf]; omega
        · have hmn : ¬ ((T k).length : Int) ≤ 65536 := by omega
          obtain ⟨y, hy⟩ : ∃ y : Nat, y = s0 + 65536 := ⟨_, rfl⟩
          have e1 : IntKind.i64.wrap ((s0 : Int) + 65536) = (y : Int) := by rw [IntKind.wrap_i64]; omega
          by_cases hb : (32768 : Int) < (y : Int)
          · have HY := Lib.hid hy; clear hy
            go_wp2
            go_ret
            unfold GP; exact ⟨true, rfl, HGA.out, fun h => by cases h⟩
          · have HY := Lib.hid hy; clear hy
            go_wp2_with fail
            go_roundw
            case rel => exact absurd HY.out (by omega)
            case measure => simp [intOf]; omega
      · have kn : ¬ (k : Int) < (n : Int) := by omega
        have hkn : k = n := by omega
        have g1 : ¬ (32768 : Int) < (s0 : Int) := by omega
        have g2 : ¬ (300 : Int) < (n : Int) := by omega
        go_wp2
        go_ret
        unfold GP; exact ⟨false, rfl, HGr.out, fun _ => ⟨by omega, by have := HS0.out; rw [hkn] at this; omega⟩⟩
end Go.Proofs.Ytdicgpbdfnlniaa
