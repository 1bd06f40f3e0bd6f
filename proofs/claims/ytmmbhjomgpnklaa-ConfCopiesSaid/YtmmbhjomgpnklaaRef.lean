/- The walks of the reference's Has, In and Form. -/
import Derived.Test.YtmmbhjomgpnklaaIsa
import Derived.Lib.Hide
namespace Go.Proofs.Ytmmbhjomgpnklaa
open Go.RowKit
attribute [local irreducible] hasA hasB hasC hasD hasK bitsOf regP

/-- The letters of the fields that an instruction has. -/
def hasStr (op : Int) : ByteArray :=
  if op = 2 then ⟨#[65, 66]⟩ else if 3 ≤ op ∧ op ≤ 14 then ⟨#[65, 66, 67]⟩ else if op = 15 ∨ op = 16 then ⟨#[65, 66, 75]⟩ else if op = 17 ∨ op = 20 then ⟨#[75]⟩ else if 23 ≤ op ∧ op ≤ 25 then ⟨#[65]⟩
  else if op = 27 ∨ op = 28 then ⟨#[65, 66, 67, 68, 75]⟩ else if op = 29 then ⟨#[65, 67, 75]⟩ else if op = 33 then ⟨#[65, 67, 68, 75]⟩ else if op = 34 then ⟨#[65, 67]⟩
  else if op = 1 ∨ op = 18 ∨ op = 19 ∨ op = 21 ∨ op = 22 ∨ op = 26 ∨ op = 30 ∨ op = 31 ∨ op = 32 then ⟨#[65, 75]⟩ else ⟨#[]⟩
theorem ret_str {a b : ByteArray} (h : a = b) : Ending.returned (.string a) = .returned (.string b) := by rw [h]
set_option maxRecDepth 100000 in
theorem has_any (op : Int) (w : World) : Calls Try.prog 38 #[.int .i64 op] w fun e w' => e = .returned (.string (hasStr op)) ∧ w' = w := by
  go_enter Try.func38, Try.ntmps38
  go_wp2
  all_goals
    go_ret
    refine ⟨ret_str ?_, rfl⟩
    unfold hasStr
    grind
def within (s : ByteArray) (c : UInt8) (k : Nat) : Bool := (s.data.toList.take k).contains c
set_option maxRecDepth 100000 in
theorem in_any (s : ByteArray) (c : UInt8) (hs : (s.size : Int) ≤ 9223372036854775807) (w : World) : Calls Try.prog 39 #[.string s, .int .u8 c.toNat] w fun e w' => e = .returned (.bool (s.data.toList.contains c)) ∧ w' = w := by
  go_enter Try.func39, Try.ntmps39
  go_wp2_with fail
  go_loopw [5] (fun i wr => wr = w ∧ ∃ k : Nat, k ≤ s.size ∧ i = .int .i64 k ∧ ¬ c ∈ s.data.toList.take k) (fun i _ => s.size - (intOf i).toNat)
  case atStart => exact ⟨rfl, 0, by omega, rfl, by simp⟩
  case round =>
    obtain ⟨rfl, k, hk, rfl, hno⟩ := hrel
    have HN := Lib.hid hno; clear hno
    by_cases hlt : k < s.size
    · have hts : s.data.toList.take (k + 1) = s.data.toList.take k ++ [s[k]] := by
        rw [List.take_succ_eq_append_getElem (by simpa using hlt)]; rfl
      by_cases hb : s[k] = c
      · have HY : Hid (s.data.toList.contains c = true) := Lib.hid (by
          rw [List.contains_iff_mem]
          refine List.mem_of_mem_take (i := k + 1) ?_
          rw [hts, hb]; simp)
        subst hb
        clear hts
        go_wp2
        go_ret
        exact ⟨by rw [HY.out]; rfl, rfl⟩
      · have hne : ((s[k].toNat : Int) == (c.toNat : Int)) = false := by
          rw [beq_eq_false_iff_ne]
          intro e
          exact hb (UInt8.toNat_inj.1 (by omega))
        have HN2 : Hid (¬ c ∈ s.data.toList.take (k + 1)) := Lib.hid (by
          rw [hts]
          simp only [List.mem_append, List.mem_singleton, not_or]
          exact ⟨HN.out, fun e => hb e.symm⟩)
        clear hts
        go_wp2
        go_roundw
        case rel => exact ⟨trivial, k + 1, by omega, by go_num, HN2.out⟩
        case measure => simp [intOf]; omega
    · have HK : Hid (s.data.toList.contains c = false) := Lib.hid (by
        have h2 := HN.out
        rw [List.take_of_length_le (by simp; omega)] at h2
        simpa using h2)
      go_wp2
      go_ret
      exact ⟨by rw [HK.out]; rfl, rfl⟩
theorem hasStr_size (op : Int) : ((hasStr op).size : Int) ≤ 9223372036854775807 := by
  unfold hasStr
  repeat' split
  all_goals decide
theorem letters (op : Int) : (hasStr op).data.toList.contains 65 = hasA op ∧ (hasStr op).data.toList.contains 66 = hasB op ∧ (hasStr op).data.toList.contains 67 = hasC op ∧ (hasStr op).data.toList.contains 68 = hasD op ∧ (hasStr op).data.toList.contains 75 = hasK op := by
  unfold hasStr hasA hasB hasC hasD hasK
  repeat' split
  all_goals (refine ⟨?_, ?_, ?_, ?_, ?_⟩ <;> simp <;> omega)
/-- Is a letter among those of an instruction's fields? -/
def letter (op c : Int) : Bool := (hasStr op).data.toList.contains (UInt8.ofNat c.toNat)
theorem letter_A (op : Int) : letter op 65 = hasA op := (letters op).1
theorem letter_B (op : Int) : letter op 66 = hasB op := (letters op).2.1
theorem letter_C (op : Int) : letter op 67 = hasC op := (letters op).2.2.1
theorem letter_D (op : Int) : letter op 68 = hasD op := (letters op).2.2.2.1
theorem letter_K (op : Int) : letter op 75 = hasK op := (letters op).2.2.2.2
theorem in_letter (op c : Int) (h0 : 0 ≤ c) (h1 : c < 256) (w : World) : Calls Try.prog 39 #[.string (hasStr op), .int .u8 c] w fun e w' => e = .returned (.bool (letter op c)) ∧ w' = w := by
  have h : c = ((UInt8.ofNat c.toNat).toNat : Int) := by
    rw [UInt8.toNat_ofNat_of_lt' (by show c.toNat < 256; omega)]; omega
  have := in_any (hasStr op) (UInt8.ofNat c.toNat) (hasStr_size op) w
  rw [← h] at this
  exact this
end Go.Proofs.Ytmmbhjomgpnklaa
