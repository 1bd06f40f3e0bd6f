/- Texts of the proof, merged: Frame, RefNum, Header, FRead. -/
import Derived.Test.YtnhmdinpfcoebaaGreatDoorM08
import Derived.Test.YtnhmdinpfcoebaaGreatDoorM14
/-! === Frame -/
section
/- A frame's words and sums, its marker: the walks. -/
namespace Go.Proofs.YtnhmdinpfcoebaaGreatDoor
open Go.RowKit
set_option linter.unusedVariables false
set_option linter.unusedSimpArgs false
set_option maxRecDepth 100000

def TabAt (w : World) (b : Nat) : Prop := w.heap[b]? = some (.cells (tab 256) 90 (0, 0))
theorem TabAt.is {w : World} {b : Nat} (h : TabAt w b) : IsTab w b := fun i hi => by
  rw [cell_block h i]
  simp [tab, hi]
theorem TabAt.grow {w w' : World} {b : Nat} (h : TabAt w b) (hg : Grow w w') : TabAt w' b := hg.at h
theorem TabAt.only {w w' : World} {b r : Nat} (h : TabAt w b) (ho : Only r w w') (hne : b ≠ r) : TabAt w' b := ho.at hne h
theorem tab_ne_rd {w : World} {b r p : Nat} {s : ByteArray} (h : TabAt w b) (h2 : RdAt w r s p) : b ≠ r := ty_ne h h2.1 (by decide)
attribute [local irreducible] GotR tab tw
/-- The error of what is got; 0: none. -/
def errOf {α : Type} (x : Top.Got α) : Nat := match x with
  | .yes _ _ => 0
  | .no e => e
theorem septL_err : ∀ (c : Nat) (l : Top.Bytes) (k n e : Nat), Top.septL c l k n = .no e → e = 2 ∨ e = 3
  | 0, l, k, n, e, h => by simp [Top.septL] at h
  | c + 1, [], k, n, e, h => by simp [Top.septL] at h; omega
  | c + 1, b :: t, k, n, e, h => by
    rw [Top.septL] at h
    split at h
    · injection h with h; omega
    · exact septL_err c t _ _ e h
theorem sept_err {c : Nat} {l : Top.Bytes} {e : Nat} (h : Top.septP c l = .no e) : e ≠ 0 := by
  have := septL_err c l 0 0 e h; omega
theorem wordP_err {l : Top.Bytes} {e : Nat} (h : Top.wordP l = .no e) : e ≠ 0 := by
  rcases Top.okP_no h with h1 | ⟨a, k, _, h1⟩
  · exact sept_err h1
  · split at h1
    · injection h1 with h1; omega
    · cases h1
theorem wordP_le {l : Top.Bytes} {n k : Nat} (h : Top.wordP l = .yes n k) : n ≤ 4294967295 := by
  obtain ⟨a, _, h1⟩ := Top.okP_yes h
  split at h1
  · cases h1
  · injection h1 with h1; unfold Top.W32 at *; omega
theorem sumP_err {o l : Top.Bytes} {e : Nat} (h : Top.sumP o l = .no e) : e ≠ 0 := by
  rcases Top.okP_no h with h1 | ⟨a, k, _, h1⟩
  · exact wordP_err h1
  · split at h1
    · cases h1
    · injection h1 with h1; omega
set_option maxHeartbeats 1000000 in
theorem word_any (w : World) (b : Nat) (s : ByteArray) (p : Nat) (h : RdAt w b s p) : Calls Tryz.prog 102 #[.pointer (some ⟨b, 0, none⟩)] w fun e w' =>
    GotR (Top.wordP (rest s p)) e w' (fun n k e w' => e = .returned (.tuple #[.int .u32 n, .int .i64 0]) ∧ RdAt w' b s (p + k)) (fun er e w' => e = .returned (.tuple #[.int .u32 0, .int .i64 er]) ∧ ∃ q, RdAt w' b s q) ∧ Only b w w' := by
  have H := Lib.hid h
  clear h
  go_enter Tryz.func102, Tryz.ntmps102
  go_wp2_with fail
  refine (sget_any _ b s p 5 H.out (by decide) (by decide)).mono ?_
  rintro e w2 ⟨hq, ho⟩
  have HO := Lib.hid ho; clear ho
  cases hx : Top.septP 5 (rest s p) with
  | yes n k =>
    obtain ⟨rfl, hr⟩ := hq.is_yes hx
    have HR := Lib.hid hr; clear hr
    by_cases hm : 4294967295 < n
    · have hmi : (4294967295 : Int) < (n : Int) := by omega
      have HX := Lib.hid (show Top.wordP (rest s p) = .no 5 by unfold Top.wordP Top.okP; rw [hx]; simp only; rw [if_pos (show Top.W32 < n from hm)]); clear hx hq
      go_wp2_with fail
      go_ret2
      exact ⟨GotR.mkN HX.out ⟨rfl, _, HR.out⟩, HO.out⟩
    · have hmi : ¬ (4294967295 : Int) < (n : Int) := by omega
      have hmj : (n : Int) ≤ 4294967295 := by omega
      have HX := Lib.hid (show Top.wordP (rest s p) = .yes n k by unfold Top.wordP Top.okP; rw [hx]; simp only; rw [if_neg (show ¬ Top.W32 < n from hm)]); clear hx hq
      go_wp2_with fail
      go_ret2
      exact ⟨GotR.mkY HX.out ⟨rfl, HR.out⟩, HO.out⟩
  | no er =>
    obtain ⟨rfl, hr⟩ := hq.is_no hx
    have HR := Lib.hid hr; clear hr
    have hne := sept_err hx
    have hne2 : ¬ (er : Int) = 0 := by omega
    have HX := Lib.hid (show Top.wordP (rest s p) = .no er by unfold Top.wordP Top.okP; rw [hx]); clear hx hq
    go_wp2_with fail
    go_ret2
    exact ⟨GotR.mkN HX.out ⟨rfl, _, HR.out⟩, HO.out⟩
theorem flat_one (of : ByteArray) : ([of].flatMap fun s => s.data.toList) = of.data.toList := by simp
set_option maxHeartbeats 1000000 in
theorem sum_any (w : World) (tb b : Nat) (s of : ByteArray) (p : Nat) (h : RdAt w b s p) (ht : TabAt w tb) (hof : of.size < 2 ^ 62) : Calls Tryz.prog 72 #[.pointer (some ⟨tb, 0, none⟩), .pointer (some ⟨b, 0, none⟩), .string of] w fun e w' =>
    e = .returned (.int .i64 (errOf (Top.sumP of.data.toList (rest s p)))) ∧ (∃ q, RdAt w' b s q ∧ ∀ u k, Top.sumP of.data.toList (rest s p) = .yes u k → q = p + k) ∧ Only b w w' := by
  have H := Lib.hid h
  have HT := Lib.hid ht
  have HNE := Lib.hid (tab_ne_rd ht h)
  clear h ht
  go_enter Tryz.func72, Tryz.ntmps72
  go_wp2_with fail
  refine (word_any _ b s p H.out).mono ?_
  rintro e w2 ⟨hq, ho⟩
  have HO := Lib.hid ho; clear ho
  cases hx : Top.wordP (rest s p) with
  | yes n k =>
    obtain ⟨rfl, hr⟩ := hq.is_yes hx
    have HR := Lib.hid hr; clear hr
    have HT2 := Lib.hid ((HT.out.only HO.out HNE.out).grow (Grow.alloc w2 (.cells #[.string of] 9)))
    have HB := Lib.hid (heapAt_alloc_new w2 (.cells #[.string of] 9))
    have HG := Lib.hid (Grow.alloc w2 (.cells #[.string of] 9))
    have HL := Lib.hid hof; clear hof
    go_wp2_with fail
    refine (csum_any _ tb w2.heap.size 0 1 [of] HT2.out.is (by
      intro i hi
      have : i = 0 := by simpa using hi
      subst this
      exact cell_block HB.out 0) (by simp) (by
      intro i hi
      have : i = 0 := by simpa using hi
      subst this
      have := HL.out
      show (of.size : Int) ≤ _
      omega)).mono ?_
    rintro _ w3 ⟨rfl, nd, rfl⟩
    rw [flat_one]
    have HX := Lib.hid (show ∀ u k2, Top.sumP of.data.toList (rest s p) = .yes u k2 → p + k = p + k2 by intro u k2 hy; obtain ⟨a, h1, h2⟩ := Top.okP_yes hy; rw [hx] at h1; injection h1 with _ h1; subst h1; rfl)
    by_cases he : n = (CrcP.Sum of.data.toList).toNat
    · have HE := Lib.hid (show Top.sumP of.data.toList (rest s p) = .yes () k by unfold Top.sumP Top.okP; rw [hx]; simp only; rw [if_pos he])
      have hen : ((n : Int) != ((CrcP.Sum of.data.toList).toNat : Int)) = false := by rw [he]; simp
      clear he hx hq
      generalize (CrcP.Sum of.data.toList).toNat = m at hen ⊢
      go_wp2_with fail
      go_ret
      exact ⟨by rw [HE.out]; rfl, ⟨_, (HR.out.grow (HG.out.trans (Grow.drewN _ nd))), fun u k2 hy => HX.out u k2 hy⟩, (HO.out.after HG.out).drewN _⟩
    · have HE := Lib.hid (show Top.sumP of.data.toList (rest s p) = .no 6 by unfold Top.sumP Top.okP; rw [hx]; simp only; rw [if_neg he])
      have hen : ((n : Int) != ((CrcP.Sum of.data.toList).toNat : Int)) = true := by simp; omega
      clear he hx hq
      generalize (CrcP.Sum of.data.toList).toNat = m at hen ⊢
      go_wp2_with fail
      go_ret
      exact ⟨by rw [HE.out]; rfl, ⟨_, (HR.out.grow (HG.out.trans (Grow.drewN _ nd))), fun u k2 hy => HX.out u k2 hy⟩, (HO.out.after HG.out).drewN _⟩
  | no er =>
    obtain ⟨rfl, q, hr⟩ := hq.is_no hx
    have HR := Lib.hid hr; clear hr
    have hne := wordP_err hx
    have hne2 : ¬ (er : Int) = 0 := by omega
    have HX := Lib.hid (show Top.sumP of.data.toList (rest s p) = .no er by unfold Top.sumP Top.okP; rw [hx]); clear hx hq
    go_wp2_with fail
    go_ret
    exact ⟨by rw [HX.out]; rfl, ⟨q, HR.out, fun u k2 hy => by rw [HX.out] at hy; cases hy⟩, HO.out⟩
def mk : ByteArray := ⟨Top.marker.toArray⟩
theorem mark_any (w : World) : Calls Tryz.prog 94 #[] w fun e w' => e = .returned (.string mk) ∧ Grow w w' := by
  go_enter Tryz.func94, Tryz.ntmps94
  go_wp2_with fail
  refine (Tryz.strings_Repeat ⟨#[255]⟩ 16 w (by decide) (by decide)).mono ?_
  rintro _ w1 ⟨rfl, hg⟩
  have HG := Lib.hid hg; clear hg
  obtain ⟨u, hu⟩ : ∃ u : ByteArray, u = ⟨(Lib.repeatL (ByteArray.mk #[255]).data.toList 16).toArray⟩ := ⟨_, rfl⟩
  rw [← hu]
  have hus : u.size ≤ 16 := by rw [hu]; decide
  have HU := Lib.hid hu; clear hu
  go_wp2
  go_ret
  exact ⟨by rw [HU.out]; rfl, HG.out⟩
end Go.Proofs.YtnhmdinpfcoebaaGreatDoor
end

/-! === RefNum -/
section
/- The reference's numbers as bytes, its sums: the walks. -/
namespace Go.Proofs.YtnhmdinpfcoebaaGreatDoor
open Go.RowKit
set_option linter.unusedVariables false
set_option linter.unusedSimpArgs false
set_option maxRecDepth 100000

attribute [local irreducible] CrcP.shN tab tw
theorem byte_in (X : BitVec 32) (c : UInt8) : (Value.int .u32 (bits .xor .u32 (X.toNat : Int) ((c.toNat : Int) % 4294967296))) = .int .u32 (X ^^^ BitVec.ofNat 32 c.toNat).toNat := by
  have hc := c.toNat_lt
  have e : ((c.toNat : Int) % 4294967296) = ((BitVec.ofNat 32 c.toNat).toNat : Int) := by simp; omega
  rw [e, bits_xor]
theorem odd_bit (Z : BitVec 32) : Z.getLsbD 0 = ((Z.toNat : Int) % 2 == 1) := by
  rw [BitVec.getLsbD, Nat.testBit_zero, Bool.eq_iff_iff]
  simp; omega
theorem sh_odd (Z : BitVec 32) (h : ((Z.toNat : Int) % 2 == 1) = true) : (Value.int .u32 (bits .xor .u32 ((Z.toNat : Int) / (2 : Int)) 3988292384)) = .int .u32 (CrcP.sh Z).toNat := by
  have eP : (3988292384 : Int) = (CrcP.P.toNat : Int) := rfl
  rw [half, eP, bits_xor]
  unfold CrcP.sh
  rw [odd_bit, h]; rfl
theorem sh_even (Z : BitVec 32) (h : ((Z.toNat : Int) % 2 == 1) = false) : (Value.int .u32 ((Z.toNat : Int) / (2 : Int))) = .int .u32 (CrcP.sh Z).toNat := by
  rw [half]
  unfold CrcP.sh
  rw [odd_bit, h]; rfl

set_option maxRecDepth 100000 in
theorem refTurn_any (w : World) (x : BitVec 32) (s : ByteArray) (hs : (s.size : Int) ≤ 9223372036854775807) : Calls Tryz.prog 48 #[.int .u32 x.toNat, .string s] w fun e w' => e = .returned (.int .u32 (CrcP.Turn x s.data.toList).toNat) ∧ w = w' := by
  go_enter Tryz.func48, Tryz.ntmps48
  go_wp2
  go_loop [5, 0] (fun i y => ∃ k : Nat, k ≤ s.size ∧ i = .int .i64 k ∧ y = .int .u32 (CrcP.Turn x (s.data.toList.take k)).toNat) (fun i _ => s.size - (intOf i).toNat)
  case atStart => exact ⟨0, by omega, rfl, by simp [CrcP.Turn]⟩
  case round =>
    obtain ⟨k, hk, rfl, rfl⟩ := hrel
    by_cases hlt : k < s.size
    · have HY := Lib.hid (turn_take x s k hlt)
      generalize CrcP.Turn x (s.data.toList.take k) = X at *
      go_wp2
      go_loop [6, 0] (fun j y => ∃ n : Nat, n ≤ 8 ∧ j = .int .i64 n ∧ y = .int .u32 (CrcP.shN n (X ^^^ BitVec.ofNat 32 s[k].toNat)).toNat) (fun j _ => 8 - (intOf j).toNat)
      case atStart => exact ⟨0, by omega, rfl, by rw [byte_in]; unfold CrcP.shN; rfl⟩
      case round =>
        obtain ⟨n, hn, rfl, rfl⟩ := hrel
        generalize hZ : CrcP.shN n (X ^^^ BitVec.ofNat 32 s[k].toNat) = Z at *
        have HZ := Lib.hid hZ; clear hZ
        have hz := Z.isLt
        by_cases hn8 : n < 8
        · cases hod : ((Z.toNat : Int) % 2 == 1)
          · have HS := Lib.hid (sh_even Z hod)
            go_wp2
            go_round
            case rel => exact ⟨n + 1, by omega, by go_num, by rw [HS.out, ← HZ.out, shN_succ]⟩
            case measure => simp [intOf]; omega
          · have HS := Lib.hid (sh_odd Z hod)
            go_wp2
            go_round
            case rel => exact ⟨n + 1, by omega, by go_num, by rw [HS.out, ← HZ.out, shN_succ]⟩
            case measure => simp [intOf]; omega
        · obtain rfl : n = 8 := by omega
          go_wp2
          go_round
          case rel => exact ⟨k + 1, by omega, by go_num, by rw [← HY.out, ← HZ.out]; rfl⟩
          case measure => simp [intOf]; omega
    · obtain rfl : k = s.size := by omega
      go_wp2
      go_ret
      exact ⟨by rw [show s.data.toList.take s.size = s.data.toList from List.take_of_length_le (by simp)]; rfl, rfl⟩

theorem not_word2 (X Y : BitVec 32) (h : X ^^^ CrcP.ones = Y) : (Value.int .u32 (bits .xor .u32 (X.toNat : Int) 4294967295)) = .int .u32 Y.toNat := by
  have e : (4294967295 : Int) = ((CrcP.ones).toNat : Int) := rfl
  rw [e, bits_xor, h]
set_option maxRecDepth 100000 in
theorem refSum_any (w : World) (s : ByteArray) (hs : (s.size : Int) ≤ 9223372036854775807) : Calls Tryz.prog 25 #[.string s] w fun e w' => e = .returned (.int .u32 (CrcP.Sum s.data.toList).toNat) ∧ w = w' := by
  go_enter Tryz.func25, Tryz.ntmps25
  go_wp2_with fail
  refine (refTurn_any w CrcP.ones s hs).mono ?_
  rintro e w' ⟨rfl, rfl⟩
  go_wp2
  go_ret
  exact ⟨congrArg Ending.returned (not_word2 (CrcP.Turn CrcP.ones s.data.toList) (CrcP.Sum s.data.toList) rfl), rfl⟩
theorem info5z : (Tryz.prog.info? 5).map (fun i => (i.zero, i.size, i.bytes)) = some (some (.int .u8 0), 1, 1) := by kernel_rfl
/-- A number by so many groups of seven bits. -/
def septB : Nat → Nat → Top.Bytes
  | 0, _ => []
  | c + 1, n => UInt8.ofNat (n % 128) :: septB c (n / 128)
theorem septB_snoc : ∀ (k n : Nat), septB (k + 1) n = septB k n ++ [UInt8.ofNat (n / 128 ^ k % 128)]
  | 0, n => by simp [septB]
  | k + 1, n => by
    rw [septB, septB_snoc k (n / 128), septB, List.cons_append, Nat.div_div_eq_div_mul, Nat.pow_succ, Nat.mul_comm 128]
theorem septB_len : ∀ (k n : Nat), (septB k n).length = k
  | 0, n => rfl
  | k + 1, n => by rw [septB, List.length_cons, septB_len k]
/-- A number by groups of seven bits, so many as it needs. -/
def lebB : Nat → Nat → Top.Bytes
  | 0, n => [UInt8.ofNat n]
  | f + 1, n => if 127 < n then UInt8.ofNat (n % 128 + 128) :: lebB f (n / 128) else [UInt8.ofNat n]
theorem lebB_one (f n : Nat) (h : ¬ 127 < n) : lebB f n = [UInt8.ofNat n] := by
  cases f with
  | zero => rfl
  | succ f => rw [lebB, if_neg h]
theorem lebB_len : ∀ (f n : Nat), (lebB f n).length ≤ f + 1
  | 0, n => by simp [lebB]
  | f + 1, n => by
    rw [lebB]
    split
    · rw [List.length_cons]; have := lebB_len f (n / 128); omega
    · simp
theorem u8_of (n : Nat) (h : n < 256) : ((UInt8.ofNat n).toNat : Int) = (n : Int) := by
  rw [UInt8.toNat_ofNat']; omega
abbrev u8s (l : Top.Bytes) : List Value := l.map fun b => .int .u8 (b.toNat : Int)
set_option maxHeartbeats 2000000 in
theorem sept4_any (w : World) (n c : Nat) (hn : n < 2 ^ 64) (hc : c ≤ 10) : Calls Tryz.prog 21 #[.int .u64 n, .int .i64 c] w fun e w' => e = .returned (.tuple #[.string ⟨(septB c n).toArray⟩, .bool (decide (n / 128 ^ c = 0))]) ∧ Grow w w' := by
  obtain ⟨i0, hi, hz0, hz1, hz2⟩ := info_parts info5z
  have HI0 := Lib.hid hi; clear hi
  have HZ0 := Lib.hid hz0; clear hz0
  have HZ1 := Lib.hid hz1; clear hz1
  have HZ2 := Lib.hid hz2; clear hz2
  have HN := Lib.hid hn; clear hn
  generalize hB : w.heap.size = B
  have HB := Lib.hid hB; clear hB
  go_enter Tryz.func21, Tryz.ntmps21
  go_wp2
  go_loopw [7, 6, 0] (fun i v x wr => ∃ k : Nat, k ≤ c ∧ i = .int .i64 k ∧ x = .int .u64 ((n / 128 ^ k : Nat) : Int) ∧ wr.ownsRow B 5 1 v k (u8s (septB k n)) ∧ Below B w wr) (fun i _ _ _ => c - (intOf i).toNat)
  case atStart => exact ⟨0, by omega, rfl, by simp, World.ownsRow_made w #[] 0 (by rw [HB.out]; exact Nat.le_refl _) (by unfold maxLen; omega) rfl, below_alloc' (Below.refl _ _) (by rw [HB.out]; exact Nat.le_refl _) _⟩
  case round =>
    obtain ⟨k, hk, rfl, rfl, hown, hbel⟩ := hrel
    have HBL := Lib.hid hbel
    have HBw := Lib.hid (show B ≤ wr.heap.size by have := hbel.size; rw [HB.out] at this; exact this)
    clear hbel
    have HS := Lib.hid (septB_snoc k n)
    have HSL := Lib.hid (septB_len k n)
    have HP := Lib.hid (show n / 128 ^ (k + 1) = n / 128 ^ k / 128 by rw [Nat.pow_succ, Nat.div_div_eq_div_mul])
    have HM := Lib.hid (show n / 128 ^ k < 2 ^ 64 from Nat.lt_of_le_of_lt (Nat.div_le_self _ _) HN.out)
    by_cases hlt : k < c
    · have hlti : (k : Int) < c := by omega
      have HU := Lib.hid (u8_of (n / 128 ^ k % 128) (by omega))
      generalize n / 128 ^ k = m at *
      have HO := Lib.hid hown; clear hown
      have hm0 : (0 : Int) ≤ (m : Int) := by omega
      go_wp2_with (first
        | (at_builtin; refine wpList_push rfl (.tmp 14) (.tmp 18) 59 rfl B 5 i0 (.int .u8 0) 1 Tryz.underlying59 HI0.out HZ0.out HZ1.out HZ2.out rfl _ k _ wr.heap.size 1 (.int .u8 ((m : Int) % 128)) rfl (HO.out.alloc _) rfl ?c1 rfl ?c3 ?c4 ?c5 ?_))
      case c1 => exact World.cell?_alloc_mark _ _ _ _ _
      case c3 => unfold maxLen; omega
      case c4 => omega
      case c5 => have := HBw.out; simp; omega
      intro v' w1 hown1 hbel1 hnn
      have HB2 := Lib.hid ((HBL.out.alloc HBw.out (.cells #[.int .u8 ((m : Int) % 128)] 5)).trans hbel1)
      have HO1 := Lib.hid hown1; clear hown1 hbel1 hnn
      go_wp2_with fail
      go_roundw
      case rel => exact ⟨k + 1, by omega, by go_num, by rw [HP.out]; simp; rw [wrap_u64n]; have := HM.out; omega, by rw [HS.out, u8s, List.map_append, List.map_cons, List.map_nil, HU.out]; exact HO1.out, HB2.out⟩
      case measure => simp [intOf]; omega
    · obtain rfl : k = c := by omega
      have hc2 := conv_row (P := Tryz.prog) wr 59 9 5 Tryz.underlying59 Tryz.underlying5 Tryz.underlying9 B k u6 (septB k n) HSL.out hown
      clear hown
      have HC := Lib.hid hc2
      by_cases h0 : n / 128 ^ k = 0
      · have h0i : (((n / 128 ^ k : Nat) : Int) == 0) = true := by rw [h0]; rfl
        have HD := Lib.hid (show decide (n / 128 ^ k = 0) = true by simpa using h0)
        clear h0
        generalize hE : n / 128 ^ k = m at *
        have HE := Lib.hid hE; clear hE
        go_wp2
        go_ret2
        exact ⟨by rw [HE.out, HD.out]; rfl, by have := HBL.out; rw [← HB.out] at this; exact this⟩
      · have h0i : (((n / 128 ^ k : Nat) : Int) == 0) = false := by simp only [beq_eq_false_iff_ne, ne_eq]; omega
        have HD := Lib.hid (show decide (n / 128 ^ k = 0) = false by simpa using h0)
        clear h0
        generalize hE : n / 128 ^ k = m at *
        have HE := Lib.hid hE; clear hE
        go_wp2
        go_ret2
        exact ⟨by rw [HE.out, HD.out]; rfl, by have := HBL.out; rw [← HB.out] at this; exact this⟩
set_option maxHeartbeats 2000000 in
theorem leb2_any (w : World) (n : Nat) (hn : n < 2 ^ 64) : Calls Tryz.prog 66 #[.int .u64 n] w fun e w' => e = .returned (.string ⟨(lebB 9 n).toArray⟩) ∧ Grow w w' := by
  obtain ⟨i0, hi, hz0, hz1, hz2⟩ := info_parts info5z
  have HI0 := Lib.hid hi; clear hi
  have HZ0 := Lib.hid hz0; clear hz0
  have HZ1 := Lib.hid hz1; clear hz1
  have HZ2 := Lib.hid hz2; clear hz2
  have HN := Lib.hid hn; clear hn
  generalize hB : w.heap.size = B
  have HB := Lib.hid hB; clear hB
  go_enter Tryz.func66, Tryz.ntmps66
  go_wp2
  go_loopw [3, 0] (fun v x wr => ∃ (k m : Nat) (acc : Top.Bytes), k ≤ 9 ∧ x = .int .u64 (m : Nat) ∧ acc.length = k ∧ m < 2 ^ (64 - 7 * k) ∧ lebB 9 n = acc ++ lebB (9 - k) m ∧ wr.ownsRow B 5 1 v k (u8s acc) ∧ Below B w wr) (fun _ x _ => (intOf x).toNat)
  case atStart => exact ⟨0, n, [], by omega, rfl, rfl, HN.out, rfl, World.ownsRow_made w #[] 0 (by rw [HB.out]; exact Nat.le_refl _) (by unfold maxLen; omega) rfl, below_alloc' (Below.refl _ _) (by rw [HB.out]; exact Nat.le_refl _) _⟩
  case round =>
    obtain ⟨k, m, acc, hk, rfl, hl, hm, hq, hown, hbel⟩ := hrel
    have HBL := Lib.hid hbel
    have HBw := Lib.hid (show B ≤ wr.heap.size by have := hbel.size; rw [HB.out] at this; exact this)
    clear hbel
    have HL := Lib.hid hl; clear hl
    have HM := Lib.hid hm; clear hm
    have HQ := Lib.hid hq; clear hq
    have HK := Lib.hid hk; clear hk
    have HM2 := Lib.hid (show m < 2 ^ 64 from Nat.lt_of_lt_of_le HM.out (Nat.pow_le_pow_right (by decide) (by omega)))
    have HO := Lib.hid hown; clear hown
    have hm0 : (0 : Int) ≤ (m : Int) := by omega
    have hw : IntKind.u64.wrap (m : Int) = m := by rw [wrap_u64n]; have := HM2.out; omega
    by_cases hlt : 127 < m
    · have hlti : (127 : Int) < m := by omega
      have HU := Lib.hid (u8_of (m % 128 + 128) (by omega))
      have hu : IntKind.u8.wrap ((m : Int) % 128 + 128) = (m : Int) % 128 + 128 := by rw [IntKind.wrap_u8']; omega
      have HK8 := Lib.hid (show k ≤ 8 by
        refine Classical.byContradiction fun h => ?_
        have : k = 9 := by have := HK.out; omega
        subst this
        have := HM.out
        simp at this
        omega)
      have HQ2 := Lib.hid (show lebB 9 n = (acc ++ [UInt8.ofNat (m % 128 + 128)]) ++ lebB (9 - (k + 1)) (m / 128) by
        rw [HQ.out]
        obtain ⟨f, hf⟩ : ∃ f, 9 - k = f + 1 := ⟨8 - k, by have := HK8.out; omega⟩
        rw [hf, lebB, if_pos hlt, show 9 - (k + 1) = f by omega, List.append_assoc]; rfl)
      have HM3 := Lib.hid (show m / 128 < 2 ^ (64 - 7 * (k + 1)) by
        have h1 := HM.out
        have e : 64 - 7 * k = (64 - 7 * (k + 1)) + 7 := by have := HK8.out; omega
        rw [e, Nat.pow_add] at h1
        omega)
      go_wp2_with (first
        | (at_builtin; refine wpList_push rfl (.tmp 7) (.tmp 12) 59 rfl B 5 i0 (.int .u8 0) 1 Tryz.underlying59 HI0.out HZ0.out HZ1.out HZ2.out rfl _ k _ wr.heap.size 1 (.int .u8 ((m : Int) % 128 + 128)) rfl (HO.out.alloc _) rfl ?c1 rfl ?c3 ?c4 ?c5 ?_))
      case c1 => exact World.cell?_alloc_mark _ _ _ _ _
      case c3 => have := HK.out; unfold maxLen; omega
      case c4 => have := HK.out; omega
      case c5 => have := HBw.out; simp; omega
      intro v' w1 hown1 hbel1 hnn
      have HB2 := Lib.hid ((HBL.out.alloc HBw.out (.cells #[.int .u8 ((m : Int) % 128 + 128)] 5)).trans hbel1)
      have HO1 := Lib.hid hown1; clear hown1 hbel1 hnn
      go_wp2_with fail
      go_roundw
      case rel => exact ⟨k + 1, m / 128, acc ++ [UInt8.ofNat (m % 128 + 128)], by have := HK8.out; omega, by simp; rw [wrap_u64n]; have := HM2.out; omega, by rw [List.length_append, HL.out]; rfl, HM3.out, HQ2.out, by rw [u8s, List.map_append, List.map_cons, List.map_nil, HU.out]; exact HO1.out, HB2.out⟩
      case measure => have hw3 : IntKind.u64.wrap ((m : Int) / 128) = (m : Int) / 128 := by rw [wrap_u64n]; have := HM2.out; omega
                      simp [intOf]; rw [hw3]; omega
    · have hlti : ¬ (127 : Int) < m := by omega
      have HU := Lib.hid (u8_of m (by omega))
      have hu : IntKind.u8.wrap (m : Int) = m := by rw [IntKind.wrap_u8']; omega
      have hu2 : (m : Int) % 256 = m := by omega
      have HQ2 := Lib.hid (show lebB 9 n = acc ++ [UInt8.ofNat m] by rw [HQ.out, lebB_one _ _ hlt])
      go_wp2_with (first
        | (at_builtin; refine wpList_push rfl (.tmp 16) (.tmp 19) 59 rfl B 5 i0 (.int .u8 0) 1 Tryz.underlying59 HI0.out HZ0.out HZ1.out HZ2.out rfl _ k _ wr.heap.size 1 (.int .u8 (m : Int)) rfl (HO.out.alloc _) rfl ?d1 rfl ?d3 ?d4 ?d5 ?_))
      try case d1 => exact World.cell?_alloc_mark _ _ _ _ _
      case d3 => have := HK.out; unfold maxLen; omega
      case d4 => have := HK.out; omega
      case d5 => have := HBw.out; simp; omega
      intro v' w1 hown1 hbel1 hnn
      have HB2 := Lib.hid ((HBL.out.alloc HBw.out (.cells #[.int .u8 (m : Int)] 5)).trans hbel1)
      have hc2 := conv_row (P := Tryz.prog) w1 59 9 5 Tryz.underlying59 Tryz.underlying5 Tryz.underlying9 B (k + 1) v' (acc ++ [UInt8.ofNat m]) (by rw [List.length_append, HL.out]; rfl) (by rw [List.map_append, List.map_cons, List.map_nil, HU.out]; exact hown1)
      clear hown1 hbel1 hnn
      go_wp2
      go_ret
      exact ⟨by rw [HQ2.out]; rfl, by have := HB2.out; rw [← HB.out] at this; exact this⟩
end Go.Proofs.YtnhmdinpfcoebaaGreatDoor
end

/-! === Header -/
section
/- What stands ahead of a payload, read: the walk. -/
namespace Go.Proofs.YtnhmdinpfcoebaaGreatDoor
open Go.RowKit
set_option linter.unusedVariables false
set_option linter.unusedSimpArgs false
set_option maxRecDepth 100000

abbrev hdC (a b c d : Nat) : Array Value := #[.int .u32 a, .int .u64 b, .int .u64 c, .int .i64 d]
theorem info155 (a b c d : Nat) : (Tryz.prog.info? 155).map (·.size) = some (hdC a b c d).size := by
  have h : (Tryz.prog.info? 155).map (·.size) = some 4 := by kernel_rfl
  rw [h]; rfl
theorem ones155 (a b c d : Nat) : (hdC a b c d).all (·.oneCell') = true := by simp [hdC, Value.oneCell']
/-- The world while a head is read. -/
structure HW (w wr : World) (r : Nat) (s : ByteArray) (q g tb : Nat) (a b c d : Nat) : Prop where
  rd : RdAt wr r s q
  z : wr.heap[g]? = some (.cells (hdC a b c d) 155 (0, 0))
  t : TabAt wr tb
  o : Only r w wr
  n2 : w.heap.size ≤ g
theorem HW.ne {w wr : World} {r q g tb a b c d : Nat} {s : ByteArray} (h : HW w wr r s q g tb a b c d) : r ≠ g := ty_ne h.rd.1 h.z (by decide)
theorem HW.ne2 {w wr : World} {r q g tb a b c d : Nat} {s : ByteArray} (h : HW w wr r s q g tb a b c d) : tb ≠ g := ty_ne h.t h.z (by decide)
theorem HW.read {w wr w' : World} {r q q' g tb a b c d : Nat} {s : ByteArray} (h : HW w wr r s q g tb a b c d) (hr : RdAt w' r s q') (ho : Only r wr w') : HW w w' r s q' g tb a b c d :=
  ⟨hr, ho.at h.ne.symm h.z, h.t.only ho (tab_ne_rd h.t h.rd), h.o.trans ho, h.n2⟩
theorem HW.grow {w wr w' : World} {r q g tb a b c d : Nat} {s : ByteArray} (h : HW w wr r s q g tb a b c d) (hg : Grow wr w') : HW w w' r s q g tb a b c d := h.read (h.rd.grow hg) (Only.of_grow hg r)
theorem HW.set {w wr w' : World} {r q g tb a b c d a' b' c' d' : Nat} {s : ByteArray} (h : HW w wr r s q g tb a b c d) (hb : w'.heap[g]? = some (.cells (hdC a' b' c' d') 155 (0, 0))) (ho : Only g wr w') : HW w w' r s q g tb a' b' c' d' :=
  ⟨⟨ho.at h.ne h.rd.1, h.rd.2⟩, hb, h.t.only ho h.ne2, h.o.new h.n2 ho, h.n2⟩
theorem at_same (w : World) (b : Nat) (s : ByteArray) (p : Nat) (h : RdAt w b s p) : Calls Tryz.prog 74 #[.pointer (some ⟨b, 0, none⟩)] w fun e w' => e = .returned (.int .i64 p) ∧ w' = w := by
  have c1 := cell_block h.1 1
  simp at c1
  clear h
  go_enter Tryz.func74, Tryz.ntmps74
  go_wp2
  go_ret
  exact ⟨rfl, rfl⟩
/-- The head: what stands ahead of a payload, its sum behind it. -/
def headerP : Top.Bytes → Top.Got (Nat × Nat × Nat × Nat) := Top.seqP Top.headP fun h => Top.okP (fun _ => .inr h.1) (Top.sumP (h.2.drop 16))
def fieldsP : Top.Bytes → Top.Got (Nat × Nat × Nat × Nat) := Top.seqP Top.markP fun _ => Top.seqP Top.wordP fun seq => Top.seqP (Top.septP 10) fun cycle => Top.seqP (Top.septP 10) fun count =>
  Top.okP (fun n => if n < 1 ∨ 120 < n then .inl 4 else .inr (seq, cycle, count, n)) (Top.septP 2)
theorem header_yes {l : Top.Bytes} {h : Nat × Nat × Nat × Nat} {k j : Nat} (h1 : fieldsP l = .yes h k) (h2 : Top.sumP ((l.take k).drop 16) (l.drop k) = .yes () j) : headerP l = .yes h (k + j) := by
  have h0 : Top.headP l = .yes (h, l.take k) k := by
    show Top.rawP fieldsP l = _
    unfold Top.rawP; rw [h1]
  unfold headerP Top.seqP
  rw [h0]
  simp only
  unfold Top.okP
  rw [h2]
theorem header_no {l : Top.Bytes} {h : Nat × Nat × Nat × Nat} {k e : Nat} (h1 : fieldsP l = .yes h k) (h2 : Top.sumP ((l.take k).drop 16) (l.drop k) = .no e) : headerP l = .no e := by
  have h0 : Top.headP l = .yes (h, l.take k) k := by
    show Top.rawP fieldsP l = _
    unfold Top.rawP; rw [h1]
  unfold headerP Top.seqP
  rw [h0]
  simp only
  unfold Top.okP
  rw [h2]
theorem header_none {l : Top.Bytes} {e : Nat} (h1 : fieldsP l = .no e) : headerP l = .no e := by
  have h0 : Top.headP l = .no e := by
    show Top.rawP fieldsP l = _
    unfold Top.rawP; rw [h1]
  unfold headerP Top.seqP
  rw [h0]
theorem seq_go {α β : Type} {p : Top.Bytes → Top.Got α} {f : α → Top.Bytes → Top.Got β} {l : Top.Bytes} {a : α} {k : Nat} (h : p l = .yes a k) : Top.seqP p f l = (f a (l.drop k)).shift k := by
  unfold Top.seqP
  rw [h]
  simp only
  cases f a (l.drop k) <;> rfl
theorem seq_stop {α β : Type} {p : Top.Bytes → Top.Got α} {f : α → Top.Bytes → Top.Got β} {l : Top.Bytes} {e : Nat} (h : p l = .no e) : Top.seqP p f l = .no e := by
  unfold Top.seqP
  rw [h]
theorem step_go {α β : Type} {x : Top.Got β} {p : Top.Bytes → Top.Got α} {f : α → Top.Bytes → Top.Got β} {s : ByteArray} {q d k : Nat} {a : α} (h : x = (Top.seqP p f (rest s q)).shift d) (h1 : p (rest s q) = .yes a k) : x = (f a (rest s (q + k))).shift (d + k) := by
  rw [h, seq_go h1, Top.shift_shift, rest_add]
theorem step_no {α β : Type} {x : Top.Got β} {p : Top.Bytes → Top.Got α} {f : α → Top.Bytes → Top.Got β} {s : ByteArray} {q d e : Nat} (h : x = (Top.seqP p f (rest s q)).shift d) (h1 : p (rest s q) = .no e) : x = .no e := by
  rw [h, seq_stop h1]; rfl
def P4 (a b c : Nat) : Top.Bytes → Top.Got (Nat × Nat × Nat × Nat) := Top.okP (fun n => if n < 1 ∨ 120 < n then .inl 4 else .inr (a, b, c, n)) (Top.septP 2)
def P3 (a b : Nat) : Top.Bytes → Top.Got (Nat × Nat × Nat × Nat) := Top.seqP (Top.septP 10) (P4 a b)
def P2 (a : Nat) : Top.Bytes → Top.Got (Nat × Nat × Nat × Nat) := Top.seqP (Top.septP 10) (P3 a)
def P1 : Top.Bytes → Top.Got (Nat × Nat × Nat × Nat) := Top.seqP Top.wordP P2
theorem fields_P1 : fieldsP = Top.seqP Top.markP fun _ => P1 := rfl
theorem P4_yes {a b c n k : Nat} {l : Top.Bytes} (h : Top.septP 2 l = .yes n k) (hn : ¬ (n < 1 ∨ 120 < n)) : P4 a b c l = .yes (a, b, c, n) k := by
  unfold P4 Top.okP; rw [h]; simp only; rw [if_neg hn]
theorem P4_bad {a b c n k : Nat} {l : Top.Bytes} (h : Top.septP 2 l = .yes n k) (hn : n < 1 ∨ 120 < n) : P4 a b c l = .no 4 := by
  unfold P4 Top.okP; rw [h]; simp only; rw [if_pos hn]
theorem P4_no {a b c e : Nat} {l : Top.Bytes} (h : Top.septP 2 l = .no e) : P4 a b c l = .no e := by
  unfold P4 Top.okP; rw [h]
theorem mk_list : mk.data.toList = Top.marker := rfl
theorem mk_size : mk.size = 22 := rfl
attribute [local irreducible] GotR tab mk Top.septP Top.wordP Top.sumP Top.markP
set_option maxHeartbeats 4000000 in
theorem header_any (w : World) (tb r : Nat) (s : ByteArray) (p : Nat) (h : RdAt w r s p) (ht : TabAt w tb) : Calls Tryz.prog 70 #[.pointer (some ⟨tb, 0, none⟩), .string s, .pointer (some ⟨r, 0, none⟩)] w fun e w' =>
    GotR (headerP (rest s p)) e w' (fun x k e w' => e = .returned (.tuple #[.agg (hdC x.1 x.2.1 x.2.2.1 x.2.2.2), .int .i64 0]) ∧ RdAt w' r s (p + k)) (fun er e w' => (∃ a b c d, e = .returned (.tuple #[.agg (hdC a b c d), .int .i64 er])) ∧ er ≠ 0) ∧ Only r w w' := by
  have HP := Lib.hid h.2
  have H := Lib.hid h
  have HT := Lib.hid ht
  clear h ht
  go_enter Tryz.func70, Tryz.ntmps70
  go_wp2_with fail
  have HZ := Lib.hid (heapAt_alloc_new w (.cells (hdC 0 0 0 0) 155))
  have HG := Lib.hid (Grow.alloc w (.cells (hdC 0 0 0 0) 155))
  generalize w.alloc (.cells #[.int .u32 0, .int .u64 0, .int .u64 0, .int .i64 0] 155) = w1 at HZ HG ⊢
  have HW1 := Lib.hid (show HW w w1 r s p w.heap.size tb 0 0 0 0 from ⟨H.out.grow HG.out, HZ.out, HT.out.grow HG.out, Only.of_grow HG.out r, Nat.le_refl _⟩)
  clear HZ HG
  obtain ⟨g, hg⟩ : ∃ g, g = w.heap.size := ⟨_, rfl⟩
  rw [← hg] at HW1 ⊢
  clear hg
  refine (mark_any w1).mono ?_
  rintro _ w2 ⟨rfl, hg⟩
  have HW2 := Lib.hid (HW1.out.grow hg); clear hg HW1
  go_wp2_with fail
  refine (agree_any _ r s mk p HW2.out.rd (by rw [mk_size]; decide)).mono ?_
  rintro _ w3 ⟨rfl, hg⟩
  have HW3 := Lib.hid (HW2.out.grow hg); clear hg HW2
  have HMS := Lib.hid mk_size
  rw [mk_list]
  have HAG := Lib.hid (show ∀ a, a = Top.agree Top.marker (rest s p) → Top.markP (rest s p) = if a < 22 then (if a = (rest s p).length then .no 2 else .no 3) else .yes () 22 by intro a ha; subst ha; unfold Top.markP; rfl)
  obtain ⟨ag, hag⟩ : ∃ a, a = Top.agree Top.marker (rest s p) := ⟨_, rfl⟩
  rw [← hag]
  have HA := Lib.hid (HAG.out _ hag)
  clear HAG hag
  have hms : (mk.size : Int) = 22 := by rw [HMS.out]; rfl
  have hms2 : mk.size = 22 := HMS.out
  by_cases h22 : ag < 22
  · have h22i : (ag : Int) < 22 := by omega
    go_wp2_with fail
    refine (left_any _ r s p HW3.out.rd).mono ?_
    rintro _ w4 ⟨rfl, hg⟩
    have HW4 := Lib.hid (HW3.out.grow hg); clear hg HW3
    by_cases hl : ag = s.size - p
    · have hli : ((ag : Int) == ((s.size - p : Nat) : Int)) = true := by rw [hl]; simp
      have HN := Lib.hid (header_none (show fieldsP (rest s p) = .no 2 from seq_stop (HA.out.trans (by rw [if_pos h22, if_pos (by rw [rest_len]; exact hl)]))))
      clear hl h22
      go_wp2_with (first
        | ((with_reducible refine wpList_load_blk rfl 155 _ rfl g 155 (hdC 0 0 0 0) _ ?_ HW4.out.z Tryz.underlying155 rfl (info155 ..) ?_); (· rfl))
        | ((with_reducible refine wpList_store_blk rfl 155 _ _ rfl g 155 _ (hdC 0 0 0 0) ?_ ?_ HW4.out.z rfl (info155 ..) (ones155 ..) ?_); (· rfl); (· rfl); intro wz hbz hoz))
      refine bodyPost_ret (v := .tuple #[.agg (hdC 0 0 0 0), .int .i64 2]) (results_cell_row_tmp rfl _ _ g 155 _ (0, 0) _ (by rfl) hbz Tryz.underlying155 rfl (info155 ..) (by rfl)) rfl ⟨?_, HW4.out.o.new HW4.out.n2 hoz⟩
      exact GotR.mkN HN.out ⟨⟨_, _, _, _, rfl⟩, by decide⟩
    · have hli : ((ag : Int) == ((s.size - p : Nat) : Int)) = false := by simp; omega
      have HN := Lib.hid (header_none (show fieldsP (rest s p) = .no 3 from seq_stop (HA.out.trans (by rw [if_pos h22, if_neg (by rw [rest_len]; exact hl)]))))
      clear hl h22
      go_wp2_with (first
        | ((with_reducible refine wpList_load_blk rfl 155 _ rfl g 155 (hdC 0 0 0 0) _ ?_ HW4.out.z Tryz.underlying155 rfl (info155 ..) ?_); (· rfl))
        | ((with_reducible refine wpList_store_blk rfl 155 _ _ rfl g 155 _ (hdC 0 0 0 0) ?_ ?_ HW4.out.z rfl (info155 ..) (ones155 ..) ?_); (· rfl); (· rfl); intro wz hbz hoz))
      refine bodyPost_ret (v := .tuple #[.agg (hdC 0 0 0 0), .int .i64 3]) (results_cell_row_tmp rfl _ _ g 155 _ (0, 0) _ (by rfl) hbz Tryz.underlying155 rfl (info155 ..) (by rfl)) rfl ⟨?_, HW4.out.o.new HW4.out.n2 hoz⟩
      exact GotR.mkN HN.out ⟨⟨_, _, _, _, rfl⟩, by decide⟩
  · have h22i : ¬ (ag : Int) < 22 := by omega
    have HM := Lib.hid (HA.out.trans (if_neg h22))
    have h22s : p + 22 ≤ s.size := by
      have h1 := Top.markP_reads.len _ _ _ HM.out
      rw [rest_len] at h1
      omega
    clear HA
    go_wp2_with fail
    refine (at_same _ r s p HW3.out.rd).mono ?_
    rintro _ _ ⟨rfl, rfl⟩
    obtain ⟨p16, hp16⟩ : ∃ x, x = p + 16 := ⟨_, rfl⟩
    have hw16 : (p : Int) + 16 = (p16 : Int) := by omega
    have hp16b : (p16 : Int) ≤ 9223372036854775807 := by have := HP.out; omega
    have hp0 : (0 : Int) ≤ (p : Int) := by omega
    have HP16 := Lib.hid hp16; clear hp16
    go_wp2_with fail
    clear hw16 hp16b hp0
    refine (take_ok _ r s p 22 (p + 22) HW3.out.rd rfl h22s).mono ?_
    rintro _ w4 ⟨rfl, hr, ho⟩
    have HW4 := Lib.hid (HW3.out.read hr ho); clear hr ho HW3
    obtain ⟨q0, hq0⟩ : ∃ q, q = p + 22 := ⟨_, rfl⟩
    rw [← hq0] at HW4
    have HQ0 := Lib.hid (show fieldsP (rest s p) = (P1 (rest s q0)).shift 22 by rw [fields_P1, seq_go HM.out, rest_add, hq0])
    have HPL0 := Lib.hid hq0
    clear hq0 HM
    go_wp2_with fail
    refine (word_any _ r s q0 HW4.out.rd).mono ?_
    rintro e w10 ⟨hq, ho⟩
    cases hx : Top.wordP (rest s q0) with
    | no er =>
      have HN := Lib.hid (header_none (step_no HQ0.out hx))
      have HER := Lib.hid (wordP_err hx)
      have hne : ¬ (er : Int) = 0 := by have := wordP_err hx; omega
      have hneb : ((er : Int) != 0) = true := by simpa using hne
      obtain ⟨rfl, q9, hr⟩ := hq.is_no hx
      have HV := Lib.hid (HW4.out.read hr ho); clear hr ho hx hq
      go_wp2_with (first
        | ((with_reducible refine store_in rfl 40 _ _ rfl g 0 155 _ (hdC 0 0 0 0) (.int .u32 0) info40 HV.out.z rfl ?_ ?_ ?_ ?_ ?_); (· rfl); (· rfl); (· simp); (· rfl); intro wa hwa hba hoa; have HW := Lib.hid (HV.out.set hba hoa); clear hwa hba hoa)
        | ((with_reducible refine wpList_load_blk rfl 155 _ rfl g 155 (hdC 0 0 0 0) _ ?_ HW.out.z Tryz.underlying155 rfl (info155 ..) ?_); (· rfl))
        | ((with_reducible refine wpList_store_blk rfl 155 _ _ rfl g 155 _ (hdC 0 0 0 0) ?_ ?_ HW.out.z rfl (info155 ..) (ones155 ..) ?_); (· rfl); (· rfl); intro wz hbz hoz))
      refine bodyPost_ret (v := .tuple #[.agg (hdC 0 0 0 0), .int .i64 er]) (results_cell_row_tmp rfl _ _ g 155 _ (0, 0) _ (by rfl) hbz Tryz.underlying155 rfl (info155 ..) (by rfl)) rfl ⟨?_, HW.out.o.new HW.out.n2 hoz⟩
      exact GotR.mkN HN.out ⟨⟨_, _, _, _, rfl⟩, HER.out⟩
    | yes n0 k0 =>
      obtain ⟨rfl, hr⟩ := hq.is_yes hx
      have HV0 := Lib.hid (HW4.out.read hr ho); clear hr ho hq
      obtain ⟨q1, hq1⟩ : ∃ q, q = q0 + k0 := ⟨_, rfl⟩
      rw [← hq1] at HV0
      have HQ1 := Lib.hid (show fieldsP (rest s p) = (P2 n0 (rest s q1)).shift (22 + k0) by rw [step_go HQ0.out hx, hq1])
      have HPL1 := Lib.hid hq1
      clear hq1 hx
      go_wp2_with (first
        | ((with_reducible refine store_in rfl 40 _ _ rfl g 0 155 _ (hdC n0 0 0 0) (.int .u32 n0) info40 HV0.out.z rfl ?_ ?_ ?_ ?_ ?_); (· rfl); (· rfl); (· simp); (· rfl); intro wa hwa hba hoa; have HW5 := Lib.hid (HV0.out.set hba hoa); clear hwa hba hoa))
      refine (sget_any _ r s q1 10 HW5.out.rd (by decide) (by decide)).mono ?_
      rintro e w11 ⟨hq, ho⟩
      cases hx : Top.septP 10 (rest s q1) with
      | no er =>
        have HN := Lib.hid (header_none (step_no HQ1.out hx))
        have HER := Lib.hid (sept_err hx)
        have hne : ¬ (er : Int) = 0 := by have := sept_err hx; omega
        have hneb : ((er : Int) != 0) = true := by simpa using hne
        obtain ⟨rfl, hr⟩ := hq.is_no hx
        have HV := Lib.hid (HW5.out.read hr ho); clear hr ho hx hq
        go_wp2_with (first
          | ((with_reducible refine store_in rfl 53 _ _ rfl g 1 155 _ (hdC n0 0 0 0) (.int .u64 0) info53 HV.out.z rfl ?_ ?_ ?_ ?_ ?_); (· rfl); (· rfl); (· simp); (· rfl); intro wa hwa hba hoa; have HW := Lib.hid (HV.out.set hba hoa); clear hwa hba hoa)
          | ((with_reducible refine wpList_load_blk rfl 155 _ rfl g 155 (hdC n0 0 0 0) _ ?_ HW.out.z Tryz.underlying155 rfl (info155 ..) ?_); (· rfl))
          | ((with_reducible refine wpList_store_blk rfl 155 _ _ rfl g 155 _ (hdC n0 0 0 0) ?_ ?_ HW.out.z rfl (info155 ..) (ones155 ..) ?_); (· rfl); (· rfl); intro wz hbz hoz))
        refine bodyPost_ret (v := .tuple #[.agg (hdC n0 0 0 0), .int .i64 er]) (results_cell_row_tmp rfl _ _ g 155 _ (0, 0) _ (by rfl) hbz Tryz.underlying155 rfl (info155 ..) (by rfl)) rfl ⟨?_, HW.out.o.new HW.out.n2 hoz⟩
        exact GotR.mkN HN.out ⟨⟨_, _, _, _, rfl⟩, HER.out⟩
      | yes n1 k1 =>
        obtain ⟨rfl, hr⟩ := hq.is_yes hx
        have HV1 := Lib.hid (HW5.out.read hr ho); clear hr ho hq
        obtain ⟨q2, hq2⟩ : ∃ q, q = q1 + k1 := ⟨_, rfl⟩
        rw [← hq2] at HV1
        have HQ2 := Lib.hid (show fieldsP (rest s p) = (P3 n0 n1 (rest s q2)).shift (22 + k0 + k1) by rw [step_go HQ1.out hx, hq2])
        have HPL2 := Lib.hid hq2
        clear hq2 hx
        go_wp2_with (first
          | ((with_reducible refine store_in rfl 53 _ _ rfl g 1 155 _ (hdC n0 n1 0 0) (.int .u64 n1) info53 HV1.out.z rfl ?_ ?_ ?_ ?_ ?_); (· rfl); (· rfl); (· simp); (· rfl); intro wa hwa hba hoa; have HW6 := Lib.hid (HV1.out.set hba hoa); clear hwa hba hoa))
        refine (sget_any _ r s q2 10 HW6.out.rd (by decide) (by decide)).mono ?_
        rintro e w12 ⟨hq, ho⟩
        cases hx : Top.septP 10 (rest s q2) with
        | no er =>
          have HN := Lib.hid (header_none (step_no HQ2.out hx))
          have HER := Lib.hid (sept_err hx)
          have hne : ¬ (er : Int) = 0 := by have := sept_err hx; omega
          have hneb : ((er : Int) != 0) = true := by simpa using hne
          obtain ⟨rfl, hr⟩ := hq.is_no hx
          have HV := Lib.hid (HW6.out.read hr ho); clear hr ho hx hq
          go_wp2_with (first
            | ((with_reducible refine store_in rfl 53 _ _ rfl g 2 155 _ (hdC n0 n1 0 0) (.int .u64 0) info53 HV.out.z rfl ?_ ?_ ?_ ?_ ?_); (· rfl); (· rfl); (· simp); (· rfl); intro wa hwa hba hoa; have HW := Lib.hid (HV.out.set hba hoa); clear hwa hba hoa)
            | ((with_reducible refine wpList_load_blk rfl 155 _ rfl g 155 (hdC n0 n1 0 0) _ ?_ HW.out.z Tryz.underlying155 rfl (info155 ..) ?_); (· rfl))
            | ((with_reducible refine wpList_store_blk rfl 155 _ _ rfl g 155 _ (hdC n0 n1 0 0) ?_ ?_ HW.out.z rfl (info155 ..) (ones155 ..) ?_); (· rfl); (· rfl); intro wz hbz hoz))
          refine bodyPost_ret (v := .tuple #[.agg (hdC n0 n1 0 0), .int .i64 er]) (results_cell_row_tmp rfl _ _ g 155 _ (0, 0) _ (by rfl) hbz Tryz.underlying155 rfl (info155 ..) (by rfl)) rfl ⟨?_, HW.out.o.new HW.out.n2 hoz⟩
          exact GotR.mkN HN.out ⟨⟨_, _, _, _, rfl⟩, HER.out⟩
        | yes n2 k2 =>
          obtain ⟨rfl, hr⟩ := hq.is_yes hx
          have HV2 := Lib.hid (HW6.out.read hr ho); clear hr ho hq
          obtain ⟨q3, hq3⟩ : ∃ q, q = q2 + k2 := ⟨_, rfl⟩
          rw [← hq3] at HV2
          have HQ3 := Lib.hid (show fieldsP (rest s p) = (P4 n0 n1 n2 (rest s q3)).shift (22 + k0 + k1 + k2) by rw [step_go HQ2.out hx, hq3])
          have HPL3 := Lib.hid hq3
          clear hq3 hx
          go_wp2_with (first
            | ((with_reducible refine store_in rfl 53 _ _ rfl g 2 155 _ (hdC n0 n1 n2 0) (.int .u64 n2) info53 HV2.out.z rfl ?_ ?_ ?_ ?_ ?_); (· rfl); (· rfl); (· simp); (· rfl); intro wa hwa hba hoa; have HW7 := Lib.hid (HV2.out.set hba hoa); clear hwa hba hoa))
          refine (sget_any _ r s q3 2 HW7.out.rd (by decide) (by decide)).mono ?_
          rintro e w13 ⟨hq, ho⟩
          cases hx : Top.septP 2 (rest s q3) with
          | no er =>
            have HN := Lib.hid (header_none (HQ3.out.trans (by rw [P4_no hx]; rfl)))
            have HER := Lib.hid (sept_err hx)
            have hne : ¬ (er : Int) = 0 := by have := sept_err hx; omega
            have hneb : ((er : Int) != 0) = true := by simpa using hne
            obtain ⟨rfl, hr⟩ := hq.is_no hx
            have HV := Lib.hid (HW7.out.read hr ho); clear hr ho hx hq
            go_wp2_with (first
              | ((with_reducible refine wpList_load_blk rfl 155 _ rfl g 155 (hdC n0 n1 n2 0) _ ?_ HV.out.z Tryz.underlying155 rfl (info155 ..) ?_); (· rfl))
              | ((with_reducible refine wpList_store_blk rfl 155 _ _ rfl g 155 _ (hdC n0 n1 n2 0) ?_ ?_ HV.out.z rfl (info155 ..) (ones155 ..) ?_); (· rfl); (· rfl); intro wz hbz hoz))
            refine bodyPost_ret (v := .tuple #[.agg (hdC n0 n1 n2 0), .int .i64 er]) (results_cell_row_tmp rfl _ _ g 155 _ (0, 0) _ (by rfl) hbz Tryz.underlying155 rfl (info155 ..) (by rfl)) rfl ⟨?_, HV.out.o.new HV.out.n2 hoz⟩
            exact GotR.mkN HN.out ⟨⟨_, _, _, _, rfl⟩, HER.out⟩
          | yes n3 k3 =>
            obtain ⟨rfl, hr⟩ := hq.is_yes hx
            have HV3 := Lib.hid (HW7.out.read hr ho); clear hr ho hq
            by_cases hn : n3 < 1 ∨ 120 < n3
            · have HN := Lib.hid (header_none (HQ3.out.trans (by rw [P4_bad hx hn]; rfl)))
              clear hx
              by_cases hn1 : n3 < 1
              · have hn1i : (n3 : Int) < 1 := by omega
                clear hn
                go_wp2_with (first
                  | ((with_reducible refine wpList_load_blk rfl 155 _ rfl g 155 (hdC n0 n1 n2 0) _ ?_ HV3.out.z Tryz.underlying155 rfl (info155 ..) ?_); (· rfl))
                  | ((with_reducible refine wpList_store_blk rfl 155 _ _ rfl g 155 _ (hdC n0 n1 n2 0) ?_ ?_ HV3.out.z rfl (info155 ..) (ones155 ..) ?_); (· rfl); (· rfl); intro wz hbz hoz))
                refine bodyPost_ret (v := .tuple #[.agg (hdC n0 n1 n2 0), .int .i64 4]) (results_cell_row_tmp rfl _ _ g 155 _ (0, 0) _ (by rfl) hbz Tryz.underlying155 rfl (info155 ..) (by rfl)) rfl ⟨?_, HV3.out.o.new HV3.out.n2 hoz⟩
                exact GotR.mkN HN.out ⟨⟨_, _, _, _, rfl⟩, by decide⟩
              · have hn1i : ¬ (n3 : Int) < 1 := by omega
                have hn2i : (120 : Int) < (n3 : Int) := by omega
                clear hn
                go_wp2_with (first
                  | ((with_reducible refine wpList_load_blk rfl 155 _ rfl g 155 (hdC n0 n1 n2 0) _ ?_ HV3.out.z Tryz.underlying155 rfl (info155 ..) ?_); (· rfl))
                  | ((with_reducible refine wpList_store_blk rfl 155 _ _ rfl g 155 _ (hdC n0 n1 n2 0) ?_ ?_ HV3.out.z rfl (info155 ..) (ones155 ..) ?_); (· rfl); (· rfl); intro wz hbz hoz))
                refine bodyPost_ret (v := .tuple #[.agg (hdC n0 n1 n2 0), .int .i64 4]) (results_cell_row_tmp rfl _ _ g 155 _ (0, 0) _ (by rfl) hbz Tryz.underlying155 rfl (info155 ..) (by rfl)) rfl ⟨?_, HV3.out.o.new HV3.out.n2 hoz⟩
                exact GotR.mkN HN.out ⟨⟨_, _, _, _, rfl⟩, by decide⟩
            · have HN := Lib.hid (show fieldsP (rest s p) = .yes (n0, n1, n2, n3) (22 + k0 + k1 + k2 + k3) from HQ3.out.trans (by rw [P4_yes hx hn]; rfl))
              have hn1i : ¬ (n3 : Int) < 1 := by omega
              have hn2i : ¬ (120 : Int) < (n3 : Int) := by omega
              have hn3i : (n3 : Int) ≤ 120 := by omega
              clear hx hn
              obtain ⟨q4, hq4⟩ : ∃ q, q = q3 + k3 := ⟨_, rfl⟩
              rw [← hq4] at HV3
              have HPL4 := Lib.hid hq4; clear hq4
              go_upto_region 24 with (first
                | ((with_reducible refine store_in rfl 3 _ _ rfl g 3 155 _ (hdC n0 n1 n2 n3) (.int .i64 n3) info3 HV3.out.z rfl ?_ ?_ ?_ ?_ ?_); (· rfl); (· rfl); (· simp); (· rfl); intro wa hwa hba hoa; have HW8 := Lib.hid (HV3.out.set hba hoa); clear hwa hba hoa))
              have HPK := Lib.hid (show q4 = p + (22 + k0 + k1 + k2 + k3) by rw [HPL4.out, HPL3.out, HPL2.out, HPL1.out, HPL0.out]; omega)
              have HQS := Lib.hid HW8.out.rd.2
              have HEX := Lib.hid (show (s.extract p16 q4).data.toList = ((rest s p).take (22 + k0 + k1 + k2 + k3)).drop 16 by
                rw [extract_list, HP16.out, ← rest_add, HPK.out, List.drop_take]; congr 1; omega)
              have b1 : (0 : Int) ≤ (p16 : Int) := by omega
              have b2 : (p16 : Int) ≤ (q4 : Int) := by have := HP16.out; have := HPK.out; omega
              have b3 : (q4 : Int) ≤ (s.size : Int) := by have := HQS.out; omega
              have hxs : (s.extract p16 q4).size < 2 ^ 62 := by have := HQS.out; rw [ByteArray.size_extract]; omega
              have HXS := Lib.hid hxs; clear hxs
              have d0 := cell_block HW8.out.z 0
              have d1 := cell_block HW8.out.z 1
              have d2 := cell_block HW8.out.z 2
              have d3 := cell_block HW8.out.z 3
              simp at d0 d1 d2 d3
              go_region_with (first
                | (go_at_call 74; refine (at_same _ r s q4 (by exact HW8.out.rd)).mono ?_; rintro _ _ ⟨rfl, rfl⟩)
                | (go_at_call 72; refine (sum_any _ tb r s (s.extract p16 q4) q4 (by exact HW8.out.rd) (by exact HW8.out.t) HXS.out).mono ?_; rintro _ w20 ⟨rfl, ⟨q5, hr5, hq5⟩, ho5⟩; have HW9 := Lib.hid (HW8.out.read hr5 ho5); have HQ5 := Lib.hid hq5; clear hr5 hq5 ho5; have e0 := cell_block HW9.out.z 0; have e1 := cell_block HW9.out.z 1; have e2 := cell_block HW9.out.z 2; have e3 := cell_block HW9.out.z 3; have f0 := free_block HW9.out.z 0; have f1 := free_block HW9.out.z 1; have f2 := free_block HW9.out.z 2; have f3 := free_block HW9.out.z 3; simp at e0 e1 e2 e3))

              all_goals
                have HB := Lib.hid (show ((((w20.setCell ⟨g, 0, none⟩ (.int .u32 n0)).setCell ⟨g, 1, none⟩ (.int .u64 n1)).setCell ⟨g, 2, none⟩ (.int .u64 n2)).setCell ⟨g, 3, none⟩ (.int .i64 n3)).heap[g]? = some (.cells (hdC n0 n1 n2 n3) 155 (0, 0)) by
                  have h := set_whole (set_whole (set_whole (set_whole HW9.out.z 0 (.int .u32 n0)) 1 (.int .u64 n1)) 2 (.int .u64 n2)) 3 (.int .i64 n3)
                  simpa using h)
                have HO := Lib.hid (show Only g w20 ((((w20.setCell ⟨g, 0, none⟩ (.int .u32 n0)).setCell ⟨g, 1, none⟩ (.int .u64 n1)).setCell ⟨g, 2, none⟩ (.int .u64 n2)).setCell ⟨g, 3, none⟩ (.int .i64 n3)) from ((((Only.refl g w20).setCell 0 _).setCell 1 _).setCell 2 _).setCell 3 _)
                generalize (((w20.setCell ⟨g, 0, none⟩ (.int .u32 n0)).setCell ⟨g, 1, none⟩ (.int .u64 n1)).setCell ⟨g, 2, none⟩ (.int .u64 n2)).setCell ⟨g, 3, none⟩ (.int .i64 n3) = w21 at HB HO ⊢
                clear d0 d1 d2 d3 e0 e1 e2 e3 f0 f1 f2 f3 b1 b2 b3
                rw [show List.take (q4 - p16) (List.drop p16 s.data.toList) = ((rest s p).take (22 + k0 + k1 + k2 + k3)).drop 16 by rw [← HEX.out, extract_list]; rfl]
                have HQ6 := Lib.hid (HEX.out ▸ HQ5.out); clear HQ5
                cases hsm : Top.sumP (((rest s p).take (22 + k0 + k1 + k2 + k3)).drop 16) (rest s q4) with
                | no er =>
                  have HER := Lib.hid (sumP_err hsm)
                  have HN2 := Lib.hid (header_no HN.out (by rw [rest_add, ← HPK.out]; exact hsm))
                  simp only [errOf]
                  clear hsm
                  go_wp2
                  refine bodyPost_ret (v := .tuple #[.agg (hdC n0 n1 n2 n3), .int .i64 er]) (results_cell_row_tmp rfl _ _ g 155 _ (0, 0) _ (by rfl) HB.out Tryz.underlying155 rfl (info155 ..) (by rfl)) rfl ⟨?_, HW9.out.o.new HW9.out.n2 HO.out⟩
                  exact GotR.mkN HN2.out ⟨⟨_, _, _, _, rfl⟩, HER.out⟩
                | yes u k4 =>
                  have HN2 := Lib.hid (header_yes HN.out (by rw [rest_add, ← HPK.out]; exact hsm))
                  have HQ7 := Lib.hid (HQ6.out u k4 hsm)
                  simp only [errOf]
                  clear hsm
                  go_wp2
                  refine bodyPost_ret (v := .tuple #[.agg (hdC n0 n1 n2 n3), .int .i64 0]) (results_cell_row_tmp rfl _ _ g 155 _ (0, 0) _ (by rfl) HB.out Tryz.underlying155 rfl (info155 ..) (by rfl)) rfl ⟨?_, HW9.out.o.new HW9.out.n2 HO.out⟩
                  exact GotR.mkY HN2.out ⟨rfl, by have h := (HW9.out.set HB.out HO.out).rd; rwa [HQ7.out, HPK.out, Nat.add_assoc] at h⟩
end Go.Proofs.YtnhmdinpfcoebaaGreatDoor
end

/-! === FRead -/
section
/- A frame, read: the walk. -/
namespace Go.Proofs.YtnhmdinpfcoebaaGreatDoor
open Go.RowKit
set_option linter.unusedVariables false
set_option linter.unusedSimpArgs false
set_option maxRecDepth 100000

abbrev frC (a : Nat) (v : Value) : Array Value := #[.int .u32 a, v]
theorem info43 (a : Nat) (v : Value) : (Tryz.prog.info? 43).map (·.size) = some (frC a v).size := by
  have h : (Tryz.prog.info? 43).map (·.size) = some 2 := by kernel_rfl
  rw [h]; rfl
theorem ones43 (a : Nat) (v : Value) (h : v.oneCell' = true) : (frC a v).all (·.oneCell') = true := by simp [frC, Value.oneCell', h]; exact h
theorem results_cell_row_tmp2 {P : Program} {fn : Func} {p u q : Tmp} {ty : TypeId} (h : fn.results = #[.cell p ty, .tmp u, .tmp q]) (tmps : Array Value) (w : World) (g : Nat) (t : TypeId) (cs : Array Value) (fr : Nat × Nat) (d : TypeDesc)
    (hp : tmps.getD p undef = .pointer (some ⟨g, 0, none⟩)) (hg : w.heap[g]? = some (.cells cs t fr))
    (hu : P.underlying ty = some d) (hd : (match d with | .struct _ | .array _ _ => true | _ => false) = true) (hi : (P.info? ty).map (·.size) = some cs.size) {v x : Value} (hv : tmps.getD u undef = v) (hx : tmps.getD q undef = x) :
    (results fn tmps).run P w = .ok (.tuple #[.agg cs, v, x]) w := by
  subst hv hx
  have e : (results fn tmps).run P w = ((asAddr (tmps.getD p undef)).run P w).andThen fun a w₁ => ((loadVar ty a).run P w₁).andThen fun v w₂ => .ok (.tuple #[v, tmps.getD u undef, tmps.getD q undef]) w₂ := by
    simp only [results, h]
    simp [Sem.run_bind, Result.andThen]
  have hp' : (asAddr (.pointer (some ⟨g, 0, none⟩))).run P w = .ok ⟨g, 0, none⟩ w := by simp [asAddr]
  rw [e, hp, hp', Result.andThen_ok, run_loadVar_row w g t ty cs fr d hg hu hd hi, Result.andThen_ok]
/-- The world while a frame is read. -/
structure FW (w wr : World) (r : Nat) (s : ByteArray) (q g gh tb : Nat) (a b c d : Nat) : Prop where
  rd : RdAt wr r s q
  z : wr.heap[g]? = some (.cells (frC 0 (.slice none 0 0)) 43 (0, 0))
  h : wr.heap[gh]? = some (.cells (hdC a b c d) 155 (0, 0))
  t : TabAt wr tb
  gr : Grow w wr
  n1 : w.heap.size ≤ r
  n2 : w.heap.size ≤ g
theorem FW.read {w wr w' : World} {r q q' g gh tb a b c d : Nat} {s : ByteArray} (h : FW w wr r s q g gh tb a b c d) (hr : RdAt w' r s q') (ho : Only r wr w') : FW w w' r s q' g gh tb a b c d :=
  ⟨hr, ho.at (ty_ne h.z h.rd.1 (by decide)) h.z, ho.at (ty_ne h.h h.rd.1 (by decide)) h.h, h.t.only ho (tab_ne_rd h.t h.rd), h.gr.only ho h.n1, h.n1, h.n2⟩
theorem FW.grow {w wr w' : World} {r q g gh tb a b c d : Nat} {s : ByteArray} (h : FW w wr r s q g gh tb a b c d) (hg : Grow wr w') : FW w w' r s q g gh tb a b c d := h.read (h.rd.grow hg) (Only.of_grow hg r)
/-- The end of a frame: its payload's events. -/
def tailP (h : Nat × Nat × Nat × Nat) : Top.Bytes → Top.Got (Nat × List Top.Ev) := Top.seqP (Top.takeP h.2.2.2) fun p =>
  Top.okP (fun _ => match Top.readP h.2.1 h.2.2.1 p with
    | .inl e => .inl e
    | .inr es => if (es.headD default).cycle = h.2.1 ∧ (es.headD default).count = h.2.2.1 then .inr (h.1, es) else .inl 3) (Top.sumP p)
theorem seq_assoc {α β γ δ : Type} (p : Top.Bytes → Top.Got α) (q : α → Top.Bytes → Top.Got β) (g : α → γ) (f : γ → Top.Bytes → Top.Got δ) (l : Top.Bytes) :
    Top.seqP p (fun h => Top.seqP (q h) fun _ => f (g h)) l = Top.seqP (Top.seqP p fun h => Top.okP (fun _ => .inr (g h)) (q h)) f l := by
  unfold Top.seqP
  cases h1 : p l with
  | no e => rfl
  | yes a k =>
    unfold Top.okP
    cases h2 : q a (l.drop k) with
    | no e => simp only [h2]
    | yes u j =>
      simp only [h2, List.drop_drop]
      cases h3 : f (g a) (l.drop (k + j)) with
      | no e => simp only [h3]
      | yes b i => simp only [h3, Nat.add_assoc]
theorem frame_eq : Top.frameP = Top.seqP headerP tailP := funext fun l => seq_assoc Top.headP (fun h => Top.sumP (h.2.drop 16)) (fun h => h.1) tailP l
theorem frame_no {l : Top.Bytes} {e : Nat} (h : headerP l = .no e) : Top.frameP l = .no e := by rw [frame_eq]; exact seq_stop h
theorem frame_go {l : Top.Bytes} {x : Nat × Nat × Nat × Nat} {k : Nat} (h : headerP l = .yes x k) : Top.frameP l = (tailP x (l.drop k)).shift k := by rw [frame_eq]; exact seq_go h
theorem septL_lt : ∀ (c : Nat) (l : Top.Bytes) (k n a q : Nat), k + c ≤ 10 → n < 2 ^ (min 64 (7 * k)) → Top.septL c l k n = .yes a q → a < 2 ^ 64
  | 0, l, k, n, a, q, hc, hn, h => by
    simp only [Top.septL] at h
    injection h with h _
    subst h
    exact Nat.lt_of_lt_of_le hn (Nat.pow_le_pow_right (by decide) (Nat.min_le_left _ _))
  | c + 1, [], k, n, a, q, hc, hn, h => by simp [Top.septL] at h
  | c + 1, b :: t, k, n, a, q, hc, hn, h => by
    rw [Top.septL] at h
    split at h
    · cases h
    · rename_i hb
      refine septL_lt c t _ _ _ _ (by omega) ?_ h
      by_cases h9 : k = 9
      · subst h9
        have h1 : b.toNat ≤ 1 := by omega
        have e1 : min 64 (7 * 9) = 63 := by decide
        have e2 : min 64 (7 * (9 + 1)) = 64 := by decide
        rw [e1] at hn
        rw [e2]
        omega
      · have e1 : min 64 (7 * k) = 7 * k := by omega
        have e2 : min 64 (7 * (k + 1)) = 7 * (k + 1) := by omega
        rw [e1] at hn
        rw [e2]
        exact group_lt _ _ _ hn (by omega)
theorem sept_lt {l : Top.Bytes} {n k : Nat} (h : Top.septP 10 l = .yes n k) : n < 2 ^ 64 := septL_lt 10 l 0 0 n k (by omega) (by decide) h
theorem fields_bd {l : Top.Bytes} {x : Nat × Nat × Nat × Nat} {k : Nat} (h : fieldsP l = .yes x k) : x.1 ≤ 4294967295 ∧ x.2.1 < 2 ^ 64 ∧ x.2.2.1 < 2 ^ 64 ∧ 1 ≤ x.2.2.2 ∧ x.2.2.2 ≤ 120 := by
  obtain ⟨_, _, _, _, h, _⟩ := Top.seqP_yes h
  obtain ⟨a, _, _, h1, h, _⟩ := Top.seqP_yes h
  obtain ⟨b, _, _, h2, h, _⟩ := Top.seqP_yes h
  obtain ⟨c, _, _, h3, h, _⟩ := Top.seqP_yes h
  obtain ⟨d, h4, h5⟩ := Top.okP_yes h
  split at h5
  · cases h5
  · injection h5 with h5
    subst h5
    exact ⟨wordP_le h1, sept_lt h2, sept_lt h3, by simp only; omega, by simp only; omega⟩
theorem header_bd {l : Top.Bytes} {x : Nat × Nat × Nat × Nat} {k : Nat} (h : headerP l = .yes x k) : x.1 ≤ 4294967295 ∧ x.2.1 < 2 ^ 64 ∧ x.2.2.1 < 2 ^ 64 ∧ 1 ≤ x.2.2.2 ∧ x.2.2.2 ≤ 120 := by
  obtain ⟨a, j, q, h1, h2, _⟩ := Top.seqP_yes h
  obtain ⟨u, _, h3⟩ := Top.okP_yes h2
  injection h3 with h3
  subst h3
  have h4 : Top.rawP fieldsP l = .yes a j := h1
  unfold Top.rawP at h4
  cases h5 : fieldsP l with
  | no e => rw [h5] at h4; cases h4
  | yes b i =>
    rw [h5] at h4
    injection h4 with h4 _
    subst h4
    exact fields_bd h5
theorem readL_some {f cy co : Nat} {l : Top.Bytes} {es : List Top.Ev} (h : Top.readL (f + 1) cy co l = .inr es) (hl : l ≠ []) : es ≠ [] := by
  rw [Top.readL, if_neg hl] at h
  split at h
  · cases h
  · split at h
    · cases h
    · injection h with h; subst h; simp
theorem readP_some {cy co : Nat} {l : Top.Bytes} {es : List Top.Ev} (h : Top.readP cy co l = .inr es) (hl : l ≠ []) : es ≠ [] := by
  have hpos : 0 < l.length := List.length_pos_iff.2 hl
  unfold Top.readP at h
  obtain ⟨f, hf⟩ : ∃ f, l.length = f + 1 := ⟨l.length - 1, by omega⟩
  rw [hf] at h
  exact readL_some h hl
attribute [local irreducible] GotR tab mk headerP Top.sumP tailP Top.readP
set_option maxHeartbeats 4000000 in
theorem frame_any (w : World) (tb : Nat) (s : ByteArray) (p : Nat) (hs : s.size < 2 ^ 62) (hp : p ≤ s.size) (ht : TabAt w tb) : Calls Tryz.prog 50 #[.pointer (some ⟨tb, 0, none⟩), .string s, .int .i64 p] w fun e w' =>
    GotR (Top.frameP (rest s p)) e w' (fun x k e w' => ∃ v, e = .returned (.tuple #[.agg (frC x.1 v), .int .i64 ((p + k : Nat) : Int), .int .i64 0]) ∧ w'.ownsRow w.heap.size 98 6 v x.2.length (evsC x.2)) (fun er e w' => e = .returned (.tuple #[.agg (frC 0 (.slice none 0 0)), .int .i64 0, .int .i64 er]) ∧ er ≠ 0) ∧ Grow w w' := by
  have HS := Lib.hid hs; clear hs
  have HP := Lib.hid hp; clear hp
  have HT := Lib.hid ht; clear ht
  go_enter Tryz.func50, Tryz.ntmps50
  go_wp2_with fail
  have HZ := Lib.hid (heapAt_alloc_new w (.cells (frC 0 (.slice none 0 0)) 43))
  have HG := Lib.hid (Grow.alloc w (.cells (frC 0 (.slice none 0 0)) 43))
  have HSZ := Lib.hid (show (w.alloc (.cells (frC 0 (.slice none 0 0)) 43)).heap.size = w.heap.size + 1 by simp)
  generalize w.alloc (.cells #[.int .u32 0, .slice none 0 0] 43) = w1 at HZ HG HSZ ⊢
  refine (new_any _ s HS.out).mono ?_
  rintro _ w2 ⟨rfl, hr, hg⟩
  have HR2 := Lib.hid hr; clear hr
  have HG2 := Lib.hid hg; clear hg
  go_wp2_with fail
  refine (seek_any _ _ s 0 p HR2.out HP.out).mono ?_
  rintro _ w3 ⟨rfl, hr, ho⟩
  have HR3 := Lib.hid hr; clear hr
  have HO3 := Lib.hid ho; clear ho
  have HZ3 := Lib.hid (HO3.out.at (ty_ne (HG2.out.at HZ.out) HR2.out.1 (by decide)) (HG2.out.at HZ.out))
  have HT3 := Lib.hid (((HT.out.grow HG.out).grow HG2.out).only HO3.out (tab_ne_rd ((HT.out.grow HG.out).grow HG2.out) HR2.out))
  have HG3 := Lib.hid ((HG.out.trans HG2.out).only HO3.out (by have := HSZ.out; omega))
  have HN1 := Lib.hid (show w.heap.size ≤ w1.heap.size by have := HSZ.out; omega)
  clear HO3 HR2 HG2 HZ HG HSZ
  generalize w1.heap.size = r at HR3 HN1 ⊢
  obtain ⟨g, hg⟩ : ∃ g, g = w.heap.size := ⟨_, rfl⟩
  rw [← hg] at HZ3 ⊢
  have HGE := Lib.hid hg; clear hg
  go_wp2_with fail
  refine (header_any _ tb r s p HR3.out HT3.out).mono ?_
  rintro e w4 ⟨hq, ho⟩
  have HO4 := Lib.hid ho; clear ho
  cases hx : headerP (rest s p) with
  | no er =>
    obtain ⟨⟨a, b, c, d, rfl⟩, her⟩ := hq.is_no hx
    have HN := Lib.hid (frame_no hx)
    have HER := Lib.hid her
    have hne : ¬ (er : Int) = 0 := by omega
    have hneb : ((er : Int) != 0) = true := by simpa using hne
    have HF := Lib.hid (show w4.heap[g]? = some (.cells (frC 0 (.slice none 0 0)) 43 (0, 0)) from HO4.out.at (ty_ne HZ3.out HR3.out.1 (by decide)) HZ3.out)
    have HG4 := Lib.hid (HG3.out.only HO4.out HN1.out)
    clear hx hq her
    have HF2 := Lib.hid ((Grow.alloc w4 (.cells (hdC a b c d) 155)).at HF.out)
    have HG5 := Lib.hid (HG4.out.trans (Grow.alloc w4 (.cells (hdC a b c d) 155)))
    go_wp2_with (first
      | ((with_reducible refine wpList_store_blk rfl 43 _ _ rfl g 43 _ (frC 0 (.slice none 0 0)) ?_ ?_ HF2.out rfl (info43 ..) (ones43 _ _ rfl) ?_); (· rfl); (· rfl); intro wz hbz hoz))
    refine bodyPost_ret (v := .tuple #[.agg (frC 0 (.slice none 0 0)), .int .i64 0, .int .i64 er]) (results_cell_row_tmp2 rfl _ _ g 43 _ (0, 0) _ (by rfl) hbz Tryz.underlying43 rfl (info43 ..) (by rfl) (by rfl)) rfl ⟨?_, HG5.out.only hoz (by rw [HGE.out]; exact Nat.le_refl _)⟩
    exact GotR.mkN HN.out ⟨rfl, HER.out⟩
  | yes x k =>
    obtain ⟨rfl, hr⟩ := hq.is_yes hx
    have HB := Lib.hid (header_bd hx)
    have HFR := Lib.hid (frame_go hx)
    rw [rest_add] at HFR
    obtain ⟨x1, x2, x3, x4⟩ := x
    have HW4 := Lib.hid (show FW w (w4.alloc (.cells (hdC x1 x2 x3 x4) 155)) r s (p + k) g w4.heap.size tb x1 x2 x3 x4 from
      ⟨hr.grow (Grow.alloc _ _), (Grow.alloc _ _).at (HO4.out.at (ty_ne HZ3.out HR3.out.1 (by decide)) HZ3.out), heapAt_alloc_new _ _, (HT3.out.only HO4.out (tab_ne_rd HT3.out HR3.out)).grow (Grow.alloc _ _), (HG3.out.only HO4.out HN1.out).trans (Grow.alloc _ _), HN1.out, by rw [HGE.out]; exact Nat.le_refl _⟩)
    clear hr hq hx HR3 HZ3 HT3 HG3 HN1 HO4
    go_wp2_with fail
    generalize w4.alloc (.cells #[.int .u32 x1, .int .u64 x2, .int .u64 x3, .int .i64 x4] 155) = w5 at HW4 ⊢
    generalize w4.heap.size = gh at HW4 ⊢
    obtain ⟨q, hq⟩ : ∃ q, q = p + k := ⟨_, rfl⟩
    rw [← hq] at HFR HW4
    have HPK := Lib.hid hq; clear hq
    have HQL := Lib.hid HW4.out.rd.2.1
    by_cases hle : q + x4 ≤ s.size
    · obtain ⟨q2, hq2⟩ : ∃ y, y = q + x4 := ⟨_, rfl⟩
      refine (take_ok _ r s q x4 q2 HW4.out.rd hq2.symm (by omega)).mono ?_
      rintro _ w6 ⟨rfl, hr, ho⟩
      have HW5 := Lib.hid (HW4.out.read hr ho); clear hr ho HW4
      have HTL := Lib.hid (show ∀ F : Top.Bytes → Top.Bytes → Top.Got (Nat × List Top.Ev), Top.seqP (Top.takeP x4) F (rest s q) = (F ((rest s q).take x4) (rest s q2)).shift x4 by
        intro F
        have h := seq_go (f := F) (show Top.takeP x4 (rest s q) = .yes ((rest s q).take x4) x4 by unfold Top.takeP; rw [if_pos (by rw [rest_len]; omega)])
        rw [h, rest_add, hq2])
      have HPL := Lib.hid (show (s.extract q q2).data.toList = (rest s q).take x4 by rw [extract_list, hq2]; congr 1; omega)
      have HPS := Lib.hid (show (s.extract q q2).size = x4 by rw [ByteArray.size_extract]; have := HS.out; omega)
      have HQ2 := Lib.hid hq2; clear hq2 hle
      generalize s.extract q q2 = pl at HPL HPS ⊢
      have HTT := Lib.hid (show tailP (x1, x2, x3, x4) (rest s q) = (Top.okP (fun _ => match Top.readP x2 x3 (rest pl 0) with
        | .inl e => .inl e
        | .inr es => if (es.headD default).cycle = x2 ∧ (es.headD default).count = x3 then .inr (x1, es) else .inl 3) (Top.sumP pl.data.toList) (rest s q2)).shift x4 by
          unfold tailP; rw [HTL.out, ← HPL.out]; rfl)
      clear HTL
      go_wp2_with fail
      refine (sum_any _ tb r s pl q2 HW5.out.rd HW5.out.t (by rw [HPS.out]; have := HB.out; omega)).mono ?_
      rintro _ w7 ⟨rfl, ⟨q3, hr, hq3⟩, ho⟩
      have HW6 := Lib.hid (HW5.out.read hr ho); clear hr ho HW5
      cases hsm : Top.sumP pl.data.toList (rest s q2) with
      | no er =>
        have HER := Lib.hid (sumP_err hsm)
        have hne : ¬ (er : Int) = 0 := by have := HER.out; omega
        have hneb : ((er : Int) != 0) = true := by simpa using hne
        have HN := Lib.hid (show Top.frameP (rest s p) = .no er by rw [HFR.out, HTT.out]; unfold Top.okP; rw [hsm]; rfl)
        simp only [errOf]
        clear hsm hq3
        go_wp2_with (first
          | ((with_reducible refine wpList_store_blk rfl 43 _ _ rfl g 43 _ (frC 0 (.slice none 0 0)) ?_ ?_ HW6.out.z rfl (info43 ..) (ones43 _ _ rfl) ?_); (· rfl); (· rfl); intro wz hbz hoz))
        refine bodyPost_ret (v := .tuple #[.agg (frC 0 (.slice none 0 0)), .int .i64 0, .int .i64 er]) (results_cell_row_tmp2 rfl _ _ g 43 _ (0, 0) _ (by rfl) hbz Tryz.underlying43 rfl (info43 ..) (by rfl) (by rfl)) rfl ⟨?_, HW6.out.gr.only hoz HW6.out.n2⟩
        exact GotR.mkN HN.out ⟨rfl, HER.out⟩
      | yes u k4 =>
        have HQ3 := Lib.hid (hq3 u k4 hsm)
        have HT4 := Lib.hid (show Top.frameP (rest s p) = (match (match Top.readP x2 x3 (rest pl 0) with
          | .inl e => (.inl e : Nat ⊕ (Nat × List Top.Ev))
          | .inr es => if (es.headD default).cycle = x2 ∧ (es.headD default).count = x3 then .inr (x1, es) else .inl 3) with
          | .inl e => Top.Got.no e
          | .inr b => Top.Got.yes b (k + x4 + k4)) by
            rw [HFR.out, HTT.out]; unfold Top.okP; rw [hsm]; simp only
            cases (match Top.readP x2 x3 (rest pl 0) with
              | .inl e => (.inl e : Nat ⊕ (Nat × List Top.Ev))
              | .inr es => if (es.headD default).cycle = x2 ∧ (es.headD default).count = x3 then .inr (x1, es) else .inl 3) with
            | inl e => rfl
            | inr b => simp [Top.Got.shift, Nat.add_assoc])
        simp only [errOf]
        clear hsm hq3
        have hf1 := cell_block HW6.out.h 1
        have hf2 := cell_block HW6.out.h 2
        simp at hf1 hf2
        go_wp2_with fail
        refine (read_any w7 x2 x3 pl HB.out.2.1 HB.out.2.2.1 (by rw [HPS.out]; have := HB.out; omega)).mono ?_
        rintro e w8 ⟨hrd, hg⟩
        have HW7 := Lib.hid (HW6.out.grow hg); clear hg hf1 hf2
        cases hre : Top.readP x2 x3 (rest pl 0) with
        | inl er =>
          obtain ⟨rfl, her⟩ := hrd.is_no hre
          have HER := Lib.hid her
          have hne : ¬ (er : Int) = 0 := by omega
          have hneb : ((er : Int) != 0) = true := by simpa using hne
          have hned : ((er : Int) == 0) = false := by simpa using hne
          have HN := Lib.hid (show Top.frameP (rest s p) = .no er by rw [HT4.out, hre])
          clear hre hrd her
          go_upto_region 16 with (fail)
          go_quiet (fail)
          have HW8 := Lib.hid (HW7.out.grow (Grow.drewN _ nq))
          go_wp2_with (first
            | ((with_reducible refine wpList_store_blk rfl 43 _ _ rfl g 43 _ (frC 0 (.slice none 0 0)) ?_ ?_ HW8.out.z rfl (info43 ..) (ones43 _ _ rfl) ?_); (· rfl); (· rfl); intro wz hbz hoz))
          refine bodyPost_ret (v := .tuple #[.agg (frC 0 (.slice none 0 0)), .int .i64 0, .int .i64 er]) (results_cell_row_tmp2 rfl _ _ g 43 _ (0, 0) _ (by rfl) hbz Tryz.underlying43 rfl (info43 ..) (by rfl) (by rfl)) rfl ⟨?_, HW8.out.gr.only hoz HW8.out.n2⟩
          exact GotR.mkN HN.out ⟨rfl, HER.out⟩
        | inr es =>
          obtain ⟨v, rfl, hown⟩ := hrd.is_yes hre
          have hes := readP_some hre (by intro h; have h2 := congrArg List.length h; rw [rest_len, HPS.out] at h2; simp at h2; have := HB.out; omega)
          have HOW := Lib.hid (own_mono hown HW6.out.gr.size)
          obtain ⟨e0, es', rfl⟩ : ∃ e0 es', es = e0 :: es' := by cases es with
            | nil => exact absurd rfl hes
            | cons a l => exact ⟨a, l, rfl⟩
          obtain ⟨b, cap, cur, rfl, hcap, _, _, hcells⟩ := own_at hown (by simp)
          have HT5 := Lib.hid (HT4.out)
          rw [hre] at HT5
          clear HT4 hre hrd hown hes
          have HC1 := Lib.hid (hcells 1 (.int .u64 e0.cycle) rfl)
          have HC2 := Lib.hid (hcells 2 (.int .u64 e0.count) rfl)
          clear hcells
          have hl0 : 0 < (e0 :: es').length := by simp
          generalize hel : (e0 :: es').length = el at *
          have HEL := Lib.hid hel; clear hel
          have hli0 : (0 : Int) < (el : Int) := by omega
          have g1 := HC1.out
          have g2 := HC2.out
          have hf1 := cell_block HW7.out.h 1
          have hf2 := cell_block HW7.out.h 2
          simp at hf1 hf2
          by_cases hcy : e0.cycle = x2
          · have i1 : ((e0.cycle : Int) != (x2 : Int)) = false := by rw [hcy]; simp
            by_cases hco : e0.count = x3
            · have i2 : ((e0.count : Int) != (x3 : Int)) = false := by rw [hco]; simp
              have HN := Lib.hid (show Top.frameP (rest s p) = .yes (x1, e0 :: es') (k + x4 + k4) by rw [HT5.out]; simp [hcy, hco])
              clear HT5 hcy hco
              go_upto_region 16 with (fail)
              go_quiet (fail)
              have HW8 := Lib.hid (HW7.out.grow (Grow.drewN _ nq))
              have HOW2 := Lib.hid (own_grow HOW.out (Grow.drewN w8 nq))
              generalize w8.drewN nq = w9 at HW8 HOW2 ⊢
              clear HW7 HOW HC1 HC2 g1 g2 hf1 hf2
              go_upto_region 20 with (fail)
              have k0 := cell_block HW8.out.h 0
              have z0 := cell_block HW8.out.z 0
              have z1 := cell_block HW8.out.z 1
              have y0 := free_block HW8.out.z 0
              have y1 := free_block HW8.out.z 1
              simp at k0 z0 z1
              go_region_with (first
                | (go_at_call 74; refine (at_same _ r s q3 (by exact HW8.out.rd)).mono ?_; rintro _ _ ⟨rfl, rfl⟩))
              all_goals
                have HBZ := Lib.hid (show ((w9.setCell ⟨g, 0, none⟩ (.int .u32 x1)).setCell ⟨g, 1, none⟩ (.slice (some ⟨b, 0, none⟩) el cap)).heap[g]? = some (.cells (frC x1 (.slice (some ⟨b, 0, none⟩) el cap)) 43 (0, 0)) by
                  have h := set_whole (set_whole HW8.out.z 0 (.int .u32 x1)) 1 (.slice (some ⟨b, 0, none⟩) el cap)
                  simpa using h)
                have HO := Lib.hid (show Only g w9 ((w9.setCell ⟨g, 0, none⟩ (.int .u32 x1)).setCell ⟨g, 1, none⟩ (.slice (some ⟨b, 0, none⟩) el cap)) from ((Only.refl g w9).setCell 0 _).setCell 1 _)
                generalize (w9.setCell ⟨g, 0, none⟩ (.int .u32 x1)).setCell ⟨g, 1, none⟩ (.slice (some ⟨b, 0, none⟩) el cap) = w10 at HBZ HO ⊢
                clear y0 y1 k0 z0 z1
                have HPQ := Lib.hid (show q3 = p + (k + x4 + k4) by rw [HQ3.out, HQ2.out, HPK.out]; omega)
                go_wp2
                refine bodyPost_ret (v := .tuple #[.agg (frC x1 (.slice (some ⟨b, 0, none⟩) el cap)), .int .i64 q3, .int .i64 0]) ?_ rfl ⟨?_, by exact HW8.out.gr.only HO.out HW8.out.n2⟩
                · refine results_cell_row_tmp2 (fn := Tryz.f50) (p := 6) (u := 7) (q := 8) (ty := 43) rfl _ _ g 43 (frC x1 (.slice (some ⟨b, 0, none⟩) el cap)) (0, 0) _ ?_ (by exact HBZ.out) Tryz.underlying43 rfl (info43 ..) (v := .int .i64 q3) (x := .int .i64 0) ?_ ?_ <;> rfl
                · exact GotR.mkY HN.out ⟨_, by rw [HPQ.out], by
                    rw [HEL.out]
                    exact own_only HOW2.out HO.out HW8.out.z (by decide)⟩
            · have i2 : ((e0.count : Int) != (x3 : Int)) = true := by simp; omega
              have HN := Lib.hid (show Top.frameP (rest s p) = .no 3 by rw [HT5.out]; simp [hcy, hco])
              have HER := Lib.hid (show (3 : Nat) ≠ 0 by decide)
              clear HT5 hcy hco
              go_upto_region 16 with (fail)
              go_quiet (fail)
              have HW8 := Lib.hid (HW7.out.grow (Grow.drewN _ nq))
              go_wp2_with (first
                | ((with_reducible refine wpList_store_blk rfl 43 _ _ rfl g 43 _ (frC 0 (.slice none 0 0)) ?_ ?_ HW8.out.z rfl (info43 ..) (ones43 _ _ rfl) ?_); (· rfl); (· rfl); intro wz hbz hoz))
              refine bodyPost_ret (v := .tuple #[.agg (frC 0 (.slice none 0 0)), .int .i64 0, .int .i64 3]) (results_cell_row_tmp2 rfl _ _ g 43 _ (0, 0) _ (by rfl) hbz Tryz.underlying43 rfl (info43 ..) (by rfl) (by rfl)) rfl ⟨?_, HW8.out.gr.only hoz HW8.out.n2⟩
              exact GotR.mkN HN.out ⟨rfl, HER.out⟩
          · have i1 : ((e0.cycle : Int) != (x2 : Int)) = true := by simp; omega
            have HN := Lib.hid (show Top.frameP (rest s p) = .no 3 by rw [HT5.out]; simp [hcy])
            have HER := Lib.hid (show (3 : Nat) ≠ 0 by decide)
            clear HT5 hcy
            go_upto_region 16 with (fail)
            go_quiet (fail)
            have HW8 := Lib.hid (HW7.out.grow (Grow.drewN _ nq))
            go_wp2_with (first
              | ((with_reducible refine wpList_store_blk rfl 43 _ _ rfl g 43 _ (frC 0 (.slice none 0 0)) ?_ ?_ HW8.out.z rfl (info43 ..) (ones43 _ _ rfl) ?_); (· rfl); (· rfl); intro wz hbz hoz))
            refine bodyPost_ret (v := .tuple #[.agg (frC 0 (.slice none 0 0)), .int .i64 0, .int .i64 3]) (results_cell_row_tmp2 rfl _ _ g 43 _ (0, 0) _ (by rfl) hbz Tryz.underlying43 rfl (info43 ..) (by rfl) (by rfl)) rfl ⟨?_, HW8.out.gr.only hoz HW8.out.n2⟩
            exact GotR.mkN HN.out ⟨rfl, HER.out⟩
    · refine (take_no _ r s q x4 HW4.out.rd (by have := HB.out; omega) (by omega)).mono ?_
      rintro _ w6 ⟨rfl, hg⟩
      have HW5 := Lib.hid (HW4.out.grow hg); clear hg HW4
      have HN := Lib.hid (show Top.frameP (rest s p) = .no 2 by
        rw [HFR.out]
        unfold tailP
        rw [seq_stop (show Top.takeP x4 (rest s q) = .no 2 by unfold Top.takeP; rw [if_neg (by rw [rest_len]; have := HQL.out; omega)])]; rfl)
      have HER := Lib.hid (show (2 : Nat) ≠ 0 by decide)
      go_wp2_with (first
        | ((with_reducible refine wpList_store_blk rfl 43 _ _ rfl g 43 _ (frC 0 (.slice none 0 0)) ?_ ?_ HW5.out.z rfl (info43 ..) (ones43 _ _ rfl) ?_); (· rfl); (· rfl); intro wz hbz hoz))
      refine bodyPost_ret (v := .tuple #[.agg (frC 0 (.slice none 0 0)), .int .i64 0, .int .i64 2]) (results_cell_row_tmp2 rfl _ _ g 43 _ (0, 0) _ (by rfl) hbz Tryz.underlying43 rfl (info43 ..) (by rfl) (by rfl)) rfl ⟨?_, HW5.out.gr.only hoz HW5.out.n2⟩
      exact GotR.mkN HN.out ⟨rfl, HER.out⟩
end Go.Proofs.YtnhmdinpfcoebaaGreatDoor
end
