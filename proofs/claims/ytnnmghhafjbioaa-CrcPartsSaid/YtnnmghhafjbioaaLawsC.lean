/- The walk of CrcLinear: the loop that mixes three texts. -/
import Derived.Test.YtnnmghhafjbioaaLawsB
import Derived.Deep.AppendLies
namespace Go.Proofs.Ytnnmghhafjbioaa
open Go.RowKit
attribute [local irreducible] CrcP.shN tab zeros tw mat CrcP.Sum holdsB CrcP.bytes CrcP.Turn sp CrcP.acc

/-- Three texts of one length, xored. -/
def mix (a b c : List UInt8) : List UInt8 := List.zipWith (fun p q => p ^^^ q) (List.zipWith (fun p q => p ^^^ q) a b) c
theorem mix_take (a b c : List UInt8) (k : Nat) (ha : k < a.length) (hb : k < b.length) (hc : k < c.length) : mix (a.take (k + 1)) (b.take (k + 1)) (c.take (k + 1)) = mix (a.take k) (b.take k) (c.take k) ++ [a[k] ^^^ b[k] ^^^ c[k]] := by
  unfold mix
  rw [List.take_succ_eq_append_getElem ha, List.take_succ_eq_append_getElem hb, List.take_succ_eq_append_getElem hc, List.zipWith_append (by simp; omega), List.zipWith_append (by simp; omega)]
  rfl
theorem mix_length (a b c : List UInt8) (k : Nat) (ha : k ≤ a.length) (hb : k ≤ b.length) (hc : k ≤ c.length) : (mix (a.take k) (b.take k) (c.take k)).length = k := by
  unfold mix; simp; omega
theorem xor_three (a b c : UInt8) : bits .xor .u8 (bits .xor .u8 (a.toNat : Int) (b.toNat : Int)) (c.toNat : Int) = ((a ^^^ b ^^^ c).toNat : Int) := by
  have ha := a.toNat_lt; have hb := b.toNat_lt; have hc := c.toNat_lt
  have hab : a.toNat ^^^ b.toNat < 2 ^ 8 := Nat.xor_lt_two_pow ha hb
  rw [u8_xor_nat _ _ (by omega) (by omega), u8_xor_nat _ _ (by omega) (by omega), UInt8.toNat_xor, UInt8.toNat_xor]
attribute [local irreducible] mix

/-- A row of bytes that the call owns, which reads as Z. -/
def Row41 (B : Nat) (v : Value) (Z : ByteArray) (w : World) : Prop := w.ownsRow B 5 1 v Z.data.toList.length (Z.data.toList.map fun x => .int .u8 (x.toNat : Int))
theorem Row41.conv {B : Nat} {v : Value} {Z : ByteArray} {w : World} (h : Row41 B v Z w) : (convert 41 9 v).run Try.prog w = .ok (.string Z) w :=
  conv_row w 41 9 5 Try.underlying41 Try.underlying5 Try.underlying9 B _ v Z.data.toList rfl h
theorem Row41.grow {B : Nat} {v : Value} {Z : ByteArray} {w w' : World} (h : Row41 B v Z w) (hg : Grow w w') : Row41 B v Z w' := by
  obtain ⟨h1, h2⟩ := h
  refine ⟨h1, ?_⟩
  rcases h2 with h2 | ⟨g, cap, cur, hv, hb, hgg, rest⟩
  · exact .inl h2
  · exact .inr ⟨g, cap, cur, hv, hb, heapAt_below hg (heapAt_lt hgg) hgg, rest⟩
theorem Row41.alloc {B : Nat} {v : Value} {Z : ByteArray} {w : World} (h : Row41 B v Z w) (o : Obj) : Row41 B v Z (w.alloc o) := h.grow (Grow.alloc w o)
theorem sum_gr2 {w0 : World} (w : World) (b pb cap : Nat) (s : ByteArray) (X : BitVec 32) (hX : X = CrcP.Sum s.data.toList) (h : Ok w0 b w) (hc : w.cell? ⟨pb, 0, none⟩ = some (.string s)) (hs : (s.size : Int) ≤ 9223372036854775807) :
    Calls Try.prog 12 #[.pointer (some ⟨b, 0, none⟩), .slice (some ⟨pb, 0, none⟩) 1 cap] w fun e w' => e = .returned (.int .u32 X.toNat) ∧ Grow w w' := by
  subst hX; exact sum_gr w b pb cap s h hc hs
attribute [local simp] RelKnown Is

set_option maxHeartbeats 1000000 in
set_option maxRecDepth 100000 in
theorem crcLinear_in (a b c : ByteArray) (m n : Nat) (hm1 : (if b.size < a.size then (b.size : Int) else (a.size : Int)) = (m : Int)) (hm2 : (if c.size < m then (c.size : Int) else (m : Int)) = (n : Int))
    (ha : n ≤ a.size) (hb : n ≤ b.size) (hc : n ≤ c.size) (hsa : (a.size : Int) ≤ 9223372036854775807) (hn : (n : Int) ≤ 500) (w : World) : Calls Try.prog 8 #[.string a, .string b, .string c] w fun e w' => e = .returned (.bool true) ∧ Below w.heap.size w w' := by
  obtain ⟨i0, hi, hz0, hz1, hz2⟩ := info_parts info5
  have hn5 : ¬ (500 : Int) < (n : Int) := by omega
  go_enter Try.func8, Try.ntmps8
  go_wp2_with fail
  refine (awake_bl (w0 := w) _ (Bl.refl w)).mono ?_
  rintro e w1 ⟨rfl, hb1⟩
  clear hm1 hm2
  go_wp2_with fail
  generalize hB : w.heap.size = B at *
  have HB := Lib.hid hB; clear hB
  have hB1 : B ≤ w1.heap.size := by have := hb1.size; rw [HB.out] at this; exact this
  have hbB : Below B w w1 := by have := hb1; unfold Bl at this; rw [HB.out] at this; exact this
  have HB1 := Lib.hid hbB; clear hbB
  go_loopw [9, 8] (fun iv v wr => ∃ k : Nat, k ≤ n ∧ iv = .int .i64 k ∧ wr.ownsRow B 5 1 v k ((mix (a.data.toList.take k) (b.data.toList.take k) (c.data.toList.take k)).map fun x => .int .u8 (x.toNat : Int)) ∧ Below B w wr) (fun iv _ _ => n - (intOf iv).toNat)
  case atStart => exact ⟨0, by omega, rfl, by unfold mix; exact World.ownsRow_made w1 #[] 0 hB1 (by unfold maxLen; omega) rfl, HB1.out.alloc hB1 _⟩
  case round =>
    obtain ⟨k, hk, rfl, hown, hbel⟩ := hrel
    have HBw := Lib.hid (show B ≤ wr.heap.size by have := hbel.size; rw [HB.out] at this; exact this)
    by_cases hlt : k < n
    · have hka : k < a.size := by omega
      have hkb : k < b.size := by omega
      have hkc : k < c.size := by omega
      have HX := Lib.hid (xor_three a[k] b[k] c[k])
      have HM := Lib.hid (show mix (a.data.toList.take (k + 1)) (b.data.toList.take (k + 1)) (c.data.toList.take (k + 1)) = mix (a.data.toList.take k) (b.data.toList.take k) (c.data.toList.take k) ++ [a[k] ^^^ b[k] ^^^ c[k]] from mix_take a.data.toList b.data.toList c.data.toList k (by simpa using hka) (by simpa using hkb) (by simpa using hkc))
      generalize (mix (a.data.toList.take k) (b.data.toList.take k) (c.data.toList.take k)) = M at *
      have Hown := Lib.hid hown; clear hown
      go_wp2
      go_region_held3 (fun _ => True) (trivial) ((refine step_append_lies _ (by rfl) _ _ 41 (by rfl) B 5 i0 (.int .u8 0) 1 1 Try.underlying41 hi hz0 hz1 hz2 rfl (by decide) _ k _ (by rfl) (Hown.out.alloc _) ⟨wr.heap.size, 0, none⟩ 1 1 [_] (by rfl) rfl (World.news_of_block (heap_alloc_new wr _)) (by intro u hu; simp at hu; subst hu; rfl) (by omega) (by unfold maxLen; omega) (by omega) (by have := HBw.out; simp; omega) _ rfl ?_; intro g cap w1' hown1 hgrow hat hlt'))
      all_goals (have hbel2 : Below B w w1' := ((hbel.alloc HBw.out (.cells #[.int .u8 (bits .xor .u8 (bits .xor .u8 (a[k].toNat : Int) (b[k].toNat : Int)) (c[k].toNat : Int))] 5)).drew).grown hgrow (by have := HBw.out; simp; omega) (fun k' hk' => (Hown.out.lt k' hk').1); have Hown1 := Lib.hid hown1; clear hown1 hgrow hat hlt'; (try go_wp2); (try go_roundw))
      all_goals (first | exact ⟨⟨k + 1, by omega, by go_num, by rw [HM.out, List.map_append, List.map_cons, List.map_nil, ← HX.out]; exact Hown1.out, hbel2⟩, by simp [intOf]; omega⟩ | exact ⟨k + 1, by omega, by go_num, by rw [HM.out, List.map_append, List.map_cons, List.map_nil, ← HX.out]; exact Hown1.out, hbel2⟩ | (simp [intOf]; omega))
    · have HK := Lib.hid (show k = n by omega)
      obtain ⟨Z, hZ⟩ : ∃ Z : ByteArray, Z = ⟨(mix (a.data.toList.take k) (b.data.toList.take k) (c.data.toList.take k)).toArray⟩ := ⟨_, rfl⟩
      have hZl : Z.data.toList = mix (a.data.toList.take n) (b.data.toList.take n) (c.data.toList.take n) := by rw [hZ, ← HK.out]
      have hZn : Z.data.toList.length = k := by rw [hZl, mix_length _ _ _ _ (by simpa using ha) (by simpa using hb) (by simpa using hc), HK.out]
      have hZs : (Z.size : Int) ≤ 9223372036854775807 := by
        have : Z.size = k := by simpa using hZn
        rw [this]; omega
      have hrow : Row41 B u8 Z wr := by
        unfold Row41
        rw [hZn, hZl, ← HK.out]; exact hown
      obtain ⟨pa, hpa⟩ : ∃ pa, pa = a.extract 0 n := ⟨_, rfl⟩
      obtain ⟨pb, hpb⟩ : ∃ pb, pb = b.extract 0 n := ⟨_, rfl⟩
      obtain ⟨pc, hpc⟩ : ∃ pc, pc = c.extract 0 n := ⟨_, rfl⟩
      have ha' : (n : Int) ≤ (a.size : Int) := by omega
      have hb' : (n : Int) ≤ (b.size : Int) := by omega
      have hc' : (n : Int) ≤ (c.size : Int) := by omega
      have hs1 : ∀ w, (Instr.slice 9 (.string a) none (some (.int .i64 (n : Int))) none).run Try.prog w = .ok (.string pa) w := fun w => by rw [hpa]; exact run_slice_string_h w 9 a Try.underlying9 .i64 _ (by omega) ha'
      have hs2 : ∀ w, (Instr.slice 9 (.string b) none (some (.int .i64 (n : Int))) none).run Try.prog w = .ok (.string pb) w := fun w => by rw [hpb]; exact run_slice_string_h w 9 b Try.underlying9 .i64 _ (by omega) hb'
      have hs3 : ∀ w, (Instr.slice 9 (.string c) none (some (.int .i64 (n : Int))) none).run Try.prog w = .ok (.string pc) w := fun w => by rw [hpc]; exact run_slice_string_h w 9 c Try.underlying9 .i64 _ (by omega) hc'
      have hpal : pa.data.toList = a.data.toList.take n := by rw [hpa, ByteArray.data_extract]; simp
      have hpbl : pb.data.toList = b.data.toList.take n := by rw [hpb, ByteArray.data_extract]; simp
      have hpcl : pc.data.toList = c.data.toList.take n := by rw [hpc, ByteArray.data_extract]; simp
      have hpas : (pa.size : Int) ≤ 9223372036854775807 := by rw [hpa]; simp; omega
      have hpbs : (pb.size : Int) ≤ 9223372036854775807 := by rw [hpb]; simp; omega
      have hpcs : (pc.size : Int) ≤ 9223372036854775807 := by rw [hpc]; simp; omega
      obtain ⟨SA, hSA⟩ : ∃ X, X = CrcP.Sum pa.data.toList := ⟨_, rfl⟩
      obtain ⟨SB, hSB⟩ : ∃ X, X = CrcP.Sum pb.data.toList := ⟨_, rfl⟩
      obtain ⟨SC, hSC⟩ : ∃ X, X = CrcP.Sum pc.data.toList := ⟨_, rfl⟩
      obtain ⟨SM, hSM⟩ : ∃ X, X = CrcP.Sum Z.data.toList := ⟨_, rfl⟩
      have hx1 := bits_xor SA SB
      have hx2 : bits .xor .u32 ((SA ^^^ SB).toNat : Int) (SC.toNat : Int) = (SM.toNat : Int) := by
        rw [bits_xor, hSA, hSB, hSC, hSM, hZl, hpal, hpbl, hpcl]
        unfold mix
        rw [CrcP.Sum_three _ _ _ (by simp; omega) (by simp; omega)]
      generalize (SA ^^^ SB) = SAB at *
      have HSA := Lib.hid hSA; clear hSA
      have HSB := Lib.hid hSB; clear hSB
      have HSC := Lib.hid hSC; clear hSC
      have HSM := Lib.hid hSM; clear hSM
      clear hZ hZl hZn hown hpa hpb hpc hpal hpbl hpcl ha' hb' hc'
      go_wp2_with fail
      refine (make_bl (w0 := wr) _ (Bl.refl wr)).mono ?_
      rintro e w2 ⟨tb, rfl, hok'⟩
      have hok : Ok w tb w2 := ⟨hok'.1, hok'.2.1, (show Bl w wr by unfold Bl; rw [HB.out]; exact hbel).below hok'.2.2⟩
      have hrow : Row41 B u8 Z w2 := hrow.grow hok'.2.2
      clear hok'
      have HOK := Lib.hid hok
      have HROW := Lib.hid hrow
      clear hok hrow
      go_wp2
      refine wp_region_rel _ Grow (fun w' => Ok w tb w' ∧ Row41 B u8 Z w') [([(10, none)], none), ([(8, none)], none), ([(47, some 0)], none), ([(48, some 0)], none), ([(46, some 3), (49, some 0)], none), ([(10, none)], none), ([(0, none)], none), ([(7, none)], none), ([(52, some 1), (53, some 0)], none), ([(54, some 0)], none), ([(51, some 4), (55, some 0)], none), ([(10, none)], none), ([(1, none)], none), ([(7, none)], none), ([(58, some 1), (59, some 0)], none), ([(60, some 0)], none), ([(57, some 4), (61, some 0)], none), ([(56, some 6), (62, some 0)], none), ([(10, none)], none), ([(2, none)], none), ([(7, none)], none), ([(65, some 1), (66, some 0)], none), ([(67, some 0)], none), ([(64, some 4), (68, some 0)], none), ([(63, some 6), (69, some 0)], none), ([(50, some 20), (70, some 0)], none), ([(71, some 0)], none)] (by kernel_rfl) (by kernel_rfl) (⟨HOK.out.drew, HROW.out.grow (Grow.drewN w2 1)⟩) ?_
      repeat (first | (refine rel_pure ?_; apply Exists.intro; refine ⟨fun a w hF hk => ?_, ?_⟩; focus (first | exact rel_no hk.1 rfl rfl | ((first | (refine rel_none fun K hK => ?_) | (refine rel_yes hk.1 fun K hK => ?_)); (try simp at hk); go_simp; exact hK _ _ (Grow.refl _) hF rfl))) | (refine rel_any (CellAt) (CellAt.grow) ?_; apply Exists.intro; refine ⟨fun a w hF hk => ?_, ?_⟩; focus ((first | (refine rel_none fun K hK => ?_) | (refine rel_yes hk.1 fun K hK => ?_)); (try simp at hk); go_simp; exact hK _ _ (Grow.alloc _ _) (⟨hF.1.alloc _, hF.2.alloc _⟩) ⟨_, rfl, World.cell?_alloc_mark _ _ _ _ _⟩)) | (refine rel_pure ?_; apply Exists.intro; refine ⟨fun a w hF hk => ?_, ?_⟩; focus ((first | (refine rel_none fun K hK => ?_) | (refine rel_yes hk.1 fun K hK => ?_)); (try simp at hk); have hcv := hF.2.conv; go_simp; exact hK _ _ (Grow.refl _) hF rfl)) | (refine rel_pure ?_; apply Exists.intro; refine ⟨fun a w hF hk => ?_, ?_⟩; focus ((first | (refine rel_none fun K hK => ?_) | (refine rel_yes hk.1 fun K hK => ?_)); (try simp at hk); obtain ⟨hk1, p, hkp, hkc⟩ := hk; go_simp; go_at_call 12; refine (sum_gr2 _ tb p 1 Z SM HSM.out hF.1 hkc hZs).mono ?_; rintro e w' ⟨rfl, hg⟩; exact hK _ _ hg (⟨hF.1.below hg, hF.2.grow hg⟩) rfl)) | (refine rel_pure ?_; apply Exists.intro; refine ⟨fun a w hF hk => ?_, ?_⟩; focus ((first | (refine rel_none fun K hK => ?_) | (refine rel_yes hk.1 fun K hK => ?_)); (try simp at hk); obtain ⟨hk1, p, hkp, hkc⟩ := hk; go_simp; go_at_call 12; refine (sum_gr2 _ tb p 1 pa SA HSA.out hF.1 hkc hpas).mono ?_; rintro e w' ⟨rfl, hg⟩; exact hK _ _ hg (⟨hF.1.below hg, hF.2.grow hg⟩) rfl)) | (refine rel_pure ?_; apply Exists.intro; refine ⟨fun a w hF hk => ?_, ?_⟩; focus ((first | (refine rel_none fun K hK => ?_) | (refine rel_yes hk.1 fun K hK => ?_)); (try simp at hk); obtain ⟨hk1, p, hkp, hkc⟩ := hk; go_simp; go_at_call 12; refine (sum_gr2 _ tb p 1 pb SB HSB.out hF.1 hkc hpbs).mono ?_; rintro e w' ⟨rfl, hg⟩; exact hK _ _ hg (⟨hF.1.below hg, hF.2.grow hg⟩) rfl)) | (refine rel_pure ?_; apply Exists.intro; refine ⟨fun a w hF hk => ?_, ?_⟩; focus ((first | (refine rel_none fun K hK => ?_) | (refine rel_yes hk.1 fun K hK => ?_)); (try simp at hk); obtain ⟨hk1, p, hkp, hkc⟩ := hk; go_simp; go_at_call 12; refine (sum_gr2 _ tb p 1 pc SC HSC.out hF.1 hkc hpcs).mono ?_; rintro e w' ⟨rfl, hg⟩; exact hK _ _ hg (⟨hF.1.below hg, hF.2.grow hg⟩) rfl)))
      refine rel_done fun wR hF => ?_
      repeat (first | (refine fun v hv => ?_; obtain rfl : v = _ := hv) | (refine fun v hv => ?_))
      simp only [Act.put, List.setIfInBounds_toArray, List.set_cons_zero, List.set_cons_succ]
      refine rel_nil ?_

      have hOut := hF.1.bl
      clear hF
      go_wp2
      go_ret
      exact ⟨rfl, hOut⟩

theorem crcLinear_out (a b c : ByteArray) (m n : Nat) (hm1 : (if b.size < a.size then (b.size : Int) else (a.size : Int)) = (m : Int)) (hm2 : (if c.size < m then (c.size : Int) else (m : Int)) = (n : Int))
    (hn : (500 : Int) < (n : Int)) (w : World) : Calls Try.prog 8 #[.string a, .string b, .string c] w fun e w' => e = .returned (.bool true) ∧ Below w.heap.size w w' := by
  go_enter Try.func8, Try.ntmps8
  go_wp2_with fail
  refine (awake_bl (w0 := w) _ (Bl.refl w)).mono ?_
  rintro e w1 ⟨rfl, hb1⟩
  clear hm1 hm2
  go_wp2_with fail
  refine (awake_bl (w0 := w) _ hb1).mono ?_
  rintro e w2 ⟨rfl, hb2⟩
  go_wp2
  go_ret
  exact ⟨rfl, hb2⟩

theorem crcLinear_walk (a b c : ByteArray) (hsa : (a.size : Int) ≤ 9223372036854775807) (w : World) : Calls Try.prog 8 #[.string a, .string b, .string c] w fun e w' => e = .returned (.bool true) ∧ Below w.heap.size w w' := by
  obtain ⟨m, hm⟩ : ∃ m, m = min b.size a.size := ⟨_, rfl⟩
  obtain ⟨n, hn⟩ : ∃ n, n = min c.size m := ⟨_, rfl⟩
  have h1 : (if b.size < a.size then (b.size : Int) else (a.size : Int)) = (m : Int) := by split <;> omega
  have h2 : (if c.size < m then (c.size : Int) else (m : Int)) = (n : Int) := by split <;> omega
  by_cases h : (500 : Int) < (n : Int)
  · exact crcLinear_out a b c m n h1 h2 h w
  · exact crcLinear_in a b c m n h1 h2 (by omega) (by omega) (by omega) hsa (by omega) w
end Go.Proofs.Ytnnmghhafjbioaa
