/- The walk of the reference Spoil: a burst in some bytes. -/
import Derived.Test.YtnnmghhafjbioaaHolds
namespace Go.Proofs.Ytnnmghhafjbioaa
open Go.RowKit
attribute [local irreducible] CrcP.shN tab zeros tw mat

/-- Some bytes behind k bits of a burst from bit A on, the end N bits off. -/
def sp (l : List UInt8) (A N : Nat) (p : BitVec 32) : Nat → List UInt8
  | 0 => l
  | k + 1 => if p.getLsbD k ∧ k < N then CrcP.flip (sp l A N p k) (A + k) else sp l A N p k
theorem sp_length (l : List UInt8) (A N : Nat) (p : BitVec 32) (k : Nat) : (sp l A N p k).length = l.length := by
  induction k with
  | zero => rfl
  | succ k ih =>
    simp only [sp]
    split
    · simp [CrcP.flip, ih]
    · exact ih
theorem sp_turn (l : List UInt8) (x : BitVec 32) (A N : Nat) (p : BitVec 32) (hN : N + A = 8 * l.length) (k : Nat) (hk : k ≤ 32) :
    CrcP.Turn x (sp l A N p k) = CrcP.Turn x l ^^^ CrcP.shN N (CrcP.acc p N k) := by
  induction k with
  | zero => simp [sp, CrcP.acc, CrcP.shN_zero]
  | succ k ih =>
    have ih := ih (by omega)
    by_cases h : p.getLsbD k ∧ k < N
    · rw [sp, if_pos h]
      exact CrcP.burst_step l x _ p A k N (by omega) (sp_length _ _ _ _ _) hN ih h.1 h.2
    · rw [sp, if_neg h, ih]
      simp only [CrcP.acc, if_neg h]

/-- Bytes that lie there, and may be written. -/
def BytesAt (w : World) (g : Nat) (l : List UInt8) : Prop := ∀ i, i < l.length → w.cell? ⟨g, i, none⟩ = some (.int .u8 ((l.getD i 0).toNat : Int)) ∧ w.frozen? ⟨g, i, none⟩ = false
theorem bytesAt_set {w : World} {g : Nat} {l : List UInt8} (h : BytesAt w g l) (i : Nat) (c : UInt8) : BytesAt (w.setCell ⟨g, i, none⟩ (.int .u8 (c.toNat : Int))) g (l.set i c) := by
  intro j hj
  rw [List.length_set] at hj
  refine ⟨?_, by rw [World.frozen?_setCell]; exact (h j hj).2⟩
  by_cases e : i = j
  · subst e
    rw [World.cell?_setCell_same _ _ _ (h i hj).1]
    simp [List.getD, hj]
  · have hne : (⟨g, i, none⟩ : Addr) ≠ ⟨g, j, none⟩ := fun h => e (congrArg Addr.off h)
    rw [World.cell?_setCell_other _ _ _ _ hne, (h j hj).1]
    simp [List.getD, e]
theorem bytesAt_made (w : World) (s : ByteArray) (cap : Nat) : BytesAt (w.alloc (.cells (bytesRow s cap) 5 ((bytesRow s cap).size, (bytesRow s cap).size + 1))) w.heap.size s.data.toList := by
  intro i hi
  have hi' : i < s.data.size := by simpa using hi
  have hsz : i < (bytesRow s cap).size := by
    have := bytesRow_at s cap i hi'
    exact (Array.getElem?_eq_some_iff.1 this).1
  refine ⟨?_, ?_⟩
  · rw [World.cell?_alloc_mark, bytesRow_at s cap i hi']; simp [List.getD, Array.getElem?_eq_getElem hi']
  · rw [World.frozen?_alloc_mark]; simp; omega

theorem bit_double (j : Nat) (h : j < 7) : (((2 ^ j : Nat) : Int) * 2 % 256) = ((2 ^ (j + 1) : Nat) : Int) := by
  have : ∀ i : Fin 7, (((2 ^ i.val : Nat) : Int) * 2 % 256) = ((2 ^ (i.val + 1) : Nat) : Int) := by decide
  exact this ⟨j, h⟩
theorem xor_bit (c : UInt8) (r : Nat) (h : r < 8) : bits .xor .u8 (c.toNat : Int) ((2 ^ r : Nat) : Int) = ((c ^^^ UInt8.ofNat (2 ^ r)).toNat : Int) := by
  have hc := c.toNat_lt
  have h2 : 2 ^ r < 256 := by
    have : ∀ i : Fin 8, 2 ^ i.val < 256 := by decide
    exact this ⟨r, h⟩
  rw [u8_xor_nat _ _ (by omega) h2, UInt8.toNat_xor, UInt8.toNat_ofNat', Nat.mod_eq_of_lt (by omega)]
theorem half_bits (q : BitVec 32) (p : BitVec 32) (k : Nat) (h : q = p >>> k) : q >>> 1 = p >>> (k + 1) := by rw [h, BitVec.shiftRight_add]
theorem first_bit (q p : BitVec 32) (k : Nat) (h : q = p >>> k) : q.getLsbD 0 = p.getLsbD k := by rw [h]; simp
theorem sp_yes (l : List UInt8) (A N : Nat) (p : BitVec 32) (k : Nat) (h : p.getLsbD k = true) (hN : k < N) : sp l A N p (k + 1) = CrcP.flip (sp l A N p k) (A + k) := by rw [sp, if_pos ⟨h, hN⟩]
theorem sp_no (l : List UInt8) (A N : Nat) (p : BitVec 32) (k : Nat) (h : ¬ (p.getLsbD k = true ∧ k < N)) : sp l A N p (k + 1) = sp l A N p k := by rw [sp, if_neg h]
theorem acc_no (p : BitVec 32) (N k : Nat) (h : ¬ (p.getLsbD k = true ∧ k < N)) : CrcP.acc p N (k + 1) = CrcP.acc p N k := by rw [CrcP.acc, if_neg h]

set_option maxRecDepth 100000 in
theorem spoil_any (w : World) (s : ByteArray) (A : Nat) (p : BitVec 32) (hs : (s.size : Int) ≤ 100000) (N : Nat) (hN : N + A = 8 * s.size) :
    Calls Try.prog 17 #[.string s, .int .i64 A, .int .u32 p.toNat] w fun e w' =>
      e = .returned (.tuple #[.string ⟨(sp s.data.toList A N p 32).toArray⟩, .bool (CrcP.acc p N 32 != 0#32)]) ∧ Below w.heap.size w w' := by
  generalize hB : w.heap.size = B
  have HB := Lib.hid hB; clear hB
  have HN := Lib.hid hN
  have hA : A ≤ 8 * s.size := by omega
  clear hN
  have hcv := fun wx => run_bytes_of_string (P := Try.prog) wx 9 41 5 s Try.underlying9 Try.underlying41 Try.underlying5
  go_enter Try.func17, Try.ntmps17
  go_wp2
  go_loopw [10, 1, 2, 9] (fun kv av pv anyv wr => ∃ (k : Nat) (q : BitVec 32), k ≤ 32 ∧ kv = .int .i64 k ∧ av = .int .i64 ((A : Int) + k) ∧ pv = .int .u32 q.toNat ∧ q = p >>> k ∧ anyv = .bool (CrcP.acc p N k != 0#32) ∧
      BytesAt wr B (sp s.data.toList A N p k) ∧ Below B w wr) (fun kv _ _ _ _ => 32 - (intOf kv).toNat)
  case atStart => exact ⟨0, p, by omega, rfl, by simp, rfl, by simp, by simp [CrcP.acc], by rw [← HB.out]; exact bytesAt_made w s _, (below_alloc' (Below.refl _ _) (by rw [HB.out]; exact Nat.le_refl _) _).drew⟩
  case round =>
    obtain ⟨k, q, hk, rfl, rfl, rfl, hq, rfl, hbytes, hbel⟩ := hrel
    have Hq := Lib.hid hq; clear hq
    have Hbytes := Lib.hid hbytes; clear hbytes
    have HO := Lib.hid (odd_bit q)
    have hq2 := q.isLt
    generalize hany : (CrcP.acc p N k != 0#32) = any
    have Hany := Lib.hid hany; clear hany
    by_cases hk32 : k < 32
    · by_cases hod : ((q.toNat : Int) % 2 == 1) = true
      · by_cases hin : k < N
        · have hpk : p.getLsbD k = true := by rw [← first_bit q p k Hq.out, HO.out]; exact hod
          have hlen : (sp s.data.toList A N p k).length = s.size := by rw [sp_length]; simp
          obtain ⟨i, hi⟩ : ∃ i, i = (A + k) / 8 := ⟨_, rfl⟩
          obtain ⟨r, hr⟩ : ∃ r, r = (A + k) % 8 := ⟨_, rfl⟩
          have hidx : ((A : Int) + k) / 8 = (i : Int) := by omega
          have hrem : ((A : Int) + k) % 8 = (r : Int) := by omega
          have his : i < s.size := by have := HN.out; omega
          have his' : (i : Int) < s.size := by omega
          have hr8 : r < 8 := by omega
          have hb := Hbytes.out i (by rw [hlen]; exact his)
          generalize hc : (sp s.data.toList A N p k).getD i 0 = c at hb
          rw [← HB.out] at hb
          obtain ⟨hb1, hb2⟩ := hb
          have Hc := Lib.hid hc; clear hc
          have HL := Lib.hid hlen; clear hlen
          have Hi := Lib.hid hi; clear hi
          have Hr := Lib.hid hr; clear hr
          have HX := Lib.hid (xor_bit c r hr8)
          go_wp2
          go_loop [12, 11] (fun jv bv => ∃ j : Nat, j ≤ r ∧ jv = .int .i64 j ∧ bv = .int .u8 ((2 ^ j : Nat) : Int)) (fun jv _ => r - (intOf jv).toNat)
          case atStart => exact ⟨0, by omega, rfl, rfl⟩
          case round =>
            obtain ⟨j, hj, rfl, rfl⟩ := hrel
            by_cases hjr : j < r
            · have HD := Lib.hid (bit_double j (by omega))
              generalize ((2 ^ j : Nat) : Int) = e at *
              go_wp2
              go_round
              case rel => exact ⟨j + 1, by omega, by go_num, by rw [← HD.out]⟩
              case measure => simp [intOf]; omega
            · have HJ := Lib.hid (show j = r by omega)
              rw [← HJ.out] at HX
              generalize ((2 ^ j : Nat) : Int) = e at *
              go_wp2
              go_roundw
              case rel =>
                refine ⟨k + 1, q >>> 1, by omega, by go_num, by go_num, by rw [half], half_bits q p k Hq.out, ?_, ?_, ?_⟩
                · have := CrcP.acc_zero_iff p N k hk32 hpk hin
                  rw [bne_iff_ne.2 this]
                · rw [HX.out, HB.out, sp_yes _ _ _ _ _ hpk hin, CrcP.flip, ← Hi.out, ← Hr.out, Hc.out, HJ.out]
                  exact bytesAt_set Hbytes.out i _
                · exact hbel.setCell (by show B ≤ w.heap.size; rw [HB.out]; exact Nat.le_refl _) _
              case measure => simp [intOf]; omega
        · have h1 : ¬ ((A : Int) + k) / 8 < s.size := by have := HN.out; omega
          have HP := Lib.hid (show ¬ (p.getLsbD k = true ∧ k < N) from fun h => hin h.2)
          go_wp2
          go_roundw
          case rel => exact ⟨k + 1, q >>> 1, by omega, by go_num, by go_num, by rw [half], half_bits q p k Hq.out, by rw [acc_no _ _ _ HP.out, Hany.out], by rw [sp_no _ _ _ _ _ HP.out]; exact Hbytes.out, hbel⟩
          case measure => simp [intOf]; omega
      · have hod' : ((q.toNat : Int) % 2 == 1) = false := by simpa using hod
        clear hod
        have HP := Lib.hid (show ¬ (p.getLsbD k = true ∧ k < N) from fun h => by rw [← first_bit q p k Hq.out, HO.out, hod'] at h; exact absurd h.1 (by decide))
        go_wp2
        go_roundw
        case rel => exact ⟨k + 1, q >>> 1, by omega, by go_num, by go_num, by rw [half], half_bits q p k Hq.out, by rw [acc_no _ _ _ HP.out, Hany.out], by rw [sp_no _ _ _ _ _ HP.out]; exact Hbytes.out, hbel⟩
        case measure => simp [intOf]; omega
    · have HK := Lib.hid (show k = 32 by omega)
      have hlen : (sp s.data.toList A N p k).length = s.size := by rw [sp_length]; simp
      have hfin : (convert 41 9 (.slice (some ⟨w.heap.size, 0, none⟩) s.size (grownCap w s.size 0 5))).run Try.prog wr = .ok (.string ⟨(sp s.data.toList A N p k).toArray⟩) wr := by
        have hb := Hbytes.out
        rw [← HB.out] at hb
        rw [← hlen]
        refine run_convert_bytes_back wr 41 9 5 ⟨w.heap.size, 0, none⟩ _ _ Try.underlying41 Try.underlying5 Try.underlying9 fun j hj => ?_
        have := (hb j hj).1
        have hadd : (⟨w.heap.size, 0, none⟩ : Addr).add j = ⟨w.heap.size, j, none⟩ := by unfold Addr.add; split <;> simp_all
        rw [hadd, this]
        simp [List.getD, hj]
      clear hlen
      generalize hl : sp s.data.toList A N p k = l at *
      have Hl := Lib.hid hl; clear hl
      go_wp2
      go_ret2
      have e1 : sp s.data.toList A N p 32 = l := by have := Hl.out; rw [HK.out] at this; exact this
      have e2 : (CrcP.acc p N 32 != 0#32) = any := by have := Hany.out; rw [HK.out] at this; exact this
      exact ⟨by rw [e1, e2]; rfl, hbel⟩
end Go.Proofs.Ytnnmghhafjbioaa
