/- The walk of LineOne. -/
import Derived.Test.YtglnabgageeipaaDoorAll
namespace Go.Proofs.YtglnabgageeipaaDoor
open Go.RowKit
attribute [local irreducible] up ctz

theorem sub_or (P X A : BitVec 32) (h : P &&& A = P) : (P ||| X &&& A) &&& A = P ||| X &&& A := by
  apply BitVec.eq_of_getLsbD_eq
  intro j hj
  have hj2 := congrArg (·.getLsbD j) h
  simp only [BitVec.getLsbD_and, BitVec.getLsbD_or] at hj2 ⊢
  cases h1 : P.getLsbD j <;> cases h2 : A.getLsbD j <;> cases X.getLsbD j <;> simp_all
theorem sub_off (P A D : BitVec 32) (h : P &&& A = P) : (P &&& D) &&& A = P &&& D := by
  apply BitVec.eq_of_getLsbD_eq
  intro j hj
  have hj2 := congrArg (·.getLsbD j) h
  simp only [BitVec.getLsbD_and] at hj2 ⊢
  cases h1 : P.getLsbD j <;> cases h2 : A.getLsbD j <;> cases D.getLsbD j <;> simp_all
theorem low_lt (P M A Q : BitVec 32) (c k : Nat) (hc : c ≤ 16) (hA : A = BitVec.ofNat 32 (2 ^ c - 1)) (hP : P &&& A = P) (hQ : P &&& M = Q) (h : Q.getLsbD k = true) : k < c := by
  have h1 : P.getLsbD k = true := by rw [← hQ, BitVec.getLsbD_and] at h; revert h; cases P.getLsbD k <;> simp
  rw [← hP, BitVec.getLsbD_and, hA, all_bit c k hc] at h1
  revert h1
  cases P.getLsbD k <;> simp
/-- What Bar leaves of the mask. -/
def barred (M : BitVec 32) (n : Int) : BitVec 32 := if 0 ≤ n ∧ n < 16 then M &&& ~~~(1#32 <<< n.toNat) else M
theorem bar_st {w0 : World} {b : Nat} (w : World) (A P M : BitVec 32) (act n : Int) (h : St w0 b A P M act w) :
    Calls Tryd.prog 19 #[.pointer (some ⟨b, 0, none⟩), .int .i64 n] w fun e w' => e = .returned (.tuple #[]) ∧ St w0 b A P (barred M n) act w' := by
  by_cases hn : 0 ≤ n ∧ n < 16
  · obtain ⟨k, rfl⟩ := Int.eq_ofNat_of_zero_le hn.1
    exact (bar_yes w b k A P M (barred M k) act (by omega) (by unfold barred; rw [if_pos hn]; simp) h.2.2).mono fun _ _ ⟨he, hl, ho⟩ => ⟨he, h.only ho hl⟩
  · have e : barred M n = M := by unfold barred; rw [if_neg hn]
    rw [e]
    exact (bar_no w b A P M act n (by omega) h.2.2).mono fun _ _ ⟨he, hl, ho⟩ => ⟨he, h.only ho hl⟩
/-- The script's calls lie there: three cells each. -/
def Script (w : World) (a : Addr) (len : Nat) (K L : Nat → Int) (B : Nat → BitVec 32) : Prop :=
  ∀ i, i < len → w.cell? (a.add (i * 3)) = some (.int .i64 (K i)) ∧ w.cell? ⟨(a.add (i * 3)).block, (a.add (i * 3)).off + 1, none⟩ = some (.int .i64 (L i)) ∧ w.cell? ⟨(a.add (i * 3)).block, (a.add (i * 3)).off + 2, none⟩ = some (.int .u32 (B i).toNat)
theorem Script.below {w w' : World} {a : Addr} {len : Nat} {K L : Nat → Int} {B : Nat → BitVec 32} (h : Script w a len K L B) (hb : Below w.heap.size w w') : Script w' a len K L B := fun i hi => by
  obtain ⟨h0, h1, h2⟩ := h i hi
  exact ⟨(Below.cell hb (cell_lt h0)).trans h0, (Below.cell hb (cell_lt h1)).trans h1, (Below.cell hb (cell_lt h2)).trans h2⟩

set_option maxRecDepth 100000 in
theorem lineOne_in (c : Nat) (hc : c ≤ 16) (m : BitVec 32) (hm : m >>> c = 0#32) (a : Addr) (len cap : Nat) (hlen : (len : Int) ≤ 400) (K L : Nat → Int) (B : Nat → BitVec 32) (w : World) (hT : TabAt w) (hS : Script w a len K L B) :
    Calls Tryd.prog 5 #[.int .i64 c, .int .u32 m.toNat, .slice (some a) len cap] w fun e w' => e = .returned (.bool true) ∧ Bl w w' := by
  have h := Bl.refl hT
  have hci : (c : Int) ≤ 16 := by omega
  obtain ⟨A, hA⟩ : ∃ A, A = BitVec.ofNat 32 (2 ^ c - 1) := ⟨_, rfl⟩
  have HA := Lib.hid hA; clear hA
  have HS := Lib.hid hS; clear hS
  go_enter Tryd.func5, Tryd.ntmps5
  go_wp2_with fail
  refine (new_st _ c hc m A HA.out hm h).mono ?_
  rintro e w1 ⟨b, rfl, h1⟩
  clear h
  go_wp2_with fail
  refine (awake_st _ h1).mono ?_
  rintro e w2 ⟨rfl, h2⟩
  clear h1
  go_wp2_with fail
  go_loopw [41] (fun i wr => ∃ k : Nat, k ≤ len ∧ i = .int .i64 k ∧ ∃ P M act, St w b A P M act wr ∧ P &&& A = P) (fun i _ => len - (intOf i).toNat)
  case atStart => exact ⟨0, by omega, rfl, 0#32, m, 255, h2, by simp⟩
  case round =>
    obtain ⟨k, hk, rfl, P, M, act, hst, hP⟩ := hrel
    have Hst := Lib.hid hst; clear hst
    have HP := Lib.hid hP; clear hP
    by_cases hlt : k < len
    · obtain ⟨c0, c1, c2⟩ := (HS.out.below Hst.out.1.2) k hlt
      generalize hKk : K k = kk at *
      generalize hLk : L k = ll at *
      generalize hBk : B k = bb at *
      clear hKk hLk hBk
      have hst1 := Hst.out.below ((Below.refl _ wr).alloc (Nat.le_refl _) (.cells #[.int .i64 kk, .int .i64 ll, .int .u32 bb.toNat] 41))
      have hO := heapAt_alloc_new wr (.cells #[.int .i64 kk, .int .i64 ll, .int .u32 bb.toNat] 41)
      go_wp2_with fail
      generalize wr.alloc (.cells #[.int .i64 kk, .int .i64 ll, .int .u32 bb.toNat] 41) = w3 at hst1 hO ⊢
      generalize wr.heap.size = ob at hO ⊢
      clear c0 c1 c2
      have d0 := cell_block hO 0
      have d1 := cell_block hO 1
      have d2 := cell_block hO 2
      simp at d0 d1 d2
      clear hO
      have Hst1 := Lib.hid hst1; clear hst1
      have eQ := bits_and32 P M
      obtain ⟨Q, hQ⟩ : ∃ Q, P &&& M = Q := ⟨_, rfl⟩
      rw [hQ] at eQ
      have HQ := Lib.hid hQ; clear hQ
      refine (active_st _ _ _ _ _ Hst1.out).mono ?_
      rintro e w' ⟨rfl, rfl⟩
      go_wp2_with fail
      refine (pending_st _ _ _ _ _ Hst1.out).mono ?_
      rintro e w' ⟨rfl, rfl⟩
      go_wp2_with fail
      refine (mask_st _ _ _ _ _ Hst1.out).mono ?_
      rintro e w' ⟨rfl, rfl⟩
      by_cases k1 : kk = 1
      · subst k1
        obtain ⟨C, hC⟩ : ∃ C, C = bb &&& A := ⟨_, rfl⟩
        have HC := Lib.hid hC; clear hC
        go_wp2_with fail
        refine (raise_st _ A P M bb C (C &&& P) (P ||| C) act HC.out rfl rfl Hst1.out).mono ?_
        rintro e w4 ⟨rfl, h4⟩
        go_wp2_with fail
        go_roundw
        case rel => exact ⟨k + 1, by omega, by go_num, _, _, _, h4, by rw [HC.out]; exact sub_or P bb A HP.out⟩
        case measure => simp [intOf]; omega
      by_cases k2 : kk = 2
      · subst k2
        by_cases hact : act = 255
        · by_cases hq : Q = 0#32
          · go_wp2_with fail
            refine (enter_none_st _ _ _ _ _ hact (by rw [HQ.out]; exact hq) Hst1.out).mono ?_
            rintro e w4 ⟨rfl, h4⟩
            have hq0 : ((Q.toNat : Int) != 0) = false := by rw [hq]; rfl
            go_wp2_with fail
            go_loopw [16] (fun i wx => i = .int .i64 0 ∧ wx = w4) (fun _ _ => 0)
            case atStart => exact ⟨rfl, rfl⟩
            case round =>
              obtain ⟨rfl, rfl⟩ := hrel
              go_wp2_with fail
              exact ⟨⟨k + 1, by omega, by go_num, _, _, _, h4, HP.out⟩, by simp [intOf]; omega⟩
          · obtain ⟨kq, hkq⟩ : ∃ kq, ctz Q = kq := ⟨_, rfl⟩
            have hb := ctz_spec hq
            rw [hkq] at hb
            have hkc : kq < c := low_lt P M A Q c kq hc HA.out HP.out HQ.out hb.1
            have HB := Lib.hid hb; clear hb
            have HKQ := Lib.hid hkq; clear hkq
            subst hact
            go_wp2_with fail
            refine (enter_one_st _ A P M Q (P &&& ~~~(1#32 <<< kq)) 255 kq rfl HQ.out hq HKQ.out rfl Hst1.out).mono ?_
            rintro e w4 ⟨rfl, h4⟩
            have hkc2 : (kq : Int) < (c : Int) := by omega
            have hge : decide (c ≤ kq) = false := by simp; omega
            have hneg : decide ((kq : Int) < 0) = false := by simp
            go_wp2_with fail
            refine (bit_any _ Q kq (by omega) true HB.out.1.symm).mono ?_
            rintro e w' ⟨rfl, rfl⟩
            have H4 := Lib.hid h4; clear h4
            go_wp2_with fail
            go_loopw [16] (fun i wx => ∃ j : Nat, j ≤ kq ∧ i = .int .i64 j ∧ wx = w') (fun i _ => kq - (intOf i).toNat)
            case atStart => exact ⟨0, by omega, rfl, rfl⟩
            case round =>
              obtain ⟨j, hj, rfl, rfl⟩ := hrel
              by_cases hjt : j < kq
              · go_wp2_with fail
                refine (bit_any _ Q j (by omega) false (HB.out.2 j hjt).symm).mono ?_
                rintro e w' ⟨rfl, rfl⟩
                go_wp2_with fail
                exact ⟨⟨j + 1, by omega, by go_num, trivial⟩, by simp [intOf]; omega⟩
              · go_wp2_with fail
                exact ⟨⟨k + 1, by omega, by go_num, _, _, _, H4.out, sub_off P A _ HP.out⟩, by simp [intOf]; omega⟩
        · have ha0 : (act == 255) = false := by simp [hact]
          have ha1 : (act != 255) = true := by simp [hact]
          go_wp2_with fail
          refine (enter_no_st _ _ _ _ _ hact Hst1.out).mono ?_
          rintro e w4 ⟨rfl, h4⟩
          go_wp2_with fail
          go_loopw [16] (fun i wx => i = .int .i64 0 ∧ wx = w4) (fun _ _ => 0)
          case atStart => exact ⟨rfl, rfl⟩
          case round =>
            obtain ⟨rfl, rfl⟩ := hrel
            go_wp2_with fail
            exact ⟨⟨k + 1, by omega, by go_num, _, _, _, h4, HP.out⟩, by simp [intOf]; omega⟩
      by_cases k3 : kk = 3
      · subst k3
        go_wp2_with fail
        refine (leave_st _ _ _ _ _ _ rfl Hst1.out).mono ?_
        rintro e w4 ⟨rfl, h4⟩
        go_wp2_with fail
        exact ⟨⟨k + 1, by omega, by go_num, _, _, _, h4, HP.out⟩, by simp [intOf]; omega⟩
      by_cases k4 : kk = 4
      · subst k4
        go_wp2_with fail
        refine (let_st _ A P M bb _ act rfl Hst1.out).mono ?_
        rintro e w4 ⟨rfl, h4⟩
        go_wp2_with fail
        exact ⟨⟨k + 1, by omega, by go_num, _, _, _, h4, HP.out⟩, by simp [intOf]; omega⟩
      by_cases k5 : kk = 5
      · subst k5
        go_wp2_with fail
        refine (bar_st _ A P M act ll Hst1.out).mono ?_
        rintro e w4 ⟨rfl, h4⟩
        go_wp2_with fail
        exact ⟨⟨k + 1, by omega, by go_num, _, _, _, h4, HP.out⟩, by simp [intOf]; omega⟩
      have e1 : (kk == 1) = false := by simp [k1]
      have e2 : (kk == 2) = false := by simp [k2]
      have e3 : (kk == 3) = false := by simp [k3]
      have e4 : (kk == 4) = false := by simp [k4]
      have e5 : (kk == 5) = false := by simp [k5]
      go_wp2_with fail
      exact ⟨⟨k + 1, by omega, by go_num, _, _, _, Hst1.out, HP.out⟩, by simp [intOf]; omega⟩
    · go_wp2_with fail
      go_ret
      exact ⟨rfl, Hst.out.1⟩

set_option maxRecDepth 100000 in
theorem lineOne_nil (c : Nat) (hc : c ≤ 16) (m : BitVec 32) (hm : m >>> c = 0#32) (w : World) (hT : TabAt w) :
    Calls Tryd.prog 5 #[.int .i64 c, .int .u32 m.toNat, .slice none 0 0] w fun e w' => e = .returned (.bool true) ∧ Bl w w' := by
  have h := Bl.refl hT
  have hci : (c : Int) ≤ 16 := by omega
  obtain ⟨A, hA⟩ : ∃ A, A = BitVec.ofNat 32 (2 ^ c - 1) := ⟨_, rfl⟩
  have HA := Lib.hid hA; clear hA
  go_enter Tryd.func5, Tryd.ntmps5
  go_wp2_with fail
  refine (new_st _ c hc m A HA.out hm h).mono ?_
  rintro e w1 ⟨b, rfl, h1⟩
  clear h
  go_wp2_with fail
  refine (awake_st _ h1).mono ?_
  rintro e w2 ⟨rfl, h2⟩
  clear h1
  go_wp2_with fail
  go_loopw [41] (fun i wr => i = .int .i64 0 ∧ wr = w2) (fun i _ => 0)
  case atStart => exact ⟨rfl, rfl⟩
  case round =>
    obtain ⟨rfl, rfl⟩ := hrel
    go_wp2_with fail
    go_ret
    exact ⟨rfl, h2.1⟩

set_option maxRecDepth 100000 in
theorem lineOne_bad (c : Int) (m : BitVec 32) (v : Value) (w : World) (hT : TabAt w) (hbad : c < 0 ∨ 16 < c ∨ (0 ≤ c ∧ c ≤ 16 ∧ m >>> c.toNat ≠ 0#32)) :
    Calls Tryd.prog 5 #[.int .i64 c, .int .u32 m.toNat, v] w fun e w' => e = .returned (.bool true) ∧ Bl w w' := by
  have h := Bl.refl hT
  have hn : ∀ w, Calls Tryd.prog 7 #[.int .i64 c, .int .u32 m.toNat] w fun e w' => e = .returned (.tuple #[.pointer none, .int .i64 1]) ∧ w' = w := fun w => by
    rcases hbad with hb | hb | ⟨h0, h1, h2⟩
    · exact new_bad w c m (.inl hb)
    · exact new_bad w c m (.inr hb)
    · obtain ⟨k, rfl⟩ := Int.eq_ofNat_of_zero_le h0
      exact new_over w k (by omega) m (by simpa using h2)
  clear hbad
  go_enter Tryd.func5, Tryd.ntmps5
  go_wp2_with fail
  refine (hn _).mono ?_
  rintro e w' ⟨rfl, rfl⟩
  go_wp2_with fail
  refine (awake_bl _ h).mono ?_
  rintro e w1 ⟨rfl, h1⟩
  go_wp2_with fail
  refine (awake_bl _ h1).mono ?_
  rintro e w2 ⟨rfl, h2⟩
  go_wp2
  go_ret
  exact ⟨rfl, h2⟩

set_option maxRecDepth 100000 in
theorem lineOne_long (c : Nat) (hc : c ≤ 16) (m : BitVec 32) (hm : m >>> c = 0#32) (a : Addr) (len cap : Nat) (hlen : (400 : Int) < (len : Int)) (w : World) (hT : TabAt w) :
    Calls Tryd.prog 5 #[.int .i64 c, .int .u32 m.toNat, .slice (some a) len cap] w fun e w' => e = .returned (.bool true) ∧ Bl w w' := by
  have h := Bl.refl hT
  obtain ⟨A, hA⟩ : ∃ A, A = BitVec.ofNat 32 (2 ^ c - 1) := ⟨_, rfl⟩
  have HA := Lib.hid hA; clear hA
  go_enter Tryd.func5, Tryd.ntmps5
  go_wp2_with fail
  refine (new_st _ c hc m A HA.out hm h).mono ?_
  rintro e w1 ⟨b, rfl, h1⟩
  clear h
  go_wp2_with fail
  refine (awake_st _ h1).mono ?_
  rintro e w2 ⟨rfl, h2⟩
  clear h1
  go_wp2_with fail
  refine (awake_st _ h2).mono ?_
  rintro e w3 ⟨rfl, h3⟩
  go_wp2
  go_ret
  exact ⟨rfl, h3.1⟩

theorem lineOne_walk (c : Int) (m : BitVec 32) (a : Addr) (len cap : Nat) (K L : Nat → Int) (B : Nat → BitVec 32) (w : World) (hT : TabAt w) (hS : Script w a len K L B) :
    Calls Tryd.prog 5 #[.int .i64 c, .int .u32 m.toNat, .slice (some a) len cap] w fun e w' => e = .returned (.bool true) ∧ Bl w w' := by
  by_cases hbad : c < 0 ∨ 16 < c ∨ (0 ≤ c ∧ c ≤ 16 ∧ m >>> c.toNat ≠ 0#32)
  · exact lineOne_bad c m _ w hT hbad
  · obtain ⟨k, rfl⟩ := Int.eq_ofNat_of_zero_le (show 0 ≤ c by omega)
    have hm : m >>> k = 0#32 := by
      refine Classical.byContradiction fun hne => hbad (.inr (.inr ⟨by omega, by omega, ?_⟩))
      simpa using hne
    by_cases hl : (400 : Int) < (len : Int)
    · exact lineOne_long k (by omega) m hm a len cap hl w hT
    · exact lineOne_in k (by omega) m hm a len cap (by omega) K L B w hT hS
theorem lineOne_none (c : Int) (m : BitVec 32) (w : World) (hT : TabAt w) :
    Calls Tryd.prog 5 #[.int .i64 c, .int .u32 m.toNat, .slice none 0 0] w fun e w' => e = .returned (.bool true) ∧ Bl w w' := by
  by_cases hbad : c < 0 ∨ 16 < c ∨ (0 ≤ c ∧ c ≤ 16 ∧ m >>> c.toNat ≠ 0#32)
  · exact lineOne_bad c m _ w hT hbad
  · obtain ⟨k, rfl⟩ := Int.eq_ofNat_of_zero_le (show 0 ≤ c by omega)
    have hm : m >>> k = 0#32 := by
      refine Classical.byContradiction fun hne => hbad (.inr (.inr ⟨by omega, by omega, ?_⟩))
      simpa using hne
    exact lineOne_nil k (by omega) m hm w hT
end Go.Proofs.YtglnabgageeipaaDoor
