/- The walks of Do's loads and stores; Do whole. -/
import Derived.Test.YtkjacmnocbdghaaMove
import Derived.Test.YtkjacmnocbdghaaDo
import Derived.Test.YtkjacmnocbdghaaDoVal
namespace Go.Proofs.Ytkjacmnocbdghaa
open Go.RowKit
set_option linter.unusedVariables false
attribute [local irreducible] hasA hasB hasC hasD hasK bitsOf regP hasStr letter formP bad4 bad6 bad8 bad10 ctxCells regArr valW valE words upd

set_option maxHeartbeats 1000000 in
set_option maxRecDepth 100000 in
theorem do_ld (w : World) (B g n cap : Nat) (at_ : Int) (R M : Nat → BitVec 32) (A : Option Addr) (a b c : Nat) (d : Int) (k : BitVec 32) (hf : formP 15 a b c d k.toNat = 0) (hat0 : 0 ≤ at_) (hat1 : at_ ≤ 2000000000000) (ha : a < 8) (hb : b < 8) (hc : c < 8) (hst : St w B g at_ R A n cap M) (q : Nat) (hq : (R b + k).toNat = q) (hn : (n : Int) ≤ 300) (hcap : (n : Int) ≤ cap) (hlt : (q : Int) < n) :
    Calls Try.prog 11 #[.pointer (some ⟨g, 0, none⟩), .agg #[.int .i64 15, .int .i64 a, .int .i64 b, .int .i64 c, .int .i64 d, .int .u32 k.toNat]] w fun e w' => e = .returned (.int .i64 0) ∧ St w' B g (at_ + 1) (upd R a (M q)) A n cap M ∧ Kept (Mine g A) w w' := by
  have hai : (a : Int) < 8 := by omega
  have hbi : (b : Int) < 8 := by omega
  have hci : (c : Int) < 8 := by omega
  have HQ := Lib.hid hq; clear hq
  have hG := Grow.alloc w (.cells #[.int .i64 15, .int .i64 a, .int .i64 b, .int .i64 c, .int .i64 d, .int .u32 k.toNat] 28)
  have hO := heapAt_alloc_new w (.cells #[.int .i64 15, .int .i64 a, .int .i64 b, .int .i64 c, .int .i64 d, .int .u32 k.toNat] 28)
  have HF := Lib.hid hf; clear hf
  have ho : w.heap.size < (w.alloc (.cells #[.int .i64 15, .int .i64 a, .int .i64 b, .int .i64 c, .int .i64 d, .int .u32 k.toNat] 28)).heap.size := heapAt_lt hO
  go_enter Try.func11, Try.ntmps11
  go_wp2_with fail
  generalize w.alloc (.cells #[.int .i64 15, .int .i64 a, .int .i64 b, .int .i64 c, .int .i64 d, .int .u32 k.toNat] 28) = w1 at hG hO ho ⊢
  generalize w.heap.size = z at hO ho ⊢
  refine (form_any 15 a b c d k.toNat _).mono ?_
  rw [HF.out]
  rintro e w2 ⟨rfl, hg⟩
  have hO := hg.at hO
  have hK := (Kept.refl (Mine g A) w).grow (hG.trans hg)
  have hS := hst.grow (hG.trans hg)
  clear hG hg ho hst
  have d0 := cell_block hO 0
  have d1 := cell_block hO 1
  have d2 := cell_block hO 2
  have d3 := cell_block hO 3
  have d4 := cell_block hO 4
  have d5 := cell_block hO 5
  simp at d0 d1 d2 d3 d4 d5
  clear hO
  have HK := Lib.hid hK; clear hK
  go_wp2_with fail
  refine (move_load w2 B g n cap q at_ R M A a b c d k HQ.out hn hcap ha hb hS hlt).mono ?_
  rintro e w3 ⟨rfl, hS3, hK3⟩
  have HK3 := Lib.hid (HK.out.trans hK3)
  clear d0 d1 d2 d3 d4 d5 hS hK3
  have c0 := hS3.1.c0
  have f0 := hS3.1.free 0
  have HS5 := Lib.hid (hS3.set0 (at_ + 1))
  have HK5 := Lib.hid (HK3.out.set (b := g) (.inl rfl) 0 (.int .i64 (at_ + 1)))
  clear hS3
  go_wp2
  go_ret
  exact ⟨rfl, HS5.out, HK5.out⟩

set_option maxHeartbeats 1000000 in
set_option maxRecDepth 100000 in
theorem do_ld_out (w : World) (B g n cap : Nat) (at_ : Int) (R M : Nat → BitVec 32) (A : Option Addr) (a b c : Nat) (d : Int) (k : BitVec 32) (hf : formP 15 a b c d k.toNat = 0) (hat0 : 0 ≤ at_) (hat1 : at_ ≤ 2000000000000) (ha : a < 8) (hb : b < 8) (hc : c < 8) (hst : St w B g at_ R A n cap M) (q : Nat) (hq : (R b + k).toNat = q) (hn : (n : Int) ≤ 300) (hcap : (n : Int) ≤ cap) (hge : (n : Int) ≤ q) :
    Calls Try.prog 11 #[.pointer (some ⟨g, 0, none⟩), .agg #[.int .i64 15, .int .i64 a, .int .i64 b, .int .i64 c, .int .i64 d, .int .u32 k.toNat]] w fun e w' => e = .returned (.int .i64 12) ∧ Kept (fun _ => False) w w' := by
  have hai : (a : Int) < 8 := by omega
  have hbi : (b : Int) < 8 := by omega
  have hci : (c : Int) < 8 := by omega
  have HQ := Lib.hid hq; clear hq
  have hG := Grow.alloc w (.cells #[.int .i64 15, .int .i64 a, .int .i64 b, .int .i64 c, .int .i64 d, .int .u32 k.toNat] 28)
  have hO := heapAt_alloc_new w (.cells #[.int .i64 15, .int .i64 a, .int .i64 b, .int .i64 c, .int .i64 d, .int .u32 k.toNat] 28)
  have HF := Lib.hid hf; clear hf
  have ho : w.heap.size < (w.alloc (.cells #[.int .i64 15, .int .i64 a, .int .i64 b, .int .i64 c, .int .i64 d, .int .u32 k.toNat] 28)).heap.size := heapAt_lt hO
  go_enter Try.func11, Try.ntmps11
  go_wp2_with fail
  generalize w.alloc (.cells #[.int .i64 15, .int .i64 a, .int .i64 b, .int .i64 c, .int .i64 d, .int .u32 k.toNat] 28) = w1 at hG hO ho ⊢
  generalize w.heap.size = z at hO ho ⊢
  refine (form_any 15 a b c d k.toNat _).mono ?_
  rw [HF.out]
  rintro e w2 ⟨rfl, hg⟩
  have hO := hg.at hO
  have hK := (Kept.refl (Mine g A) w).grow (hG.trans hg)
  have hK2 := (Kept.refl (fun _ => False) w).grow (hG.trans hg)
  have hS := hst.grow (hG.trans hg)
  clear hG hg ho hst
  have d0 := cell_block hO 0
  have d1 := cell_block hO 1
  have d2 := cell_block hO 2
  have d3 := cell_block hO 3
  have d4 := cell_block hO 4
  have d5 := cell_block hO 5
  simp at d0 d1 d2 d3 d4 d5
  clear hO hK
  have HK := Lib.hid hK2; clear hK2
  go_wp2_with fail
  refine (move_out w2 B g n cap q at_ R M A 15 a b c d k HQ.out hn hcap ha hb hS hge).mono ?_
  rintro e w3 ⟨rfl, hK3⟩
  have HK3 := Lib.hid (HK.out.trans hK3)
  clear d0 d1 d2 d3 d4 d5 hS hK3
  go_wp2
  go_ret
  exact ⟨rfl, HK3.out⟩

set_option maxHeartbeats 1000000 in
set_option maxRecDepth 100000 in
theorem do_sto (w : World) (B g n cap : Nat) (at_ : Int) (R M : Nat → BitVec 32) (A : Option Addr) (a b c : Nat) (d : Int) (k : BitVec 32) (hf : formP 16 a b c d k.toNat = 0) (hat0 : 0 ≤ at_) (hat1 : at_ ≤ 2000000000000) (ha : a < 8) (hb : b < 8) (hc : c < 8) (hst : St w B g at_ R A n cap M) (q : Nat) (hq : (R b + k).toNat = q) (hn : (n : Int) ≤ 300) (hcap : (n : Int) ≤ cap) (hlt : (q : Int) < n) :
    Calls Try.prog 11 #[.pointer (some ⟨g, 0, none⟩), .agg #[.int .i64 16, .int .i64 a, .int .i64 b, .int .i64 c, .int .i64 d, .int .u32 k.toNat]] w fun e w' => e = .returned (.int .i64 0) ∧ St w' B g (at_ + 1) (R) A n cap (upd M q (R a)) ∧ Kept (Mine g A) w w' := by
  have hai : (a : Int) < 8 := by omega
  have hbi : (b : Int) < 8 := by omega
  have hci : (c : Int) < 8 := by omega
  have HQ := Lib.hid hq; clear hq
  have hG := Grow.alloc w (.cells #[.int .i64 16, .int .i64 a, .int .i64 b, .int .i64 c, .int .i64 d, .int .u32 k.toNat] 28)
  have hO := heapAt_alloc_new w (.cells #[.int .i64 16, .int .i64 a, .int .i64 b, .int .i64 c, .int .i64 d, .int .u32 k.toNat] 28)
  have HF := Lib.hid hf; clear hf
  have ho : w.heap.size < (w.alloc (.cells #[.int .i64 16, .int .i64 a, .int .i64 b, .int .i64 c, .int .i64 d, .int .u32 k.toNat] 28)).heap.size := heapAt_lt hO
  go_enter Try.func11, Try.ntmps11
  go_wp2_with fail
  generalize w.alloc (.cells #[.int .i64 16, .int .i64 a, .int .i64 b, .int .i64 c, .int .i64 d, .int .u32 k.toNat] 28) = w1 at hG hO ho ⊢
  generalize w.heap.size = z at hO ho ⊢
  refine (form_any 16 a b c d k.toNat _).mono ?_
  rw [HF.out]
  rintro e w2 ⟨rfl, hg⟩
  have hO := hg.at hO
  have hK := (Kept.refl (Mine g A) w).grow (hG.trans hg)
  have hS := hst.grow (hG.trans hg)
  clear hG hg ho hst
  have d0 := cell_block hO 0
  have d1 := cell_block hO 1
  have d2 := cell_block hO 2
  have d3 := cell_block hO 3
  have d4 := cell_block hO 4
  have d5 := cell_block hO 5
  simp at d0 d1 d2 d3 d4 d5
  clear hO
  have HK := Lib.hid hK; clear hK
  go_wp2_with fail
  refine (move_store w2 B g n cap q at_ R M A a b c d k HQ.out hn hcap ha hb hS hlt).mono ?_
  rintro e w3 ⟨rfl, hS3, hK3⟩
  have HK3 := Lib.hid (HK.out.trans hK3)
  clear d0 d1 d2 d3 d4 d5 hS hK3
  have c0 := hS3.1.c0
  have f0 := hS3.1.free 0
  have HS5 := Lib.hid (hS3.set0 (at_ + 1))
  have HK5 := Lib.hid (HK3.out.set (b := g) (.inl rfl) 0 (.int .i64 (at_ + 1)))
  clear hS3
  go_wp2
  go_ret
  exact ⟨rfl, HS5.out, HK5.out⟩

set_option maxHeartbeats 1000000 in
set_option maxRecDepth 100000 in
theorem do_sto_out (w : World) (B g n cap : Nat) (at_ : Int) (R M : Nat → BitVec 32) (A : Option Addr) (a b c : Nat) (d : Int) (k : BitVec 32) (hf : formP 16 a b c d k.toNat = 0) (hat0 : 0 ≤ at_) (hat1 : at_ ≤ 2000000000000) (ha : a < 8) (hb : b < 8) (hc : c < 8) (hst : St w B g at_ R A n cap M) (q : Nat) (hq : (R b + k).toNat = q) (hn : (n : Int) ≤ 300) (hcap : (n : Int) ≤ cap) (hge : (n : Int) ≤ q) :
    Calls Try.prog 11 #[.pointer (some ⟨g, 0, none⟩), .agg #[.int .i64 16, .int .i64 a, .int .i64 b, .int .i64 c, .int .i64 d, .int .u32 k.toNat]] w fun e w' => e = .returned (.int .i64 12) ∧ Kept (fun _ => False) w w' := by
  have hai : (a : Int) < 8 := by omega
  have hbi : (b : Int) < 8 := by omega
  have hci : (c : Int) < 8 := by omega
  have HQ := Lib.hid hq; clear hq
  have hG := Grow.alloc w (.cells #[.int .i64 16, .int .i64 a, .int .i64 b, .int .i64 c, .int .i64 d, .int .u32 k.toNat] 28)
  have hO := heapAt_alloc_new w (.cells #[.int .i64 16, .int .i64 a, .int .i64 b, .int .i64 c, .int .i64 d, .int .u32 k.toNat] 28)
  have HF := Lib.hid hf; clear hf
  have ho : w.heap.size < (w.alloc (.cells #[.int .i64 16, .int .i64 a, .int .i64 b, .int .i64 c, .int .i64 d, .int .u32 k.toNat] 28)).heap.size := heapAt_lt hO
  go_enter Try.func11, Try.ntmps11
  go_wp2_with fail
  generalize w.alloc (.cells #[.int .i64 16, .int .i64 a, .int .i64 b, .int .i64 c, .int .i64 d, .int .u32 k.toNat] 28) = w1 at hG hO ho ⊢
  generalize w.heap.size = z at hO ho ⊢
  refine (form_any 16 a b c d k.toNat _).mono ?_
  rw [HF.out]
  rintro e w2 ⟨rfl, hg⟩
  have hO := hg.at hO
  have hK := (Kept.refl (Mine g A) w).grow (hG.trans hg)
  have hK2 := (Kept.refl (fun _ => False) w).grow (hG.trans hg)
  have hS := hst.grow (hG.trans hg)
  clear hG hg ho hst
  have d0 := cell_block hO 0
  have d1 := cell_block hO 1
  have d2 := cell_block hO 2
  have d3 := cell_block hO 3
  have d4 := cell_block hO 4
  have d5 := cell_block hO 5
  simp at d0 d1 d2 d3 d4 d5
  clear hO hK
  have HK := Lib.hid hK2; clear hK2
  go_wp2_with fail
  refine (move_out w2 B g n cap q at_ R M A 16 a b c d k HQ.out hn hcap ha hb hS hge).mono ?_
  rintro e w3 ⟨rfl, hK3⟩
  have HK3 := Lib.hid (HK.out.trans hK3)
  clear d0 d1 d2 d3 d4 d5 hS hK3
  go_wp2
  go_ret
  exact ⟨rfl, HK3.out⟩

theorem Kept.none_at {w w' : World} (h : Kept (fun _ => False) w w') : Grow w w' := ⟨h.1, h.2.1, h.2.2.1, h.2.2.2.1, fun k hk => h.2.2.2.2 k hk (fun f => f)⟩
theorem Kept.of_grow {S : Nat → Prop} {w w' : World} (h : Grow w w') : Kept S w w' := (Kept.refl S w).grow h
/-- Do: whatever instruction. -/
theorem do_any (w : World) (B g n cap : Nat) (at_ : Int) (R M : Nat → BitVec 32) (A : Option Addr) (op a b c d : Int) (k : BitVec 32) (hn : (n : Int) ≤ 300) (hcap : (n : Int) ≤ cap) (hat0 : 0 ≤ at_) (hat1 : at_ ≤ 2000000000000) (hst : St w B g at_ R A n cap M) :
    Calls Try.prog 11 #[.pointer (some ⟨g, 0, none⟩), .agg #[.int .i64 op, .int .i64 a, .int .i64 b, .int .i64 c, .int .i64 d, .int .u32 k.toNat]] w fun e w' => e = .returned (.int .i64 (stepP at_ R M n op a b c d k).err) ∧
      St w' B g (stepP at_ R M n op a b c d k).at_ (stepP at_ R M n op a b c d k).R A n cap (stepP at_ R M n op a b c d k).M ∧ Kept (Mine g A) w w' := by
  have bad : ∀ (v : Int) (w' : World), Grow w w' → v = (stepP at_ R M n op a b c d k).err → (stepP at_ R M n op a b c d k).at_ = at_ → (stepP at_ R M n op a b c d k).R = R → (stepP at_ R M n op a b c d k).M = M →
      Ending.returned (.int .i64 v) = .returned (.int .i64 (stepP at_ R M n op a b c d k).err) ∧ St w' B g (stepP at_ R M n op a b c d k).at_ (stepP at_ R M n op a b c d k).R A n cap (stepP at_ R M n op a b c d k).M ∧ Kept (Mine g A) w w' := by
    intro v w' hg h1 h2 h3 h4
    rw [h2, h3, h4, ← h1]
    exact ⟨rfl, hst.grow hg, Kept.of_grow hg⟩
  by_cases hbad : 20 < op ∨ formP op a b c d k.toNat ≠ 0
  · have e : stepP at_ R M n op a b c d k = ⟨14, at_, R, M⟩ := by unfold stepP; rw [if_pos hbad]
    refine (do_bad w g op a b c d k hbad).mono ?_
    rintro e' w' ⟨rfl, hg⟩
    exact bad 14 w' hg (by rw [e]) (by rw [e]) (by rw [e]) (by rw [e])
  · have hf : formP op a b c d k.toNat = 0 := Classical.byContradiction fun h => hbad (.inr h)
    have h20 : op ≤ 20 := by
      refine Classical.byContradiction fun h => hbad (.inl (by omega))
    obtain ⟨⟨ha0, ha⟩, ⟨hb0, hb⟩, ⟨hc0, hc⟩, hop1, _⟩ := form_regs op a b c d k.toNat hf
    obtain ⟨ia, rfl⟩ := Int.eq_ofNat_of_zero_le ha0
    obtain ⟨ib, rfl⟩ := Int.eq_ofNat_of_zero_le hb0
    obtain ⟨ic, rfl⟩ := Int.eq_ofNat_of_zero_le hc0
    have ha' : ia < 8 := by omega
    have hb' : ib < 8 := by omega
    have hc' : ic < 8 := by omega
    by_cases o1 : op = 1
    · subst o1
      have e : stepP at_ R M n 1 ia ib ic d k = ⟨0, at_ + 1, upd R ia k, M⟩ := by unfold stepP; rw [if_neg hbad]; simp
      rw [e]; exact do_set w B g n cap at_ R M A ia ib ic d k hf hat0 hat1 ha' hb' hc' hst
    by_cases o2 : op = 2
    · subst o2
      have e : stepP at_ R M n 2 ia ib ic d k = ⟨0, at_ + 1, upd R ia (R ib), M⟩ := by unfold stepP; rw [if_neg hbad]; simp
      rw [e]; exact do_mov w B g n cap at_ R M A ia ib ic d k hf hat0 hat1 ha' hb' hc' hst
    by_cases o15 : op = 15
    · subst o15
      by_cases hlt : n ≤ (R ib + k).toNat
      · have e : stepP at_ R M n 15 ia ib ic d k = ⟨12, at_, R, M⟩ := by unfold stepP; simp only [Int.toNat_natCast]; rw [if_neg hbad, if_neg (by omega), if_neg (by omega), if_pos trivial, if_pos hlt]
        refine (do_ld_out w B g n cap at_ R M A ia ib ic d k hf hat0 hat1 ha' hb' hc' hst _ rfl hn hcap (by omega)).mono ?_
        rintro e' w' ⟨rfl, hg⟩
        exact bad 12 w' hg.none_at (by rw [e]) (by rw [e]) (by rw [e]) (by rw [e])
      · have e : stepP at_ R M n 15 ia ib ic d k = ⟨0, at_ + 1, upd R ia (M (R ib + k).toNat), M⟩ := by unfold stepP; simp only [Int.toNat_natCast]; rw [if_neg hbad, if_neg (by omega), if_neg (by omega), if_pos trivial, if_neg hlt]
        rw [e]; exact do_ld w B g n cap at_ R M A ia ib ic d k hf hat0 hat1 ha' hb' hc' hst _ rfl hn hcap (by omega)
    by_cases o16 : op = 16
    · subst o16
      by_cases hlt : n ≤ (R ib + k).toNat
      · have e : stepP at_ R M n 16 ia ib ic d k = ⟨12, at_, R, M⟩ := by unfold stepP; simp only [Int.toNat_natCast]; rw [if_neg hbad, if_neg (by omega), if_neg (by omega), if_neg (by omega), if_pos trivial, if_pos hlt]
        refine (do_sto_out w B g n cap at_ R M A ia ib ic d k hf hat0 hat1 ha' hb' hc' hst _ rfl hn hcap (by omega)).mono ?_
        rintro e' w' ⟨rfl, hg⟩
        exact bad 12 w' hg.none_at (by rw [e]) (by rw [e]) (by rw [e]) (by rw [e])
      · have e : stepP at_ R M n 16 ia ib ic d k = ⟨0, at_ + 1, R, upd M (R ib + k).toNat (R ia)⟩ := by unfold stepP; simp only [Int.toNat_natCast]; rw [if_neg hbad, if_neg (by omega), if_neg (by omega), if_neg (by omega), if_pos trivial, if_neg hlt]
        rw [e]; exact do_sto w B g n cap at_ R M A ia ib ic d k hf hat0 hat1 ha' hb' hc' hst _ rfl hn hcap (by omega)
    by_cases o17 : op = 17
    · subst o17
      have e : stepP at_ R M n 17 ia ib ic d k = ⟨0, k.toNat, R, M⟩ := by unfold stepP; rw [if_neg hbad]; simp
      rw [e]; exact do_jmp w B g n cap at_ R M A ia ib ic d k hf hat0 hat1 ha' hb' hc' hst
    by_cases o18 : op = 18
    · subst o18
      by_cases hz : R ia = 0#32
      · have e : stepP at_ R M n 18 ia ib ic d k = ⟨0, k.toNat, R, M⟩ := by unfold stepP; rw [if_neg hbad]; simp [hz]
        rw [e]; exact do_jz_yes w B g n cap at_ R M A ia ib ic d k hf hat0 hat1 ha' hb' hc' hst (by rw [hz]; rfl)
      · have e : stepP at_ R M n 18 ia ib ic d k = ⟨0, at_ + 1, R, M⟩ := by unfold stepP; rw [if_neg hbad]; simp [hz]
        rw [e]; exact do_jz_no w B g n cap at_ R M A ia ib ic d k hf hat0 hat1 ha' hb' hc' hst (by rw [beq_eq_false_iff_ne]; exact fun h => hz (zero_of _ h))
    by_cases o19 : op = 19
    · subst o19
      by_cases hz : R ia = 0#32
      · have e : stepP at_ R M n 19 ia ib ic d k = ⟨0, at_ + 1, R, M⟩ := by unfold stepP; rw [if_neg hbad]; simp [hz]
        rw [e]; exact do_jnz_no w B g n cap at_ R M A ia ib ic d k hf hat0 hat1 ha' hb' hc' hst (by rw [hz]; rfl)
      · have e : stepP at_ R M n 19 ia ib ic d k = ⟨0, k.toNat, R, M⟩ := by unfold stepP; rw [if_neg hbad]; simp [hz]
        rw [e]; exact do_jnz_yes w B g n cap at_ R M A ia ib ic d k hf hat0 hat1 ha' hb' hc' hst (by rw [beq_eq_false_iff_ne]; exact fun h => hz (zero_of _ h))
    by_cases o20 : op = 20
    · subst o20
      have e : stepP at_ R M n 20 ia ib ic d k = ⟨0, at_ + 1, R, M⟩ := by unfold stepP; rw [if_neg hbad]; simp
      rw [e]; exact do_work w B g n cap at_ R M A ia ib ic d k hf hat0 hat1 ha' hb' hc' hst
    by_cases he : valE op (R ic) = 0
    · have e : stepP at_ R M n op ia ib ic d k = ⟨0, at_ + 1, upd R ia (valW op (R ib) (R ic)), M⟩ := by unfold stepP; rw [if_neg hbad]; simp [o1, o2, o15, o16, o17, o18, o19, o20, he]
      rw [e]; exact do_val w B g n cap at_ R M A op (by omega) (by omega) ia ib ic d k hf hat0 hat1 ha' hb' hc' hst he
    · have e : stepP at_ R M n op ia ib ic d k = ⟨valE op (R ic), at_, R, M⟩ := by unfold stepP; rw [if_neg hbad]; simp [o1, o2, o15, o16, o17, o18, o19, o20, he]
      refine (do_val_err w B g n cap at_ R M A op (by omega) (by omega) ia ib ic d k hf hat0 hat1 ha' hb' hc' hst (by rw [bne_iff_ne]; exact he)).mono ?_
      rintro e' w' ⟨rfl, hg⟩
      exact bad _ w' hg.none_at (by rw [e]) (by rw [e]) (by rw [e]) (by rw [e])

end Go.Proofs.Ytkjacmnocbdghaa
