/- The reference's Do, whole. -/
import Derived.Test.YtkjacmnocbdghaaDoRef3
namespace Go.Proofs.Ytkjacmnocbdghaa
open Go.RowKit
set_option linter.unusedVariables false
attribute [local irreducible] hasA hasB hasC hasD hasK bitsOf regP hasStr letter formP bad4 bad6 bad8 bad10 ctxCells regArr valW valE words upd
/-- What the reference's Do leaves. -/
def Left (w : World) (A : Option Addr) (n : Nat) (s : CS) (e : Ending) (w' : World) : Prop := ∃ A' cap', e = .returned (.tuple #[.agg (ctxCells s.at_ s.R (.slice A' n cap')), .int .i64 s.err]) ∧ MemLoc w A w' A' n s.M ∧ (n : Int) ≤ cap' ∧ Grow w w'
theorem doRef_any (w : World) (n cap : Nat) (at_ : Int) (R M : Nat → BitVec 32) (A : Option Addr) (op a b c d : Int) (k : BitVec 32) (hn : (n : Int) ≤ 300) (hcap : (n : Int) ≤ cap) (hat0 : 0 ≤ at_) (hat1 : at_ ≤ 2000000000000) (hM : MemAt w A n M) :
    Calls Try.prog 12 #[.agg (ctxCells at_ R (.slice A n cap)), .agg #[.int .i64 op, .int .i64 a, .int .i64 b, .int .i64 c, .int .i64 d, .int .u32 k.toNat]] w (Left w A n (stepP at_ R M n op a b c d k)) := by
  by_cases hbad : 20 < op ∨ formP op a b c d k.toNat ≠ 0
  · have e : stepP at_ R M n op a b c d k = ⟨14, at_, R, M⟩ := by unfold stepP; rw [if_pos hbad]
    rw [e]
    by_cases h20 : 20 < op
    · exact ref_bad20 w n cap at_ R M A op a b c d k hn hcap hat0 hat1 hM h20
    · exact ref_badf w n cap at_ R M A op a b c d k hn hcap hat0 hat1 hM h20 (by rcases hbad with h | h; exact absurd h h20; exact h)
  · have hf : formP op a b c d k.toNat = 0 := Classical.byContradiction fun h => hbad (.inr h)
    have h20 : op ≤ 20 := by
      refine Classical.byContradiction fun h => hbad (.inl (by omega))
    obtain ⟨⟨ha0, ha⟩, ⟨hb0, hb⟩, ⟨hc0, hc⟩, hop1, _⟩ := form_regs op a b c d k.toNat hf
    obtain ⟨ia, rfl⟩ := Int.eq_ofNat_of_zero_le ha0
    obtain ⟨ib, rfl⟩ := Int.eq_ofNat_of_zero_le hb0
    obtain ⟨ic, rfl⟩ := Int.eq_ofNat_of_zero_le hc0
    have ha' : ia < 8 := by omega
    have hb' : ib < 8 := by omega
    have hc' : ic < 8 := by omega
    by_cases o1 : op = 1
    · subst o1
      have e : stepP at_ R M n 1 ia ib ic d k = ⟨0, at_ + 1, upd R ia k, M⟩ := by unfold stepP; rw [if_neg hbad]; simp
      rw [e]; exact ref_set w n cap at_ R M A ia ib ic d k hn hcap hf hat0 hat1 ha' hb' hc' hM
    by_cases o2 : op = 2
    · subst o2
      have e : stepP at_ R M n 2 ia ib ic d k = ⟨0, at_ + 1, upd R ia (R ib), M⟩ := by unfold stepP; rw [if_neg hbad]; simp
      rw [e]; exact ref_mov w n cap at_ R M A ia ib ic d k hn hcap hf hat0 hat1 ha' hb' hc' hM
    by_cases o15 : op = 15
    · subst o15
      by_cases hlt : n ≤ (R ib + k).toNat
      · have e : stepP at_ R M n 15 ia ib ic d k = ⟨12, at_, R, M⟩ := by unfold stepP; simp only [Int.toNat_natCast]; rw [if_neg hbad, if_neg (by omega), if_neg (by omega), if_pos trivial, if_pos hlt]
        rw [e]; exact ref_ld_out w n cap at_ R M A ia ib ic d k hn hcap hf hat0 hat1 ha' hb' hc' hM _ rfl (by omega)
      · have e : stepP at_ R M n 15 ia ib ic d k = ⟨0, at_ + 1, upd R ia (M (R ib + k).toNat), M⟩ := by unfold stepP; simp only [Int.toNat_natCast]; rw [if_neg hbad, if_neg (by omega), if_neg (by omega), if_pos trivial, if_neg hlt]
        rw [e]; exact ref_ld w n cap at_ R M A ia ib ic d k hn hcap hf hat0 hat1 ha' hb' hc' hM _ rfl (by omega)
    by_cases o16 : op = 16
    · subst o16
      by_cases hlt : n ≤ (R ib + k).toNat
      · have e : stepP at_ R M n 16 ia ib ic d k = ⟨12, at_, R, M⟩ := by unfold stepP; simp only [Int.toNat_natCast]; rw [if_neg hbad, if_neg (by omega), if_neg (by omega), if_neg (by omega), if_pos trivial, if_pos hlt]
        rw [e]; exact ref_sto_out w n cap at_ R M A ia ib ic d k hn hcap hf hat0 hat1 ha' hb' hc' hM _ rfl (by omega)
      · have e : stepP at_ R M n 16 ia ib ic d k = ⟨0, at_ + 1, R, upd M (R ib + k).toNat (R ia)⟩ := by unfold stepP; simp only [Int.toNat_natCast]; rw [if_neg hbad, if_neg (by omega), if_neg (by omega), if_neg (by omega), if_pos trivial, if_neg hlt]
        rw [e]; exact ref_sto w n cap at_ R M A ia ib ic d k hn hcap hf hat0 hat1 ha' hb' hc' hM _ rfl (by omega)
    by_cases o17 : op = 17
    · subst o17
      have e : stepP at_ R M n 17 ia ib ic d k = ⟨0, k.toNat, R, M⟩ := by unfold stepP; rw [if_neg hbad]; simp
      rw [e]; exact ref_jmp w n cap at_ R M A ia ib ic d k hn hcap hf hat0 hat1 ha' hb' hc' hM
    by_cases o18 : op = 18
    · subst o18
      by_cases hz : R ia = 0#32
      · have e : stepP at_ R M n 18 ia ib ic d k = ⟨0, k.toNat, R, M⟩ := by unfold stepP; rw [if_neg hbad]; simp [hz]
        rw [e]; exact ref_jz_yes w n cap at_ R M A ia ib ic d k hn hcap hf hat0 hat1 ha' hb' hc' hM (by rw [hz]; rfl)
      · have e : stepP at_ R M n 18 ia ib ic d k = ⟨0, at_ + 1, R, M⟩ := by unfold stepP; rw [if_neg hbad]; simp [hz]
        rw [e]; exact ref_jz_no w n cap at_ R M A ia ib ic d k hn hcap hf hat0 hat1 ha' hb' hc' hM (by rw [beq_eq_false_iff_ne]; exact fun h => hz (zero_of _ h))
    by_cases o19 : op = 19
    · subst o19
      by_cases hz : R ia = 0#32
      · have e : stepP at_ R M n 19 ia ib ic d k = ⟨0, at_ + 1, R, M⟩ := by unfold stepP; rw [if_neg hbad]; simp [hz]
        rw [e]; exact ref_jnz_no w n cap at_ R M A ia ib ic d k hn hcap hf hat0 hat1 ha' hb' hc' hM (by rw [hz]; rfl)
      · have e : stepP at_ R M n 19 ia ib ic d k = ⟨0, k.toNat, R, M⟩ := by unfold stepP; rw [if_neg hbad]; simp [hz]
        rw [e]; exact ref_jnz_yes w n cap at_ R M A ia ib ic d k hn hcap hf hat0 hat1 ha' hb' hc' hM (by rw [beq_eq_false_iff_ne]; exact fun h => hz (zero_of _ h))
    by_cases o20 : op = 20
    · subst o20
      have e : stepP at_ R M n 20 ia ib ic d k = ⟨0, at_ + 1, R, M⟩ := by unfold stepP; rw [if_neg hbad]; simp
      rw [e]; exact ref_work w n cap at_ R M A ia ib ic d k hn hcap hf hat0 hat1 ha' hb' hc' hM
    by_cases he : valE op (R ic) = 0
    · have e : stepP at_ R M n op ia ib ic d k = ⟨0, at_ + 1, upd R ia (valW op (R ib) (R ic)), M⟩ := by unfold stepP; rw [if_neg hbad]; simp [o1, o2, o15, o16, o17, o18, o19, o20, he]
      rw [e]; exact ref_val w n cap at_ R M A op (by omega) (by omega) ia ib ic d k hn hcap hf hat0 hat1 ha' hb' hc' hM he
    · have e : stepP at_ R M n op ia ib ic d k = ⟨valE op (R ic), at_, R, M⟩ := by unfold stepP; rw [if_neg hbad]; simp [o1, o2, o15, o16, o17, o18, o19, o20, he]
      rw [e]; exact ref_val_err w n cap at_ R M A op (by omega) (by omega) ia ib ic d k hn hcap hf hat0 hat1 ha' hb' hc' hM (by rw [bne_iff_ne]; exact he)
end Go.Proofs.Ytkjacmnocbdghaa
