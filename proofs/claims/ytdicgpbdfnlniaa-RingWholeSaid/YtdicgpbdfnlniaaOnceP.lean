/- How many bytes and frames there are. -/
import Derived.Test.YtdicgpbdfnlniaaPlays
namespace Go.Proofs.Ytdicgpbdfnlniaa
set_option linter.unusedVariables false
/-- The bytes that were lost. -/
def gsum (s : RG) : Nat := s.gone.flatten.length
theorem putG_sum (cap : Nat) (pol : Int) (t : List UInt8) : ∀ (n : Nat) (s : RG), (putG cap pol t n s).2.used + gsum (putG cap pol t n s).2 = s.used + gsum s + t.length ∧ (putG cap pol t n s).2.gone.length + (putG cap pol t n s).2.L.length = s.gone.length + s.L.length + 1
  | 0, s => by simp [putG, RG.used, RG.bytes, gsum]; omega
  | n + 1, s => by
    unfold putG
    split
    · simp [RG.used, RG.bytes, gsum]; omega
    · split
      · simp [RG.used, RG.bytes, gsum]; omega
      · have h := putG_sum cap pol t n s.lose
        have h2 : s.lose.used + gsum s.lose = s.used + gsum s ∧ s.lose.gone.length + s.lose.L.length = s.gone.length + s.L.length := by
          obtain ⟨L, b, go⟩ := s
          cases b with
          | true =>
            match L with
            | [] => simp [RG.lose]
            | [f] => simp [RG.lose]
            | f :: f1 :: l => simp [RG.lose, RG.used, RG.bytes, gsum]; omega
          | false =>
            match L with
            | [] => simp [RG.lose]
            | f :: l => simp [RG.lose, RG.used, RG.bytes, gsum]; omega
        omega
theorem putG_one (cap : Nat) (pol : Int) (t : List UInt8) : ∀ (n : Nat) (s : RG), (putG cap pol t n s).1 = 0 ∨ (putG cap pol t n s).1 = 7
  | 0, s => .inl rfl
  | n + 1, s => by
    unfold putG
    split
    · exact .inl rfl
    · split
      · exact .inr rfl
      · exact putG_one cap pol t n s.lose
theorem drain_used {cap : Nat} {s : RG} (h : WF cap s) (mk : Int) : (drain s (most s mk)).used + most s mk = s.used ∧ gsum (drain s (most s mk)) = gsum s := by
  constructor
  · unfold drain RG.used RG.bytes
    simp only
    rw [dr_bytes, List.length_drop]
    have : most s mk ≤ s.bytes.length := by unfold most RG.used; omega
    unfold RG.bytes at this
    omega
  · unfold drain gsum; rfl
theorem drain_all {cap : Nat} {s : RG} (h : WF cap s) : (drain s (most s (s.used : Nat))).L = [] ∧ (drain s (most s (s.used : Nat))).begun = false ∧ s.bytes.take (most s (s.used : Nat)) = s.bytes := by
  have e : most s (s.used : Nat) = s.used := by unfold most; omega
  rw [e]
  obtain ⟨h1, h2⟩ := dr_all s.used s.L s.begun h.pos (Nat.le_refl _)
  refine ⟨h1, h2 h.beg, ?_⟩
  unfold RG.used
  exact List.take_length
end Go.Proofs.Ytdicgpbdfnlniaa
