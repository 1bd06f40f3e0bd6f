/- The walk of the reference's Put. -/
import Derived.Test.YtdicgpbdfnlniaaRef
namespace Go.Proofs.Ytdicgpbdfnlniaa
open Go.RowKit
set_option linter.unusedVariables false
set_option linter.unusedSimpArgs false
set_option maxRecDepth 100000
theorem reads_one (w : World) (x : List UInt8) : Reads (w.alloc (.cells #[.string ⟨x.toArray⟩] 9)) (w.alloc (.cells #[.string ⟨x.toArray⟩] 9)).heap.size 1 (some ⟨w.heap.size, 0, none⟩) 1 [.string ⟨x.toArray⟩] := by
  have := Reads.of_own (World.ownsRow_lit (base := w.heap.size) (e := 9) (size := 1) w #[.string ⟨x.toArray⟩] 1 (Nat.le_refl _) (by unfold maxLen; omega) rfl)
  simpa using this
theorem reads_nil (w : World) (B : Nat) (A : Option Addr) : Reads w B 1 A 0 [] := ⟨by simp, fun h => absurd h (by omega)⟩
theorem reads_empty {w : World} {B n : Nat} {A : Option Addr} {M : List (List UInt8)} (hn : n = 0) (hM : M = []) : Reads w B 1 A n (texts M) := by
  subst hn hM
  unfold texts
  exact reads_nil w B A
/-- A part of a row, read. -/
theorem reads_part {w : World} {g n : Nat} {L : List (List UInt8)} (hc : ∀ j, j < L.length → w.cell? ⟨g, j, none⟩ = some (.string ⟨(L.getD j []).toArray⟩)) (i : Nat) (M : List (List UInt8)) (hn : n = M.length) (hM : ∀ j, j < M.length → i + j < L.length ∧ M.getD j [] = L.getD (i + j) []) : Reads w w.heap.size 1 (some ⟨g, i, none⟩) n (texts M) := by
  subst hn
  refine ⟨by rw [texts_len]; omega, fun hn => ⟨⟨g, i, none⟩, rfl, ?_, fun j u hu => ?_⟩⟩
  · have h0 := (hM 0 hn).1
    have := cell_lt (hc _ h0)
    exact this
  · have hj : j < M.length := by rw [← texts_len]; exact (List.getElem?_eq_some_iff.1 hu).1
    rw [texts_at M j hj] at hu
    obtain ⟨h1, h2⟩ := hM j hj
    rw [Addr.add_lit g i j, hc _ h1, ← h2]
    exact hu
theorem grown_cell {w w' : World} {row : Option Nat} {m l : Nat} {v : Value} (hg : w.grownBy w' row) (hr : row ≠ some m) (hc : w.cell? ⟨m, l, none⟩ = some v) : w'.cell? ⟨m, l, none⟩ = some v := by
  have hlt := World.block_lt_of_cell? w ⟨m, l, none⟩ hc
  exact (World.cell?_of_block (w := w) (a := ⟨m, l, none⟩) (hg.block m hlt (fun e => hr e.symm))).trans hc
theorem grown_free {w w' : World} {row : Option Nat} {m l : Nat} {v : Value} (hg : w.grownBy w' row) (hr : row ≠ some m) (hc : w.cell? ⟨m, l, none⟩ = some v) (hf : w.frozen? ⟨m, l, none⟩ = false) : w'.frozen? ⟨m, l, none⟩ = false := by
  have hlt := World.block_lt_of_cell? w ⟨m, l, none⟩ hc
  exact (World.frozen?_of_block (w := w) (a := ⟨m, l, none⟩) (hg.block m hlt (fun e => hr e.symm))).trans hf
/-- The reference's ring lies at m. -/
def MAt (w : World) (base m cap : Nat) (pol : Int) (s : RG) : Prop := 179 ≤ cap ∧ cap ≤ 1048576 ∧ WF cap s ∧ ∃ v v2, MW w base m cap pol v v2 s.L s.gone s.begun s.gone.length
theorem MAt.mk' {w : World} {base m cap lost : Nat} {pol : Int} {v v2 : Value} {s : RG} (h1 : 179 ≤ cap) (h2 : cap ≤ 1048576) (hwf : WF cap s) (h : MW w base m cap pol v v2 s.L s.gone s.begun lost) (e : lost = s.gone.length) : MAt w base m cap pol s := by
  subst e
  exact ⟨h1, h2, hwf, v, v2, h⟩
theorem MAt.grow {w w' : World} {base m cap : Nat} {pol : Int} {s : RG} (h : MAt w base m cap pol s) (hg : Grow w w') : MAt w' base m cap pol s := by
  obtain ⟨h1, h2, h3, v, v2, h4⟩ := h
  exact ⟨h1, h2, h3, v, v2, h4.grow hg⟩
theorem MAt.base_le {w : World} {base m cap : Nat} {pol : Int} {s : RG} (h : MAt w base m cap pol s) : base ≤ w.heap.size := by
  obtain ⟨h1, h2, h3, v, v2, h4⟩ := h
  exact h4.base_le
def lenAtM (m : Nat) (w : World) : Nat := match w.cell? ⟨m, 2, none⟩ with
  | some (.slice _ n _) => n
  | _ => 0
theorem MW.lenAtM {w : World} {base m cap lost : Nat} {pol : Int} {v v2 : Value} {L G : List (List UInt8)} {begun : Bool} (h : MW w base m cap pol v v2 L G begun lost) : lenAtM m w = L.length := by
  unfold Ytdicgpbdfnlniaa.lenAtM
  obtain ⟨A, c, rfl, _⟩ := own_texts h.row
  rw [h.c2]
theorem MAt.lenAt {w : World} {base m cap : Nat} {pol : Int} {s : RG} (h : MAt w base m cap pol s) : lenAtM m w = s.L.length := by
  obtain ⟨h1, h2, h3, v, v2, h4⟩ := h
  unfold lenAtM
  obtain ⟨A, c, rfl, _⟩ := own_texts h4.row
  rw [h4.c2]
theorem wf_gone {cap : Nat} {s : RG} {t : List UInt8} (h : WF cap s) : WF cap ⟨s.L, s.begun, s.gone ++ [t]⟩ := ⟨h.1, h.2, h.3⟩
theorem lose_rest {s : RG} (h : (s.begun = true ∧ ∃ f f1 l, s.L = f :: f1 :: l) ∨ (s.begun = false ∧ ∃ f l, s.L = f :: l)) : s.lose.rest = s.rest ∧ s.lose.begun = s.begun := by
  obtain ⟨L, b, go⟩ := s
  rcases h with ⟨hb, f, f1, l, hL⟩ | ⟨hb, f, l, hL⟩ <;> simp only at hb hL <;> subst hb <;> subst hL <;> simp [RG.lose, RG.rest, RG.sizes, hd0]
theorem lose_plain_eq {s : RG} {f : List UInt8} {l : List (List UInt8)} (hb : s.begun = false) (hL : s.L = f :: l) : s.lose = ⟨l, false, s.gone ++ [f]⟩ := by
  obtain ⟨L, b, go⟩ := s
  simp only at hb hL
  subst hb hL
  rfl
theorem lose_begun_eq {s : RG} {f f1 : List UInt8} {l : List (List UInt8)} (hb : s.begun = true) (hL : s.L = f :: f1 :: l) : s.lose = ⟨f :: l, true, s.gone ++ [f1]⟩ := by
  obtain ⟨L, b, go⟩ := s
  simp only at hb hL
  subst hb hL
  rfl
end Go.Proofs.Ytdicgpbdfnlniaa
