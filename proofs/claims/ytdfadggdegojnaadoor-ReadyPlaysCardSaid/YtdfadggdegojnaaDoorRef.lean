/- The reference's Queues in memory; its First. -/
import Derived.Test.YtdfadggdegojnaaDoorRefW
import Derived.Test.YtdfadggdegojnaaDoorPlainC
namespace Go.Proofs.YtdfadggdegojnaaDoor
open Go.RowKit
set_option linter.unusedVariables false
set_option maxRecDepth 100000
def refCells (V : Nat → Value) : Array Value := Array.ofFn (n := 32) fun i => V i
theorem refCells_size (V : Nat → Value) : (refCells V).size = 32 := by simp [refCells]
theorem refCells_at (V : Nat → Value) (i : Nat) (h : i < 32) : (refCells V)[i]? = some (V i) := by simp [refCells, h]
attribute [local irreducible] ctz qCells lvl pushR cutR firstR total inR hd but refCells lead
/-- The reference's queues lie at m; each row owns its block. -/
structure RefV (w : World) (m : Nat) (L : Rows) (V : Nat → Value) : Prop where
  blk : w.heap[m]? = some (.cells (refCells V) 42 (0, 0))
  row : ∀ j, j < 32 → w.ownsRow (m + 1) 3 1 (V j) (L j).length (ints (L j))
  ap : ∀ i j, i < 32 → j < 32 → i ≠ j → ∀ g, (V i).ownBlock = some g → (V j).ownBlock ≠ some g
theorem RefV.cell {w : World} {m : Nat} {L : Rows} {V : Nat → Value} (h : RefV w m L V) (i : Nat) (hi : i < 32) : w.cell? ⟨m, i, none⟩ = some (V i) := by rw [cell_block h.blk i, refCells_at V i hi]
theorem RefV.form {w : World} {m : Nat} {L : Rows} {V : Nat → Value} (h : RefV w m L V) (i : Nat) (hi : i < 32) : ∃ A cap, V i = .slice A (L i).length cap ∧ (L i).length ≤ cap ∧ MemOwn w (m + 1) A (L i).length (rowM (L i)) := by
  have := h.row i hi
  rw [ints_nums] at this
  exact own_mem this
theorem lead_of {L : Rows} (l : Nat) (hl : l < 32) (h0 : ∀ j, j < l → L j = []) (h1 : L l ≠ []) : lead L = some l := by
  cases e : lead L with
  | none => exact absurd (lead_none e l hl) h1
  | some j =>
    obtain ⟨a, b, c⟩ := lead_some e
    rcases Nat.lt_trichotomy j l with h | h | h
    · exact absurd (h0 j h) b
    · rw [h]
    · exact absurd (c l h) h1
theorem refFirst_any (w : World) (m : Nat) (L : Rows) (V : Nat → Value) (hlen : ∀ j, j < 32 → (L j).length ≤ 64) (h : RefV w m L V) : Calls Tryd.prog 30 #[.pointer (some ⟨m, 0, none⟩)] w fun e w' => e = .returned (.int .i64 (firstR L)) ∧ w' = w := by
  have HR := Lib.hid h; clear h
  go_enter Tryd.func30, Tryd.ntmps30
  go_wp2_with fail
  go_loopw [3] (fun i wr => ∃ k : Nat, k ≤ 32 ∧ i = .int .i64 k ∧ (∀ j, j < k → L j = []) ∧ wr = w) (fun i _ => 32 - (intOf i).toNat)
  case atStart => exact ⟨0, by omega, rfl, fun j hj => by omega, rfl⟩
  case round =>
    obtain ⟨k, hk, rfl, he, rfl⟩ := hrel
    have HE := Lib.hid he; clear he
    by_cases hlt : k < 32
    · obtain ⟨A, cap, hV, hc, hM⟩ := HR.out.form k hlt
      have c0 := HR.out.cell k hlt
      rw [hV] at c0
      have hl := hlen k hlt
      have k0 : (0 : Int) ≤ (k : Int) := by omega
      have kn : (k : Int) < 32 := by omega
      by_cases hne : L k = []
      · have HN := Lib.hid (show ∀ j, j < k + 1 → L j = [] from fun j hj => by
          rcases Nat.lt_succ_iff_lt_or_eq.1 hj with h | h
          · exact HE.out j h
          · rw [h]; exact hne)
        rw [hne, List.length_nil] at c0
        clear hM hV hne hc hl
        go_wp2_with fail
        go_roundw
        case rel => exact ⟨k + 1, by omega, by go_num, HN.out, trivial⟩
        case measure => simp [intOf]; omega
      · have hlead := lead_of k hlt HE.out hne
        have hpos : 0 < (L k).length := List.length_pos_iff.2 hne
        obtain ⟨a, hA, hcs⟩ := hM.at hpos
        have c1 := hcs 0 hpos
        have hf : rowM (L k) 0 = firstR L := by
          unfold firstR
          rw [hlead]
          cases hL : L k with
          | nil => exact absurd hL hne
          | cons x xs =>
            show rowM (x :: xs) 0 = hd (-1) (L k)
            rw [hL]; unfold hd; simp [rowM]
        rw [hf] at c1
        rw [hA] at c0
        have c2 : wr.cell? a = some (.int .i64 (firstR L)) := by
          have e0 : a.add 0 = a := by unfold Addr.add; split <;> simp_all
          rw [← e0]; exact c1
        have hp2 : (0 : Int) < ((L k).length : Int) := by omega
        clear hM hV hcs hf hlead
        go_wp2
        go_ret
        exact ⟨rfl, rfl⟩
    · have kn : ¬ (k : Int) < 32 := by omega
      have hl : lead L = none := by
        cases e : lead L with
        | none => rfl
        | some l =>
          obtain ⟨a, b, _⟩ := lead_some e
          exact absurd (HE.out l (by omega)) b
      have HF := Lib.hid (firstR_none hl)
      clear hl
      go_wp2
      go_ret
      exact ⟨by rw [HF.out]; rfl, rfl⟩
def sumTo (L : Rows) (k : Nat) : Nat := ((List.range k).map fun l => (L l).length).sum
theorem sumTo_succ (L : Rows) (k : Nat) : sumTo L (k + 1) = sumTo L k + (L k).length := by
  unfold sumTo
  rw [List.range_succ, List.map_append, List.sum_append]; simp
theorem sumTo_total (L : Rows) : sumTo L 32 = total L := by unfold sumTo total; rfl
theorem sumTo_le (L : Rows) (hlen : ∀ j, j < 32 → (L j).length ≤ 64) : ∀ k, k ≤ 32 → sumTo L k ≤ k * 64
  | 0, _ => by simp [sumTo]
  | k + 1, h => by
    have := sumTo_le L hlen k (by omega)
    have := hlen k (by omega)
    rw [sumTo_succ]; omega
attribute [local irreducible] sumTo
theorem refLen_any (w : World) (m : Nat) (L : Rows) (V : Nat → Value) (hlen : ∀ j, j < 32 → (L j).length ≤ 64) (h : RefV w m L V) : Calls Tryd.prog 31 #[.pointer (some ⟨m, 0, none⟩)] w fun e w' => e = .returned (.int .i64 (total L)) ∧ w' = w := by
  have HR := Lib.hid h; clear h
  have hs0 : sumTo L 0 = 0 := by unfold sumTo; rfl
  go_enter Tryd.func31, Tryd.ntmps31
  go_wp2_with fail
  go_loopw [3, 4] (fun s i wr => ∃ k : Nat, k ≤ 32 ∧ s = .int .i64 (sumTo L k) ∧ i = .int .i64 k ∧ wr = w) (fun _ i _ => 32 - (intOf i).toNat)
  case atStart => exact ⟨0, by omega, by rw [hs0]; rfl, rfl, rfl⟩
  case round =>
    obtain ⟨k, hk, rfl, rfl, rfl⟩ := hrel
    by_cases hlt : k < 32
    · obtain ⟨A, cap, hV, hc, hM⟩ := HR.out.form k hlt
      have c0 := HR.out.cell k hlt
      rw [hV] at c0
      have hl := hlen k hlt
      have hsl := sumTo_le L hlen k hk
      have hss := sumTo_succ L k
      have k0 : (0 : Int) ≤ (k : Int) := by omega
      have kn : (k : Int) < 32 := by omega
      clear hM hV hc
      have HSS := Lib.hid hss; clear hss
      have s1 : (sumTo L k : Int) ≤ 2048 := by omega
      have n1 : ((L k).length : Int) ≤ 64 := by omega
      generalize sumTo L k = sk at *
      generalize (L k).length = n at *
      have s0 : (0 : Int) ≤ (sk : Int) := by omega
      have n0 : (0 : Int) ≤ (n : Int) := by omega
      clear hsl
      go_wp2_with fail
      go_roundw
      case rel => exact ⟨k + 1, by omega, by rw [HSS.out]; go_num, by go_num, trivial⟩
      case measure => simp [intOf]; omega
    · have kn : ¬ (k : Int) < 32 := by omega
      have hk32 : k = 32 := by omega
      subst hk32
      have HT := Lib.hid (sumTo_total L)
      go_wp2
      go_ret
      exact ⟨by rw [← HT.out]; rfl, rfl⟩
end Go.Proofs.YtdfadggdegojnaaDoor
