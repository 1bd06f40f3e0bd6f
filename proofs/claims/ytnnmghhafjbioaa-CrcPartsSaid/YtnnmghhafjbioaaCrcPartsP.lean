/- Proved: CrcParts returns true for every row of texts: how bytes are parted plays no part. Conditions: none beyond the row's own. -/
import Derived.Test.YtnnmghhafjbioaaParts
import Derived.ProofKit
import Derived.OpenShut
import Derived.ShutString
import Derived.ChangeOld
import Derived.Below
import Derived.SizedLaws
import Derived.SliceStrings
import Derived.Carry
namespace Go.Proofs.Ytnnmghhafjbioaa.crcParts
open Go.ChangeShapes Go.WideShapes Go.ChangeAt Go.RowKit
open Go.ChangeMaps (open_string shut_string)
set_option linter.unusedVariables false

theorem own : ownKnob Try.prog.godebug = none := by kernel_rfl
theorem laidOut : laidOutB Try.prog = true := by kernel_rfl

set_option maxRecDepth 100000 in
theorem lifted (os : Os) (started : os.Started) (H : Type) (enc : TypeId × Value → H) :
    ReturnsInHanded {} Try.checked os 4 .any (Rows.crcPartsSpec.pre6 enc Try.prog Try.f4 Rows.crcPartsRow.domain false) (Rows.crcPartsSpec.post enc Try.prog Try.f4 false true false false) := by
  refine returnsInHanded_of_change_sized (C := Try.checked) own started (by kernel_rfl) Try.func4
    (ChangeSpec.witness6 (enc := enc) (C := Try.checked) false ⟨#[], #[.slice none 0 0], []⟩ 8 (by kernel_rfl) (by kernel_rfl) (by kernel_rfl) (by kernel_rfl)) ?_
  intro W base args ds gs before hval0 hW hcnd hsz _
  have hval : ∀ (j : Nat) t v, Try.f4.params[j]? = some t → args[j]? = some v → Value.okWide Try.prog W .any base t v := hval0
  have hW' := hW
  obtain ⟨p, q, hA0, hV, rfl, hfz, hnd⟩ := hW
  have hA : DataW.TrodAll enc Try.prog W 0 (fun _ => true) true Try.f4.params.toList args.toList ds p := hA0
  rw [Try.params4] at hA hval
  obtain ⟨v0, vs0, d0, ds0, p0, q0, hargs, rfl, rfl, h0, r0⟩ := trodAll_cons hA
  obtain ⟨rfl, rfl, rfl⟩ := trodAll_nil r0
  obtain rfl : args = #[v0] := by cases args; simp_all
  obtain ⟨rfl, rfl⟩ := trodVars_none hV
  have k0 := h0
  have lt0 : ∀ x ∈ p0, x.block < W.heap.size := by obtain ⟨m, hm⟩ := k0; exact DataW.trod_lt m _ _ _ hm
  have o0 := h0
  clear hA0 hval0
  obtain ⟨oa, ol, oc, rfl⟩ := okWide_slice Try.underlying31 (hval 0 31 v0 rfl rfl)
  obtain ⟨fuel, hf⟩ := o0
  have key : Calls Try.prog 4 #[.slice oa ol oc] W fun e w' => e = .returned (.bool true) ∧ Below W.heap.size W w' := by
    rcases open_strings Try.underlying31 Try.underlying9 (by kernel_rfl) hf with ⟨hcs, hx⟩ | ⟨a, len, cap, ss, hcs, _, hl, hm, hz, hx, hcell, hs⟩
    · simp only [Value.cells, List.cons.injEq, Value.slice.injEq, and_true] at hcs
      obtain ⟨rfl, rfl, rfl⟩ := hcs
      exact crcParts_nil W
    · simp only [Value.cells, List.cons.injEq, Value.slice.injEq, and_true] at hcs
      obtain ⟨rfl, rfl, rfl⟩ := hcs
      simp only [Prod.mk.injEq] at hx
      obtain ⟨rfl, rfl⟩ := hx
      have hz' : ss.length = oc := by simpa using hz
      have hreach := sized_slice hsz (j := 0) (t := 31) (e := 9) rfl rfl Try.underlying31
      have hb9 : Try.checked.prog.bytesOf 9 = 16 := by kernel_rfl
      rw [hb9] at hreach
      simp only [strs, List.length_map, List.length_take, List.length_drop, reachBytes] at hreach
      have hlt : (ss.take ol).length = ol := by simp; omega
      have hget : ∀ i, i < ol → (ss.take ol).getD i ByteArray.empty = ss.getD i ByteArray.empty := fun i hi => by
        simp [List.getD, List.getElem?_take_of_lt hi]
      refine crcParts_walk a ol oc (ss.take ol) hlt W (fun i hi => ?_) (by omega) (fun i hi => ?_)
      · rw [hget i hi]; exact hcell i (by omega)
      · rw [hget i hi]
        have hmem : ss.getD i ByteArray.empty ∈ ss := by
          have : i < ss.length := by omega
          simp [List.getD, this]
        have := hs _ hmem
        unfold maxLen at this
        omega
  refine (key).mono fun e W' ⟨he, bel⟩ => ?_
  subst he
  exact ⟨_, rfl, _, _, _, [], _, [], hW', trodAll_mk1 (shut_bool Try.underlying4 _), (trodAll_cons_mk (Below.trod laidOut (by kernel_rfl) (of_decide_eq_true (by kernel_rfl)) k0 bel lt0) trodAll_mk0), rfl, bel.frame _, fun h => by cases h⟩

theorem over : Rows.crcPartsRow.holds Try.pinned (OpenSpec.ofChange Rows.crcPartsSpec) :=
  OpenClaim.holds_of_wide 4 Try.f4 rfl rfl rfl rfl rfl rfl rfl ⟨rfl, rfl, rfl, rfl, rfl⟩ rfl rfl rfl rfl rfl (by kernel_rfl) Try.func4 (by kernel_rfl)
    (of_decide_eq_true (by kernel_rfl)) (by unfold Func.isWrapper; first | (rw [if_pos (by decide +kernel)]; kernel_rfl) | (rw [if_neg (by decide +kernel)]; exact ⟨rfl, rfl⟩))
    (fun os started H enc _ => lifted os started H enc)

/-- The statement. -/
theorem proved : Rows.CrcPartsSaid := over
#print axioms proved
end Go.Proofs.Ytnnmghhafjbioaa.crcParts
