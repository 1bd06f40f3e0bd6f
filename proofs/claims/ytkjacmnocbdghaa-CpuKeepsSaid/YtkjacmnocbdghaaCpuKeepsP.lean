/- Proved: CpuKeeps returns true for every context and instruction: what no instruction names stays: one of eight registers at most, or one word of the memory, is another one behind an instruction; the memory stays as long as it is. Conditions: none beyond the row's own. -/
import Derived.Test.YtkjacmnocbdghaaLawB
import Derived.Test.YtkjacmnocbdghaaCtxOpen
import Derived.ProofKit
import Derived.OpenShut
import Derived.ShutString
import Derived.ChangeOld
import Derived.Below
namespace Go.Proofs.Ytkjacmnocbdghaa.cpuKeeps
open Go.ChangeShapes Go.WideShapes Go.ChangeAt Go.RowKit
open Go.ChangeMaps (open_string shut_string)
set_option linter.unusedVariables false

theorem own : ownKnob Try.prog.godebug = none := by kernel_rfl
theorem laidOut : laidOutB Try.prog = true := by kernel_rfl

set_option maxRecDepth 100000 in
theorem lifted (os : Os) (started : os.Started) (H : Type) (enc : TypeId × Value → H) :
    ReturnsInHanded {} Try.checked os 4 .any (Rows.cpuKeepsSpec.pre6 enc Try.prog Try.f4 Rows.cpuKeepsRow.domain false) (Rows.cpuKeepsSpec.post enc Try.prog Try.f4 false true false false) := by
  refine returnsInHanded_of_change (C := Try.checked) own started (by kernel_rfl) Try.func4
    (ChangeSpec.witness6 (enc := enc) (C := Try.checked) false ⟨#[], #[.agg #[.int .i64 0, .int .u32 0, .int .u32 0, .int .u32 0, .int .u32 0, .int .u32 0, .int .u32 0, .int .u32 0, .int .u32 0, .slice none 0 0], .agg #[.int .i64 0, .int .i64 0, .int .i64 0, .int .i64 0, .int .i64 0, .int .u32 0]], []⟩ 8 (by kernel_rfl) (by kernel_rfl) (by kernel_rfl) (by kernel_rfl)) ?_
  intro W base args ds gs before hval0 hW hcnd _
  have hval : ∀ (j : Nat) t v, Try.f4.params[j]? = some t → args[j]? = some v → Value.okWide Try.prog W .any base t v := hval0
  have hW' := hW
  obtain ⟨p, q, hA0, hV, rfl, hfz, hnd⟩ := hW
  have hA : DataW.TrodAll enc Try.prog W 0 (fun _ => true) true Try.f4.params.toList args.toList ds p := hA0
  rw [Try.params4] at hA hval
  obtain ⟨v0, vs0, d0, ds0, p0, q0, hargs, rfl, rfl, h0, r0⟩ := trodAll_cons hA
  obtain ⟨v1, vs1, d1, ds1, p1, q1, rfl, rfl, rfl, h1, r1⟩ := trodAll_cons r0
  obtain ⟨rfl, rfl, rfl⟩ := trodAll_nil r1
  obtain rfl : args = #[v0, v1] := by cases args; simp_all
  obtain ⟨rfl, rfl⟩ := trodVars_none hV
  have k0 := h0
  have lt0 : ∀ x ∈ p0, x.block < W.heap.size := by obtain ⟨m, hm⟩ := k0; exact DataW.trod_lt m _ _ _ hm
  have k1 := h1
  have lt1 : ∀ x ∈ p1, x.block < W.heap.size := by obtain ⟨m, hm⟩ := k1; exact DataW.trod_lt m _ _ _ hm
  have o0 := h0
  have o1 := h1
  clear hA0 hval0
  obtain ⟨at_, R, A, n, cap, M, rfl, hM, hnc, hmx⟩ := open_ctx (hval 0 26 v0 rfl rfl) o0
  have hcap : (n : Int) ≤ cap := by omega
  obtain ⟨i, rfl⟩ := open_ins (hval 1 28 v1 rfl rfl) o1
  have key : Calls Try.prog 4 #[.agg (ctxCells at_ R (.slice A n cap)), .agg #[.int .i64 i.op, .int .i64 i.a, .int .i64 i.b, .int .i64 i.c, .int .i64 i.d, .int .u32 i.k.toNat]] W fun e w' => e = .returned (.bool true) ∧ Below W.heap.size W w' := by
    by_cases hgr : 300 < (n : Int) ∨ at_ < 0 ∨ 1099511627776 < at_
    · exact cpuKeeps_great at_ R A n cap i.op i.a i.b i.c i.d i.k W hgr
    · have h3 : (n : Int) ≤ 300 := by omega
      have h4 : 0 ≤ at_ := by omega
      have h5 : at_ ≤ 1099511627776 := by omega
      exact cpuKeeps_walk at_ R M A n cap i.op i.a i.b i.c i.d i.k W hcap hM h3 h4 h5
  refine (key).mono fun e W' ⟨he, bel⟩ => ?_
  subst he
  exact ⟨_, rfl, _, _, _, [], _, [], hW', trodAll_mk1 (shut_bool Try.underlying4 _), (trodAll_cons_mk (Below.trod laidOut (by kernel_rfl) (of_decide_eq_true (by kernel_rfl)) k0 bel lt0) (trodAll_cons_mk (Below.trod laidOut (by kernel_rfl) (of_decide_eq_true (by kernel_rfl)) k1 bel lt1) trodAll_mk0)), rfl, bel.frame _, fun h => by cases h⟩

theorem over : Rows.cpuKeepsRow.holds Try.pinned (OpenSpec.ofChange Rows.cpuKeepsSpec) :=
  OpenClaim.holds_of_wide 4 Try.f4 rfl rfl rfl rfl rfl rfl rfl ⟨rfl, rfl, rfl, rfl, rfl⟩ rfl rfl rfl rfl rfl (by kernel_rfl) Try.func4 (by kernel_rfl)
    (of_decide_eq_true (by kernel_rfl)) (by unfold Func.isWrapper; first | (rw [if_pos (by decide +kernel)]; kernel_rfl) | (rw [if_neg (by decide +kernel)]; exact ⟨rfl, rfl⟩))
    (fun os started H enc _ => lifted os started H enc)

/-- The statement. -/
theorem proved : Rows.CpuKeepsSaid := over
#print axioms proved
end Go.Proofs.Ytkjacmnocbdghaa.cpuKeeps
