/- Texts of the proof, merged: CfCheck, CfTwo. -/
import Derived.Test.YtnhmdinpfcoebaaGreatDoorM10
/-! === CfCheck -/
section
/- Check: the walk. -/
namespace Go.Proofs.YtnhmdinpfcoebaaGreatDoor.Sy
open Go.RowKit
set_option linter.unusedVariables false
set_option linter.unusedSimpArgs false
set_option maxRecDepth 100000
theorem mask_form (m : BitVec 32) (n : Nat) : ((m.toNat : Int) / 2 ^ (if (16 : Int) < (n : Int) then 16 else (n : Int)).toNat == 0) = maskOk m n := by
  have e : (if (16 : Int) < (n : Int) then (16 : Int) else (n : Int)).toNat = min n 16 := by split <;> omega
  rw [e]
  unfold maskOk
  have h : ((m.toNat : Int) / 2 ^ (min n 16)) = ((m.toNat / 2 ^ (min n 16) : Nat) : Int) := by simp
  rw [h, Bool.eq_iff_iff]
  simp only [beq_iff_eq, decide_eq_true_eq]
  omega
theorem or_assoc (f g h : Ft) : orF (orF f g) h = orF f (orF g h) := by
  unfold orF
  by_cases hf : f.e = 0
  · simp [hf]
  · simp [hf]
theorem run_index48 (w : World) (cs : Array Value) (k : Nat) (hk : k < 7) : (Instr.index 233 (.agg cs) (.int .i64 k)).run Tryz.prog w = .ok (.agg (cs.extract (k * 4) (k * 4 + 4))) w := by
  have h33 : (sizeOf 131).run Tryz.prog w = .ok 4 w := by kernel_rfl
  have ha : (isAgg 131).run Tryz.prog w = .ok true w := by kernel_rfl
  have hi : (0 : Int) ≤ (k : Int) ∧ (k : Int) < 7 := by omega
  simp [Instr.index, asIntOf, run_underlying Tryz.underlying233, part, h33, ha, hi]
  intro h
  omega
theorem wpList_index48 {ops : Array Oper} {rest : List Oper} {op : Oper} {a : Act} {w : World} {Q : Exit → Act → World → Prop} (hgd : op.guard = none) (x y : Operand) (ho : op.op = .index 233 x y)
    (cs : Array Value) (k : Nat) (hk : k < 7) (hx : a.eval x = .agg cs) (hy : a.eval y = .int .i64 k) (u : Array Value) (hu : cs.extract (k * 4) (k * 4 + 4) = u)
    (h : wpList Tryz.prog ops Q rest (a.put op.dst (.agg u)) w) : wpList Tryz.prog ops Q (op :: rest) a w :=
  wpList_plain hgd fun _ hK => by
    unfold Oper.wp execOp
    simp only [ho, hx, hy, Sem.run_bind, Sem.run_pure, run_index48 w cs k hk, Result.andThen_ok, hu]
    exact hK _ _ h
attribute [local irreducible] inB codeP taskP lineP tasksP linesP progP numP rowP maskOk
attribute [local simp] RelKnown Is
set_option maxHeartbeats 8000000 in
theorem check_walk (w : World) (TA LA SA QA MA : Option Addr) (tc lc sc qc mc : Nat) (tcv lcv : Nat → Value) (X : Cf) (hsn : (X.sn : Int) ≤ 1000000)
    (hT : RowAt w TA X.tn 6 (fun j => tkL (X.T j) (tcv j))) (hTC : ∀ j, j < X.tn → CodeV w (tcv j) (X.T j).cn (X.T j).C) (hL : RowAt w LA X.ln 2 (fun j => lnL (X.L j) (lcv j))) (hLC : ∀ j, j < X.ln → CodeV w (lcv j) (X.L j).cn (X.L j).C)
    (hS : MemAt w SA X.sn X.S) (hQ : MemAt w QA X.qn X.Q) (hM : MemAt w MA X.mn X.M) :
    Calls Tryz.prog 75 #[.agg (cfC (.slice TA X.tn tc) (.slice LA X.ln lc) (.slice SA X.sn sc) (.slice QA X.qn qc) (.slice MA X.mn mc) X)] w fun r w' => r = .returned (.agg (faultC (sysP X))) ∧ Grow w w' := by
  have HT := Lib.hid hT; clear hT
  have HTC := Lib.hid hTC; clear hTC
  have HL := Lib.hid hL; clear hL
  have HLC := Lib.hid hLC; clear hLC
  have HS := Lib.hid hS; clear hS
  have HQ := Lib.hid hQ; clear hQ
  have HM := Lib.hid hM; clear hM
  go_enter Tryz.func75, Tryz.ntmps75
  go_wp2_with fail
  have hX : ((w.alloc (.cells (cfC (.slice TA X.tn tc) (.slice LA X.ln lc) (.slice SA X.sn sc) (.slice QA X.qn qc) (.slice MA X.mn mc) X) 71)).alloc (.cells zeroF 131)).heap[w.heap.size]? = some (.cells (cfC (.slice TA X.tn tc) (.slice LA X.ln lc) (.slice SA X.sn sc) (.slice QA X.qn qc) (.slice MA X.mn mc) X) 71 (0, 0)) := (heapAt_alloc_old _ _ (by simp)).trans (heapAt_alloc_new w _)
  have hR : ((w.alloc (.cells (cfC (.slice TA X.tn tc) (.slice LA X.ln lc) (.slice SA X.sn sc) (.slice QA X.qn qc) (.slice MA X.mn mc) X) 71)).alloc (.cells zeroF 131)).heap[w.heap.size + 1]? = some (.cells zeroF 131 (0, 0)) := heap_alloc2_new w _ _
  have hG : Grow w ((w.alloc (.cells (cfC (.slice TA X.tn tc) (.slice LA X.ln lc) (.slice SA X.sn sc) (.slice QA X.qn qc) (.slice MA X.mn mc) X) 71)).alloc (.cells zeroF 131)) := (Grow.alloc _ _).trans (Grow.alloc _ _)
  generalize (w.alloc (.cells (cfC (.slice TA X.tn tc) (.slice LA X.ln lc) (.slice SA X.sn sc) (.slice QA X.qn qc) (.slice MA X.mn mc) X) 71)).alloc (.cells zeroF 131) = w1 at hX hR hG ⊢
  refine (progs_any _ TA LA tc lc _ _ _ tcv lcv X (HT.out.grow hG) (fun j hj => (HTC.out j hj).grow hG) (HL.out.grow hG) (fun j hj => (HLC.out j hj).grow hG)).mono ?_
  rintro _ w2 ⟨rfl, hg2⟩
  have hG2 := hG.trans hg2
  have hX2 := hg2.at hX
  have hR2 := hg2.at hR
  clear hX hR hG hg2 HT HTC HL HLC
  go_wp2_with fail
  have HG := Lib.hid (hG2.trans (Grow.alloc w2 (.cells (faultC (progP X)) 131)))
  have HX := Lib.hid ((Grow.alloc w2 (.cells (faultC (progP X)) 131)).at hX2)
  have HR := Lib.hid ((Grow.alloc w2 (.cells (faultC (progP X)) 131)).at hR2)
  have HF := Lib.hid (heapAt_alloc_new w2 (.cells (faultC (progP X)) 131))
  have hsz := (Grow.alloc w2 (.cells (faultC (progP X)) 131)).size
  have HLT := Lib.hid (heapAt_lt hR2)
  have HS := Lib.hid (HS.out.grow HG.out)
  have HQ := Lib.hid (HQ.out.grow HG.out)
  have HM := Lib.hid (HM.out.grow HG.out)
  clear hG2 hX2 hR2 hsz
  generalize w2.alloc (.cells (faultC (progP X)) 131) = w3 at *
  generalize w2.heap.size = g at *
  have HWR := Lib.hid (show IntKind.i64.wrap ((X.sn : Int) - 1) = (X.sn : Int) - 1 from (by rw [IntKind.wrap_i64]; omega))
  have HMK := Lib.hid (mask_form X.mask X.ln)
  refine wp_region_rel _ Grow (fun wz => Grow w3 wz) [([(1, none)], none), ([(8, some 0)], none), ([(9, some 0)], none), ([(10, some 0)], none), ([(1, none)], none), ([(12, some 0)], none), ([(13, some 0)], none), ([(1, none)], none), ([(15, some 0)], none), ([(16, some 0)], none), ([(1, none)], none), ([(18, some 0)], none), ([(1, none)], none), ([(20, some 0)], none), ([(21, some 0)], none), ([(22, some 0)], none), ([(19, some 4), (23, some 0)], none), ([(1, none)], none), ([(25, some 0)], none), ([(26, some 0)], none), ([(27, some 0)], none), ([(1, none)], none), ([(29, some 0)], none), ([(1, none)], none), ([(31, some 0)], none), ([(32, some 0)], none), ([(33, some 0)], none), ([(30, some 4), (34, some 0)], none), ([(35, some 0)], none), ([(36, some 0)], none), ([(1, none)], none), ([(38, some 0)], none), ([(39, some 0)], none), ([(40, some 0)], none), ([(11, some 30), (14, some 27), (17, some 24), (24, some 17), (28, some 13), (37, some 4), (41, some 0)], none), ([], none)] (by kernel_rfl) (by kernel_rfl) (Grow.drewN w3 1) ?_
  (refine rel_pure ?_; apply Exists.intro; refine ⟨fun aR wQ hF hk => ?_, ?_⟩; focus (first | exact rel_no hk.1 rfl rfl | ((first | (refine rel_none fun K hK => ?_) | (refine rel_yes hk.1 fun K hK => ?_)); (try simp at hk); go_simp; exact hK _ _ (Grow.refl _) hF rfl)))
  (refine rel_pure ?_; apply Exists.intro; refine ⟨fun aR wQ hF hk => ?_, ?_⟩; focus (refine rel_none fun K hK => ?_; (try simp at hk); have d := cell_block (hF.at HX.out) 2; simp at d; go_simp; exact hK _ _ (Grow.refl _) hF rfl))
  (refine rel_pure ?_; apply Exists.intro; refine ⟨fun aR wQ hF hk => ?_, ?_⟩; focus (refine rel_none fun K hK => ?_; (try simp at hk); go_simp; refine (rng_any wQ X.mx 0 32 _ rfl).mono ?_; rintro e w' ⟨rfl, rfl⟩; exact hK _ _ (Grow.refl _) hF rfl))
  (refine rel_pure ?_; apply Exists.intro; refine ⟨fun aR wQ hF hk => ?_, ?_⟩; focus (refine rel_none fun K hK => ?_; (try simp at hk); go_simp; refine (number_any wQ (inB X.mx 0 32) 3).mono ?_; rintro e w' ⟨rfl, hg⟩; exact hK _ _ hg ((hF.trans hg)) rfl))
  (refine rel_pure ?_; apply Exists.intro; refine ⟨fun aR wQ hF hk => ?_, ?_⟩; focus (first | exact rel_no hk.1 rfl rfl | ((first | (refine rel_none fun K hK => ?_) | (refine rel_yes hk.1 fun K hK => ?_)); (try simp at hk); go_simp; exact hK _ _ (Grow.refl _) hF rfl)))
  (refine rel_pure ?_; apply Exists.intro; refine ⟨fun aR wQ hF hk => ?_, ?_⟩; focus (refine rel_none fun K hK => ?_; (try simp at hk); have d := cell_block (hF.at HX.out) 3; simp at d; go_simp; exact hK _ _ (Grow.refl _) hF rfl))
  (refine rel_pure ?_; apply Exists.intro; refine ⟨fun aR wQ hF hk => ?_, ?_⟩; focus (refine rel_none fun K hK => ?_; (try simp at hk); go_simp; refine (row_any wQ SA X.sn sc X.S 4 0 255 (HS.out.grow hF)).mono ?_; rintro e w' ⟨rfl, hg⟩; exact hK _ _ hg ((hF.trans hg)) rfl))
  (refine rel_pure ?_; apply Exists.intro; refine ⟨fun aR wQ hF hk => ?_, ?_⟩; focus (first | exact rel_no hk.1 rfl rfl | ((first | (refine rel_none fun K hK => ?_) | (refine rel_yes hk.1 fun K hK => ?_)); (try simp at hk); go_simp; exact hK _ _ (Grow.refl _) hF rfl)))
  (refine rel_pure ?_; apply Exists.intro; refine ⟨fun aR wQ hF hk => ?_, ?_⟩; focus (refine rel_none fun K hK => ?_; (try simp at hk); have d := cell_block (hF.at HX.out) 4; simp at d; go_simp; exact hK _ _ (Grow.refl _) hF rfl))
  (refine rel_pure ?_; apply Exists.intro; refine ⟨fun aR wQ hF hk => ?_, ?_⟩; focus (refine rel_none fun K hK => ?_; (try simp at hk); go_simp; refine (row_any wQ QA X.qn qc X.Q 5 1 64 (HQ.out.grow hF)).mono ?_; rintro e w' ⟨rfl, hg⟩; exact hK _ _ hg ((hF.trans hg)) rfl))
  (refine rel_pure ?_; apply Exists.intro; refine ⟨fun aR wQ hF hk => ?_, ?_⟩; focus (first | exact rel_no hk.1 rfl rfl | ((first | (refine rel_none fun K hK => ?_) | (refine rel_yes hk.1 fun K hK => ?_)); (try simp at hk); go_simp; exact hK _ _ (Grow.refl _) hF rfl)))
  (refine rel_pure ?_; apply Exists.intro; refine ⟨fun aR wQ hF hk => ?_, ?_⟩; focus (refine rel_none fun K hK => ?_; (try simp at hk); have d := cell_block (hF.at HX.out) 5; simp at d; go_simp; exact hK _ _ (Grow.refl _) hF rfl))
  (refine rel_pure ?_; apply Exists.intro; refine ⟨fun aR wQ hF hk => ?_, ?_⟩; focus (first | exact rel_no hk.1 rfl rfl | ((first | (refine rel_none fun K hK => ?_) | (refine rel_yes hk.1 fun K hK => ?_)); (try simp at hk); go_simp; exact hK _ _ (Grow.refl _) hF rfl)))
  (refine rel_pure ?_; apply Exists.intro; refine ⟨fun aR wQ hF hk => ?_, ?_⟩; focus (refine rel_none fun K hK => ?_; (try simp at hk); have d := cell_block (hF.at HX.out) 3; simp at d; go_simp; exact hK _ _ (Grow.refl _) hF rfl))
  (refine rel_pure ?_; apply Exists.intro; refine ⟨fun aR wQ hF hk => ?_, ?_⟩; focus (first | exact rel_no hk.1 rfl rfl | ((first | (refine rel_none fun K hK => ?_) | (refine rel_yes hk.1 fun K hK => ?_)); (try simp at hk); go_simp; exact hK _ _ (Grow.refl _) hF rfl)))
  (refine rel_pure ?_; apply Exists.intro; refine ⟨fun aR wQ hF hk => ?_, ?_⟩; focus (refine rel_none fun K hK => ?_; (try simp at hk); have hs0 : (0 : Int) ≤ (X.sn : Int) := Int.natCast_nonneg _; go_simp; rw [HWR.out]; exact hK _ _ (Grow.refl _) hF rfl))
  (refine rel_pure ?_; apply Exists.intro; refine ⟨fun aR wQ hF hk => ?_, ?_⟩; focus (refine rel_none fun K hK => ?_; (try simp at hk); go_simp; refine (row_any wQ MA X.mn mc X.M 6 0 ((X.sn : Int) - 1) (HM.out.grow hF)).mono ?_; rintro e w' ⟨rfl, hg⟩; exact hK _ _ hg ((hF.trans hg)) rfl))
  (refine rel_pure ?_; apply Exists.intro; refine ⟨fun aR wQ hF hk => ?_, ?_⟩; focus (first | exact rel_no hk.1 rfl rfl | ((first | (refine rel_none fun K hK => ?_) | (refine rel_yes hk.1 fun K hK => ?_)); (try simp at hk); go_simp; exact hK _ _ (Grow.refl _) hF rfl)))
  (refine rel_pure ?_; apply Exists.intro; refine ⟨fun aR wQ hF hk => ?_, ?_⟩; focus (refine rel_none fun K hK => ?_; (try simp at hk); have d := cell_block (hF.at HX.out) 6; simp at d; go_simp; exact hK _ _ (Grow.refl _) hF rfl))
  (refine rel_pure ?_; apply Exists.intro; refine ⟨fun aR wQ hF hk => ?_, ?_⟩; focus (refine rel_none fun K hK => ?_; (try simp at hk); go_simp; refine (rng_any wQ X.table 0 64 _ rfl).mono ?_; rintro e w' ⟨rfl, rfl⟩; exact hK _ _ (Grow.refl _) hF rfl))
  (refine rel_pure ?_; apply Exists.intro; refine ⟨fun aR wQ hF hk => ?_, ?_⟩; focus (refine rel_none fun K hK => ?_; (try simp at hk); go_simp; refine (number_any wQ (inB X.table 0 64) 7).mono ?_; rintro e w' ⟨rfl, hg⟩; exact hK _ _ hg ((hF.trans hg)) rfl))
  (refine rel_pure ?_; apply Exists.intro; refine ⟨fun aR wQ hF hk => ?_, ?_⟩; focus (first | exact rel_no hk.1 rfl rfl | ((first | (refine rel_none fun K hK => ?_) | (refine rel_yes hk.1 fun K hK => ?_)); (try simp at hk); go_simp; exact hK _ _ (Grow.refl _) hF rfl)))
  (refine rel_pure ?_; apply Exists.intro; refine ⟨fun aR wQ hF hk => ?_, ?_⟩; focus (refine rel_none fun K hK => ?_; (try simp at hk); have d := cell_block (hF.at HX.out) 7; simp at d; go_simp; exact hK _ _ (Grow.refl _) hF rfl))
  (refine rel_pure ?_; apply Exists.intro; refine ⟨fun aR wQ hF hk => ?_, ?_⟩; focus (first | exact rel_no hk.1 rfl rfl | ((first | (refine rel_none fun K hK => ?_) | (refine rel_yes hk.1 fun K hK => ?_)); (try simp at hk); go_simp; exact hK _ _ (Grow.refl _) hF rfl)))
  (refine rel_pure ?_; apply Exists.intro; refine ⟨fun aR wQ hF hk => ?_, ?_⟩; focus (refine rel_none fun K hK => ?_; (try simp at hk); have d := cell_block (hF.at HX.out) 1; simp at d; go_simp; exact hK _ _ (Grow.refl _) hF rfl))
  (refine rel_pure ?_; apply Exists.intro; refine ⟨fun aR wQ hF hk => ?_, ?_⟩; focus (first | exact rel_no hk.1 rfl rfl | ((first | (refine rel_none fun K hK => ?_) | (refine rel_yes hk.1 fun K hK => ?_)); (try simp at hk); go_simp; exact hK _ _ (Grow.refl _) hF rfl)))
  (refine rel_pure ?_; apply Exists.intro; refine ⟨fun aR wQ hF hk => ?_, ?_⟩; focus (first | exact rel_no hk.1 rfl rfl | ((first | (refine rel_none fun K hK => ?_) | (refine rel_yes hk.1 fun K hK => ?_)); (try simp at hk); go_simp; exact hK _ _ (Grow.refl _) hF rfl)))
  (refine rel_pure ?_; apply Exists.intro; refine ⟨fun aR wQ hF hk => ?_, ?_⟩; focus (first | exact rel_no hk.1 rfl rfl | ((first | (refine rel_none fun K hK => ?_) | (refine rel_yes hk.1 fun K hK => ?_)); (try simp at hk); go_simp; exact hK _ _ (Grow.refl _) hF rfl)))
  (refine rel_pure ?_; apply Exists.intro; refine ⟨fun aR wQ hF hk => ?_, ?_⟩; focus (first | exact rel_no hk.1 rfl rfl | ((first | (refine rel_none fun K hK => ?_) | (refine rel_yes hk.1 fun K hK => ?_)); (try simp at hk); go_simp; exact hK _ _ (Grow.refl _) hF rfl)))
  (refine rel_pure ?_; apply Exists.intro; refine ⟨fun aR wQ hF hk => ?_, ?_⟩; focus (refine rel_none fun K hK => ?_; (try simp at hk); go_simp; rw [HMK.out]; refine (number_any wQ (maskOk X.mask X.ln) 8).mono ?_; rintro e w' ⟨rfl, hg⟩; exact hK _ _ hg ((hF.trans hg)) rfl))
  (refine rel_pure ?_; apply Exists.intro; refine ⟨fun aR wQ hF hk => ?_, ?_⟩; focus (first | exact rel_no hk.1 rfl rfl | ((first | (refine rel_none fun K hK => ?_) | (refine rel_yes hk.1 fun K hK => ?_)); (try simp at hk); go_simp; exact hK _ _ (Grow.refl _) hF rfl)))
  (refine rel_pure ?_; apply Exists.intro; refine ⟨fun aR wQ hF hk => ?_, ?_⟩; focus (refine rel_none fun K hK => ?_; (try simp at hk); have d := cell_block (hF.at HX.out) 9; simp at d; go_simp; exact hK _ _ (Grow.refl _) hF rfl))
  (refine rel_pure ?_; apply Exists.intro; refine ⟨fun aR wQ hF hk => ?_, ?_⟩; focus (refine rel_none fun K hK => ?_; (try simp at hk); go_simp; refine (rng_any wQ X.charge 0 64 _ rfl).mono ?_; rintro e w' ⟨rfl, rfl⟩; exact hK _ _ (Grow.refl _) hF rfl))
  (refine rel_pure ?_; apply Exists.intro; refine ⟨fun aR wQ hF hk => ?_, ?_⟩; focus (refine rel_none fun K hK => ?_; (try simp at hk); go_simp; refine (number_any wQ (inB X.charge 0 64) 9).mono ?_; rintro e w' ⟨rfl, hg⟩; exact hK _ _ hg ((hF.trans hg)) rfl))
  (refine rel_pure ?_; apply Exists.intro; refine ⟨fun aR wQ hF hk => ?_, ?_⟩; focus (first | exact rel_no hk.1 rfl rfl | ((first | (refine rel_none fun K hK => ?_) | (refine rel_yes hk.1 fun K hK => ?_)); (try simp at hk); go_simp; exact hK _ _ (Grow.refl _) hF rfl)))
  (refine rel_pure ?_; apply Exists.intro; refine ⟨fun aR wQ hF hk => ?_, ?_⟩; focus (first | exact rel_no hk.1 rfl rfl | ((first | (refine rel_none fun K hK => ?_) | (refine rel_yes hk.1 fun K hK => ?_)); (try simp at hk); go_simp; exact hK _ _ (Grow.refl _) hF rfl)))
  refine rel_done fun wR hF => ?_
  repeat (first | (refine fun v hv => ?_; obtain rfl : v = _ := hv) | (refine fun v hv => ?_))
  simp only [Act.put, List.setIfInBounds_toArray, List.set_cons_zero, List.set_cons_succ]
  refine rel_nil ?_
  have HG3 := Lib.hid (HG.out.trans hF)
  have HR3 := Lib.hid (hF.at HR.out)
  have HF3 := Lib.hid (hF.at HF.out)
  have HSYS := Lib.hid (show sysP X = [numP (inB X.mx 0 32) 3, rowP X.sn X.S 4 0 255, rowP X.qn X.Q 5 1 64, rowP X.mn X.M 6 0 ((X.sn : Int) - 1), numP (inB X.table 0 64) 7, numP (maskOk X.mask X.ln) 8, numP (inB X.charge 0 64) 9].foldl orF (progP X) by
    simp only [List.foldl, or_assoc]; rfl)
  clear hF HX HS HQ HM HG HR HF HWR HMK
  generalize numP (inB X.mx 0 32) 3 = f0 at *
  generalize rowP X.sn X.S 4 0 255 = f1 at *
  generalize rowP X.qn X.Q 5 1 64 = f2 at *
  generalize rowP X.mn X.M 6 0 ((X.sn : Int) - 1) = f3 at *
  generalize numP (inB X.table 0 64) 7 = f4 at *
  generalize numP (maskOk X.mask X.ln) 8 = f5 at *
  generalize numP (inB X.charge 0 64) 9 = f6 at *
  generalize progP X = pf at *
  generalize (if (16 : Int) < (X.ln : Int) then (16 : Int) else (X.ln : Int)) = mi
  go_wp2_with fail
  go_loopw [43, 5] (fun x _ wr => ∃ k : Nat, k ≤ 7 ∧ x = .int .i64 k ∧ Grow w wr ∧ wr.heap[w.heap.size + 1]? = some (.cells zeroF 131 (0, 0)) ∧ wr.heap[g]? = some (.cells (faultC (([f0, f1, f2, f3, f4, f5, f6].take k).foldl orF pf)) 131 (0, 0))) (fun x _ _ => 7 - (intOf x).toNat)
  case atStart => exact ⟨0, by omega, rfl, HG3.out, HR3.out, HF3.out⟩
  case round =>
    obtain ⟨k, hk, rfl, hg, hr, hf⟩ := hrel
    have HGr := Lib.hid hg; clear hg
    have HRr := Lib.hid hr; clear hr
    have HFr := Lib.hid hf; clear hf
    have hlt := HLT.out
    by_cases hk7 : k = 7
    · subst hk7
      obtain ⟨z, hz⟩ : ∃ z, sysP X = z := ⟨_, rfl⟩
      have HFe := Lib.hid (show wr.heap[g]? = some (.cells (faultC z) 131 (0, 0)) by rw [← hz, HSYS.out]; exact HFr.out)
      have HZ := Lib.hid hz; clear hz
      go_wp2_with (first
        | ((with_reducible refine load33 rfl _ rfl g ?_ HFe.out ?_); (· rfl))
        | ((with_reducible refine store33 rfl _ _ rfl (w.heap.size + 1) z.e z.p z.i z.a ?_ ?_ HRr.out ?_); (· rfl); (· rfl); intro w5 hb5 ho5))
      rw [HZ.out]
      refine bodyPost_ret (v := .agg (faultC z)) (results_cell_row rfl _ _ (w.heap.size + 1) 131 _ (0, 0) _ (by rfl) hb5 Tryz.underlying131 rfl info131) rfl ⟨rfl, HGr.out.only ho5 (by omega)⟩
    · have hcases : k = 0 ∨ k = 1 ∨ k = 2 ∨ k = 3 ∨ k = 4 ∨ k = 5 ∨ k = 6 := by omega
      clear hk hk7
      rcases hcases with rfl | rfl | rfl | rfl | rfl | rfl | rfl
      · have HFk := Lib.hid (show wr.heap[g]? = some (.cells (faultC ([].foldl orF pf)) 131 (0, 0)) from HFr.out)
        have HNx := Lib.hid (show [f0].foldl orF pf = orF ([].foldl orF pf) f0 from rfl)
        generalize [].foldl orF pf = z at *
        have HN := Lib.hid (heapAt_alloc_new wr (.cells #[.int .i64 f0.e, .int .i64 f0.p, .int .i64 f0.i, .int .i64 f0.a] 131))
        have HFa := Lib.hid ((Grow.alloc wr (.cells #[.int .i64 f0.e, .int .i64 f0.p, .int .i64 f0.i, .int .i64 f0.a] 131)).at HFk.out)
        have HRa := Lib.hid ((Grow.alloc wr (.cells #[.int .i64 f0.e, .int .i64 f0.p, .int .i64 f0.i, .int .i64 f0.a] 131)).at HRr.out)
        have HGa := Lib.hid (HGr.out.trans (Grow.alloc wr (.cells #[.int .i64 f0.e, .int .i64 f0.p, .int .i64 f0.i, .int .i64 f0.a] 131)))
        have c0 := cell_block HFa.out 0
        simp at c0
        by_cases hz : z.e = 0
        · rw [hz] at c0
          go_wp2_with (first
            | ((with_reducible refine wpList_index48 rfl _ _ rfl #[.int .i64 f0.e, .int .i64 f0.p, .int .i64 f0.i, .int .i64 f0.a, .int .i64 f1.e, .int .i64 f1.p, .int .i64 f1.i, .int .i64 f1.a, .int .i64 f2.e, .int .i64 f2.p, .int .i64 f2.i, .int .i64 f2.a, .int .i64 f3.e, .int .i64 f3.p, .int .i64 f3.i, .int .i64 f3.a, .int .i64 f4.e, .int .i64 f4.p, .int .i64 f4.i, .int .i64 f4.a, .int .i64 f5.e, .int .i64 f5.p, .int .i64 f5.i, .int .i64 f5.a, .int .i64 f6.e, .int .i64 f6.p, .int .i64 f6.i, .int .i64 f6.a] 0 ?_ ?_ ?_ #[.int .i64 f0.e, .int .i64 f0.p, .int .i64 f0.i, .int .i64 f0.a] ?_ ?_); (· decide); (· rfl); (· rfl); (· rfl))
            | ((with_reducible refine load33 rfl _ rfl wr.heap.size ?_ HN.out ?_); (· rfl))
            | ((with_reducible refine store33 rfl _ _ rfl g f0.e f0.p f0.i f0.a ?_ ?_ HFa.out ?_); (· rfl); (· rfl); intro w5 hb5 ho5))
          have HO := Lib.hid (HGa.out.only ho5 (by omega))
          have HB := Lib.hid hb5
          have HR5 := Lib.hid (ho5.at (show w.heap.size + 1 ≠ g by omega) HRa.out)
          clear hb5 ho5 c0
          go_wp2_with fail
          go_roundw
          case rel => exact ⟨1, by omega, by go_num, HO.out, HR5.out, by
            show _ = some (Obj.cells (faultC ([f0].foldl orF pf)) 131 (0, 0))
            rw [HNx.out, orF, if_pos hz]; exact HB.out⟩
          case measure => simp [intOf]
        · have hz2 : (z.e == 0) = false := by simpa using hz
          go_wp2_with (first
            | ((with_reducible refine wpList_index48 rfl _ _ rfl #[.int .i64 f0.e, .int .i64 f0.p, .int .i64 f0.i, .int .i64 f0.a, .int .i64 f1.e, .int .i64 f1.p, .int .i64 f1.i, .int .i64 f1.a, .int .i64 f2.e, .int .i64 f2.p, .int .i64 f2.i, .int .i64 f2.a, .int .i64 f3.e, .int .i64 f3.p, .int .i64 f3.i, .int .i64 f3.a, .int .i64 f4.e, .int .i64 f4.p, .int .i64 f4.i, .int .i64 f4.a, .int .i64 f5.e, .int .i64 f5.p, .int .i64 f5.i, .int .i64 f5.a, .int .i64 f6.e, .int .i64 f6.p, .int .i64 f6.i, .int .i64 f6.a] 0 ?_ ?_ ?_ #[.int .i64 f0.e, .int .i64 f0.p, .int .i64 f0.i, .int .i64 f0.a] ?_ ?_); (· decide); (· rfl); (· rfl); (· rfl)))
          go_roundw
          case rel => exact ⟨1, by omega, by go_num, HGa.out, HRa.out, by
            show _ = some (Obj.cells (faultC ([f0].foldl orF pf)) 131 (0, 0))
            rw [HNx.out, orF, if_neg hz]; exact HFa.out⟩
          case measure => simp [intOf]
      · have HFk := Lib.hid (show wr.heap[g]? = some (.cells (faultC ([f0].foldl orF pf)) 131 (0, 0)) from HFr.out)
        have HNx := Lib.hid (show [f0, f1].foldl orF pf = orF ([f0].foldl orF pf) f1 from rfl)
        generalize [f0].foldl orF pf = z at *
        have HN := Lib.hid (heapAt_alloc_new wr (.cells #[.int .i64 f1.e, .int .i64 f1.p, .int .i64 f1.i, .int .i64 f1.a] 131))
        have HFa := Lib.hid ((Grow.alloc wr (.cells #[.int .i64 f1.e, .int .i64 f1.p, .int .i64 f1.i, .int .i64 f1.a] 131)).at HFk.out)
        have HRa := Lib.hid ((Grow.alloc wr (.cells #[.int .i64 f1.e, .int .i64 f1.p, .int .i64 f1.i, .int .i64 f1.a] 131)).at HRr.out)
        have HGa := Lib.hid (HGr.out.trans (Grow.alloc wr (.cells #[.int .i64 f1.e, .int .i64 f1.p, .int .i64 f1.i, .int .i64 f1.a] 131)))
        have c0 := cell_block HFa.out 0
        simp at c0
        by_cases hz : z.e = 0
        · rw [hz] at c0
          go_wp2_with (first
            | ((with_reducible refine wpList_index48 rfl _ _ rfl #[.int .i64 f0.e, .int .i64 f0.p, .int .i64 f0.i, .int .i64 f0.a, .int .i64 f1.e, .int .i64 f1.p, .int .i64 f1.i, .int .i64 f1.a, .int .i64 f2.e, .int .i64 f2.p, .int .i64 f2.i, .int .i64 f2.a, .int .i64 f3.e, .int .i64 f3.p, .int .i64 f3.i, .int .i64 f3.a, .int .i64 f4.e, .int .i64 f4.p, .int .i64 f4.i, .int .i64 f4.a, .int .i64 f5.e, .int .i64 f5.p, .int .i64 f5.i, .int .i64 f5.a, .int .i64 f6.e, .int .i64 f6.p, .int .i64 f6.i, .int .i64 f6.a] 1 ?_ ?_ ?_ #[.int .i64 f1.e, .int .i64 f1.p, .int .i64 f1.i, .int .i64 f1.a] ?_ ?_); (· decide); (· rfl); (· rfl); (· rfl))
            | ((with_reducible refine load33 rfl _ rfl wr.heap.size ?_ HN.out ?_); (· rfl))
            | ((with_reducible refine store33 rfl _ _ rfl g f1.e f1.p f1.i f1.a ?_ ?_ HFa.out ?_); (· rfl); (· rfl); intro w5 hb5 ho5))
          have HO := Lib.hid (HGa.out.only ho5 (by omega))
          have HB := Lib.hid hb5
          have HR5 := Lib.hid (ho5.at (show w.heap.size + 1 ≠ g by omega) HRa.out)
          clear hb5 ho5 c0
          go_wp2_with fail
          go_roundw
          case rel => exact ⟨2, by omega, by go_num, HO.out, HR5.out, by
            show _ = some (Obj.cells (faultC ([f0, f1].foldl orF pf)) 131 (0, 0))
            rw [HNx.out, orF, if_pos hz]; exact HB.out⟩
          case measure => simp [intOf]
        · have hz2 : (z.e == 0) = false := by simpa using hz
          go_wp2_with (first
            | ((with_reducible refine wpList_index48 rfl _ _ rfl #[.int .i64 f0.e, .int .i64 f0.p, .int .i64 f0.i, .int .i64 f0.a, .int .i64 f1.e, .int .i64 f1.p, .int .i64 f1.i, .int .i64 f1.a, .int .i64 f2.e, .int .i64 f2.p, .int .i64 f2.i, .int .i64 f2.a, .int .i64 f3.e, .int .i64 f3.p, .int .i64 f3.i, .int .i64 f3.a, .int .i64 f4.e, .int .i64 f4.p, .int .i64 f4.i, .int .i64 f4.a, .int .i64 f5.e, .int .i64 f5.p, .int .i64 f5.i, .int .i64 f5.a, .int .i64 f6.e, .int .i64 f6.p, .int .i64 f6.i, .int .i64 f6.a] 1 ?_ ?_ ?_ #[.int .i64 f1.e, .int .i64 f1.p, .int .i64 f1.i, .int .i64 f1.a] ?_ ?_); (· decide); (· rfl); (· rfl); (· rfl)))
          go_roundw
          case rel => exact ⟨2, by omega, by go_num, HGa.out, HRa.out, by
            show _ = some (Obj.cells (faultC ([f0, f1].foldl orF pf)) 131 (0, 0))
            rw [HNx.out, orF, if_neg hz]; exact HFa.out⟩
          case measure => simp [intOf]
      · have HFk := Lib.hid (show wr.heap[g]? = some (.cells (faultC ([f0, f1].foldl orF pf)) 131 (0, 0)) from HFr.out)
        have HNx := Lib.hid (show [f0, f1, f2].foldl orF pf = orF ([f0, f1].foldl orF pf) f2 from rfl)
        generalize [f0, f1].foldl orF pf = z at *
        have HN := Lib.hid (heapAt_alloc_new wr (.cells #[.int .i64 f2.e, .int .i64 f2.p, .int .i64 f2.i, .int .i64 f2.a] 131))
        have HFa := Lib.hid ((Grow.alloc wr (.cells #[.int .i64 f2.e, .int .i64 f2.p, .int .i64 f2.i, .int .i64 f2.a] 131)).at HFk.out)
        have HRa := Lib.hid ((Grow.alloc wr (.cells #[.int .i64 f2.e, .int .i64 f2.p, .int .i64 f2.i, .int .i64 f2.a] 131)).at HRr.out)
        have HGa := Lib.hid (HGr.out.trans (Grow.alloc wr (.cells #[.int .i64 f2.e, .int .i64 f2.p, .int .i64 f2.i, .int .i64 f2.a] 131)))
        have c0 := cell_block HFa.out 0
        simp at c0
        by_cases hz : z.e = 0
        · rw [hz] at c0
          go_wp2_with (first
            | ((with_reducible refine wpList_index48 rfl _ _ rfl #[.int .i64 f0.e, .int .i64 f0.p, .int .i64 f0.i, .int .i64 f0.a, .int .i64 f1.e, .int .i64 f1.p, .int .i64 f1.i, .int .i64 f1.a, .int .i64 f2.e, .int .i64 f2.p, .int .i64 f2.i, .int .i64 f2.a, .int .i64 f3.e, .int .i64 f3.p, .int .i64 f3.i, .int .i64 f3.a, .int .i64 f4.e, .int .i64 f4.p, .int .i64 f4.i, .int .i64 f4.a, .int .i64 f5.e, .int .i64 f5.p, .int .i64 f5.i, .int .i64 f5.a, .int .i64 f6.e, .int .i64 f6.p, .int .i64 f6.i, .int .i64 f6.a] 2 ?_ ?_ ?_ #[.int .i64 f2.e, .int .i64 f2.p, .int .i64 f2.i, .int .i64 f2.a] ?_ ?_); (· decide); (· rfl); (· rfl); (· rfl))
            | ((with_reducible refine load33 rfl _ rfl wr.heap.size ?_ HN.out ?_); (· rfl))
            | ((with_reducible refine store33 rfl _ _ rfl g f2.e f2.p f2.i f2.a ?_ ?_ HFa.out ?_); (· rfl); (· rfl); intro w5 hb5 ho5))
          have HO := Lib.hid (HGa.out.only ho5 (by omega))
          have HB := Lib.hid hb5
          have HR5 := Lib.hid (ho5.at (show w.heap.size + 1 ≠ g by omega) HRa.out)
          clear hb5 ho5 c0
          go_wp2_with fail
          go_roundw
          case rel => exact ⟨3, by omega, by go_num, HO.out, HR5.out, by
            show _ = some (Obj.cells (faultC ([f0, f1, f2].foldl orF pf)) 131 (0, 0))
            rw [HNx.out, orF, if_pos hz]; exact HB.out⟩
          case measure => simp [intOf]
        · have hz2 : (z.e == 0) = false := by simpa using hz
          go_wp2_with (first
            | ((with_reducible refine wpList_index48 rfl _ _ rfl #[.int .i64 f0.e, .int .i64 f0.p, .int .i64 f0.i, .int .i64 f0.a, .int .i64 f1.e, .int .i64 f1.p, .int .i64 f1.i, .int .i64 f1.a, .int .i64 f2.e, .int .i64 f2.p, .int .i64 f2.i, .int .i64 f2.a, .int .i64 f3.e, .int .i64 f3.p, .int .i64 f3.i, .int .i64 f3.a, .int .i64 f4.e, .int .i64 f4.p, .int .i64 f4.i, .int .i64 f4.a, .int .i64 f5.e, .int .i64 f5.p, .int .i64 f5.i, .int .i64 f5.a, .int .i64 f6.e, .int .i64 f6.p, .int .i64 f6.i, .int .i64 f6.a] 2 ?_ ?_ ?_ #[.int .i64 f2.e, .int .i64 f2.p, .int .i64 f2.i, .int .i64 f2.a] ?_ ?_); (· decide); (· rfl); (· rfl); (· rfl)))
          go_roundw
          case rel => exact ⟨3, by omega, by go_num, HGa.out, HRa.out, by
            show _ = some (Obj.cells (faultC ([f0, f1, f2].foldl orF pf)) 131 (0, 0))
            rw [HNx.out, orF, if_neg hz]; exact HFa.out⟩
          case measure => simp [intOf]
      · have HFk := Lib.hid (show wr.heap[g]? = some (.cells (faultC ([f0, f1, f2].foldl orF pf)) 131 (0, 0)) from HFr.out)
        have HNx := Lib.hid (show [f0, f1, f2, f3].foldl orF pf = orF ([f0, f1, f2].foldl orF pf) f3 from rfl)
        generalize [f0, f1, f2].foldl orF pf = z at *
        have HN := Lib.hid (heapAt_alloc_new wr (.cells #[.int .i64 f3.e, .int .i64 f3.p, .int .i64 f3.i, .int .i64 f3.a] 131))
        have HFa := Lib.hid ((Grow.alloc wr (.cells #[.int .i64 f3.e, .int .i64 f3.p, .int .i64 f3.i, .int .i64 f3.a] 131)).at HFk.out)
        have HRa := Lib.hid ((Grow.alloc wr (.cells #[.int .i64 f3.e, .int .i64 f3.p, .int .i64 f3.i, .int .i64 f3.a] 131)).at HRr.out)
        have HGa := Lib.hid (HGr.out.trans (Grow.alloc wr (.cells #[.int .i64 f3.e, .int .i64 f3.p, .int .i64 f3.i, .int .i64 f3.a] 131)))
        have c0 := cell_block HFa.out 0
        simp at c0
        by_cases hz : z.e = 0
        · rw [hz] at c0
          go_wp2_with (first
            | ((with_reducible refine wpList_index48 rfl _ _ rfl #[.int .i64 f0.e, .int .i64 f0.p, .int .i64 f0.i, .int .i64 f0.a, .int .i64 f1.e, .int .i64 f1.p, .int .i64 f1.i, .int .i64 f1.a, .int .i64 f2.e, .int .i64 f2.p, .int .i64 f2.i, .int .i64 f2.a, .int .i64 f3.e, .int .i64 f3.p, .int .i64 f3.i, .int .i64 f3.a, .int .i64 f4.e, .int .i64 f4.p, .int .i64 f4.i, .int .i64 f4.a, .int .i64 f5.e, .int .i64 f5.p, .int .i64 f5.i, .int .i64 f5.a, .int .i64 f6.e, .int .i64 f6.p, .int .i64 f6.i, .int .i64 f6.a] 3 ?_ ?_ ?_ #[.int .i64 f3.e, .int .i64 f3.p, .int .i64 f3.i, .int .i64 f3.a] ?_ ?_); (· decide); (· rfl); (· rfl); (· rfl))
            | ((with_reducible refine load33 rfl _ rfl wr.heap.size ?_ HN.out ?_); (· rfl))
            | ((with_reducible refine store33 rfl _ _ rfl g f3.e f3.p f3.i f3.a ?_ ?_ HFa.out ?_); (· rfl); (· rfl); intro w5 hb5 ho5))
          have HO := Lib.hid (HGa.out.only ho5 (by omega))
          have HB := Lib.hid hb5
          have HR5 := Lib.hid (ho5.at (show w.heap.size + 1 ≠ g by omega) HRa.out)
          clear hb5 ho5 c0
          go_wp2_with fail
          go_roundw
          case rel => exact ⟨4, by omega, by go_num, HO.out, HR5.out, by
            show _ = some (Obj.cells (faultC ([f0, f1, f2, f3].foldl orF pf)) 131 (0, 0))
            rw [HNx.out, orF, if_pos hz]; exact HB.out⟩
          case measure => simp [intOf]
        · have hz2 : (z.e == 0) = false := by simpa using hz
          go_wp2_with (first
            | ((with_reducible refine wpList_index48 rfl _ _ rfl #[.int .i64 f0.e, .int .i64 f0.p, .int .i64 f0.i, .int .i64 f0.a, .int .i64 f1.e, .int .i64 f1.p, .int .i64 f1.i, .int .i64 f1.a, .int .i64 f2.e, .int .i64 f2.p, .int .i64 f2.i, .int .i64 f2.a, .int .i64 f3.e, .int .i64 f3.p, .int .i64 f3.i, .int .i64 f3.a, .int .i64 f4.e, .int .i64 f4.p, .int .i64 f4.i, .int .i64 f4.a, .int .i64 f5.e, .int .i64 f5.p, .int .i64 f5.i, .int .i64 f5.a, .int .i64 f6.e, .int .i64 f6.p, .int .i64 f6.i, .int .i64 f6.a] 3 ?_ ?_ ?_ #[.int .i64 f3.e, .int .i64 f3.p, .int .i64 f3.i, .int .i64 f3.a] ?_ ?_); (· decide); (· rfl); (· rfl); (· rfl)))
          go_roundw
          case rel => exact ⟨4, by omega, by go_num, HGa.out, HRa.out, by
            show _ = some (Obj.cells (faultC ([f0, f1, f2, f3].foldl orF pf)) 131 (0, 0))
            rw [HNx.out, orF, if_neg hz]; exact HFa.out⟩
          case measure => simp [intOf]
      · have HFk := Lib.hid (show wr.heap[g]? = some (.cells (faultC ([f0, f1, f2, f3].foldl orF pf)) 131 (0, 0)) from HFr.out)
        have HNx := Lib.hid (show [f0, f1, f2, f3, f4].foldl orF pf = orF ([f0, f1, f2, f3].foldl orF pf) f4 from rfl)
        generalize [f0, f1, f2, f3].foldl orF pf = z at *
        have HN := Lib.hid (heapAt_alloc_new wr (.cells #[.int .i64 f4.e, .int .i64 f4.p, .int .i64 f4.i, .int .i64 f4.a] 131))
        have HFa := Lib.hid ((Grow.alloc wr (.cells #[.int .i64 f4.e, .int .i64 f4.p, .int .i64 f4.i, .int .i64 f4.a] 131)).at HFk.out)
        have HRa := Lib.hid ((Grow.alloc wr (.cells #[.int .i64 f4.e, .int .i64 f4.p, .int .i64 f4.i, .int .i64 f4.a] 131)).at HRr.out)
        have HGa := Lib.hid (HGr.out.trans (Grow.alloc wr (.cells #[.int .i64 f4.e, .int .i64 f4.p, .int .i64 f4.i, .int .i64 f4.a] 131)))
        have c0 := cell_block HFa.out 0
        simp at c0
        by_cases hz : z.e = 0
        · rw [hz] at c0
          go_wp2_with (first
            | ((with_reducible refine wpList_index48 rfl _ _ rfl #[.int .i64 f0.e, .int .i64 f0.p, .int .i64 f0.i, .int .i64 f0.a, .int .i64 f1.e, .int .i64 f1.p, .int .i64 f1.i, .int .i64 f1.a, .int .i64 f2.e, .int .i64 f2.p, .int .i64 f2.i, .int .i64 f2.a, .int .i64 f3.e, .int .i64 f3.p, .int .i64 f3.i, .int .i64 f3.a, .int .i64 f4.e, .int .i64 f4.p, .int .i64 f4.i, .int .i64 f4.a, .int .i64 f5.e, .int .i64 f5.p, .int .i64 f5.i, .int .i64 f5.a, .int .i64 f6.e, .int .i64 f6.p, .int .i64 f6.i, .int .i64 f6.a] 4 ?_ ?_ ?_ #[.int .i64 f4.e, .int .i64 f4.p, .int .i64 f4.i, .int .i64 f4.a] ?_ ?_); (· decide); (· rfl); (· rfl); (· rfl))
            | ((with_reducible refine load33 rfl _ rfl wr.heap.size ?_ HN.out ?_); (· rfl))
            | ((with_reducible refine store33 rfl _ _ rfl g f4.e f4.p f4.i f4.a ?_ ?_ HFa.out ?_); (· rfl); (· rfl); intro w5 hb5 ho5))
          have HO := Lib.hid (HGa.out.only ho5 (by omega))
          have HB := Lib.hid hb5
          have HR5 := Lib.hid (ho5.at (show w.heap.size + 1 ≠ g by omega) HRa.out)
          clear hb5 ho5 c0
          go_wp2_with fail
          go_roundw
          case rel => exact ⟨5, by omega, by go_num, HO.out, HR5.out, by
            show _ = some (Obj.cells (faultC ([f0, f1, f2, f3, f4].foldl orF pf)) 131 (0, 0))
            rw [HNx.out, orF, if_pos hz]; exact HB.out⟩
          case measure => simp [intOf]
        · have hz2 : (z.e == 0) = false := by simpa using hz
          go_wp2_with (first
            | ((with_reducible refine wpList_index48 rfl _ _ rfl #[.int .i64 f0.e, .int .i64 f0.p, .int .i64 f0.i, .int .i64 f0.a, .int .i64 f1.e, .int .i64 f1.p, .int .i64 f1.i, .int .i64 f1.a, .int .i64 f2.e, .int .i64 f2.p, .int .i64 f2.i, .int .i64 f2.a, .int .i64 f3.e, .int .i64 f3.p, .int .i64 f3.i, .int .i64 f3.a, .int .i64 f4.e, .int .i64 f4.p, .int .i64 f4.i, .int .i64 f4.a, .int .i64 f5.e, .int .i64 f5.p, .int .i64 f5.i, .int .i64 f5.a, .int .i64 f6.e, .int .i64 f6.p, .int .i64 f6.i, .int .i64 f6.a] 4 ?_ ?_ ?_ #[.int .i64 f4.e, .int .i64 f4.p, .int .i64 f4.i, .int .i64 f4.a] ?_ ?_); (· decide); (· rfl); (· rfl); (· rfl)))
          go_roundw
          case rel => exact ⟨5, by omega, by go_num, HGa.out, HRa.out, by
            show _ = some (Obj.cells (faultC ([f0, f1, f2, f3, f4].foldl orF pf)) 131 (0, 0))
            rw [HNx.out, orF, if_neg hz]; exact HFa.out⟩
          case measure => simp [intOf]
      · have HFk := Lib.hid (show wr.heap[g]? = some (.cells (faultC ([f0, f1, f2, f3, f4].foldl orF pf)) 131 (0, 0)) from HFr.out)
        have HNx := Lib.hid (show [f0, f1, f2, f3, f4, f5].foldl orF pf = orF ([f0, f1, f2, f3, f4].foldl orF pf) f5 from rfl)
        generalize [f0, f1, f2, f3, f4].foldl orF pf = z at *
        have HN := Lib.hid (heapAt_alloc_new wr (.cells #[.int .i64 f5.e, .int .i64 f5.p, .int .i64 f5.i, .int .i64 f5.a] 131))
        have HFa := Lib.hid ((Grow.alloc wr (.cells #[.int .i64 f5.e, .int .i64 f5.p, .int .i64 f5.i, .int .i64 f5.a] 131)).at HFk.out)
        have HRa := Lib.hid ((Grow.alloc wr (.cells #[.int .i64 f5.e, .int .i64 f5.p, .int .i64 f5.i, .int .i64 f5.a] 131)).at HRr.out)
        have HGa := Lib.hid (HGr.out.trans (Grow.alloc wr (.cells #[.int .i64 f5.e, .int .i64 f5.p, .int .i64 f5.i, .int .i64 f5.a] 131)))
        have c0 := cell_block HFa.out 0
        simp at c0
        by_cases hz : z.e = 0
        · rw [hz] at c0
          go_wp2_with (first
            | ((with_reducible refine wpList_index48 rfl _ _ rfl #[.int .i64 f0.e, .int .i64 f0.p, .int .i64 f0.i, .int .i64 f0.a, .int .i64 f1.e, .int .i64 f1.p, .int .i64 f1.i, .int .i64 f1.a, .int .i64 f2.e, .int .i64 f2.p, .int .i64 f2.i, .int .i64 f2.a, .int .i64 f3.e, .int .i64 f3.p, .int .i64 f3.i, .int .i64 f3.a, .int .i64 f4.e, .int .i64 f4.p, .int .i64 f4.i, .int .i64 f4.a, .int .i64 f5.e, .int .i64 f5.p, .int .i64 f5.i, .int .i64 f5.a, .int .i64 f6.e, .int .i64 f6.p, .int .i64 f6.i, .int .i64 f6.a] 5 ?_ ?_ ?_ #[.int .i64 f5.e, .int .i64 f5.p, .int .i64 f5.i, .int .i64 f5.a] ?_ ?_); (· decide); (· rfl); (· rfl); (· rfl))
            | ((with_reducible refine load33 rfl _ rfl wr.heap.size ?_ HN.out ?_); (· rfl))
            | ((with_reducible refine store33 rfl _ _ rfl g f5.e f5.p f5.i f5.a ?_ ?_ HFa.out ?_); (· rfl); (· rfl); intro w5 hb5 ho5))
          have HO := Lib.hid (HGa.out.only ho5 (by omega))
          have HB := Lib.hid hb5
          have HR5 := Lib.hid (ho5.at (show w.heap.size + 1 ≠ g by omega) HRa.out)
          clear hb5 ho5 c0
          go_wp2_with fail
          go_roundw
          case rel => exact ⟨6, by omega, by go_num, HO.out, HR5.out, by
            show _ = some (Obj.cells (faultC ([f0, f1, f2, f3, f4, f5].foldl orF pf)) 131 (0, 0))
            rw [HNx.out, orF, if_pos hz]; exact HB.out⟩
          case measure => simp [intOf]
        · have hz2 : (z.e == 0) = false := by simpa using hz
          go_wp2_with (first
            | ((with_reducible refine wpList_index48 rfl _ _ rfl #[.int .i64 f0.e, .int .i64 f0.p, .int .i64 f0.i, .int .i64 f0.a, .int .i64 f1.e, .int .i64 f1.p, .int .i64 f1.i, .int .i64 f1.a, .int .i64 f2.e, .int .i64 f2.p, .int .i64 f2.i, .int .i64 f2.a, .int .i64 f3.e, .int .i64 f3.p, .int .i64 f3.i, .int .i64 f3.a, .int .i64 f4.e, .int .i64 f4.p, .int .i64 f4.i, .int .i64 f4.a, .int .i64 f5.e, .int .i64 f5.p, .int .i64 f5.i, .int .i64 f5.a, .int .i64 f6.e, .int .i64 f6.p, .int .i64 f6.i, .int .i64 f6.a] 5 ?_ ?_ ?_ #[.int .i64 f5.e, .int .i64 f5.p, .int .i64 f5.i, .int .i64 f5.a] ?_ ?_); (· decide); (· rfl); (· rfl); (· rfl)))
          go_roundw
          case rel => exact ⟨6, by omega, by go_num, HGa.out, HRa.out, by
            show _ = some (Obj.cells (faultC ([f0, f1, f2, f3, f4, f5].foldl orF pf)) 131 (0, 0))
            rw [HNx.out, orF, if_neg hz]; exact HFa.out⟩
          case measure => simp [intOf]
      · have HFk := Lib.hid (show wr.heap[g]? = some (.cells (faultC ([f0, f1, f2, f3, f4, f5].foldl orF pf)) 131 (0, 0)) from HFr.out)
        have HNx := Lib.hid (show [f0, f1, f2, f3, f4, f5, f6].foldl orF pf = orF ([f0, f1, f2, f3, f4, f5].foldl orF pf) f6 from rfl)
        generalize [f0, f1, f2, f3, f4, f5].foldl orF pf = z at *
        have HN := Lib.hid (heapAt_alloc_new wr (.cells #[.int .i64 f6.e, .int .i64 f6.p, .int .i64 f6.i, .int .i64 f6.a] 131))
        have HFa := Lib.hid ((Grow.alloc wr (.cells #[.int .i64 f6.e, .int .i64 f6.p, .int .i64 f6.i, .int .i64 f6.a] 131)).at HFk.out)
        have HRa := Lib.hid ((Grow.alloc wr (.cells #[.int .i64 f6.e, .int .i64 f6.p, .int .i64 f6.i, .int .i64 f6.a] 131)).at HRr.out)
        have HGa := Lib.hid (HGr.out.trans (Grow.alloc wr (.cells #[.int .i64 f6.e, .int .i64 f6.p, .int .i64 f6.i, .int .i64 f6.a] 131)))
        have c0 := cell_block HFa.out 0
        simp at c0
        by_cases hz : z.e = 0
        · rw [hz] at c0
          go_wp2_with (first
            | ((with_reducible refine wpList_index48 rfl _ _ rfl #[.int .i64 f0.e, .int .i64 f0.p, .int .i64 f0.i, .int .i64 f0.a, .int .i64 f1.e, .int .i64 f1.p, .int .i64 f1.i, .int .i64 f1.a, .int .i64 f2.e, .int .i64 f2.p, .int .i64 f2.i, .int .i64 f2.a, .int .i64 f3.e, .int .i64 f3.p, .int .i64 f3.i, .int .i64 f3.a, .int .i64 f4.e, .int .i64 f4.p, .int .i64 f4.i, .int .i64 f4.a, .int .i64 f5.e, .int .i64 f5.p, .int .i64 f5.i, .int .i64 f5.a, .int .i64 f6.e, .int .i64 f6.p, .int .i64 f6.i, .int .i64 f6.a] 6 ?_ ?_ ?_ #[.int .i64 f6.e, .int .i64 f6.p, .int .i64 f6.i, .int .i64 f6.a] ?_ ?_); (· decide); (· rfl); (· rfl); (· rfl))
            | ((with_reducible refine load33 rfl _ rfl wr.heap.size ?_ HN.out ?_); (· rfl))
            | ((with_reducible refine store33 rfl _ _ rfl g f6.e f6.p f6.i f6.a ?_ ?_ HFa.out ?_); (· rfl); (· rfl); intro w5 hb5 ho5))
          have HO := Lib.hid (HGa.out.only ho5 (by omega))
          have HB := Lib.hid hb5
          have HR5 := Lib.hid (ho5.at (show w.heap.size + 1 ≠ g by omega) HRa.out)
          clear hb5 ho5 c0
          go_wp2_with fail
          go_roundw
          case rel => exact ⟨7, by omega, by go_num, HO.out, HR5.out, by
            show _ = some (Obj.cells (faultC ([f0, f1, f2, f3, f4, f5, f6].foldl orF pf)) 131 (0, 0))
            rw [HNx.out, orF, if_pos hz]; exact HB.out⟩
          case measure => simp [intOf]
        · have hz2 : (z.e == 0) = false := by simpa using hz
          go_wp2_with (first
            | ((with_reducible refine wpList_index48 rfl _ _ rfl #[.int .i64 f0.e, .int .i64 f0.p, .int .i64 f0.i, .int .i64 f0.a, .int .i64 f1.e, .int .i64 f1.p, .int .i64 f1.i, .int .i64 f1.a, .int .i64 f2.e, .int .i64 f2.p, .int .i64 f2.i, .int .i64 f2.a, .int .i64 f3.e, .int .i64 f3.p, .int .i64 f3.i, .int .i64 f3.a, .int .i64 f4.e, .int .i64 f4.p, .int .i64 f4.i, .int .i64 f4.a, .int .i64 f5.e, .int .i64 f5.p, .int .i64 f5.i, .int .i64 f5.a, .int .i64 f6.e, .int .i64 f6.p, .int .i64 f6.i, .int .i64 f6.a] 6 ?_ ?_ ?_ #[.int .i64 f6.e, .int .i64 f6.p, .int .i64 f6.i, .int .i64 f6.a] ?_ ?_); (· decide); (· rfl); (· rfl); (· rfl)))
          go_roundw
          case rel => exact ⟨7, by omega, by go_num, HGa.out, HRa.out, by
            show _ = some (Obj.cells (faultC ([f0, f1, f2, f3, f4, f5, f6].foldl orF pf)) 131 (0, 0))
            rw [HNx.out, orF, if_neg hz]; exact HFa.out⟩
          case measure => simp [intOf]
end Go.Proofs.YtnhmdinpfcoebaaGreatDoor.Sy
end

/-! === CfTwo -/
section
/- Copies apart: blocks a system owns; what a cell's change makes of it. No program in sight. -/
namespace Go.Proofs.YtnhmdinpfcoebaaGreatDoor.Sy
open Go.RowKit
set_option linter.unusedVariables false
set_option linter.unusedSimpArgs false
theorem fix_cv {w : World} {n : Nat} {v : Nat → Value} {cnt : Nat → Nat} {C : Nat → Nat → Ins} (h : ∀ j, j < n → CodeV w (v j) (cnt j) (C j)) : ∀ j, (if j < n then v j else .slice none 0 0 : Value).oneCell' = true := fun j => by
  by_cases hj : j < n
  · rw [if_pos hj]; obtain ⟨A, cap, h1, _⟩ := h j hj; rw [h1]; rfl
  · rw [if_neg hj]; rfl
theorem copyV_any (w : World) {tv lv sv qv mv : Value} {X : Cf} (h : ConfV w tv lv sv qv mv X) (hs : Small X) : Calls Tryz.prog 76 #[.agg (cfC tv lv sv qv mv X)] w fun e w' => ∃ tv lv sv qv mv, e = .returned (.agg (cfC tv lv sv qv mv X)) ∧ ConfO w' w.heap.size tv lv sv qv mv X ∧ Grow w w' := by
  obtain ⟨⟨A1, p1, c1, rfl, _, t1, t2⟩, ⟨A2, p2, c2, rfl, _, l1, l2⟩, ⟨A3, p3, rfl, _, s1⟩, ⟨A4, p4, rfl, _, q1⟩, A5, p5, rfl, _, m1⟩ := h
  refine copy_walk w A1 A2 A3 A4 A5 p1 p2 p3 p4 p5 (fun j => if j < X.tn then c1 j else .slice none 0 0) (fun j => if j < X.ln then c2 j else .slice none 0 0) X hs (fix_cv t2) (fix_cv l2) (t1.of_eq fun j hj => by rw [if_pos hj]) (fun j hj => by rw [if_pos hj]; exact t2 j hj) (l1.of_eq fun j hj => by rw [if_pos hj]) (fun j hj => by rw [if_pos hj]; exact l2 j hj) s1 q1 m1
theorem checkV_any (w : World) {tv lv sv qv mv : Value} {X : Cf} (h : ConfV w tv lv sv qv mv X) (hs : (X.sn : Int) ≤ 1000000) : Calls Tryz.prog 75 #[.agg (cfC tv lv sv qv mv X)] w fun r w' => r = .returned (.agg (faultC (sysP X))) ∧ Grow w w' := by
  obtain ⟨⟨A1, p1, c1, rfl, _, t1, t2⟩, ⟨A2, p2, c2, rfl, _, l1, l2⟩, ⟨A3, p3, rfl, _, s1⟩, ⟨A4, p4, rfl, _, q1⟩, A5, p5, rfl, _, m1⟩ := h
  exact check_walk w A1 A2 A3 A4 A5 p1 p2 p3 p4 p5 c1 c2 X hs t1 t2 l1 l2 s1 q1 m1
end Go.Proofs.YtnhmdinpfcoebaaGreatDoor.Sy
end
