/- Texts of the proof, merged: Next, Read, Crc, CfNum. -/
import Derived.Test.YtnhmdinpfcoebaaGreatDoorM07
import Derived.Laws.ResultCell
import Derived.OwnWalk
import Derived.Test.YtnhmdinpfcoebaaGreatDoorM06
import Derived.Test.YtnhmdinpfcoebaaGreatDoorM04
import Derived.WalkSpells
import Derived.WalkLawsBesides
import Derived.Deep.QuietTactic
import Derived.BigQuiet
import Derived.Test.YtnhmdinpfcoebaaGreatDoorRows
import Derived.Test.YtnhmdinpfcoebaaGreatDoorM02
import Derived.Test.YtnhmdinpfcoebaaGreatDoorM03
/-! === Next -/
section
/- An event behind another one, read: the walk. -/
namespace Go.Proofs.YtnhmdinpfcoebaaGreatDoor
open Go.RowKit
set_option linter.unusedVariables false
set_option linter.unusedSimpArgs false
set_option maxRecDepth 100000

theorem results_cell_row_tmp {P : Program} {fn : Func} {p u : Tmp} {ty : TypeId} (h : fn.results = #[.cell p ty, .tmp u]) (tmps : Array Value) (w : World) (g : Nat) (t : TypeId) (cs : Array Value) (fr : Nat × Nat) (d : TypeDesc)
    (hp : tmps.getD p undef = .pointer (some ⟨g, 0, none⟩)) (hg : w.heap[g]? = some (.cells cs t fr))
    (hu : P.underlying ty = some d) (hd : (match d with | .struct _ | .array _ _ => true | _ => false) = true) (hi : (P.info? ty).map (·.size) = some cs.size) {v : Value} (hv : tmps.getD u undef = v) :
    (results fn tmps).run P w = .ok (.tuple #[.agg cs, v]) w := by
  rw [results_cell_tmp h, hp]
  subst hv
  have hp' : (asAddr (.pointer (some ⟨g, 0, none⟩))).run P w = .ok ⟨g, 0, none⟩ w := by simp [asAddr]
  rw [hp', Result.andThen_ok, run_loadVar_row w g t ty cs fr d hg hu hd hi, Result.andThen_ok]
theorem idx277_0 (g : Nat) (w : World) : Sem.run Tryz.prog (Instr.index 277 (.agg #[.pointer (some ⟨g, 3, none⟩), .pointer (some ⟨g, 4, none⟩), .pointer (some ⟨g, 5, none⟩)]) (.int .i64 0)) w = .ok (.pointer (some ⟨g, 3, none⟩)) w := by kernel_rfl
theorem idx277_1 (g : Nat) (w : World) : Sem.run Tryz.prog (Instr.index 277 (.agg #[.pointer (some ⟨g, 3, none⟩), .pointer (some ⟨g, 4, none⟩), .pointer (some ⟨g, 5, none⟩)]) (.int .i64 1)) w = .ok (.pointer (some ⟨g, 4, none⟩)) w := by kernel_rfl
theorem idx277_2 (g : Nat) (w : World) : Sem.run Tryz.prog (Instr.index 277 (.agg #[.pointer (some ⟨g, 3, none⟩), .pointer (some ⟨g, 4, none⟩), .pointer (some ⟨g, 5, none⟩)]) (.int .i64 2)) w = .ok (.pointer (some ⟨g, 5, none⟩)) w := by kernel_rfl
theorem unfold_bd (n : Nat) (h : n < 2 ^ 32) : -2147483648 ≤ Top.unfoldI n ∧ Top.unfoldI n ≤ 2147483647 := by
  unfold Top.unfoldI
  split <;> omega
theorem info53 : (Tryz.prog.info? 53).map (·.size) = some 1 := by kernel_rfl
theorem wpList_load_blk_g {P : Program} {ops : Array Oper} {rest : List Oper} {op : Oper} {a : Act} {w : World} {Q : Exit → Act → World → Prop} (ty : TypeId) (x : Operand) (ho : op.op = .load ty x)
    (g : Nat) (t : TypeId) (cells : Array Value) (d : TypeDesc) (hx : a.eval x = .pointer (some ⟨g, 0, none⟩)) (hw : Region.wanted op (yielded ops a.tmps) = true) (hold : w.heap[g]? = some (.cells cells t (0, 0)))
    (hu : P.underlying ty = some d) (hd : (match d with | .struct _ | .array _ _ => true | _ => false) = true) (hi : (P.info? ty).map (·.size) = some cells.size)
    (h : wpList P ops Q rest (a.put op.dst (.agg cells)) w) : wpList P ops Q (op :: rest) a w := by
  refine wpList_step fun K hK => ?_
  rw [if_pos hw]
  exact wp_load_row ty x ho g hx t cells (0, 0) d hold hu hd hi (hK _ _ h)
theorem info40 : (Tryz.prog.info? 40).map (·.size) = some 1 := by kernel_rfl
theorem ones98 (e : Top.Ev) : (evC e).all (·.oneCell') = true := by simp [evC, Value.oneCell']
/-- The world while an event is read. -/
structure NX (w wr : World) (b : Nat) (s : ByteArray) (q g ge : Nat) (bf ev : Top.Ev) : Prop where
  rd : RdAt wr b s q
  x : wr.heap[g]? = some (.cells (evC bf) 98 (0, 0))
  z : wr.heap[g + 1]? = some (.cells #[.int .i64 0, .int .u64 0, .int .u64 0, .int .u32 0, .int .u32 0, .int .u32 0] 98 (0, 0))
  e : wr.heap[ge]? = some (.cells (evC ev) 98 (0, 0))
  o : Only b w wr
  n1 : g ≠ b
  n2 : g + 1 ≠ b
  n3 : ge ≠ b
  n4 : g ≠ ge
  n5 : g + 1 ≠ ge
  n6 : w.heap.size ≤ ge
  n7 : w.heap.size ≤ g + 1
theorem Only.new {b d : Nat} {w w1 w2 : World} (h : Only b w w1) (hd : w.heap.size ≤ d) (ho : Only d w1 w2) : Only b w w2 :=
  ⟨ho.1.trans h.1, ho.2.1.trans h.2.1, ho.2.2.1.trans h.2.2.1, Nat.le_trans h.2.2.2.1 ho.2.2.2.1, fun k hk hne => (ho.2.2.2.2 k (Nat.lt_of_lt_of_le hk h.2.2.2.1) (by omega)).trans (h.2.2.2.2 k hk hne)⟩
theorem NX.most {w wr w' : World} {b q q' g ge : Nat} {s : ByteArray} {bf ev : Top.Ev} (h : NX w wr b s q g ge bf ev) (hr : RdAt w' b s q') (ho : Only b wr w') : NX w w' b s q' g ge bf ev :=
  ⟨hr, ho.at h.n1 h.x, ho.at h.n2 h.z, ho.at h.n3 h.e, h.o.trans ho, h.n1, h.n2, h.n3, h.n4, h.n5, h.n6, h.n7⟩
theorem NX.grow {w wr w' : World} {b q g ge : Nat} {s : ByteArray} {bf ev : Top.Ev} (h : NX w wr b s q g ge bf ev) (hg : Grow wr w') : NX w w' b s q g ge bf ev := h.most (h.rd.grow hg) (Only.of_grow hg b)
theorem NX.set {w wr w' : World} {b q g ge : Nat} {s : ByteArray} {bf ev ev' : Top.Ev} (h : NX w wr b s q g ge bf ev) (hb : w'.heap[ge]? = some (.cells (evC ev') 98 (0, 0))) (ho : Only ge wr w') : NX w w' b s q g ge bf ev' :=
  ⟨⟨ho.at (Ne.symm h.n3) h.rd.1, h.rd.2⟩, ho.at h.n4 h.x, ho.at h.n5 h.z, hb, h.o.new h.n6 ho, h.n1, h.n2, h.n3, h.n4, h.n5, h.n6, h.n7⟩
theorem NX.after {w wr w' : World} {b q g ge : Nat} {s : ByteArray} {bf ev : Top.Ev} (h : NX w wr b s q g ge bf ev) (ho : Only (g + 1) wr w') : RdAt w' b s q := ⟨ho.at (Ne.symm h.n2) h.rd.1, h.rd.2⟩
theorem mostP_le {m : Nat} {l : Top.Bytes} {n k : Nat} (h : Top.mostP m l = .yes n k) : n ≤ m := by
  unfold Top.mostP at h
  cases h1 : Top.lebP l with
  | no e => rw [h1] at h; cases h
  | yes a j =>
    rw [h1] at h
    simp only [Top.Got.andThen] at h
    split at h
    · cases h
    · injection h with h _; omega
theorem mostP_err {m : Nat} {l : Top.Bytes} {e : Nat} (h : Top.mostP m l = .no e) : e ≠ 0 := by
  unfold Top.mostP at h
  cases h1 : Top.lebP l with
  | no e1 => rw [h1] at h; simp only [Top.Got.andThen] at h; injection h with h; subst h; exact leb_err h1
  | yes a j =>
    rw [h1] at h
    simp only [Top.Got.andThen] at h
    split at h
    · injection h with h; omega
    · cases h
attribute [local irreducible] GotR Top.mostP Top.isKind Top.shape Top.evCheck
set_option maxHeartbeats 4000000 in
theorem next_any (w : World) (b : Nat) (s : ByteArray) (p : Nat) (bf : Top.Ev) (h : RdAt w b s p) (hp : p < s.size) (hcy : bf.cycle < 2 ^ 64) (hco : bf.count < 2 ^ 64) : Calls Tryz.prog 104 #[.pointer (some ⟨b, 0, none⟩), .agg (evC bf)] w fun e w' =>
    GotR (Top.nextP bf.cycle bf.count (rest s p)) e w' (fun ev k e w' => e = .returned (.tuple #[.agg (evC ev), .int .i64 0]) ∧ RdAt w' b s (p + k)) (fun er e w' => ∃ (X : Top.Ev) (q : Nat), e = .returned (.tuple #[.agg (evC X), .int .i64 er]) ∧ RdAt w' b s q) ∧ Only b w w' := by
  have H := Lib.hid h
  have HBL := Lib.hid (heapAt_lt h.1)
  have HCY := Lib.hid hcy; clear hcy
  have HCO := Lib.hid hco; clear hco
  clear h
  go_enter Tryz.func104, Tryz.ntmps104
  go_wp2_with fail
  have HX := Lib.hid ((heapAt_alloc_old (w.alloc (.cells (evC bf) 98)) (.cells #[.int .i64 0, .int .u64 0, .int .u64 0, .int .u32 0, .int .u32 0, .int .u32 0] 98) (show w.heap.size < (w.alloc (.cells (evC bf) 98)).heap.size by simp)).trans (heapAt_alloc_new w (.cells (evC bf) 98)))
  have HZ := Lib.hid (show ((w.alloc (.cells (evC bf) 98)).alloc (.cells #[.int .i64 0, .int .u64 0, .int .u64 0, .int .u32 0, .int .u32 0, .int .u32 0] 98)).heap[w.heap.size + 1]? = some (.cells #[.int .i64 0, .int .u64 0, .int .u64 0, .int .u32 0, .int .u32 0, .int .u32 0] 98 (0, 0)) by
    have := heapAt_alloc_new (w.alloc (.cells (evC bf) 98)) (.cells #[.int .i64 0, .int .u64 0, .int .u64 0, .int .u32 0, .int .u32 0, .int .u32 0] 98)
    simpa using this)
  have HG := Lib.hid ((Grow.alloc w (.cells (evC bf) 98)).trans (Grow.alloc _ (.cells #[.int .i64 0, .int .u64 0, .int .u64 0, .int .u32 0, .int .u32 0, .int .u32 0] 98)))
  generalize ((w.alloc (.cells (evC bf) 98)).alloc (.cells #[.int .i64 0, .int .u64 0, .int .u64 0, .int .u32 0, .int .u32 0, .int .u32 0] 98)) = w1 at HX HZ HG ⊢
  refine (byte_ok _ b s p (H.out.grow HG.out) hp).mono ?_
  rintro _ w2 ⟨rfl, h1, h2⟩
  have HR2 := Lib.hid h1; clear h1
  have HX2 := Lib.hid (h2.at (show w.heap.size ≠ b by have := HBL.out; omega) HX.out)
  have HZ2 := Lib.hid (h2.at (show w.heap.size + 1 ≠ b by have := HBL.out; omega) HZ.out)
  have HO2 := Lib.hid (Only.before HG.out h2); clear h2
  have HC := Lib.hid (rest_lt s p hp)
  generalize s[p] = c at HC ⊢
  clear HX HZ HG
  have hw : wrap64 (c.toNat : Int) = c.toNat := by have := c.toNat_lt; unfold wrap64; omega
  go_wp2_with fail
  have HN3 := Lib.hid (show NX w (w2.alloc (.cells #[.int .i64 (c.toNat : Int), .int .u64 0, .int .u64 0, .int .u32 0, .int .u32 0, .int .u32 0] 98)) b s (p + 1) w.heap.size w2.heap.size bf ⟨c.toNat, 0, 0, 0, 0, 0⟩ from
    ⟨HR2.out.grow (Grow.alloc _ _), (Grow.alloc _ _).at HX2.out, (Grow.alloc _ _).at HZ2.out, heapAt_alloc_new _ _, HO2.out.after (Grow.alloc _ _), by have := HBL.out; omega, by have := HBL.out; omega, by have := HBL.out; have := HO2.out.2.2.2.1; omega, by have := heapAt_lt HX2.out; omega, by have := heapAt_lt HZ2.out; omega, HO2.out.2.2.2.1, by omega⟩)
  clear HR2 HX2 HZ2 HO2 hw
  generalize w2.alloc (.cells #[.int .i64 (c.toNat : Int), .int .u64 0, .int .u64 0, .int .u32 0, .int .u32 0, .int .u32 0] 98) = w3 at HN3 ⊢
  generalize w2.heap.size = ge at HN3 ⊢
  obtain ⟨g, hg⟩ : ∃ g, g = w.heap.size := ⟨_, rfl⟩
  rw [← hg] at HN3 ⊢
  clear hg
  cases hk : Top.isKind (c.toNat : Int)
  · have HQ := Lib.hid (show Top.nextP bf.cycle bf.count (rest s p) = .no 1 by rw [HC.out, Top.nextP, if_pos hk])
    refine (name_no _ _ hk).mono ?_
    rintro _ w4 ⟨rfl, hg⟩
    have HN4 := Lib.hid (HN3.out.grow hg); clear hg HN3 hk
    go_wp2_with (first
      | ((with_reducible refine wpList_load_blk rfl 98 _ rfl ge 98 (evC ⟨c.toNat, 0, 0, 0, 0, 0⟩) _ ?_ HN4.out.e Tryz.underlying98 rfl (info98 _) ?_); (· rfl))
      | ((with_reducible refine wpList_store_blk rfl 98 _ _ rfl (g + 1) 98 _ (evC ⟨c.toNat, 0, 0, 0, 0, 0⟩) ?_ ?_ HN4.out.z rfl (info98 _) (ones98 _) ?_); (· rfl); (· rfl); intro wz hbz hoz))
    refine bodyPost_ret (v := .tuple #[.agg (evC ⟨c.toNat, 0, 0, 0, 0, 0⟩), .int .i64 1]) (results_cell_row_tmp rfl _ _ (g + 1) 98 _ (0, 0) _ (by rfl) hbz Tryz.underlying98 rfl (info98 _) (by rfl)) rfl ⟨?_, HN4.out.o.new HN4.out.n7 hoz⟩
    exact GotR.mkN HQ.out ⟨_, _, rfl, HN4.out.after hoz⟩
  · have HQ := Lib.hid (show Top.nextP bf.cycle bf.count (rest s p) = (Top.seqP (Top.mostP Top.W32) (fun step => Top.seqP (Top.mostP Top.W32) fun fold => Top.okP (fun x => Top.mkEv c.toNat bf.cycle bf.count step fold x.1 x.2.1 x.2.2) (Top.fldL (Top.hasK c.toNat) 3 0 (0, 0, 0))) (rest s (p + 1))).shift 1 by rw [HC.out, Top.nextP_eq, if_neg (by rw [hk]; simp)])
    refine (name_yes _ _ hk).mono ?_
    rintro _ w4 ⟨⟨sn, rfl, hsn⟩, hg⟩
    have HN4 := Lib.hid (HN3.out.grow hg); clear hg HN3 hk
    have hse : sn.toList.isEmpty = false := by
      rw [ByteArray.toList_eq]
      cases hl : sn.data.toList with
      | nil => exact absurd (by have := congrArg List.length hl; rw [Array.length_toList] at this; exact this) hsn
      | cons a l => rfl
    clear hsn
    go_wp2_with fail
    refine (most_any _ b s (p + 1) Top.W32 HN4.out.rd).mono ?_
    rintro e w5 ⟨hq, ho⟩
    cases hx : Top.mostP Top.W32 (rest s (p + 1)) with
    | no er =>
      obtain ⟨rfl, hr⟩ := hq.is_no hx
      have HN5 := Lib.hid (HN4.out.most hr ho); clear hr ho HN4
      have HQ2 := Lib.hid (HQ.out.trans (show _ = Top.Got.no er by unfold Top.seqP; rw [hx]; rfl))
      have hne : ¬ (er : Int) = 0 := by have := mostP_err hx; omega
      clear hx hq
      go_wp2_with (first
        | ((with_reducible refine wpList_load_blk rfl 98 _ rfl ge 98 (evC ⟨c.toNat, 0, 0, 0, 0, 0⟩) _ ?_ HN5.out.e Tryz.underlying98 rfl (info98 _) ?_); (· rfl))
        | ((with_reducible refine wpList_store_blk rfl 98 _ _ rfl (g + 1) 98 _ (evC ⟨c.toNat, 0, 0, 0, 0, 0⟩) ?_ ?_ HN5.out.z rfl (info98 _) (ones98 _) ?_); (· rfl); (· rfl); intro wz hbz hoz))
      refine bodyPost_ret (v := .tuple #[.agg (evC ⟨c.toNat, 0, 0, 0, 0, 0⟩), .int .i64 er]) (results_cell_row_tmp rfl _ _ (g + 1) 98 _ (0, 0) _ (by rfl) hbz Tryz.underlying98 rfl (info98 _) (by rfl)) rfl ⟨?_, HN5.out.o.new HN5.out.n7 hoz⟩
      exact GotR.mkN HQ2.out ⟨_, _, rfl, HN5.out.after hoz⟩
    | yes n1 k1 =>
      obtain ⟨rfl, hr⟩ := hq.is_yes hx
      have HN5 := Lib.hid (HN4.out.most hr ho); clear hr ho HN4
      have HX1 := Lib.hid hx
      have HL1 := Lib.hid (mostP_le hx)
      clear hx hq
      go_wp2_with fail
      refine (most_any _ b s (p + 1 + k1) Top.W32 HN5.out.rd).mono ?_
      rintro e w6 ⟨hq, ho⟩
      cases hx : Top.mostP Top.W32 (rest s (p + 1 + k1)) with
      | no er =>
        obtain ⟨rfl, hr⟩ := hq.is_no hx
        have HN6 := Lib.hid (HN5.out.most hr ho); clear hr ho HN5
        have HQ2 := Lib.hid (HQ.out.trans (show _ = Top.Got.no er by unfold Top.seqP; rw [HX1.out]; simp only; rw [rest_add, hx]; rfl))
        have hne : ¬ (er : Int) = 0 := by have := mostP_err hx; omega
        clear hx hq
        go_wp2_with (first
          | ((with_reducible refine wpList_load_blk rfl 98 _ rfl ge 98 (evC ⟨c.toNat, 0, 0, 0, 0, 0⟩) _ ?_ HN6.out.e Tryz.underlying98 rfl (info98 _) ?_); (· rfl))
          | ((with_reducible refine wpList_store_blk rfl 98 _ _ rfl (g + 1) 98 _ (evC ⟨c.toNat, 0, 0, 0, 0, 0⟩) ?_ ?_ HN6.out.z rfl (info98 _) (ones98 _) ?_); (· rfl); (· rfl); intro wz hbz hoz))
        refine bodyPost_ret (v := .tuple #[.agg (evC ⟨c.toNat, 0, 0, 0, 0, 0⟩), .int .i64 er]) (results_cell_row_tmp rfl _ _ (g + 1) 98 _ (0, 0) _ (by rfl) hbz Tryz.underlying98 rfl (info98 _) (by rfl)) rfl ⟨?_, HN6.out.o.new HN6.out.n7 hoz⟩
        exact GotR.mkN HQ2.out ⟨_, _, rfl, HN6.out.after hoz⟩
      | yes n2 k2 =>
        obtain ⟨rfl, hr⟩ := hq.is_yes hx
        have HN6 := Lib.hid (HN5.out.most hr ho); clear hr ho HN5
        have HX2 := Lib.hid hx
        have HL2 := Lib.hid (mostP_le hx)
        clear hx hq
        have c0 := cell_block HN6.out.e 0
        simp at c0
        go_wp2_with fail
        refine (fields_any _ _).mono ?_
        rintro _ w7 ⟨rfl, hg⟩
        have HN7 := Lib.hid (HN6.out.grow hg); clear hg HN6 c0
        have HK := Lib.hid (show ∀ i, Top.hasK c.toNat i = if i = 0 then decide ((Top.shape c.toNat).1 ≠ 0) else if i = 1 then decide ((Top.shape c.toNat).2.1 ≠ 0) else decide ((Top.shape c.toNat).2.2 ≠ 0) from fun _ => rfl)
        generalize decide ((Top.shape (c.toNat : Int)).1 ≠ 0) = h0 at HK ⊢
        generalize decide ((Top.shape (c.toNat : Int)).2.1 ≠ 0) = h1 at HK ⊢
        generalize decide ((Top.shape (c.toNat : Int)).2.2 ≠ 0) = h2 at HK ⊢
        go_wp2_with fail
        have HH := Lib.hid (heapAt_alloc_new w7 (.cells #[.bool h0, .bool h1, .bool h2] 149))
        have HN8 := Lib.hid (HN7.out.grow (Grow.alloc w7 (.cells #[.bool h0, .bool h1, .bool h2] 149)))
        have HGH := Lib.hid (show w7.heap.size ≠ b ∧ w7.heap.size ≠ ge ∧ w7.heap.size ≠ g + 1 by
          have h1 := heapAt_lt HN7.out.rd.1; have h2 := heapAt_lt HN7.out.e; have h3 := heapAt_lt HN7.out.z; omega)
        clear HN7
        generalize w7.alloc (.cells #[.bool h0, .bool h1, .bool h2] 149) = w8 at HH HN8 ⊢
        generalize w7.heap.size = gh at HH HGH ⊢
        obtain ⟨q2, hq2⟩ : ∃ q2, q2 = p + 1 + k1 + k2 := ⟨_, rfl⟩
        rw [← hq2] at HN8
        have HQ2 := Lib.hid hq2; clear hq2
        go_loopw [67] (fun x wr => ∃ (i f t0 t1 t2 q : Nat), i + f = 3 ∧ x = .int .i64 i ∧ NX w wr b s q g ge bf ⟨c.toNat, 0, 0, t0, t1, t2⟩ ∧ wr.heap[gh]? = some (.cells #[.bool h0, .bool h1, .bool h2] 149 (0, 0)) ∧ q2 ≤ q ∧ (t0 < 2 ^ 32 ∧ t1 < 2 ^ 32 ∧ t2 < 2 ^ 32) ∧ ((i ≤ 0 → t0 = 0) ∧ (i ≤ 1 → t1 = 0) ∧ (i ≤ 2 → t2 = 0)) ∧
          Top.fldL (Top.hasK c.toNat) 3 0 (0, 0, 0) (rest s q2) = (Top.fldL (Top.hasK c.toNat) f i (t0, t1, t2) (rest s q)).shift (q - q2)) (fun x _ => 3 - (intOf x).toNat)
        case atStart => exact ⟨0, 3, 0, 0, 0, q2, by omega, rfl, HN8.out, HH.out, Nat.le_refl _, ⟨by decide, by decide, by decide⟩, ⟨fun _ => rfl, fun _ => rfl, fun _ => rfl⟩, by rw [Nat.sub_self, Top.shift_zero]⟩
        case round =>
          obtain ⟨i, f, t0, t1, t2, q, hif, rfl, hn, hh, hqq, htb, htz, hfl⟩ := hrel
          have HNr := Lib.hid hn; clear hn
          have HHr := Lib.hid hh; clear hh
          have HQQ := Lib.hid hqq; clear hqq
          have HTB := Lib.hid htb; clear htb
          have HTZ := Lib.hid htz; clear htz
          have HFL := Lib.hid hfl; clear hfl
          clear HN8 HH
          have hi : i = 0 ∨ i = 1 ∨ i = 2 ∨ i = 3 := by omega
          rcases hi with rfl | rfl | rfl | rfl
          · obtain rfl : f = 3 := by omega
            have hix := idx277_0 ge wr
            have ci := cell_block HHr.out 0
            simp at ci
            cases h0
            · have HF := Lib.hid (HFL.out.trans (by rw [Top.fld_skip (by rw [HK.out]; rfl) (by rw [show t0 = 0 from HTZ.out.1 (by omega)]; rfl)]))
              go_wp2_with fail
              go_roundw
              case rel => exact ⟨1, 2, t0, t1, t2, q, by omega, rfl, HNr.out, HHr.out, HQQ.out, HTB.out, ⟨fun h => absurd h (by omega), fun h => HTZ.out.2.1 (by omega), fun h => HTZ.out.2.2 (by omega)⟩, HF.out⟩
              case measure => simp [intOf]
            · go_wp2_with fail
              refine (most_any _ b s q Top.W32 HNr.out.rd).mono ?_
              rintro e w9 ⟨hq, ho⟩
              cases hx : Top.mostP Top.W32 (rest s q) with
              | no er =>
                obtain ⟨rfl, hr⟩ := hq.is_no hx
                have HN9 := Lib.hid (HNr.out.most hr ho); clear hr ho
                have HF := Lib.hid (HFL.out.trans (by rw [Top.fld_no (by rw [HK.out]; rfl) hx]))
                have HQ9 := Lib.hid (HQ.out.trans (show _ = Top.Got.no er by unfold Top.seqP; rw [HX1.out]; simp only; rw [rest_add, HX2.out]; simp only; rw [rest_add, ← HQ2.out]; unfold Top.okP; rw [HF.out]; rfl))
                have hne : ¬ (er : Int) = 0 := by have := mostP_err hx; omega
                clear hx hq
                go_wp2_with (first
                  | ((with_reducible refine wpList_load_blk rfl 98 _ rfl ge 98 (evC ⟨c.toNat, 0, 0, t0, t1, t2⟩) _ ?_ HN9.out.e Tryz.underlying98 rfl (info98 _) ?_); (· rfl))
                  | ((with_reducible refine wpList_store_blk rfl 98 _ _ rfl (g + 1) 98 _ (evC ⟨c.toNat, 0, 0, t0, t1, t2⟩) ?_ ?_ HN9.out.z rfl (info98 _) (ones98 _) ?_); (· rfl); (· rfl); intro wz hbz hoz))
                refine bodyPost_ret (v := .tuple #[.agg (evC ⟨c.toNat, 0, 0, t0, t1, t2⟩), .int .i64 er]) (results_cell_row_tmp rfl _ _ (g + 1) 98 _ (0, 0) _ (by rfl) hbz Tryz.underlying98 rfl (info98 _) (by rfl)) rfl ⟨?_, HN9.out.o.new HN9.out.n7 hoz⟩
                exact GotR.mkN HQ9.out ⟨_, _, rfl, HN9.out.after hoz⟩
              | yes n k =>
                obtain ⟨rfl, hr⟩ := hq.is_yes hx
                have HN9 := Lib.hid (HNr.out.most hr ho)
                have HH9 := Lib.hid (ho.at HGH.out.1 HHr.out); clear hr ho
                have hle := mostP_le hx
                have hle2 : (n : Int) ≤ 4294967295 := by unfold Top.W32 at hle; omega
                have HF := Lib.hid (HFL.out.trans (by rw [Top.fld_yes (by rw [HK.out]; rfl) hx, Top.shift_shift, rest_add]))
                have HLE := Lib.hid hle
                clear hx hq hle
                go_wp2_with (first
                  | ((with_reducible refine store_in rfl 40 _ _ rfl ge 3 98 _ (evC ⟨c.toNat, 0, 0, n, t1, t2⟩) (.int .u32 n) info40 HN9.out.e rfl ?_ ?_ ?_ ?_ ?_); (· rfl); (· rfl); (· simp); (· rfl); intro wa hwa hba hoa))
                have HNa := Lib.hid (HN9.out.set hba hoa)
                have HHa := Lib.hid (hoa.at HGH.out.2.1 HH9.out)
                clear hwa hba hoa
                go_wp2_with fail
                go_roundw
                case rel => exact ⟨1, 2, n, t1, t2, q + k, by omega, rfl, HNa.out, HHa.out, by have := HQQ.out; omega, ⟨by have := HLE.out; unfold Top.W32 at this; omega, HTB.out.2.1, HTB.out.2.2⟩, ⟨fun h => absurd h (by omega), fun h => HTZ.out.2.1 (by omega), fun h => HTZ.out.2.2 (by omega)⟩, by rw [HF.out, show q - q2 + k = q + k - q2 by have := HQQ.out; omega]; rfl⟩
                case measure => simp [intOf]
          · obtain rfl : f = 2 := by omega
            have hix := idx277_1 ge wr
            have ci := cell_block HHr.out 1
            simp at ci
            cases h1
            · have HF := Lib.hid (HFL.out.trans (by rw [Top.fld_skip (by rw [HK.out]; rfl) (by rw [show t1 = 0 from HTZ.out.2.1 (by omega)]; rfl)]))
              go_wp2_with fail
              go_roundw
              case rel => exact ⟨2, 1, t0, t1, t2, q, by omega, rfl, HNr.out, HHr.out, HQQ.out, HTB.out, ⟨fun h => absurd h (by omega), fun h => HTZ.out.2.1 (by omega), fun h => HTZ.out.2.2 (by omega)⟩, HF.out⟩
              case measure => simp [intOf]
            · go_wp2_with fail
              refine (most_any _ b s q Top.W32 HNr.out.rd).mono ?_
              rintro e w9 ⟨hq, ho⟩
              cases hx : Top.mostP Top.W32 (rest s q) with
              | no er =>
                obtain ⟨rfl, hr⟩ := hq.is_no hx
                have HN9 := Lib.hid (HNr.out.most hr ho); clear hr ho
                have HF := Lib.hid (HFL.out.trans (by rw [Top.fld_no (by rw [HK.out]; rfl) hx]))
                have HQ9 := Lib.hid (HQ.out.trans (show _ = Top.Got.no er by unfold Top.seqP; rw [HX1.out]; simp only; rw [rest_add, HX2.out]; simp only; rw [rest_add, ← HQ2.out]; unfold Top.okP; rw [HF.out]; rfl))
                have hne : ¬ (er : Int) = 0 := by have := mostP_err hx; omega
                clear hx hq
                go_wp2_with (first
                  | ((with_reducible refine wpList_load_blk rfl 98 _ rfl ge 98 (evC ⟨c.toNat, 0, 0, t0, t1, t2⟩) _ ?_ HN9.out.e Tryz.underlying98 rfl (info98 _) ?_); (· rfl))
                  | ((with_reducible refine wpList_store_blk rfl 98 _ _ rfl (g + 1) 98 _ (evC ⟨c.toNat, 0, 0, t0, t1, t2⟩) ?_ ?_ HN9.out.z rfl (info98 _) (ones98 _) ?_); (· rfl); (· rfl); intro wz hbz hoz))
                refine bodyPost_ret (v := .tuple #[.agg (evC ⟨c.toNat, 0, 0, t0, t1, t2⟩), .int .i64 er]) (results_cell_row_tmp rfl _ _ (g + 1) 98 _ (0, 0) _ (by rfl) hbz Tryz.underlying98 rfl (info98 _) (by rfl)) rfl ⟨?_, HN9.out.o.new HN9.out.n7 hoz⟩
                exact GotR.mkN HQ9.out ⟨_, _, rfl, HN9.out.after hoz⟩
              | yes n k =>
                obtain ⟨rfl, hr⟩ := hq.is_yes hx
                have HN9 := Lib.hid (HNr.out.most hr ho)
                have HH9 := Lib.hid (ho.at HGH.out.1 HHr.out); clear hr ho
                have hle := mostP_le hx
                have hle2 : (n : Int) ≤ 4294967295 := by unfold Top.W32 at hle; omega
                have HF := Lib.hid (HFL.out.trans (by rw [Top.fld_yes (by rw [HK.out]; rfl) hx, Top.shift_shift, rest_add]))
                have HLE := Lib.hid hle
                clear hx hq hle
                go_wp2_with (first
                  | ((with_reducible refine store_in rfl 40 _ _ rfl ge 4 98 _ (evC ⟨c.toNat, 0, 0, t0, n, t2⟩) (.int .u32 n) info40 HN9.out.e rfl ?_ ?_ ?_ ?_ ?_); (· rfl); (· rfl); (· simp); (· rfl); intro wa hwa hba hoa))
                have HNa := Lib.hid (HN9.out.set hba hoa)
                have HHa := Lib.hid (hoa.at HGH.out.2.1 HH9.out)
                clear hwa hba hoa
                go_wp2_with fail
                go_roundw
                case rel => exact ⟨2, 1, t0, n, t2, q + k, by omega, rfl, HNa.out, HHa.out, by have := HQQ.out; omega, ⟨HTB.out.1, by have := HLE.out; unfold Top.W32 at this; omega, HTB.out.2.2⟩, ⟨fun h => absurd h (by omega), fun h => absurd h (by omega), fun h => HTZ.out.2.2 (by omega)⟩, by rw [HF.out, show q - q2 + k = q + k - q2 by have := HQQ.out; omega]; rfl⟩
                case measure => simp [intOf]
          · obtain rfl : f = 1 := by omega
            have hix := idx277_2 ge wr
            have ci := cell_block HHr.out 2
            simp at ci
            cases h2
            · have HF := Lib.hid (HFL.out.trans (by rw [Top.fld_skip (by rw [HK.out]; rfl) (by rw [show t2 = 0 from HTZ.out.2.2 (by omega)]; rfl)]))
              go_wp2_with fail
              go_roundw
              case rel => exact ⟨3, 0, t0, t1, t2, q, by omega, rfl, HNr.out, HHr.out, HQQ.out, HTB.out, ⟨fun h => absurd h (by omega), fun h => HTZ.out.2.1 (by omega), fun h => HTZ.out.2.2 (by omega)⟩, HF.out⟩
              case measure => simp [intOf]
            · go_wp2_with fail
              refine (most_any _ b s q Top.W32 HNr.out.rd).mono ?_
              rintro e w9 ⟨hq, ho⟩
              cases hx : Top.mostP Top.W32 (rest s q) with
              | no er =>
                obtain ⟨rfl, hr⟩ := hq.is_no hx
                have HN9 := Lib.hid (HNr.out.most hr ho); clear hr ho
                have HF := Lib.hid (HFL.out.trans (by rw [Top.fld_no (by rw [HK.out]; rfl) hx]))
                have HQ9 := Lib.hid (HQ.out.trans (show _ = Top.Got.no er by unfold Top.seqP; rw [HX1.out]; simp only; rw [rest_add, HX2.out]; simp only; rw [rest_add, ← HQ2.out]; unfold Top.okP; rw [HF.out]; rfl))
                have hne : ¬ (er : Int) = 0 := by have := mostP_err hx; omega
                clear hx hq
                go_wp2_with (first
                  | ((with_reducible refine wpList_load_blk rfl 98 _ rfl ge 98 (evC ⟨c.toNat, 0, 0, t0, t1, t2⟩) _ ?_ HN9.out.e Tryz.underlying98 rfl (info98 _) ?_); (· rfl))
                  | ((with_reducible refine wpList_store_blk rfl 98 _ _ rfl (g + 1) 98 _ (evC ⟨c.toNat, 0, 0, t0, t1, t2⟩) ?_ ?_ HN9.out.z rfl (info98 _) (ones98 _) ?_); (· rfl); (· rfl); intro wz hbz hoz))
                refine bodyPost_ret (v := .tuple #[.agg (evC ⟨c.toNat, 0, 0, t0, t1, t2⟩), .int .i64 er]) (results_cell_row_tmp rfl _ _ (g + 1) 98 _ (0, 0) _ (by rfl) hbz Tryz.underlying98 rfl (info98 _) (by rfl)) rfl ⟨?_, HN9.out.o.new HN9.out.n7 hoz⟩
                exact GotR.mkN HQ9.out ⟨_, _, rfl, HN9.out.after hoz⟩
              | yes n k =>
                obtain ⟨rfl, hr⟩ := hq.is_yes hx
                have HN9 := Lib.hid (HNr.out.most hr ho)
                have HH9 := Lib.hid (ho.at HGH.out.1 HHr.out); clear hr ho
                have hle := mostP_le hx
                have hle2 : (n : Int) ≤ 4294967295 := by unfold Top.W32 at hle; omega
                have HF := Lib.hid (HFL.out.trans (by rw [Top.fld_yes (by rw [HK.out]; rfl) hx, Top.shift_shift, rest_add]))
                have HLE := Lib.hid hle
                clear hx hq hle
                go_wp2_with (first
                  | ((with_reducible refine store_in rfl 40 _ _ rfl ge 5 98 _ (evC ⟨c.toNat, 0, 0, t0, t1, n⟩) (.int .u32 n) info40 HN9.out.e rfl ?_ ?_ ?_ ?_ ?_); (· rfl); (· rfl); (· simp); (· rfl); intro wa hwa hba hoa))
                have HNa := Lib.hid (HN9.out.set hba hoa)
                have HHa := Lib.hid (hoa.at HGH.out.2.1 HH9.out)
                clear hwa hba hoa
                go_wp2_with fail
                go_roundw
                case rel => exact ⟨3, 0, t0, t1, n, q + k, by omega, rfl, HNa.out, HHa.out, by have := HQQ.out; omega, ⟨HTB.out.1, HTB.out.2.1, by have := HLE.out; unfold Top.W32 at this; omega⟩, ⟨fun h => absurd h (by omega), fun h => HTZ.out.2.1 (by omega), fun h => absurd h (by omega)⟩, by rw [HF.out, show q - q2 + k = q + k - q2 by have := HQQ.out; omega]; rfl⟩
                case measure => simp [intOf]
          · obtain rfl : f = 0 := by omega
            clear hif
            have HF := Lib.hid (HFL.out.trans (show _ = Top.Got.yes (t0, t1, t2) (q - q2) from rfl))
            have c1 := cell_block HNr.out.x 1
            have c2 := cell_block HNr.out.x 2
            simp at c1 c2
            have hb1 : (n1 : Int) ≤ 4294967295 := by have := HL1.out; unfold Top.W32 at this; omega
            have hu := unfold_bd n2 (by have := HL2.out; unfold Top.W32 at this; omega)
            go_wp2_with fail
            refine (unfold_any _ n2 (by have := HL2.out; unfold Top.W32 at this; omega)).mono ?_
            rintro _ _ ⟨rfl, rfl⟩
            obtain ⟨un, hun⟩ : ∃ un, un = Top.unfoldI n2 := ⟨_, rfl⟩
            rw [← hun] at hu ⊢
            have HUN := Lib.hid hun; clear hun
            have hu1 := hu.1
            have hu2 := hu.2
            clear hu
            obtain ⟨cn, hcn⟩ : ∃ cn, cn = (bf.count + n1) % Top.U64 := ⟨_, rfl⟩
            have HCN := Lib.hid (show IntKind.u64.wrap ((bf.count : Int) + n1) = (cn : Int) by rw [wrap_u64n, hcn]; unfold Top.U64; omega)
            obtain ⟨cc, hcc⟩ : ∃ cc, cc = (IntKind.u64.wrap ((bf.cycle : Int) + IntKind.u64.wrap ((n1 : Int) + un))).toNat := ⟨_, rfl⟩
            have HCC := Lib.hid (show IntKind.u64.wrap ((bf.cycle : Int) + IntKind.u64.wrap ((n1 : Int) + un)) = (cc : Int) by rw [hcc, wrap_u64n]; omega)
            have HE := Lib.hid (show 0 ≤ (n1 : Int) + un → Top.mkEv c.toNat bf.cycle bf.count n1 n2 t0 t1 t2 = if (n1 : Int) + Top.unfoldI n2 < 0 ∨ cn < bf.count ∨ cc < bf.cycle ∨ Top.evCheck ⟨c.toNat, cc, cn, t0, t1, t2⟩ ≠ 0 then .inl 5 else .inr ⟨c.toNat, cc, cn, t0, t1, t2⟩ by
              intro h0
              have e : ((bf.cycle : Int) + ((n1 : Int) + Top.unfoldI n2)).toNat % Top.U64 = cc := by
                rw [hcc, wrap_u64n, wrap_u64n, ← HUN.out]; unfold Top.U64; have := HCY.out; omega
              unfold Top.mkEv
              simp only [e, ← hcn])
            clear hcn hcc
            by_cases hgr : (n1 : Int) + un < 0
            · have HNO := Lib.hid (HQ.out.trans (show _ = Top.Got.no 5 by unfold Top.seqP; rw [HX1.out]; simp only; rw [rest_add, HX2.out]; simp only; rw [rest_add, ← HQ2.out]; unfold Top.okP; rw [HF.out]; simp only; rw [show Top.mkEv c.toNat bf.cycle bf.count n1 n2 t0 t1 t2 = .inl 5 from if_pos (.inl (by rw [← HUN.out]; exact hgr))]; rfl))
              go_wp2_with (first
                | ((with_reducible refine store_in rfl 53 _ _ rfl ge 2 98 _ (evC ⟨c.toNat, 0, cn, t0, t1, t2⟩) (.int .u64 (IntKind.u64.wrap ((bf.count : Int) + n1))) info53 HNr.out.e rfl ?_ ?_ ?_ ?_ ?_); (· rfl); (· rfl); (· simp); (· (rw [HCN.out]; rfl)); intro wa hwa hba hoa; have HNa := Lib.hid (HNr.out.set (ev' := ⟨c.toNat, 0, cn, t0, t1, t2⟩) hba hoa); have d1 := cell_block HNa.out.x 1; simp at d1; clear hwa hba hoa)
                | ((with_reducible refine store_in rfl 53 _ _ rfl ge 1 98 _ (evC ⟨c.toNat, cc, cn, t0, t1, t2⟩) (.int .u64 (IntKind.u64.wrap ((bf.cycle : Int) + IntKind.u64.wrap ((n1 : Int) + un)))) info53 HNa.out.e rfl ?_ ?_ ?_ ?_ ?_); (· rfl); (· rfl); (· simp); (· (rw [HCC.out]; rfl)); intro wb hwb hbb hob; have HNb := Lib.hid (HNa.out.set (ev' := ⟨c.toNat, cc, cn, t0, t1, t2⟩) hbb hob); have e1 := cell_block HNb.out.x 1; have e2 := cell_block HNb.out.x 2; have f1 := cell_block HNb.out.e 1; have f2 := cell_block HNb.out.e 2; simp at e1 e2 f1 f2; clear hwb hbb hob)
                | ((with_reducible refine wpList_load_blk rfl 98 _ rfl ge 98 (evC ⟨c.toNat, cc, cn, t0, t1, t2⟩) _ ?_ HNb.out.e Tryz.underlying98 rfl (info98 _) ?_); (· rfl))
                | ((with_reducible refine wpList_store_blk rfl 98 _ _ rfl (g + 1) 98 _ (evC ⟨c.toNat, cc, cn, t0, t1, t2⟩) ?_ ?_ HNb.out.z rfl (info98 _) (ones98 _) ?_); (· rfl); (· rfl); intro wz hbz hoz))
              refine bodyPost_ret (v := .tuple #[.agg (evC ⟨c.toNat, cc, cn, t0, t1, t2⟩), .int .i64 5]) (results_cell_row_tmp rfl _ _ (g + 1) 98 _ (0, 0) _ (by rfl) hbz Tryz.underlying98 rfl (info98 _) (by rfl)) rfl ⟨?_, HNb.out.o.new HNb.out.n7 hoz⟩
              exact GotR.mkN HNO.out ⟨_, _, rfl, HNb.out.after hoz⟩
            · have hgr0 : 0 ≤ (n1 : Int) + un := by omega
              have HCD := Lib.hid (show IntKind.u64.wrap ((bf.cycle : Int) + ((n1 : Int) + un)) = (cc : Int) by have h := HCC.out; rw [wrap_u64n ((n1 : Int) + un), Int.emod_eq_of_lt hgr0 (by omega)] at h; exact h)
              have HM := Lib.hid (HE.out hgr0); clear HE
              have HKN := Lib.hid (show (Top.mkEv c.toNat bf.cycle bf.count n1 n2 t0 t1 t2 = .inl 5 → Top.nextP bf.cycle bf.count (rest s p) = .no 5) ∧ (∀ ev, Top.mkEv c.toNat bf.cycle bf.count n1 n2 t0 t1 t2 = .inr ev → Top.nextP bf.cycle bf.count (rest s p) = .yes ev (q - p)) from
                ⟨fun hm => HQ.out.trans (by unfold Top.seqP; rw [HX1.out]; simp only; rw [rest_add, HX2.out]; simp only; rw [rest_add, ← HQ2.out]; unfold Top.okP; rw [HF.out]; simp only; rw [hm]; rfl),
                 fun ev hm => HQ.out.trans (by unfold Top.seqP; rw [HX1.out]; simp only; rw [rest_add, HX2.out]; simp only; rw [rest_add, ← HQ2.out]; unfold Top.okP; rw [HF.out]; simp only; rw [hm]; simp only [Top.Got.shift]; congr 1; have := HQ2.out; have := HQQ.out; omega)⟩)
              by_cases h2 : cn < bf.count
              · have h2i : (cn : Int) < bf.count := by omega
                have HNO := Lib.hid (HKN.out.1 (HM.out.trans (if_pos (.inr (.inl h2)))))
                go_wp2_with (first
                  | ((with_reducible refine store_in rfl 53 _ _ rfl ge 2 98 _ (evC ⟨c.toNat, 0, cn, t0, t1, t2⟩) (.int .u64 (IntKind.u64.wrap ((bf.count : Int) + n1))) info53 HNr.out.e rfl ?_ ?_ ?_ ?_ ?_); (· rfl); (· rfl); (· simp); (· (rw [HCN.out]; rfl)); intro wa hwa hba hoa; have HNa := Lib.hid (HNr.out.set (ev' := ⟨c.toNat, 0, cn, t0, t1, t2⟩) hba hoa); have d1 := cell_block HNa.out.x 1; simp at d1; clear hwa hba hoa)
                  | ((with_reducible refine store_in rfl 53 _ _ rfl ge 1 98 _ (evC ⟨c.toNat, cc, cn, t0, t1, t2⟩) (.int .u64 (IntKind.u64.wrap ((bf.cycle : Int) + ((n1 : Int) + un)))) info53 HNa.out.e rfl ?_ ?_ ?_ ?_ ?_); (· rfl); (· rfl); (· simp); (· (rw [HCD.out]; rfl)); intro wb hwb hbb hob; have HNb := Lib.hid (HNa.out.set (ev' := ⟨c.toNat, cc, cn, t0, t1, t2⟩) hbb hob); have e1 := cell_block HNb.out.x 1; have e2 := cell_block HNb.out.x 2; have f1 := cell_block HNb.out.e 1; have f2 := cell_block HNb.out.e 2; simp at e1 e2 f1 f2; clear hwb hbb hob)
                  | ((with_reducible refine wpList_load_blk rfl 98 _ rfl ge 98 (evC ⟨c.toNat, cc, cn, t0, t1, t2⟩) _ ?_ HNb.out.e Tryz.underlying98 rfl (info98 _) ?_); (· rfl))
                  | ((with_reducible refine wpList_store_blk rfl 98 _ _ rfl (g + 1) 98 _ (evC ⟨c.toNat, cc, cn, t0, t1, t2⟩) ?_ ?_ HNb.out.z rfl (info98 _) (ones98 _) ?_); (· rfl); (· rfl); intro wz hbz hoz))
                refine bodyPost_ret (v := .tuple #[.agg (evC ⟨c.toNat, cc, cn, t0, t1, t2⟩), .int .i64 5]) (results_cell_row_tmp rfl _ _ (g + 1) 98 _ (0, 0) _ (by rfl) hbz Tryz.underlying98 rfl (info98 _) (by rfl)) rfl ⟨?_, HNb.out.o.new HNb.out.n7 hoz⟩
                exact GotR.mkN HNO.out ⟨_, _, rfl, HNb.out.after hoz⟩
              · have h2i : ¬ (cn : Int) < bf.count := by omega
                by_cases h3 : cc < bf.cycle
                · have h3i : (cc : Int) < bf.cycle := by omega
                  have HNO := Lib.hid (HKN.out.1 (HM.out.trans (if_pos (.inr (.inr (.inl h3))))))
                  go_wp2_with (first
                    | ((with_reducible refine store_in rfl 53 _ _ rfl ge 2 98 _ (evC ⟨c.toNat, 0, cn, t0, t1, t2⟩) (.int .u64 (IntKind.u64.wrap ((bf.count : Int) + n1))) info53 HNr.out.e rfl ?_ ?_ ?_ ?_ ?_); (· rfl); (· rfl); (· simp); (· (rw [HCN.out]; rfl)); intro wa hwa hba hoa; have HNa := Lib.hid (HNr.out.set (ev' := ⟨c.toNat, 0, cn, t0, t1, t2⟩) hba hoa); have d1 := cell_block HNa.out.x 1; simp at d1; clear hwa hba hoa)
                    | ((with_reducible refine store_in rfl 53 _ _ rfl ge 1 98 _ (evC ⟨c.toNat, cc, cn, t0, t1, t2⟩) (.int .u64 (IntKind.u64.wrap ((bf.cycle : Int) + ((n1 : Int) + un)))) info53 HNa.out.e rfl ?_ ?_ ?_ ?_ ?_); (· rfl); (· rfl); (· simp); (· (rw [HCD.out]; rfl)); intro wb hwb hbb hob; have HNb := Lib.hid (HNa.out.set (ev' := ⟨c.toNat, cc, cn, t0, t1, t2⟩) hbb hob); have e1 := cell_block HNb.out.x 1; have e2 := cell_block HNb.out.x 2; have f1 := cell_block HNb.out.e 1; have f2 := cell_block HNb.out.e 2; simp at e1 e2 f1 f2; clear hwb hbb hob)
                    | ((with_reducible refine wpList_load_blk rfl 98 _ rfl ge 98 (evC ⟨c.toNat, cc, cn, t0, t1, t2⟩) _ ?_ HNb.out.e Tryz.underlying98 rfl (info98 _) ?_); (· rfl))
                    | ((with_reducible refine wpList_store_blk rfl 98 _ _ rfl (g + 1) 98 _ (evC ⟨c.toNat, cc, cn, t0, t1, t2⟩) ?_ ?_ HNb.out.z rfl (info98 _) (ones98 _) ?_); (· rfl); (· rfl); intro wz hbz hoz))
                  refine bodyPost_ret (v := .tuple #[.agg (evC ⟨c.toNat, cc, cn, t0, t1, t2⟩), .int .i64 5]) (results_cell_row_tmp rfl _ _ (g + 1) 98 _ (0, 0) _ (by rfl) hbz Tryz.underlying98 rfl (info98 _) (by rfl)) rfl ⟨?_, HNb.out.o.new HNb.out.n7 hoz⟩
                  exact GotR.mkN HNO.out ⟨_, _, rfl, HNb.out.after hoz⟩
                · have h3i : ¬ (cc : Int) < bf.cycle := by omega
                  go_wp2_with (first
                    | ((with_reducible refine store_in rfl 53 _ _ rfl ge 2 98 _ (evC ⟨c.toNat, 0, cn, t0, t1, t2⟩) (.int .u64 (IntKind.u64.wrap ((bf.count : Int) + n1))) info53 HNr.out.e rfl ?_ ?_ ?_ ?_ ?_); (· rfl); (· rfl); (· simp); (· (rw [HCN.out]; rfl)); intro wa hwa hba hoa; have HNa := Lib.hid (HNr.out.set (ev' := ⟨c.toNat, 0, cn, t0, t1, t2⟩) hba hoa); have d1 := cell_block HNa.out.x 1; simp at d1; clear hwa hba hoa)
                    | ((with_reducible refine store_in rfl 53 _ _ rfl ge 1 98 _ (evC ⟨c.toNat, cc, cn, t0, t1, t2⟩) (.int .u64 (IntKind.u64.wrap ((bf.cycle : Int) + ((n1 : Int) + un)))) info53 HNa.out.e rfl ?_ ?_ ?_ ?_ ?_); (· rfl); (· rfl); (· simp); (· (rw [HCD.out]; rfl)); intro wb hwb hbb hob; have HNb := Lib.hid (HNa.out.set (ev' := ⟨c.toNat, cc, cn, t0, t1, t2⟩) hbb hob); have e1 := cell_block HNb.out.x 1; have e2 := cell_block HNb.out.x 2; have f1 := cell_block HNb.out.e 1; have f2 := cell_block HNb.out.e 2; have f0 := cell_block HNb.out.e 0; have f3 := cell_block HNb.out.e 3; have f4 := cell_block HNb.out.e 4; have f5 := cell_block HNb.out.e 5; simp at e1 e2 f0 f1 f2 f3 f4 f5; clear hwb hbb hob))
                  refine (check_any _ ⟨c.toNat, cc, cn, t0, t1, t2⟩).mono ?_
                  rintro _ w9 ⟨rfl, hg⟩
                  replace HNb := Lib.hid (HNb.out.grow hg); clear hg e1 e2 f0 f1 f2 f3 f4 f5
                  by_cases h4 : Top.evCheck ⟨c.toNat, cc, cn, t0, t1, t2⟩ = 0
                  · have HYES := Lib.hid (HKN.out.2 _ (HM.out.trans (if_neg (by rw [← HUN.out]; intro h; rcases h with h | h | h | h; exact absurd h (by omega); exact h2 h; exact h3 h; exact h h4))))
                    rw [h4]
                    go_wp2_with (first
                      | ((with_reducible refine wpList_load_blk rfl 98 _ rfl ge 98 (evC ⟨c.toNat, cc, cn, t0, t1, t2⟩) _ ?_ HNb.out.e Tryz.underlying98 rfl (info98 _) ?_); (· rfl))
                      | ((with_reducible refine wpList_store_blk rfl 98 _ _ rfl (g + 1) 98 _ (evC ⟨c.toNat, cc, cn, t0, t1, t2⟩) ?_ ?_ HNb.out.z rfl (info98 _) (ones98 _) ?_); (· rfl); (· rfl); intro wz hbz hoz))
                    refine bodyPost_ret (v := .tuple #[.agg (evC ⟨c.toNat, cc, cn, t0, t1, t2⟩), .int .i64 0]) (results_cell_row_tmp rfl _ _ (g + 1) 98 _ (0, 0) _ (by rfl) hbz Tryz.underlying98 rfl (info98 _) (by rfl)) rfl ⟨?_, HNb.out.o.new HNb.out.n7 hoz⟩
                    exact GotR.mkY HYES.out ⟨rfl, by rw [show p + (q - p) = q by have := HQ2.out; have := HQQ.out; omega]; exact HNb.out.after hoz⟩
                  · have HNO := Lib.hid (HKN.out.1 (HM.out.trans (if_pos (.inr (.inr (.inr h4))))))
                    generalize Top.evCheck ⟨c.toNat, cc, cn, t0, t1, t2⟩ = ck at h4 ⊢
                    have h4i : ¬ (ck : Int) = 0 := by omega
                    have h4b : ((ck : Int) != 0) = true := by simpa using h4
                    go_wp2_with (first
                      | ((with_reducible refine wpList_load_blk rfl 98 _ rfl ge 98 (evC ⟨c.toNat, cc, cn, t0, t1, t2⟩) _ ?_ HNb.out.e Tryz.underlying98 rfl (info98 _) ?_); (· rfl))
                      | ((with_reducible refine wpList_store_blk rfl 98 _ _ rfl (g + 1) 98 _ (evC ⟨c.toNat, cc, cn, t0, t1, t2⟩) ?_ ?_ HNb.out.z rfl (info98 _) (ones98 _) ?_); (· rfl); (· rfl); intro wz hbz hoz))
                    refine bodyPost_ret (v := .tuple #[.agg (evC ⟨c.toNat, cc, cn, t0, t1, t2⟩), .int .i64 5]) (results_cell_row_tmp rfl _ _ (g + 1) 98 _ (0, 0) _ (by rfl) hbz Tryz.underlying98 rfl (info98 _) (by rfl)) rfl ⟨?_, HNb.out.o.new HNb.out.n7 hoz⟩
                    exact GotR.mkN HNO.out ⟨_, _, rfl, HNb.out.after hoz⟩
end Go.Proofs.YtnhmdinpfcoebaaGreatDoor
end

/-! === Read -/
section
/- The events that some bytes are: the walk. -/
namespace Go.Proofs.YtnhmdinpfcoebaaGreatDoor
open Go.RowKit
set_option linter.unusedVariables false
set_option linter.unusedSimpArgs false
set_option maxRecDepth 100000

abbrev evL (e : Top.Ev) : List Value := [.int .i64 e.kind, .int .u64 e.cycle, .int .u64 e.count, .int .u32 e.a, .int .u32 e.b, .int .u32 e.v]
def evsC : List Top.Ev → List Value
  | [] => []
  | e :: l => evL e ++ evsC l
theorem evsC_append : ∀ l m, evsC (l ++ m) = evsC l ++ evsC m
  | [], m => rfl
  | e :: l, m => by rw [List.cons_append, evsC, evsC, evsC_append l m, List.append_assoc]
theorem evsC_len : ∀ l, (evsC l).length = l.length * 6
  | [] => rfl
  | e :: l => by rw [evsC, List.length_append, evsC_len l, show (e :: l).length = l.length + 1 from rfl, Nat.succ_mul]; show 6 + l.length * 6 = _; omega
theorem info98z : (Tryz.prog.info? 98).map (fun i => (i.zero, i.size, i.bytes)) = some (some (.agg #[.int .i64 0, .int .u64 0, .int .u64 0, .int .u32 0, .int .u32 0, .int .u32 0]), 6, 40) := by kernel_rfl
theorem info_parts {o : Option TypeInfo} {z : Option Value} {s b : Nat} (h : o.map (fun i => (i.zero, i.size, i.bytes)) = some (z, s, b)) : ∃ i, o = some i ∧ i.zero = z ∧ i.size = s ∧ i.bytes = b := by
  cases o with
  | none => cases h
  | some i =>
    simp at h
    exact ⟨i, rfl, h.1, h.2.1, h.2.2⟩
theorem mkEv_bd {kind cycle count step fold a b v : Nat} {e : Top.Ev} (h : Top.mkEv kind cycle count step fold a b v = .inr e) : e.cycle < 2 ^ 64 ∧ e.count < 2 ^ 64 := by
  unfold Top.mkEv at h
  simp only at h
  split at h
  · cases h
  · injection h with h
    subst h
    exact ⟨Nat.mod_lt _ (by decide), Nat.mod_lt _ (by decide)⟩
theorem mkEv_err {kind cycle count step fold a b v er : Nat} (h : Top.mkEv kind cycle count step fold a b v = .inl er) : er ≠ 0 := by
  unfold Top.mkEv at h
  simp only at h
  split at h
  · injection h with h; omega
  · cases h
theorem fldL_err (h : Nat → Bool) : ∀ (f i : Nat) (t : Nat × Nat × Nat) (l : Top.Bytes) (er : Nat), Top.fldL h f i t l = .no er → er ≠ 0
  | 0, i, t, l, er, hh => by simp [Top.fldL] at hh
  | f + 1, i, t, l, er, hh => by
    rw [Top.fldL] at hh
    cases h1 : Top.optP (h i) l with
    | no e =>
      rw [h1] at hh
      injection hh with hh
      subst hh
      unfold Top.optP at h1
      split at h1
      · exact mostP_err h1
      · cases h1
    | yes n j =>
      rw [h1] at hh
      exact fldL_err h f _ _ _ _ (Top.shift_no hh)
theorem nextP_bd {cy co : Nat} {l : Top.Bytes} {e : Top.Ev} {k : Nat} (h : Top.nextP cy co l = .yes e k) : (e.cycle < 2 ^ 64 ∧ e.count < 2 ^ 64) ∧ 1 ≤ k ∧ k ≤ l.length := by
  cases l with
  | nil => simp [Top.nextP] at h
  | cons c t =>
    rw [Top.nextP_eq] at h
    split at h
    · cases h
    · obtain ⟨j, h1, h2⟩ := Top.shift_yes h
      obtain ⟨a, j1, q1, h3, h4, h5⟩ := Top.seqP_yes h1
      obtain ⟨b, j2, q2, h6, h7, h8⟩ := Top.seqP_yes h4
      obtain ⟨x, h9, h10⟩ := Top.okP_yes h7
      have l1 := (Top.mostP_reads _).len _ _ _ h3
      have l2 := (Top.mostP_reads _).len _ _ _ h6
      have l3 := Top.fldL_len _ _ _ _ _ _ _ h9
      rw [List.length_drop] at l2
      rw [List.length_drop, List.length_drop] at l3
      exact ⟨mkEv_bd h10, by omega, by simp only [List.length_cons]; omega⟩
theorem nextP_err {cy co : Nat} {l : Top.Bytes} {er : Nat} (h : Top.nextP cy co l = .no er) : er ≠ 0 := by
  cases l with
  | nil => simp [Top.nextP] at h; omega
  | cons c t =>
    rw [Top.nextP_eq] at h
    split at h
    · injection h with h; omega
    · rcases Top.seqP_no (Top.shift_no h) with h1 | ⟨a, j, _, h1⟩
      · exact mostP_err h1
      · rcases Top.seqP_no h1 with h1 | ⟨a2, j2, _, h1⟩
        · exact mostP_err h1
        · rcases Top.okP_no h1 with h1 | ⟨x, k, _, h1⟩
          · exact fldL_err _ _ _ _ _ _ h1
          · exact mkEv_err h1
theorem own_low {w w' : World} {B s n b : Nat} {e : TypeId} {v : Value} {xs : List Value} (h : w.ownsRow B e s v n xs) (ho : Only b w w') (hb : b < B) : w'.ownsRow B e s v n xs :=
  own_keep h fun k hk => ho.2.2.2.2 k (h.lt k hk).2 (by have := (h.lt k hk).1; omega)
/-- The world while events are read: the reader's block, the last event's, what was read so far. -/
structure RX (w wr : World) (s : ByteArray) (r g B q : Nat) (v : Value) (bf : Top.Ev) (L : List Top.Ev) : Prop where
  rd : RdAt wr r s q
  b : wr.heap[g]? = some (.cells (evC bf) 98 (0, 0))
  own : wr.ownsRow B 98 6 v L.length (evsC L)
  grow : Grow w wr
  n1 : r ≠ g
  n2 : r < B
  n3 : g < B
  n4 : w.heap.size ≤ r
  n5 : w.heap.size ≤ g
  n6 : B ≤ wr.heap.size
  cy : bf.cycle < 2 ^ 64
  co : bf.count < 2 ^ 64
  len : L.length ≤ q
attribute [local irreducible] GotR
def ReadR (x : Nat ⊕ List Top.Ev) (w : World) (e : Ending) (w' : World) : Prop := match x with
  | .inl er => e = .returned (.tuple #[.slice none 0 0, .int .i64 er]) ∧ er ≠ 0
  | .inr es => ∃ v, e = .returned (.tuple #[v, .int .i64 0]) ∧ w'.ownsRow w.heap.size 98 6 v es.length (evsC es)
theorem ReadR.mkN {x : Nat ⊕ List Top.Ev} {w w' : World} {e : Ending} {er : Nat} (h : x = .inl er) (he : e = .returned (.tuple #[.slice none 0 0, .int .i64 er])) (h0 : er ≠ 0) : ReadR x w e w' := by subst h; exact ⟨he, h0⟩
theorem ReadR.mkY {x : Nat ⊕ List Top.Ev} {w w' : World} {e : Ending} {es : List Top.Ev} {v : Value} (h : x = .inr es) (he : e = .returned (.tuple #[v, .int .i64 0])) (ho : w'.ownsRow w.heap.size 98 6 v es.length (evsC es)) : ReadR x w e w' := by subst h; exact ⟨v, he, ho⟩
theorem ReadR.is_no {x : Nat ⊕ List Top.Ev} {w w' : World} {e : Ending} {er : Nat} (h : ReadR x w e w') (hx : x = .inl er) : e = .returned (.tuple #[.slice none 0 0, .int .i64 er]) ∧ er ≠ 0 := by subst hx; exact h
theorem ReadR.is_yes {x : Nat ⊕ List Top.Ev} {w w' : World} {e : Ending} {es : List Top.Ev} (h : ReadR x w e w') (hx : x = .inr es) : ∃ v, e = .returned (.tuple #[v, .int .i64 0]) ∧ w'.ownsRow w.heap.size 98 6 v es.length (evsC es) := by subst hx; exact h
attribute [local irreducible] ReadR
def addL (L : List Top.Ev) (x : Nat ⊕ List Top.Ev) : Nat ⊕ List Top.Ev := match x with
  | .inl e => .inl e
  | .inr es => .inr (L ++ es)
theorem readL_more (f cy co : Nat) (l : Top.Bytes) (hl : l ≠ []) (hf : l.length ≤ f + 1) {ev : Top.Ev} {k : Nat} (h : Top.nextP cy co l = .yes ev k) : Top.readL (f + 1) cy co l = addL [ev] (Top.readL f ev.cycle ev.count (l.drop k)) := by
  rw [Top.readL, if_neg hl, h]
  simp only
  cases Top.readL f ev.cycle ev.count (l.drop k) <;> rfl
theorem addL_addL (L M : List Top.Ev) (x : Nat ⊕ List Top.Ev) : addL L (addL M x) = addL (L ++ M) x := by
  cases x with
  | inl e => rfl
  | inr es => simp [addL]
theorem RX.grown {w wr w' : World} {s : ByteArray} {r g B q : Nat} {v : Value} {bf : Top.Ev} {L : List Top.Ev} (h : RX w wr s r g B q v bf L) (hg : Grow wr w') : RX w w' s r g B q v bf L :=
  ⟨h.rd.grow hg, hg.at h.b, own_grow h.own hg, h.grow.trans hg, h.n1, h.n2, h.n3, h.n4, h.n5, Nat.le_trans h.n6 hg.size, h.cy, h.co, h.len⟩
theorem RX.read {w wr w' : World} {s : ByteArray} {r g B q q' : Nat} {v : Value} {bf : Top.Ev} {L : List Top.Ev} (h : RX w wr s r g B q v bf L) (ho : Only r wr w') (hr : RdAt w' r s q') (hq : q ≤ q') : RX w w' s r g B q' v bf L :=
  ⟨hr, ho.at h.n1.symm h.b, own_low h.own ho h.n2, h.grow.only ho h.n4, h.n1, h.n2, h.n3, h.n4, h.n5, Nat.le_trans h.n6 ho.2.2.2.1, h.cy, h.co, Nat.le_trans h.len hq⟩
theorem RX.app {w wr w' : World} {s : ByteArray} {r g B q m : Nat} {v v' : Value} {bf : Top.Ev} {L M : List Top.Ev} (h : RX w wr s r g B q v bf L) (hg : wr.grownBy w' v.ownBlock) (ho : w'.ownsRow B 98 6 v' m (evsC M)) (hm : m = M.length) (hl : M.length ≤ q) : RX w w' s r g B q v' bf M := by
  have hr : ∀ k, v.ownBlock = some k → B ≤ k := fun k hk => (h.own.lt k hk).1
  have hb : Below B wr w' := below_grown hg h.n6 hr
  have hk : ∀ k, k < B → w'.heap[k]? = wr.heap[k]? := fun k hk => hb.block k hk
  subst hm
  exact ⟨⟨(hk r h.n2).trans h.rd.1, h.rd.2⟩, (hk g h.n3).trans h.b, ho, Below.trans h.grow (hb.mono (by have := h.n2; have := h.n4; omega)), h.n1, h.n2, h.n3, h.n4, h.n5, Nat.le_trans h.n6 hb.size, h.cy, h.co, hl⟩
theorem RX.step {w wr w' : World} {s : ByteArray} {r g B q : Nat} {v : Value} {bf ev : Top.Ev} {L : List Top.Ev} (h : RX w wr s r g B q v bf L) (ho : Only g wr w') (hb : w'.heap[g]? = some (.cells (evC ev) 98 (0, 0))) (h1 : ev.cycle < 2 ^ 64) (h2 : ev.count < 2 ^ 64) : RX w w' s r g B q v ev L :=
  ⟨⟨ho.at h.n1 h.rd.1, h.rd.2⟩, hb, own_low h.own ho h.n3, h.grow.only ho h.n5, h.n1, h.n2, h.n3, h.n4, h.n5, Nat.le_trans h.n6 ho.2.2.2.1, h1, h2, h.len⟩
theorem evL_one (e : Top.Ev) : ∀ u ∈ evL e, u.oneCell' = true := by
  intro u hu
  simp only [List.mem_cons, List.not_mem_nil, or_false] at hu
  rcases hu with rfl | rfl | rfl | rfl | rfl | rfl <;> rfl
theorem reads_ev {w : World} {b : Nat} {e : Top.Ev} {fr : Nat × Nat} (h : w.heap[b]? = some (.cells (evC e) 98 fr)) : Reads w w.heap.size 6 (some ⟨b, 0, none⟩) 1 (evL e) :=
  ⟨rfl, fun _ => ⟨_, rfl, heapAt_lt h, fun j u hu => by
    have e8 : (⟨b, 0, none⟩ : Addr).add j = ⟨b, j, none⟩ := by unfold Addr.add; split <;> simp_all
    rw [e8, cell_block h j, ← hu]
    exact (Array.getElem?_toList (xs := evC e) (i := j)).symm⟩⟩
set_option maxHeartbeats 4000000 in
theorem read_any (w : World) (cy co : Nat) (s : ByteArray) (hcy : cy < 2 ^ 64) (hco : co < 2 ^ 64) (hs : s.size ≤ 100000) : Calls Tryz.prog 73 #[.int .u64 cy, .int .u64 co, .string s] w fun e w' => ReadR (Top.readP cy co (rest s 0)) w e w' ∧ Grow w w' := by
  have HS := Lib.hid hs; clear hs
  have HCY := Lib.hid hcy; clear hcy
  have HCO := Lib.hid hco; clear hco
  obtain ⟨i0, hi, hz0, hz1, hz2⟩ := info_parts info98z
  have HI0 := Lib.hid hi; clear hi
  have HZ0 := Lib.hid hz0; clear hz0
  have HZ1 := Lib.hid hz1; clear hz1
  have HZ2 := Lib.hid hz2; clear hz2
  go_enter Tryz.func73, Tryz.ntmps73
  go_wp2_with fail
  refine (new_any _ s (by have := HS.out; omega)).mono ?_
  rintro _ w1 ⟨rfl, h1, h2⟩
  have HR1 := Lib.hid h1; clear h1
  have HG1 := Lib.hid h2; clear h2
  have HLT := Lib.hid (heapAt_lt HR1.out.1)
  go_wp2_with fail
  have HX := Lib.hid (show RX w (w1.alloc (.cells #[.int .i64 0, .int .u64 cy, .int .u64 co, .int .u32 0, .int .u32 0, .int .u32 0] 98)) s w.heap.size w1.heap.size (w1.heap.size + 1) 0 (.slice none 0 0) ⟨0, cy, co, 0, 0, 0⟩ [] from
    ⟨HR1.out.grow (Grow.alloc _ _), heapAt_alloc_new _ _, World.ownsRow_nil _ _ _ _, HG1.out.trans (Grow.alloc _ _), by have := HLT.out; omega, by have := HLT.out; omega, by omega, Nat.le_refl _, HG1.out.size, by simp, HCY.out, HCO.out, Nat.le_refl _⟩)
  clear HR1 HG1
  generalize w1.alloc (.cells #[.int .i64 0, .int .u64 cy, .int .u64 co, .int .u32 0, .int .u32 0, .int .u32 0] 98) = w2 at HX ⊢
  obtain ⟨r, hr⟩ : ∃ r, r = w.heap.size := ⟨_, rfl⟩
  rw [← hr] at HX ⊢
  have HRE := Lib.hid hr; clear hr
  have HGE := Lib.hid HLT.out; clear HLT
  obtain ⟨B, hB⟩ : ∃ B, B = w1.heap.size + 1 := ⟨_, rfl⟩
  rw [← hB] at HX
  clear hB
  generalize w1.heap.size = g at HX HGE ⊢
  go_loopw [10] (fun v wr => ∃ (q f : Nat) (bf : Top.Ev) (L : List Top.Ev), RX w wr s r g B q v bf L ∧ (rest s q).length ≤ f ∧ Top.readP cy co (rest s 0) = addL L (Top.readL f bf.cycle bf.count (rest s q))) (fun _ wr => s.size - (intOf ((wr.cell? ⟨r, 1, none⟩).getD undef)).toNat)
  case atStart => exact ⟨0, _, _, [], HX.out, Nat.le_refl _, by unfold Top.readP; cases Top.readL (rest s 0).length cy co (rest s 0) <;> rfl⟩
  case round =>
    obtain ⟨q, f, bf, L, hx, hf, hq⟩ := hrel
    have HM := Lib.hid (show s.size - (intOf ((wr.cell? ⟨r, 1, none⟩).getD undef)).toNat = s.size - q by rw [cell_block hx.rd.1]; simp [intOf])
    have HX := Lib.hid hx; clear hx
    have HF := Lib.hid hf; clear hf
    have HQ := Lib.hid hq; clear hq
    go_wp2_with fail
    refine (left_any _ r s q HX.out.rd).mono ?_
    rintro _ w3 ⟨rfl, hg⟩
    have HX1 := Lib.hid (HX.out.grown hg); clear hg
    by_cases hlt : q < s.size
    · have hgt : (0 : Int) < ((s.size - q : Nat) : Int) := by omega
      have hgt2 : 0 < s.size - q := by omega
      go_wp2_with (first | ((with_reducible refine wpList_load_blk rfl 98 _ rfl g 98 (evC bf) _ ?_ HX1.out.b Tryz.underlying98 rfl (info98 _) ?_); (· rfl)))
      refine (next_any _ r s q bf HX1.out.rd hlt HX1.out.cy HX1.out.co).mono ?_
      rintro e w4 ⟨hq4, ho⟩
      cases hn : Top.nextP bf.cycle bf.count (rest s q) with
      | no er =>
        obtain ⟨X, q4, rfl, hr4⟩ := hq4.is_no hn
        have hne : ¬ (er : Int) = 0 := by have := nextP_err hn; omega
        have hne2 : ((er : Int) != 0) = true := by simpa using hne
        have HG := Lib.hid (HX1.out.grow.only ho HX1.out.n4); clear ho hr4 hq4
        obtain ⟨f2, hf2⟩ : ∃ f2, f = f2 + 1 := ⟨f - 1, by have := HF.out; rw [rest_len] at this; omega⟩
        have HE := Lib.hid (HQ.out.trans (show addL L (Top.readL f bf.cycle bf.count (rest s q)) = .inl er by
          subst hf2
          rw [Top.readL, if_neg (by intro h; have h2 := congrArg List.length h; rw [rest_len] at h2; simp at h2; omega), hn]; rfl))
        have HER := Lib.hid (nextP_err hn)
        clear hn hf2
        go_wp2
        go_ret2
        exact ⟨ReadR.mkN HE.out rfl HER.out, HG.out.trans (Grow.alloc _ _)⟩
      | yes ev k =>
        obtain ⟨rfl, hr4⟩ := hq4.is_yes hn
        have HB := Lib.hid (nextP_bd hn)
        have hk1 : 1 ≤ k := HB.out.2.1
        have hkq : q + k ≤ s.size := by have := HB.out.2.2; rw [rest_len] at this; omega
        have HX2 := Lib.hid (HX1.out.read ho hr4 (by omega : q ≤ q + k)); clear ho hr4 hq4
        obtain ⟨f2, hf2⟩ : ∃ f2, f = f2 + 1 := ⟨f - 1, by have := HF.out; rw [rest_len] at this; omega⟩
        have HE := Lib.hid (HQ.out.trans (show addL L (Top.readL f bf.cycle bf.count (rest s q)) = addL (L ++ [ev]) (Top.readL f2 ev.cycle ev.count (rest s (q + k))) by
          subst hf2
          rw [readL_more f2 _ _ _ (by intro h; have h2 := congrArg List.length h; rw [rest_len] at h2; simp at h2; omega) HF.out hn, addL_addL, rest_add]))
        have HF2 := Lib.hid (show (rest s (q + k)).length ≤ f2 by have := HF.out; rw [rest_len] at this ⊢; omega)
        clear hn hf2
        have HBX := Lib.hid (heapAt_alloc_new w4 (.cells (evC ev) 98))
        have HX3 := Lib.hid (HX2.out.grown (Grow.alloc w4 (.cells (evC ev) 98)))
        have HLT := Lib.hid (show B ≤ w4.heap.size from HX2.out.n6)
        have HLQ := Lib.hid (show L.length ≤ q from HX.out.len)
        clear hgt hgt2 hk1
        have HX4 := Lib.hid (HX3.out.grown (Grow.alloc (w4.alloc (.cells (evC ev) 98)) (.cells (evC ev) 98)))
        have HR4 := Lib.hid (show Reads ((w4.alloc (.cells (evC ev) 98)).alloc (.cells (evC ev) 98)) ((w4.alloc (.cells (evC ev) 98)).alloc (.cells (evC ev) 98)).heap.size 6 (some ⟨w4.heap.size + 1, 0, none⟩) 1 (evL ev) by
          have h := reads_ev (heapAt_alloc_new (w4.alloc (.cells (evC ev) 98)) (.cells (evC ev) 98))
          rwa [show (w4.alloc (.cells (evC ev) 98)).heap.size = w4.heap.size + 1 by simp] at h)
        have HB4 := Lib.hid (show ((w4.alloc (.cells (evC ev) 98)).alloc (.cells (evC ev) 98)).heap[w4.heap.size]? = some (.cells (evC ev) 98 (0, 0)) from (heapAt_alloc_old _ _ (heapAt_lt HBX.out)).trans HBX.out)
        go_wp2_with (at_builtin; refine wpList_append_any _ rfl (.tmp 30) (.tmp 32) 41 rfl B 98 i0 _ 6 40 Tryz.underlying41 HI0.out HZ0.out HZ1.out HZ2.out rfl (by decide) _ L.length (evsC L) (by rfl) HX4.out.own _ (some ⟨w4.heap.size + 1, 0, none⟩) 1 1 (evL ev) (by rfl) HR4.out (evL_one ev) ?c4 ?c5 ?c6 ?c7)
        case c4 => have h1 := HX4.out.len; have h2 := HS.out; unfold maxLen; omega
        case c5 => have h1 := HX4.out.len; have h2 := HS.out; omega
        case c6 => exact HX4.out.n6
        case c7 =>
          intro v' w5 hown hgr hblk
          have HX5 := Lib.hid (HX4.out.app (M := L ++ [ev]) hgr (by rw [evsC_append]; exact hown) (by simp) (by have := HX3.out.len; have := HB.out.2.1; rw [List.length_append]; have := HLQ.out; simp; omega))
          have HB5 := Lib.hid (show w5.heap[w4.heap.size]? = some (.cells (evC ev) 98 (0, 0)) from (hgr.block _ (heapAt_lt HB4.out) (fun e => by have := (HX2.out.own.lt _ e.symm).2; omega)).trans HB4.out)
          clear hown hgr hblk
          go_wp2_with (first
            | ((with_reducible refine wpList_load_blk rfl 98 _ rfl w4.heap.size 98 (evC ev) _ ?_ HB5.out Tryz.underlying98 rfl (info98 _) ?_); (· rfl))
            | ((with_reducible refine wpList_store_blk rfl 98 _ _ rfl g 98 _ (evC ev) ?_ ?_ HX5.out.b rfl (info98 _) (ones98 _) ?_); (· rfl); (· rfl); intro w6 hb6 ho6))
          have HX6 := Lib.hid (HX5.out.step ho6 hb6 HB.out.1.1 HB.out.1.2); clear hb6 ho6
          simp only [Act.put, List.setIfInBounds_toArray, List.set_cons_zero, List.set_cons_succ]
          go_roundw
          case rel => exact ⟨q + k, f2, ev, L ++ [ev], HX6.out, HF2.out, HE.out⟩
          case measure => rw [cell_block HX6.out.rd.1, HM.out]; have := HB.out.2.1; simp [intOf]; omega
    · have hle : ¬ (0 : Int) < ((s.size - q : Nat) : Int) := by omega
      have hle2 : s.size - q = 0 := by omega
      have HE := Lib.hid (HQ.out.trans (show addL L (Top.readL f bf.cycle bf.count (rest s q)) = .inr L by
        rw [rest_ge s q (by omega)]
        cases f <;> simp [Top.readL, addL]))
      go_wp2
      go_ret2
      exact ⟨ReadR.mkY HE.out rfl (own_mono HX1.out.own (by have := HX1.out.n2; have := HX1.out.n4; omega)), HX1.out.grow⟩
end Go.Proofs.YtnhmdinpfcoebaaGreatDoor
end

/-! === Crc -/
section
/- The table of sums, and sums: the walks. -/
namespace Go.Proofs.YtnhmdinpfcoebaaGreatDoor
open Go.RowKit
set_option linter.unusedVariables false
set_option linter.unusedSimpArgs false
set_option maxRecDepth 100000


def zeros (n : Nat) : Array Value := Array.replicate n (.int .u32 0)
theorem zero90 (w : World) : (zeroValue 90).run Tryz.prog w = .ok (.agg (zeros 256)) w := by kernel_rfl

/-- Word i of the table. -/
def tw (i : Nat) : BitVec 32 := CrcP.shN 8 (BitVec.ofNat 32 i)
def tab (k : Nat) : Array Value := Array.ofFn (n := 256) fun i => if i.val < k then .int .u32 (tw i.val).toNat else .int .u32 0

theorem tab_get (k : Nat) (h : k < 256) : (tab k)[k]? = some (.int .u32 0) := by
  simp [tab, h]
theorem tab_size (k : Nat) : (tab k).size = 256 := by simp [tab]
theorem tab_set (k : Nat) (h : k < 256) : (tab k).setIfInBounds k (.int .u32 (tw k).toNat) = tab (k + 1) := by
  apply Array.ext_getElem?
  intro i
  rw [Array.getElem?_setIfInBounds]
  simp only [tab, Array.getElem?_ofFn, Array.size_ofFn]
  by_cases e : k = i
  · subst e; simp [h]
  · have : (i < k + 1) ↔ (i < k) := by omega
    simp [e, this]
theorem tab_zero : zeros 256 = tab 0 := by
  apply Array.ext
  · simp [tab, zeros]
  · intro i h1 h2; simp [tab, zeros]
theorem ofInt_toNat (a : BitVec 32) : BitVec.ofInt 32 (a.toNat : Int) = a := by
  rw [BitVec.ofInt_natCast, BitVec.ofNat_toNat]; simp
theorem bits_xor (a b : BitVec 32) : bits .xor .u32 (a.toNat : Int) (b.toNat : Int) = ((a ^^^ b).toNat : Int) := by
  have h := (a ^^^ b).isLt
  show IntKind.u32.wrap ((BitVec.ofInt 32 (a.toNat : Int) ^^^ BitVec.ofInt 32 (b.toNat : Int)).toNat : Int) = _
  rw [ofInt_toNat, ofInt_toNat, IntKind.wrap_u32']; omega
theorem bits_and (a b : BitVec 32) : bits .and .u32 (a.toNat : Int) (b.toNat : Int) = ((a &&& b).toNat : Int) := by
  have h := (a &&& b).isLt
  show IntKind.u32.wrap ((BitVec.ofInt 32 (a.toNat : Int) &&& BitVec.ofInt 32 (b.toNat : Int)).toNat : Int) = _
  rw [ofInt_toNat, ofInt_toNat, IntKind.wrap_u32']; omega
theorem half (x : BitVec 32) : ((x.toNat : Int) / (2 : Int)) = ((x >>> 1).toNat : Int) := by
  simp [Nat.shiftRight_eq_div_pow]
theorem and_one (x : BitVec 32) : (x &&& 1#32) = if x.getLsbD 0 then 1#32 else 0#32 := by
  apply BitVec.eq_of_getLsbD_eq
  intro i hi
  have one : (1#32 : BitVec 32).getLsbD i = decide (i = 0) := by
    have : ∀ j : Fin 32, (1#32 : BitVec 32).getLsbD j.val = decide (j.val = 0) := by decide
    exact this ⟨i, hi⟩
  rw [BitVec.getLsbD_and, one]
  by_cases h : i = 0
  · subst h; cases x.getLsbD 0 <;> simp
  · cases x.getLsbD 0 <;> simp [h, one]
theorem word_step (x : BitVec 32) : (Value.int IntKind.u32 (bits BinOp.xor IntKind.u32 ((x.toNat : Int) / 2) (bits BinOp.and IntKind.u32 3988292384 (-bits BinOp.and IntKind.u32 (x.toNat : Int) 1 % 4294967296)))) = Value.int IntKind.u32 (CrcP.sh x).toNat := by
  have e1 : (1 : Int) = ((1#32).toNat : Int) := rfl
  have eP : (3988292384 : Int) = (CrcP.P.toNat : Int) := rfl
  rw [half, e1, bits_and x 1#32, and_one, eP]
  have k : (-((if x.getLsbD 0 then 1#32 else 0#32).toNat : Int) % 4294967296) = ((if x.getLsbD 0 then CrcP.ones else 0#32).toNat : Int) := by
    cases x.getLsbD 0 <;> rfl
  rw [k, bits_and, bits_xor]
  congr 3
  unfold CrcP.sh
  cases x.getLsbD 0
  · simp
  · have : CrcP.P &&& CrcP.ones = CrcP.P := by decide
    simp [this]
theorem shN_succ (n : Nat) (x : BitVec 32) : CrcP.sh (CrcP.shN n x) = CrcP.shN (n + 1) x := by
  rw [CrcP.shN_add n 1]; rfl
attribute [local irreducible] CrcP.shN tab zeros
set_option maxRecDepth 100000 in
/-- A new table; nothing else is another. -/
theorem make_any (w : World) : Calls Tryz.prog 8 #[] w fun e w' => e = .returned (.pointer (some ⟨w.heap.size, 0, none⟩)) ∧ w' = w.alloc (.cells (tab 256) 90) := by
  have z := zero90
  go_enter Tryz.func8, Tryz.ntmps8
  go_wp2
  go_loopw [6] (fun i wr => ∃ k : Nat, k ≤ 256 ∧ i = .int .i64 k ∧ wr = w.alloc (.cells (tab k) 90)) (fun i _ => 256 - (intOf i).toNat)
  case atStart => exact ⟨0, by omega, rfl, by rw [tab_zero]⟩
  case round =>
    obtain ⟨k, hk, rfl, rfl⟩ := hrel
    by_cases hlt : k < 256
    · go_wp2
      go_loop [11, 3] (fun j x => ∃ n : Nat, n ≤ 8 ∧ j = .int .i64 n ∧ x = .int .u32 (CrcP.shN n (BitVec.ofNat 32 k)).toNat) (fun j _ => 8 - (intOf j).toNat)
      case atStart => exact ⟨0, by omega, rfl, by unfold CrcP.shN; simp; omega⟩
      case round =>
        obtain ⟨n, hn, rfl, rfl⟩ := hrel
        by_cases hn8 : n < 8
        · go_wp2
          go_round
          case rel => exact ⟨n + 1, by omega, by go_num, by rw [word_step, shN_succ]⟩
          case measure => simp [intOf]; omega
        · obtain rfl : n = 8 := by omega
          have hc := tab_get k hlt
          go_wp2
          go_roundw
          case rel => exact ⟨k + 1, by omega, by go_num, by rw [← tab_set k hlt]; rfl⟩
          case measure => simp [intOf]; omega
    · obtain rfl : k = 256 := by omega
      go_wp2
      go_ret
      exact ⟨rfl, rfl⟩

attribute [local irreducible] tw

/-- The table lies there. -/
def IsTab (w : World) (b : Nat) : Prop := ∀ i, i < 256 → w.cell? ⟨b, i, none⟩ = some (.int .u32 (tw i).toNat)

/-- The place in the table. -/
def at_ (X : BitVec 32) (c : UInt8) : Nat := ((X ^^^ BitVec.ofNat 32 c.toNat) &&& 255#32).toNat
theorem at_lt (X : BitVec 32) (c : UInt8) : at_ X c < 256 := by
  unfold at_
  rw [BitVec.toNat_and]
  exact Nat.lt_of_le_of_lt Nat.and_le_right (by decide)
theorem at_eq (X : BitVec 32) (c : UInt8) : bits .xor .u8 (IntKind.u8.wrap (X.toNat : Int)) (c.toNat : Int) = (at_ X c : Int) := by
  have hc := c.toNat_lt
  have e : IntKind.u8.wrap (X.toNat : Int) = ((X.toNat % 256 : Nat) : Int) := by rw [IntKind.wrap_u8']; omega
  rw [e, u8_xor_nat _ _ (Nat.mod_lt _ (by omega)) (by omega)]
  congr 1
  unfold at_
  simp only [BitVec.toNat_and, BitVec.toNat_xor, BitVec.toNat_ofNat]
  have e2 : c.toNat % 2 ^ 32 = c.toNat := by omega
  rw [e2, show (255 % 2 ^ 32 : Nat) = 2 ^ 8 - 1 from rfl, Nat.and_two_pow_sub_one_eq_mod, Nat.xor_mod_two_pow]
  congr 1
  omega
theorem table_step (X : BitVec 32) (c : UInt8) : (Value.int .u32 (bits .xor .u32 ((X.toNat : Int) / (256 : Int)) ((tw (at_ X c)).toNat : Int))) = .int .u32 (CrcP.turn X c).toNat := by
  have e : ((X.toNat : Int) / (256 : Int)) = ((X >>> 8).toNat : Int) := by simp [Nat.shiftRight_eq_div_pow]
  rw [e, bits_xor, CrcP.turn_table]
  congr 3
  unfold tw at_
  rw [BitVec.ofNat_toNat]
  simp
theorem turn_take (X0 : BitVec 32) (s : ByteArray) (j : Nat) (h : j < s.size) : CrcP.turn (CrcP.Turn X0 (s.data.toList.take j)) s[j] = CrcP.Turn X0 (s.data.toList.take (j + 1)) := by
  have : s.data.toList.take (j + 1) = s.data.toList.take j ++ [s[j]] := by
    rw [List.take_succ_eq_append_getElem (by simpa using h)]; rfl
  rw [this, CrcP.Turn_append]
  simp [CrcP.Turn]
theorem turn_part (X : BitVec 32) (ss : List ByteArray) (k : Nat) (h : k < ss.length) :
    CrcP.Turn (CrcP.Turn X ((ss.take k).flatMap fun s => s.data.toList)) (ss.getD k ByteArray.empty).data.toList = CrcP.Turn X ((ss.take (k + 1)).flatMap fun s => s.data.toList) := by
  rw [List.take_succ_eq_append_getElem h, List.flatMap_append, CrcP.Turn_append]
  simp [List.getD, h]
theorem not_word (X Y : BitVec 32) (h : X ^^^ CrcP.ones = Y) : (Value.int .u32 (bits .xor .u32 IntKind.u32.max (X.toNat : Int))) = .int .u32 Y.toNat := by
  have e : IntKind.u32.max = ((CrcP.ones).toNat : Int) := rfl
  rw [e, bits_xor, BitVec.xor_comm, h]

set_option maxRecDepth 100000 in
theorem csum_any (w : World) (b pb po cap : Nat) (ss : List ByteArray) (hT : IsTab w b) (hP : ∀ i, i < ss.length → w.cell? ⟨pb, po + i, none⟩ = some (.string (ss.getD i ByteArray.empty)))
    (hl : (ss.length : Int) ≤ 9223372036854775807) (hs : ∀ i, i < ss.length → ((ss.getD i ByteArray.empty).size : Int) ≤ 9223372036854775807) :
    Calls Tryz.prog 97 #[.pointer (some ⟨b, 0, none⟩), .slice (some ⟨pb, po, none⟩) ss.length cap] w fun e w' =>
      e = .returned (.int .u32 (CrcP.Sum (ss.flatMap fun s => s.data.toList)).toNat) ∧ ∃ n, w' = w.drewN n := by
  generalize hlen : ss.length = len at *
  have Hlen := Lib.hid hlen; clear hlen
  have HP := Lib.hid hP; clear hP
  have HT := Lib.hid hT; clear hT
  go_enter Tryz.func97, Tryz.ntmps97
  go_wp2
  go_loopw [13, 5] (fun i x wr => ∃ k : Nat, k ≤ len ∧ i = .int .i64 k ∧ x = .int .u32 (CrcP.Turn CrcP.ones ((ss.take k).flatMap fun s => s.data.toList)).toNat ∧ ∃ n, wr = w.drewN n) (fun i _ _ => len - (intOf i).toNat)
  case atStart => exact ⟨0, by omega, rfl, by simp [CrcP.Turn, CrcP.ones], 0, rfl⟩
  case round =>
    obtain ⟨k, hk, rfl, rfl, n, rfl⟩ := hrel
    by_cases hlt : k < len
    · have hc := HP.out k hlt
      have hsl := hs k hlt
      have HX := Lib.hid (turn_part CrcP.ones ss k (by rw [Hlen.out]; exact hlt))
      generalize hsk : ss.getD k ByteArray.empty = s at *
      have Hsk := Lib.hid hsk; clear hsk
      generalize CrcP.Turn CrcP.ones ((ss.take k).flatMap fun s => s.data.toList) = X0 at *
      go_wp2
      go_loopw [8, 5] (fun i x wr => ∃ j : Nat, j ≤ s.size ∧ i = .int .i64 j ∧ x = .int .u32 (CrcP.Turn X0 (s.data.toList.take j)).toNat ∧ ∃ n, wr = w.drewN n) (fun i _ _ => s.size - (intOf i).toNat)
      case atStart => exact ⟨0, by omega, rfl, by simp [CrcP.Turn], n, rfl⟩
      case round =>
        obtain ⟨j, hj, rfl, rfl, m, rfl⟩ := hrel
        by_cases hjt : j < s.size
        · have HY := Lib.hid (turn_take X0 s j hjt)
          generalize CrcP.Turn X0 (s.data.toList.take j) = X at *
          have hi := at_lt X s[j]
          have hidx := at_eq X s[j]
          have hcell := HT.out _ hi
          have HS := Lib.hid (table_step X s[j])
          generalize at_ X s[j] = i at *
          have hi2 : (i : Int) < 256 := by omega
          go_wp2
          go_quiet (fail)
          go_wp2
          go_roundw
          case rel => exact ⟨j + 1, by omega, by go_num, by rw [HS.out, HY.out], _, rfl⟩
          case measure => simp [intOf]; omega
        · obtain rfl : j = s.size := by omega
          go_wp2
          go_roundw
          case rel => exact ⟨k + 1, by omega, by go_num, by rw [← HX.out, List.take_of_length_le (by simp)], _, rfl⟩
          case measure => simp [intOf]; omega
    · obtain rfl : k = len := by omega
      go_wp2
      go_ret
      exact ⟨congrArg Ending.returned (not_word _ _ (by rw [← Hlen.out, List.take_length]; rfl)), _, rfl⟩

set_option maxRecDepth 100000 in
/-- Without a table: 0. -/
theorem csum_nil (w : World) (v : Value) : Calls Tryz.prog 97 #[.pointer none, v] w fun e w' => e = .returned (.int .u32 0) ∧ w' = w := by
  go_enter Tryz.func97, Tryz.ntmps97
  go_wp2
  go_ret
  exact ⟨rfl, rfl⟩

set_option maxRecDepth 100000 in
/-- No parts. -/
theorem csum_none (w : World) (b : Nat) : Calls Tryz.prog 97 #[.pointer (some ⟨b, 0, none⟩), .slice none 0 0] w fun e w' => e = .returned (.int .u32 0) ∧ w' = w := by
  go_enter Tryz.func97, Tryz.ntmps97
  go_wp2
  go_loop [13, 5] (fun i x => i = .int .i64 0 ∧ x = .int .u32 4294967295) (fun _ _ => 0)
  case atStart => exact ⟨rfl, rfl⟩
  case round =>
    obtain ⟨rfl, rfl⟩ := hrel
    go_wp2
    go_ret
    exact ⟨congrArg Ending.returned (not_word CrcP.ones 0#32 (by decide)), rfl⟩
end Go.Proofs.YtnhmdinpfcoebaaGreatDoor
end

/-! === CfNum -/
section
/- Lists of numbers, read; the two that compare them. -/
namespace Go.Proofs.YtnhmdinpfcoebaaGreatDoor.Sy
open Go.RowKit
set_option linter.unusedVariables false
set_option linter.unusedSimpArgs false
set_option maxRecDepth 100000
/-- A list of numbers that is read: n from A on. -/
def MemAt (w : World) (A : Option Addr) (n : Nat) (M : Nat → Int) : Prop := 0 < n → ∃ a, A = some a ∧ ∀ j, j < n → w.cell? (a.add j) = some (.int .i64 (M j))
theorem cell_lt {w : World} {a : Addr} {v : Value} (h : w.cell? a = some v) : a.block < w.heap.size := by
  refine Classical.byContradiction fun hn => ?_
  have : w.heap[a.block]? = none := Array.getElem?_eq_none (by omega)
  simp [World.cell?, this] at h
theorem MemAt.grow {w w' : World} {A : Option Addr} {n : Nat} {M : Nat → Int} (h : MemAt w A n M) (hg : Grow w w') : MemAt w' A n M := fun hn => by
  obtain ⟨a, hA, hc⟩ := h hn
  exact ⟨a, hA, fun j hj => (Below.cell hg (cell_lt (hc j hj))).trans (hc j hj)⟩
/-- Are two lists of numbers the same. -/
def SameM (n1 n2 : Nat) (M1 M2 : Nat → Int) : Prop := n1 = n2 ∧ ∀ j, j < n1 → M1 j = M2 j
end Go.Proofs.YtnhmdinpfcoebaaGreatDoor.Sy
end
