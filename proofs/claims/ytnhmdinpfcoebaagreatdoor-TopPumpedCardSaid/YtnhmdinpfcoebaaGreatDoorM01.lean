/- Texts of the proof, merged: Kit, Rel, Store. -/
import Derived.WalkKit
import Derived.WalkSpells
import Derived.WalkLawsBesides
import Derived.Deep.QuietTactic
import Derived.BigQuiet
import Derived.Lib.Hide
import Derived.Deep.RegionHeld3
import Derived.Deep.DrawnRows
import Derived.KernelRfl
import Derived.Laws.Rows
import Derived.Deep.MidRow
/-! === Kit -/
section
/- General laws for the walks of this seat: no program in sight: an element put behind a row that the call owns; worlds that only grow; bits of words. -/
namespace Go.Proofs.YtnhmdinpfcoebaaGreatDoor
open Go.RowKit

/-! ### Worlds that only grow -/
theorem below_alloc' {B : Nat} {w wr : World} (h : Below B w wr) (hB : B ≤ w.heap.size) (o : Obj) : Below B w (wr.alloc o) := h.alloc (Nat.le_trans hB h.size) o
theorem drewN_setCell (w : World) (n : Nat) (a : Addr) (v : Value) : (w.drewN n).setCell a v = (w.setCell a v).drewN n := rfl
theorem drewN_alloc (w : World) (n : Nat) (o : Obj) : (w.drewN n).alloc o = (w.alloc o).drewN n := rfl
theorem heapAt_drewN (w : World) (n k : Nat) : (w.drewN n).heap[k]? = w.heap[k]? := rfl
theorem heapAt_below {B : Nat} {w w' : World} (h : Below B w w') {k : Nat} (hk : k < B) {o : Obj} (ho : w.heap[k]? = some o) : w'.heap[k]? = some o := (h.block k hk).trans ho
theorem heapAt_alloc_new (w : World) (o : Obj) : (w.alloc o).heap[w.heap.size]? = some o := by
  show (w.heap.push o)[w.heap.size]? = _
  simp
theorem heapAt_alloc_old (w : World) (o : Obj) {k : Nat} (hk : k < w.heap.size) : (w.alloc o).heap[k]? = w.heap[k]? := Below.heap_alloc w o k hk
theorem heapAt_lt {w : World} {k : Nat} {o : Obj} (h : w.heap[k]? = some o) : k < w.heap.size := (Array.getElem?_eq_some_iff.1 h).1
theorem cell_block {w : World} {b : Nat} {cs : Array Value} {t : TypeId} {fr : Nat × Nat} (h : w.heap[b]? = some (.cells cs t fr)) (j : Nat) : w.cell? ⟨b, j, none⟩ = cs[j]? := by
  unfold World.cell?
  simp only [h]
  rfl
theorem free_block {w : World} {b : Nat} {cs : Array Value} {t : TypeId} (h : w.heap[b]? = some (.cells cs t (0, 0))) (j : Nat) : w.frozen? ⟨b, j, none⟩ = false := by
  unfold World.frozen?
  simp only [h]
  simp
theorem set_block {w : World} {b : Nat} {cs : Array Value} {t : TypeId} (h : w.heap[b]? = some (.cells cs t (0, 0))) (j : Nat) (v : Value) : (w.setCell ⟨b, j, none⟩ v).heap[b]? = some (.cells (cs.setIfInBounds j v) t (0, 0)) := by
  simp only [World.setCell, Array.getElem?_modify, if_true, h]
  rfl
theorem set_block_other {w : World} {b c : Nat} (hne : c ≠ b) (j : Nat) (v : Value) : (w.setCell ⟨b, j, none⟩ v).heap[c]? = w.heap[c]? :=
  Below.heap_setCell w ⟨b, j, none⟩ v c hne

/-! ### One element put behind a row that the call owns -/
theorem below_grown {B : Nat} {w w' : World} {row : Option Nat} (hg : w.grownBy w' row) (hB : B ≤ w.heap.size) (hr : ∀ k, row = some k → B ≤ k) : Below B w w' :=
  (Below.refl B w).grown hg hB hr

theorem wpList_push {P : Program} {ops : Array Oper} {rest : List Oper} {o : Oper} {a : Act} {Q : Exit → Act → World → Prop} {w : World} (hgd : o.guard = none) (s x : Operand) (t : TypeId)
    (ho : o.op = .call { callee := .builtin .append, args := #[s, x], argTypes := #[t, t] })
    (B : Nat) (e : TypeId) (i : TypeInfo) (z : Value) (bytes : Nat) (ht : P.underlying t = some (.slice e)) (hi : P.info? e = some i) (hz : i.zero = some z) (hsize : i.size = 1) (hby : i.bytes = bytes) (hzs : z.cells.size = 1)
    (v : Value) (n : Nat) (xs : List Value) (p c : Nat) (u : Value) (hs : a.eval s = v) (hown : w.ownsRow B e 1 v n xs) (hx : a.eval x = .slice (some ⟨p, 0, none⟩) 1 c)
    (hc : w.cell? ⟨p, 0, none⟩ = some u) (h1 : u.oneCell' = true) (h63 : n + 1 ≤ maxLen) (hbytes : (n + 1) * bytes ≤ 140737488355328) (hB : B ≤ w.heap.size)
    (h : ∀ v' w', w'.ownsRow B e 1 v' (n + 1) (xs ++ [u]) → Below B w w' → v' ≠ .slice none 0 0 → wpList P ops Q rest (a.put o.dst v') w') : wpList P ops Q (o :: rest) a w :=
  wpList_append_own w hgd s x t ho B e i z 1 bytes ht hi hz hsize hby hzs (by decide) v n xs hs hown ⟨p, 0, none⟩ 1 c [u] hx rfl
    (fun j u' hj => by
      match j, hj with
      | 0, hj => simp at hj; subst hj; simpa [Addr.add] using hc)
    (fun u' hu => by simp at hu; subst hu; exact h1) h63 hbytes hB
    (fun v' w' hown' hg hnil => h v' w' hown' (below_grown hg hB fun k hk => (hown.lt k hk).1) (fun e => by simp [e] at hnil))

/-- Bytes that the call owns, as a string. -/
theorem conv_row {P : Program} (w : World) (src dst e : TypeId) (hs : P.underlying src = some (.slice e)) (he : P.underlying e = some (.int .u8)) (hd : P.underlying dst = some .string)
    (B n : Nat) (v : Value) (l : List UInt8) (hn : l.length = n) (h : w.ownsRow B e 1 v n (l.map fun b => .int .u8 (b.toNat : Int))) : (convert src dst v).run P w = .ok (.string ⟨l.toArray⟩) w := by
  subst hn
  rcases h.2 with ⟨rfl, h0⟩ | ⟨g, cap, cur, rfl, hb, hg, hcap, hm, hsz, htake⟩
  · have : l = [] := List.eq_nil_of_length_eq_zero h0
    subst this
    exact run_convert_bytes_nil w src e hs he 0 0 dst hd
  · refine run_convert_bytes_back w src dst e ⟨g, 0, none⟩ cap l hs he hd fun j hj => ?_
    exact h.cells (g := g) rfl j (.int .u8 (l[j].toNat : Int)) (by simp [hj])

/-- A row that is read, out of a row that the call owns. -/
theorem ownsRow_cell {w : World} {B : Nat} {e : TypeId} {v : Value} {n : Nat} {xs : List Value} (h : w.ownsRow B e 1 v n xs) {g cap : Nat} (hv : v = .slice (some ⟨g, 0, none⟩) n cap) (j : Nat) (hj : j < n) : w.cell? ⟨g, j, none⟩ = some (xs.getD j undef) := by
  have hl : xs.length = n := by rw [h.1]; omega
  have hc := h.cells (g := g) (by rw [hv]; rfl) j (xs.getD j undef) (by simp [List.getD, List.getElem?_eq_getElem (by omega : j < xs.length)])
  have hadd : (⟨g, 0, none⟩ : Addr).add j = ⟨g, j, none⟩ := by unfold Addr.add; split <;> simp_all
  rwa [hadd] at hc

/-! ### Words of 32 bits, by their bits -/
theorem ofInt_toNat32 (a : BitVec 32) : BitVec.ofInt 32 (a.toNat : Int) = a := by
  rw [BitVec.ofInt_natCast, BitVec.ofNat_toNat]; simp
theorem bits_xor32 (a b : BitVec 32) : bits .xor .u32 (a.toNat : Int) (b.toNat : Int) = ((a ^^^ b).toNat : Int) := by
  have h := (a ^^^ b).isLt
  show IntKind.u32.wrap ((BitVec.ofInt 32 (a.toNat : Int) ^^^ BitVec.ofInt 32 (b.toNat : Int)).toNat : Int) = _
  rw [ofInt_toNat32, ofInt_toNat32, IntKind.wrap_u32']; omega
theorem bits_and32 (a b : BitVec 32) : bits .and .u32 (a.toNat : Int) (b.toNat : Int) = ((a &&& b).toNat : Int) := by
  have h := (a &&& b).isLt
  show IntKind.u32.wrap ((BitVec.ofInt 32 (a.toNat : Int) &&& BitVec.ofInt 32 (b.toNat : Int)).toNat : Int) = _
  rw [ofInt_toNat32, ofInt_toNat32, IntKind.wrap_u32']; omega
theorem bits_or32 (a b : BitVec 32) : bits .or .u32 (a.toNat : Int) (b.toNat : Int) = ((a ||| b).toNat : Int) := by
  have h := (a ||| b).isLt
  show IntKind.u32.wrap ((BitVec.ofInt 32 (a.toNat : Int) ||| BitVec.ofInt 32 (b.toNat : Int)).toNat : Int) = _
  rw [ofInt_toNat32, ofInt_toNat32, IntKind.wrap_u32']; omega
theorem bits_andNot32 (a b : BitVec 32) : bits .andNot .u32 (a.toNat : Int) (b.toNat : Int) = ((a &&& ~~~b).toNat : Int) := by
  have h := (a &&& ~~~b).isLt
  show IntKind.u32.wrap ((BitVec.ofInt 32 (a.toNat : Int) &&& ~~~(BitVec.ofInt 32 (b.toNat : Int))).toNat : Int) = _
  rw [ofInt_toNat32, ofInt_toNat32, IntKind.wrap_u32']; omega
theorem bv32_of (x : Int) (h0 : 0 ≤ x) (h1 : x < 4294967296) : ∃ b : BitVec 32, x = (b.toNat : Int) :=
  ⟨BitVec.ofNat 32 x.toNat, by rw [BitVec.toNat_ofNat]; omega⟩
end Go.Proofs.YtnhmdinpfcoebaaGreatDoor
end

/-! === Rel -/
section
/- A region that draws its order, walked once in the order of the text, where the operations may make memory: of each operation's value is told what holds of it in every later world; each operation is run against a frame of which only that is known which must have come before. No program in sight. -/
namespace Go.Proofs.YtnhmdinpfcoebaaGreatDoor
open Go.RowKit

/-- What is told of the temporaries that an operation reads: each was written by an operation ahead, or by none of the region. -/
def RelKnown (a0 : Act) (acc : List (Value → World → Prop)) (a : Act) (w : World) : List (Nat × Option Nat) → Prop
  | [] => True
  | (t, some j) :: l => (acc.getD j fun _ _ => True) (a.tmps.getD t undef) w ∧ RelKnown a0 acc a w l
  | (t, none) :: l => a.tmps.getD t undef = a0.tmps.getD t undef ∧ RelKnown a0 acc a w l

/-- One operation. -/
def RelStep (P : Program) (R : World → World → Prop) (F : World → Prop) (Q : Exit → Act → World → Prop) (D : Value → World → Prop) (o : Oper) (a : Act) (w : World) : Option (Nat × Bool) → Prop
  | none => o.wp P a w (fun a' w' => ∃ v, a' = a.put o.dst v ∧ R w w' ∧ F w' ∧ D v w') Q
  | some (t, b) => ∃ c, a.tmps.getD t undef = .bool c ∧ if c = b then o.wp P a w (fun a' w' => ∃ v, a' = a.put o.dst v ∧ R w w' ∧ F w' ∧ D v w') Q else D undef w

def RelEnd (Q : Exit → Act → World → Prop) (w : World) : List Oper → List (Value → World → Prop) → Act → Prop
  | o :: os, D :: Ds, a => ∀ v, D v w → RelEnd Q w os Ds (a.put o.dst v)
  | _, _, a => Q .normal a w

/-- The walk in the order of the text. -/
def RelAll (P : Program) (R : World → World → Prop) (F : World → Prop) (Q : Exit → Act → World → Prop) (a0 : Act) (all : List Oper) :
    List Oper → List (List (Nat × Option Nat) × Option (Nat × Bool)) → List (Value → World → Prop) → Prop
  | o :: os, (ds, g) :: ls, acc => ∃ D : Value → World → Prop, (∀ v w w', R w w' → D v w → D v w') ∧
      (∀ a w, a.tmps.size = a0.tmps.size → F w → RelKnown a0 acc a w ds → RelStep P R F Q D o a w g) ∧ RelAll P R F Q a0 all os ls (D :: acc)
  | _, _, acc => ∀ w, F w → RelEnd Q w all acc.reverse a0

def afterOn (o : Oper) (j : Nat) : Bool := o.after.any fun e => e.on == j && Region.binds .any e
def dstAt (ops : Array Oper) (j : Nat) : Option Nat := (ops[j]?).bind (·.dst)

def relCheckOp (ops : Array Oper) (n i : Nat) (o : Oper) (ds : List (Nat × Option Nat)) (g : Option (Nat × Bool)) : Bool :=
  o.after.all (fun e => decide (e.on < i)) &&
  (match o.dst with | some d => decide (d < n) && (List.range ops.size).all (fun k => k == i || !(dstAt ops k == some d)) | none => false) &&
  ds.all (fun x => match x.2 with
    | some r => decide (r < i) && dstAt ops (i - 1 - r) == some x.1 && afterOn o (i - 1 - r)
    | none => (List.range ops.size).all fun k => !(dstAt ops k == some x.1) || k == i || (match ops[k]? with | some ok => afterOn ok i | none => false)) &&
  (match o.guard, g with
    | none, none => true
    | some (j, b), some (t, b') => b == b' && dstAt ops j == some t
    | _, _ => false)

def relCheck (ops : Array Oper) (n : Nat) (L : List (List (Nat × Option Nat) × Option (Nat × Bool))) : Bool :=
  L.length == ops.size && (List.range ops.size).all fun i => match ops[i]?, L[i]? with
    | some o, some (ds, g) => relCheckOp ops n i o ds g
    | _, _ => false

section
variable {P : Program} {R : World → World → Prop} {F : World → Prop} {Q : Exit → Act → World → Prop} {a0 : Act} {ops : Array Oper}

/-- What the walk gives: what is told of every operation's value. -/
theorem rel_facts (all : List Oper) : ∀ (os : List Oper) (ls : List (List (Nat × Option Nat) × Option (Nat × Bool))) (acc : List (Value → World → Prop)), ls.length = os.length → RelAll P R F Q a0 all os ls acc →
    ∃ Ds : List (Value → World → Prop), Ds.length = os.length ∧ (∀ D ∈ Ds, ∀ v w w', R w w' → D v w → D v w') ∧
      (∀ k o ds g, os[k]? = some o → ls[k]? = some (ds, g) → ∀ a w, a.tmps.size = a0.tmps.size → F w → RelKnown a0 ((Ds.take k).reverse ++ acc) a w ds → RelStep P R F Q (Ds.getD k fun _ _ => True) o a w g) ∧
      ∀ w, F w → RelEnd Q w all (acc.reverse ++ Ds) a0
  | [], [], acc, _, h => ⟨[], rfl, by simp, by simp, by simpa [RelAll] using h⟩
  | o :: os, (ds, g) :: ls, acc, hl, h => by
    obtain ⟨D, hD, hs, hr⟩ := h
    obtain ⟨Ds, h1, h2, h3, h4⟩ := rel_facts all os ls (D :: acc) (by simpa using hl) hr
    refine ⟨D :: Ds, by simp [h1], ?_, ?_, ?_⟩
    · intro E hE
      rcases List.mem_cons.1 hE with rfl | hE
      · exact hD
      · exact h2 E hE
    · intro k o' ds' g' ho hg a w hz hF hk
      cases k with
      | zero =>
        simp at ho hg
        obtain ⟨rfl, rfl⟩ := hg
        subst ho
        simpa using hs a w hz hF (by simpa using hk)
      | succ k =>
        simp only [List.getElem?_cons_succ] at ho hg
        have := h3 k o' ds' g' ho hg a w hz hF (by simpa using hk)
        simpa using this
    · simpa using h4
  | [], _ :: _, _, hl, _ => by simp at hl
  | _ :: _, [], _, hl, _ => by simp at hl

/-- What stands while the operations of a region come up in whatever order. -/
structure RelInv (F : World → Prop) (a0 : Act) (ops : Array Oper) (Ds : List (Value → World → Prop)) (listed : Array Bool) (a : Act) (w : World) : Prop where
  world : F w
  size : a.tmps.size = a0.tmps.size
  defers : a.defers = a0.defers
  lsize : listed.size = ops.size
  told : ∀ (i : Nat) (o : Oper) (d : Nat), ops[i]? = some o → listed.getD i false = true → o.dst = some d → (Ds.getD i fun _ _ => True) (a.tmps.getD d undef) w
  rest : ∀ t : Nat, (∀ (i : Nat), listed.getD i false = true → dstAt ops i ≠ some t) → a.tmps.getD t undef = a0.tmps.getD t undef
  down : ∀ (i : Nat) (o : Oper), ops[i]? = some o → listed.getD i false = true → ∀ e ∈ o.after, Region.binds .any e = true → listed.getD e.on false = true

theorem getD_put_self (a : Act) (d : Nat) (v : Value) (h : d < a.tmps.size) : (a.put (some d) v).tmps.getD d undef = v := by
  simp [Act.put, Array.getD, h]
theorem getD_put_ne (a : Act) (d t : Nat) (v : Value) (h : d ≠ t) : (a.put (some d) v).tmps.getD t undef = a.tmps.getD t undef := by
  simp only [Act.put, Array.getD_eq_getD_getElem?]
  rw [Array.getElem?_setIfInBounds]
  simp [h]
theorem size_put' (a : Act) (d : Option Nat) (v : Value) : (a.put d v).tmps.size = a.tmps.size := by cases d <;> simp [Act.put]
theorem defers_put' (a : Act) (d : Option Nat) (v : Value) : (a.put d v).defers = a.defers := by cases d <;> rfl

theorem listed_set (l : Array Bool) (i j : Nat) (h : i < l.size) : (l.setIfInBounds i true).getD j false = true ↔ j = i ∨ l.getD j false = true := by
  simp only [Array.getD_eq_getD_getElem?]
  rw [Array.getElem?_setIfInBounds]
  by_cases e : i = j
  · subst e; simp [h]
  · simp [e, Ne.symm e]

/-- The step of one operation keeps it. -/
theorem RelInv.step {Ds : List (Value → World → Prop)} (hst : ∀ D ∈ Ds, ∀ v w w', R w w' → D v w → D v w') {listed : Array Bool} {a : Act} {w w' : World} (h : RelInv F a0 ops Ds listed a w) {i : Nat} {o : Oper} (ho : ops[i]? = some o)
    (hdown : ∀ e ∈ o.after, Region.binds .any e = true → listed.getD e.on false = true)
    (hd : ∀ d, o.dst = some d → d < a0.tmps.size ∧ ∀ k, k ≠ i → dstAt ops k ≠ some d) (v : Value) (hR : R w w' ∨ w' = w) (hF : F w') (hv : (Ds.getD i fun _ _ => True) v w') :
    RelInv F a0 ops Ds (listed.setIfInBounds i true) (a.put o.dst v) w' := by
  have hi : i < listed.size := by rw [h.lsize]; exact (Array.getElem?_eq_some_iff.1 ho).1
  refine ⟨hF, by rw [size_put']; exact h.size, by rw [defers_put']; exact h.defers, by simp [h.lsize], ?_, ?_, ?_⟩
  · intro k ok d hk hl hdk
    rcases (listed_set listed i k hi).1 hl with rfl | hl'
    · rw [ho] at hk
      obtain rfl := Option.some.inj hk
      rw [hdk, getD_put_self _ _ _ (by rw [h.size]; exact (hd d hdk).1)]
      exact hv
    · have h0 := h.told k ok d hk hl' hdk
      have h1 : (Ds.getD k fun _ _ => True) (a.tmps.getD d undef) w' := by
        rcases hR with hR | rfl
        · rcases Nat.lt_or_ge k Ds.length with hkl | hkl
          · have hm : Ds.getD k (fun _ _ => True) ∈ Ds := by rw [List.getD, List.getElem?_eq_getElem hkl]; exact List.getElem_mem _
            exact hst _ hm _ _ _ hR h0
          · rw [List.getD, List.getElem?_eq_none hkl]; trivial
        · exact h0
      by_cases hki : k = i
      · subst hki
        rw [ho] at hk
        obtain rfl := Option.some.inj hk
        rw [hdk, getD_put_self _ _ _ (by rw [h.size]; exact (hd d hdk).1)]
        exact hv
      · cases hod : o.dst with
        | none => exact h1
        | some d' =>
          have hne : d' ≠ d := fun e => by
            subst e
            exact (hd d' hod).2 k hki (by unfold dstAt; rw [hk]; exact hdk)
          rw [getD_put_ne _ _ _ _ hne]
          exact h1
  · intro t ht
    have h1 := h.rest t (fun k hk => ht k ((listed_set listed i k hi).2 (.inr hk)))
    have h2 := ht i ((listed_set listed i i hi).2 (.inl rfl))
    cases hod : o.dst with
    | none => exact h1
    | some d =>
      have hne : d ≠ t := fun e => h2 (by unfold dstAt; rw [ho]; simp [hod, e])
      rw [getD_put_ne _ _ _ _ hne]; exact h1
  · intro k ok hk hl e he hb
    refine (listed_set listed i e.on hi).2 (.inr ?_)
    rcases (listed_set listed i k hi).1 hl with rfl | hl'
    · rw [ho] at hk
      obtain rfl := Option.some.inj hk
      exact hdown e he hb
    · exact h.down k ok hk hl' e he hb

theorem afterOn_iff {o : Oper} {j : Nat} (h : afterOn o j = true) : ∃ e ∈ o.after, e.on = j ∧ Region.binds .any e = true := by
  unfold afterOn at h
  rw [Array.any_eq_true'] at h
  obtain ⟨e, he, h2⟩ := h
  simp only [Bool.and_eq_true, beq_iff_eq] at h2
  exact ⟨e, he, h2.1, h2.2⟩

theorem rel_known {Ds : List (Value → World → Prop)} (hDl : Ds.length = ops.size) {listed : Array Bool} {a : Act} {w : World} (h : RelInv F a0 ops Ds listed a w) {i : Nat} {o : Oper} (hun : listed.getD i false = false) (ho : ops[i]? = some o)
    (hdown : ∀ e ∈ o.after, Region.binds .any e = true → listed.getD e.on false = true) : ∀ (ds : List (Nat × Option Nat)),
    (∀ x ∈ ds, match x.2 with
      | some r => r < i ∧ dstAt ops (i - 1 - r) = some x.1 ∧ afterOn o (i - 1 - r) = true
      | none => ∀ k, k < ops.size → dstAt ops k ≠ some x.1 ∨ k = i ∨ ∃ ok, ops[k]? = some ok ∧ afterOn ok i = true) → RelKnown a0 (Ds.take i).reverse a w ds
  | [], _ => trivial
  | (t, some r) :: l, hc => by
    obtain ⟨h0, h1, h2⟩ := hc (t, some r) (by simp)
    obtain ⟨e, he, hej, hb⟩ := afterOn_iff h2
    have hlj := hdown e he hb
    rw [hej] at hlj
    refine ⟨?_, rel_known hDl h hun ho hdown l fun x hx => hc x (List.mem_cons_of_mem _ hx)⟩
    have hidx : (Ds.take i).reverse.getD r (fun _ _ => True) = Ds.getD (i - 1 - r) (fun _ _ => True) := by
      have hil := (Array.getElem?_eq_some_iff.1 ho).1
      have htl : (Ds.take i).length = i := by rw [List.length_take, hDl]; omega
      rw [List.getD, List.getD, List.getElem?_reverse (by rw [htl]; exact h0), htl, List.getElem?_take, if_pos (by omega)]
    rw [hidx]
    unfold dstAt at h1
    cases hoj : ops[i - 1 - r]? with
    | none => rw [hoj] at h1; simp at h1
    | some oj => rw [hoj] at h1; exact h.told (i - 1 - r) oj t hoj hlj h1
  | (t, none) :: l, hc => by
    refine ⟨h.rest t fun k hk heq => ?_, rel_known hDl h hun ho hdown l fun x hx => hc x (List.mem_cons_of_mem _ hx)⟩
    have hkl : k < ops.size := by
      rcases Nat.lt_or_ge k ops.size with h' | h'
      · exact h'
      · unfold dstAt at heq; rw [Array.getElem?_eq_none h'] at heq; simp at heq
    rcases hc (t, none) (by simp) k hkl with h' | rfl | ⟨ok, hok, haf⟩
    · exact h' heq
    · rw [hun] at hk; cases hk
    · obtain ⟨e, he, hej, hb⟩ := afterOn_iff haf
      have := h.down k ok hok hk e he hb
      rw [hej, hun] at this
      cases this

theorem rel_end {Ds : List (Value → World → Prop)} (w : World) (a : Act) (hsz : a.tmps.size = a0.tmps.size) (hdf : a.defers = a0.defers) : ∀ (os : List Oper) (Es : List (Value → World → Prop)) (b : Act), Es.length = os.length →
    (∀ (k : Nat) (o : Oper) (d : Nat), os[k]? = some o → o.dst = some d → (Es.getD k fun _ _ => True) (a.tmps.getD d undef) w) → (∀ (k : Nat) (o : Oper), os[k]? = some o → o.dst = none → ∃ v, (Es.getD k fun _ _ => True) v w) →
    b.tmps.size = a.tmps.size → b.defers = a.defers → (∀ t : Nat, (∀ (k : Nat) (o : Oper), os[k]? = some o → o.dst ≠ some t) → b.tmps.getD t undef = a.tmps.getD t undef) → RelEnd Q w os Es b → Q .normal a w
  | [], [], b, _, _, _, hs, hd, ht, h => by
    have : b = a := by
      cases a; cases b
      simp only at hs hd ht
      subst hd
      congr 1
      apply Array.ext
      · exact hs
      · intro i h1 h2
        have := ht i (by simp)
        simp only [Array.getD_eq_getD_getElem?, Array.getElem?_eq_getElem h1, Array.getElem?_eq_getElem h2, Option.getD_some] at this
        exact this
    rw [← this]; exact h
  | o :: os, D :: Es, b, hl, hk, hn, hs, hd, ht, h => by
    cases hod : o.dst with
    | none =>
      obtain ⟨v, hv⟩ := hn 0 o (by simp) hod
      have h' := h v (by simpa using hv)
      rw [hod] at h'
      exact rel_end (Ds := Ds) w a hsz hdf os Es b (by simpa using hl) (fun k o' d hk' hd' => by simpa using hk (k + 1) o' d (by simpa using hk') hd') (fun k o' hk' hd' => by simpa using hn (k + 1) o' (by simpa using hk') hd') hs hd
        (fun t htt => ht t fun k o' hk' => by
          cases k with
          | zero => simp at hk'; subst hk'; rw [hod]; simp
          | succ k => exact htt k o' (by simpa using hk')) h'
    | some d =>
      have h' := h (a.tmps.getD d undef) (by simpa using hk 0 o d (by simp) hod)
      rw [hod] at h'
      refine rel_end (Ds := Ds) w a hsz hdf os Es _ (by simpa using hl) (fun k o' d hk' hd' => by simpa using hk (k + 1) o' d (by simpa using hk') hd') (fun k o' hk' hd' => by simpa using hn (k + 1) o' (by simpa using hk') hd') (by rw [size_put']; exact hs) (by rw [defers_put']; exact hd) ?_ h'
      intro t htt
      by_cases e : d = t
      · subst e
        rcases Nat.lt_or_ge d b.tmps.size with hlt | hge
        · rw [getD_put_self _ _ _ hlt]
        · have hge' : a.tmps.size ≤ d := by rw [← hs]; exact hge
          simp only [Act.put, Array.getD_eq_getD_getElem?]
          rw [Array.getElem?_eq_none (by simpa using hge), Array.getElem?_eq_none hge']
      · rw [getD_put_ne _ _ _ _ e]
        exact ht t fun k o' hk' => by
          cases k with
          | zero => simp at hk'; subst hk'; rw [hod]; simpa using e
          | succ k => exact htt k o' (by simpa using hk')
  | [], _ :: _, _, hl, _, _, _, _, _, _ => by simp at hl
  | _ :: _, [], _, hl, _, _, _, _, _, _ => by simp at hl

def unlisted (ops : Array Oper) (listed : Array Bool) : List Nat := (List.range ops.size).filter fun i => !listed.getD i false

theorem unlisted_set {listed : Array Bool} {i : Nat} (hi : i < ops.size) (hs : listed.size = ops.size) (hun : listed.getD i false = false) : (unlisted ops (listed.setIfInBounds i true)).length < (unlisted ops listed).length := by
  have e : unlisted ops (listed.setIfInBounds i true) = (unlisted ops listed).filter fun k => !(k == i) := by
    unfold unlisted
    rw [List.filter_filter]
    apply List.filter_congr
    intro k _
    have := listed_set listed i k (by rw [hs]; exact hi)
    cases h1 : (listed.setIfInBounds i true).getD k false <;> cases h2 : listed.getD k false <;> simp_all
  rw [e, List.length_filter_lt_length_iff_exists]
  exact ⟨i, List.mem_filter.2 ⟨List.mem_range.2 hi, by rw [hun]; rfl⟩, by simp⟩

theorem relCheck_spec {n : Nat} {L : List (List (Nat × Option Nat) × Option (Nat × Bool))} (h : relCheck ops n L = true) : L.length = ops.size ∧ ∀ i o, ops[i]? = some o → ∃ ds g, L[i]? = some (ds, g) ∧ relCheckOp ops n i o ds g = true := by
  unfold relCheck at h
  simp only [Bool.and_eq_true, beq_iff_eq, List.all_eq_true, List.mem_range] at h
  refine ⟨h.1, fun i o ho => ?_⟩
  have hi := (Array.getElem?_eq_some_iff.1 ho).1
  have h2 := h.2 i hi
  rw [ho] at h2
  cases hl : L[i]? with
  | none => rw [hl] at h2; simp at h2
  | some x => rw [hl] at h2; exact ⟨x.1, x.2, rfl, h2⟩

theorem wp_region_rel {id : Nat} (w0 : World) (R : World → World → Prop) (F : World → Prop) (L : List (List (Nat × Option Nat) × Option (Nat × Bool))) (hm : P.follows .mixedOrders = true)
    (hL : relCheck ops a0.tmps.size L = true) (hF : F { w0 with drawn := w0.drawn + 1 }) (h : RelAll P R F Q a0 ops.toList ops.toList L []) : (Code.region id ops true).wp P Q a0 w0 := by
  obtain ⟨hlen, hop⟩ := relCheck_spec hL
  obtain ⟨Ds, h1, h2, h3, h4⟩ := rel_facts ops.toList ops.toList L [] (by simpa using hlen) h
  simp only [List.append_nil] at h3
  simp only [List.reverse_nil, List.nil_append] at h4
  have hspec : ∀ i o, ops[i]? = some o → ∃ ds g, L[i]? = some (ds, g) ∧ (∀ e ∈ o.after, e.on < i) ∧ (∃ d, o.dst = some d ∧ d < a0.tmps.size ∧ ∀ k, k ≠ i → dstAt ops k ≠ some d) ∧
      (∀ x ∈ ds, match x.2 with
        | some r => r < i ∧ dstAt ops (i - 1 - r) = some x.1 ∧ afterOn o (i - 1 - r) = true
        | none => ∀ k, k < ops.size → dstAt ops k ≠ some x.1 ∨ k = i ∨ ∃ ok, ops[k]? = some ok ∧ afterOn ok i = true) ∧
      (match o.guard, g with
        | none, none => True
        | some (j, b), some (t, b') => b = b' ∧ dstAt ops j = some t
        | _, _ => False) := by
    intro i o ho
    obtain ⟨ds, g, hg, hc⟩ := hop i o ho
    unfold relCheckOp at hc
    simp only [Bool.and_eq_true] at hc
    obtain ⟨⟨⟨c1, c2⟩, c3⟩, c4⟩ := hc
    refine ⟨ds, g, hg, ?_, ?_, ?_, ?_⟩
    · rw [Array.all_eq_true'] at c1
      exact fun e he => by simpa using c1 e he
    · cases hd : o.dst with
      | none => rw [hd] at c2; simp at c2
      | some d =>
        rw [hd] at c2
        simp only [Bool.and_eq_true, decide_eq_true_eq, List.all_eq_true, List.mem_range] at c2
        refine ⟨d, rfl, c2.1, fun k hk he => ?_⟩
        have hks : k < ops.size := by
          rcases Nat.lt_or_ge k ops.size with h' | h'
          · exact h'
          · unfold dstAt at he; rw [Array.getElem?_eq_none h'] at he; simp at he
        have := c2.2 k hks
        simp [hk, he] at this
    · intro x hx
      rw [List.all_eq_true] at c3
      have := c3 x hx
      cases hx2 : x.2 with
      | some j => rw [hx2] at this; simpa [Bool.and_eq_true, and_assoc] using this
      | none =>
        rw [hx2] at this
        intro k hk
        simp only [List.all_eq_true, List.mem_range] at this
        have h' := this k hk
        simp only [Bool.or_eq_true, Bool.not_eq_true', beq_eq_false_iff_ne, beq_iff_eq] at h'
        rcases h' with (h' | h') | h'
        · exact .inl h'
        · exact .inr (.inl h')
        · cases hok : ops[k]? with
          | none => rw [hok] at h'; simp at h'
          | some ok => rw [hok] at h'; exact .inr (.inr ⟨ok, rfl, h'⟩)
    · cases hgd : o.guard with
      | none => rw [hgd] at c4; cases g <;> simp_all
      | some x =>
        rw [hgd] at c4
        obtain ⟨j, b⟩ := x
        cases g with
        | none => simp at c4
        | some y => obtain ⟨t, b'⟩ := y; simpa using c4
  -- whatever order
  have key : ∀ (fuel : Nat) (listed : Array Bool) (a : Act) (w : World), (unlisted ops listed).length ≤ fuel → RelInv F a0 ops Ds listed a w → wpAny P .any ops Q fuel listed a w := by
    have hend : ∀ (listed : Array Bool) (a : Act) (w : World), RelInv F a0 ops Ds listed a w → Region.ready .any ops listed = [] → Q .normal a w := by
      intro listed a w hi hr
      have hall : ∀ i, i < ops.size → listed.getD i false = true := by
        intro i
        induction i using Nat.strongRecOn with
        | _ i ih =>
          intro hi'
          cases hun : listed.getD i false with
          | true => rfl
          | false =>
            exfalso
            have ho : ops[i]? = some ops[i] := Array.getElem?_eq_getElem hi'
            obtain ⟨ds, g, _, hon, _⟩ := hspec i _ ho
            have hmem : i ∈ Region.ready .any ops listed := mem_ready.2 ⟨by
              have hil : i < listed.size := by rw [hi.lsize]; exact hi'
              simp only [Array.getD_eq_getD_getElem?, Array.getElem?_eq_getElem hil, Option.getD_some] at hun ⊢
              exact hun, _, ho, fun e he _ => ih e.on (hon e he) (Nat.lt_trans (hon e he) hi')⟩
            rw [hr] at hmem
            cases hmem
      refine rel_end (Ds := Ds) w a hi.size hi.defers ops.toList Ds a0 (by simpa using h1) ?_ ?_ hi.size.symm hi.defers.symm ?_ (h4 w hi.world)
      · intro k o d hk hd
        have hk' : ops[k]? = some o := by simpa using hk
        exact hi.told k o d hk' (hall k (Array.getElem?_eq_some_iff.1 hk').1) hd
      · intro k o hk hd
        have hk' : ops[k]? = some o := by simpa using hk
        obtain ⟨_, _, _, _, ⟨d, hd', _⟩, _⟩ := hspec k o hk'
        rw [hd] at hd'; cases hd'
      · intro t ht
        exact (hi.rest t fun k _ he => by
          unfold dstAt at he
          cases hok : ops[k]? with
          | none => rw [hok] at he; simp at he
          | some ok => rw [hok] at he; exact ht k ok (by simpa using hok) he).symm
    intro fuel
    induction fuel with
    | zero =>
      intro listed a w hc hi
      have hr : Region.ready .any ops listed = [] := by
        cases hrd : Region.ready .any ops listed with
        | nil => rfl
        | cons i r =>
          exfalso
          have hmem : i ∈ Region.ready .any ops listed := by rw [hrd]; simp
          obtain ⟨hun, o, ho, _⟩ := mem_ready.1 hmem
          have hi' := (Array.getElem?_eq_some_iff.1 ho).1
          have hil : i < listed.size := by rw [hi.lsize]; exact hi'
          have hu : listed.getD i false = false := by
            simp only [Array.getD_eq_getD_getElem?, Array.getElem?_eq_getElem hil, Option.getD_some] at hun ⊢
            exact hun
          have : i ∈ unlisted ops listed := List.mem_filter.2 ⟨List.mem_range.2 hi', by rw [hu]; rfl⟩
          have := List.length_pos_of_mem this
          omega
      exact ⟨hr, hend listed a w hi hr⟩
    | succ fuel ih =>
      intro listed a w hc hi
      refine ⟨hend listed a w hi, fun i hmem => ?_⟩
      obtain ⟨hun, o, ho, hdown⟩ := mem_ready.1 hmem
      have hi' := (Array.getElem?_eq_some_iff.1 ho).1
      have hil : i < listed.size := by rw [hi.lsize]; exact hi'
      have hu : listed.getD i false = false := by
        simp only [Array.getD_eq_getD_getElem?, Array.getElem?_eq_getElem hil, Option.getD_some] at hun ⊢
        exact hun
      obtain ⟨ds, g, hg, hon, ⟨d, hd, hdn, hdk⟩, hds, hgd⟩ := hspec i o ho
      have hlt := unlisted_set (ops := ops) hi' hi.lsize hu
      have hkn := rel_known (by simpa using h1) hi hu ho hdown ds hds
      have hst := h3 i o ds g (by simpa using ho) hg a w hi.size hi.world hkn
      have next : ∀ (v : Value) (w' : World), (R w w' ∨ w' = w) → F w' → (Ds.getD i fun _ _ => True) v w' → wpAny P .any ops Q fuel (listed.setIfInBounds i true) (a.put o.dst v) w' := fun v w' hR hF' hv =>
        ih _ _ _ (by omega) (hi.step h2 ho hdown (fun d' hd' => by rw [hd] at hd'; obtain rfl := Option.some.inj hd'; exact ⟨hdn, hdk⟩) v hR hF' hv)
      unfold wpOp
      rw [ho]
      simp only
      cases hgu : o.guard with
      | none =>
        rw [hgu] at hgd
        cases g with
        | some y => simp at hgd
        | none =>
          have hw : Region.wanted o (yielded ops a.tmps) = true := by simp [Region.wanted, hgu]
          rw [if_pos hw]
          exact .inl (Oper.wp_mono (fun a' w' ⟨v, ha, hR, hF', hv⟩ => by rw [ha]; exact next v w' (.inl hR) hF' hv) hst)
      | some x =>
        obtain ⟨j, b⟩ := x
        rw [hgu] at hgd
        cases g with
        | none => simp at hgd
        | some y =>
          obtain ⟨t, b'⟩ := y
          obtain ⟨rfl, hjt⟩ := hgd
          obtain ⟨c, hc1, hc2⟩ := hst
          have hy : yielded ops a.tmps j = some c := by
            unfold yielded
            unfold dstAt at hjt
            have ht : a.tmps[t]? = some (.bool c) := by
              rw [Array.getD_eq_getD_getElem?] at hc1
              cases ht : a.tmps[t]? with
              | none => rw [ht] at hc1; simp [undef] at hc1
              | some v => rw [ht] at hc1; simpa using hc1
            rw [hjt, Option.bind_some, ht]
          have hw : Region.wanted o (yielded ops a.tmps) = (some c == some b) := by simp [Region.wanted, hgu, hy]
          by_cases hcb : c = b
          · rw [if_pos hcb] at hc2
            rw [if_pos (by rw [hw, hcb]; simp)]
            exact .inl (Oper.wp_mono (fun a' w' ⟨v, ha, hR, hF', hv⟩ => by rw [ha]; exact next v w' (.inl hR) hF' hv) hc2)
          · rw [if_neg hcb] at hc2
            rw [if_neg (by rw [hw]; simp [hcb])]
            exact next undef w (.inr rfl) hi.world hc2
  refine wp_region_any hm (key _ _ _ _ (by unfold unlisted; exact Nat.le_trans (List.length_filter_le _ _) (by simp)) ⟨hF, rfl, rfl, by simp, ?_, fun _ _ => rfl, ?_⟩)
  · intro i o d ho hl
    have hi := (Array.getElem?_eq_some_iff.1 ho).1
    simp [Array.getD, hi] at hl
  · intro i o ho hl
    have hi := (Array.getElem?_eq_some_iff.1 ho).1
    simp [Array.getD, hi] at hl
end

/-! ### For the hand that walks -/
section
variable {P : Program} {R : World → World → Prop} {F : World → Prop} {Q : Exit → Act → World → Prop} {a0 : Act} {all os : List Oper} {o : Oper} {ds : List (Nat × Option Nat)} {g : Option (Nat × Bool)}
  {ls : List (List (Nat × Option Nat) × Option (Nat × Bool))} {acc : List (Value → World → Prop)}

/-- It is this value. -/
def Is (c : Value) (v : Value) (_ : World) : Prop := v = c

theorem rel_pure (h : ∃ c, (∀ a w, F w → RelKnown a0 acc a w ds → RelStep P R F Q (Is c) o a w g) ∧ RelAll P R F Q a0 all os ls (Is c :: acc)) : RelAll P R F Q a0 all (o :: os) ((ds, g) :: ls) acc := by
  obtain ⟨c, h1, h2⟩ := h
  exact ⟨Is c, fun _ _ _ _ h => h, fun a w _ => h1 a w, h2⟩
theorem rel_some (D : Value → World → Prop) (hD : ∀ v w w', R w w' → D v w → D v w') (h : ∀ a w, F w → RelKnown a0 acc a w ds → RelStep P R F Q D o a w g) (h2 : RelAll P R F Q a0 all os ls (D :: acc)) : RelAll P R F Q a0 all (o :: os) ((ds, g) :: ls) acc :=
  ⟨D, hD, fun a w _ => h a w, h2⟩
theorem rel_any {α : Type} (D : α → Value → World → Prop) (hD : ∀ s v w w', R w w' → D s v w → D s v w') (h : ∃ s, (∀ a w, F w → RelKnown a0 acc a w ds → RelStep P R F Q (D s) o a w g) ∧ RelAll P R F Q a0 all os ls (D s :: acc)) : RelAll P R F Q a0 all (o :: os) ((ds, g) :: ls) acc := by
  obtain ⟨s, h1, h2⟩ := h
  exact ⟨D s, hD s, fun a w _ => h1 a w, h2⟩
theorem rel_done (h : ∀ w, F w → RelEnd Q w all acc.reverse a0) : RelAll P R F Q a0 all [] [] acc := h

theorem rel_nil {w : World} {a : Act} (h : Q .normal a w) : RelEnd Q w [] [] a := h
variable {D : Value → World → Prop} {a : Act} {w : World} {t : Nat} {b : Bool}
theorem rel_none (h : ∀ K : Act → World → Prop, (∀ v w', R w w' → F w' → D v w' → K (a.put o.dst v) w') → o.wp P a w K Q) : RelStep P R F Q D o a w none :=
  h _ fun v _ hR hF hD => ⟨v, rfl, hR, hF, hD⟩
theorem rel_yes (hc : Is (.bool b) (a.tmps.getD t undef) w) (h : ∀ K : Act → World → Prop, (∀ v w', R w w' → F w' → D v w' → K (a.put o.dst v) w') → o.wp P a w K Q) : RelStep P R F Q D o a w (some (t, b)) :=
  ⟨b, hc, by rw [if_pos rfl]; exact h _ fun v _ hR hF hD => ⟨v, rfl, hR, hF, hD⟩⟩
theorem rel_no {c : Bool} (hc : Is (.bool c) (a.tmps.getD t undef) w) (hne : (c == b) = false) (h : D undef w) : RelStep P R F Q D o a w (some (t, b)) :=
  ⟨c, hc, by rw [if_neg (by simpa using hne)]; exact h⟩
end
/-- The world has only grown. -/
def Grow (w w' : World) : Prop := Below w.heap.size w w'
theorem Grow.refl (w : World) : Grow w w := Below.refl _ _
theorem Grow.alloc (w : World) (o : Obj) : Grow w (w.alloc o) := (Below.refl _ _).alloc (Nat.le_refl _) o
theorem Grow.cell {w w' : World} (h : Grow w w') {b j : Nat} {v : Value} (hc : w.cell? ⟨b, j, none⟩ = some v) : w'.cell? ⟨b, j, none⟩ = some v :=
  (Below.cell h (p := ⟨b, j, none⟩) (World.block_lt_of_cell? w _ hc)).trans hc
theorem Grow.drewN (w : World) (n : Nat) : Grow w (w.drewN n) := below_drewN (Below.refl _ _) n
end Go.Proofs.YtnhmdinpfcoebaaGreatDoor
end

/-! === Store -/
section
/- A whole row, or a whole struct, stored into a block that is known whole; all but one block is as it was. No program in sight. -/
namespace Go.Proofs.YtnhmdinpfcoebaaGreatDoor
open Go.RowKit

/-- All but one block is as it was. -/
def Only (b : Nat) (w w' : World) : Prop := w'.os = w.os ∧ w'.tape = w.tape ∧ w'.output = w.output ∧ w.heap.size ≤ w'.heap.size ∧ ∀ k, k < w.heap.size → k ≠ b → w'.heap[k]? = w.heap[k]?
theorem Only.refl (b : Nat) (w : World) : Only b w w := ⟨rfl, rfl, rfl, Nat.le_refl _, fun _ _ _ => rfl⟩
theorem Only.trans {b : Nat} {w w1 w2 : World} (h : Only b w w1) (g : Only b w1 w2) : Only b w w2 :=
  ⟨g.1.trans h.1, g.2.1.trans h.2.1, g.2.2.1.trans h.2.2.1, Nat.le_trans h.2.2.2.1 g.2.2.2.1, fun k hk hne => (g.2.2.2.2 k (Nat.lt_of_lt_of_le hk h.2.2.2.1) hne).trans (h.2.2.2.2 k hk hne)⟩
theorem Only.drewN {b : Nat} {w w1 : World} (h : Only b w w1) (n : Nat) : Only b w (w1.drewN n) := h
theorem Only.drew {b : Nat} {w w1 : World} (h : Only b w w1) : Only b w w1.drew := h
theorem Only.setCell {b : Nat} {w w1 : World} (h : Only b w w1) (j : Nat) (v : Value) : Only b w (w1.setCell ⟨b, j, none⟩ v) :=
  h.trans ⟨rfl, rfl, rfl, by simp [World.setCell], fun k _ hne => set_block_other hne j v⟩
theorem Only.alloc {b : Nat} {w w1 : World} (h : Only b w w1) (o : Obj) : Only b w (w1.alloc o) :=
  h.trans ⟨rfl, rfl, rfl, by show w1.heap.size ≤ (w1.heap.push o).size; simp, fun k hk _ => heapAt_alloc_old w1 o hk⟩
theorem Only.of_below {b : Nat} {w w1 w2 : World} (h : Only b w w1) (g : Below w1.heap.size w1 w2) : Only b w w2 := h.trans ⟨g.os, g.tape, g.output, g.size, fun k hk _ => g.block k hk⟩
theorem Only.below {b B : Nat} {w w1 : World} (h : Only b w w1) (hb : B ≤ b) (hB : B ≤ w.heap.size) : Below B w w1 := ⟨h.1, h.2.1, h.2.2.1, h.2.2.2.1, fun k hk => h.2.2.2.2 k (by omega) (by omega)⟩
theorem Only.at {b k : Nat} {w w1 : World} {o : Obj} (h : Only b w w1) (hne : k ≠ b) (ho : w.heap[k]? = some o) : w1.heap[k]? = some o := (h.2.2.2.2 k (heapAt_lt ho) hne).trans ho
theorem Only.setNew {w w1 : World} {g : Nat} (h : Only g w w1) {d : Nat} (hd : w.heap.size ≤ d) (j : Nat) (v : Value) : Only g w (w1.setCell ⟨d, j, none⟩ v) :=
  ⟨h.1, h.2.1, h.2.2.1, by have := h.2.2.2.1; simpa [World.setCell] using this, fun k hk hne => (set_block_other (by omega) j v).trans (h.2.2.2.2 k hk hne)⟩
/-- Of a block made since, it grows. -/
theorem Grow.only {b : Nat} {w w1 w2 : World} (h : Grow w w1) (ho : Only b w1 w2) (hb : w.heap.size ≤ b) : Grow w w2 :=
  ⟨ho.1.trans h.os, ho.2.1.trans h.tape, ho.2.2.1.trans h.output, Nat.le_trans h.size ho.2.2.2.1, fun k hk => (ho.2.2.2.2 k (Nat.lt_of_lt_of_le hk h.size) (by omega)).trans (h.block k hk)⟩
theorem Grow.trans {w0 w w' : World} (h : Grow w0 w) (hg : Grow w w') : Grow w0 w' := Below.trans h (hg.mono h.size)
theorem Grow.at {w w' : World} (h : Grow w w') {k : Nat} {o : Obj} (ho : w.heap[k]? = some o) : w'.heap[k]? = some o := heapAt_below h (heapAt_lt ho) ho

theorem only_setCells (b : Nat) : ∀ (vs : List Value) (o : Nat) (w : World), Only b w (w.setCells b o vs)
  | [], _, w => Only.refl b w
  | v :: vs, o, w => ((Only.refl b w).setCell o v).trans (only_setCells b vs (o + 1) (w.setCell ⟨b, o, none⟩ v))
theorem heapAt_setCells {b : Nat} {t : TypeId} : ∀ (vs : List Value) (pre post : List Value) (w : World), post.length = vs.length → w.heap[b]? = some (.cells (pre ++ post).toArray t (0, 0)) → (w.setCells b pre.length vs).heap[b]? = some (.cells (pre ++ vs).toArray t (0, 0))
  | [], pre, post, w, hl, h => by
    have : post = [] := List.eq_nil_of_length_eq_zero (by simpa using hl)
    subst this
    exact h
  | v :: vs, pre, [], w, hl, h => by simp at hl
  | v :: vs, pre, p :: post, w, hl, h => by
    have h1 := set_block h pre.length v
    have e : ((pre ++ p :: post).toArray.setIfInBounds pre.length v) = ((pre ++ [v]) ++ post).toArray := by
      simp
    rw [e] at h1
    have h2 := heapAt_setCells vs (pre ++ [v]) post (w.setCell ⟨b, pre.length, none⟩ v) (by simpa using hl) h1
    have e2 : (pre ++ [v]).length = pre.length + 1 := by simp
    rw [e2] at h2
    have e3 : pre ++ [v] ++ vs = pre ++ v :: vs := by simp
    rw [e3] at h2
    exact h2

/-- A value stored into a block that is known whole, and has as many cells. -/
theorem wpList_store_blk {P : Program} {ops : Array Oper} {rest : List Oper} {op : Oper} {a : Act} {w : World} {Q : Exit → Act → World → Prop} (hgd : op.guard = none) (ty : TypeId) (x y : Operand) (ho : op.op = .store ty x y)
    (g : Nat) (t : TypeId) (old cells : Array Value) (hx : a.eval x = .pointer (some ⟨g, 0, none⟩)) (hy : a.eval y = .agg cells) (hold : w.heap[g]? = some (.cells old t (0, 0))) (hsz : old.size = cells.size)
    (hi : (P.info? ty).map (·.size) = some cells.size) (h1 : cells.all (·.oneCell') = true)
    (h : ∀ w', w'.heap[g]? = some (.cells cells t (0, 0)) → Only g w w' → wpList P ops Q rest (a.put op.dst undef) w') : wpList P ops Q (op :: rest) a w :=
  wpList_store_mid hgd ty x y ho g 0 cells hx hy (fun j hj => ⟨by
      rw [Nat.zero_add, cell_block hold]; simp [hsz, hj], free_block hold _⟩) hi h1
    (h _ (by
      have := heapAt_setCells (b := g) (t := t) cells.toList [] old.toList w (by simpa using hsz) (by simpa using hold)
      simpa using this) (only_setCells g cells.toList 0 w))
/-- A value loaded out of a block that is known whole. -/
theorem wpList_load_blk {P : Program} {ops : Array Oper} {rest : List Oper} {op : Oper} {a : Act} {w : World} {Q : Exit → Act → World → Prop} (hgd : op.guard = none) (ty : TypeId) (x : Operand) (ho : op.op = .load ty x)
    (g : Nat) (t : TypeId) (cells : Array Value) (d : TypeDesc) (hx : a.eval x = .pointer (some ⟨g, 0, none⟩)) (hold : w.heap[g]? = some (.cells cells t (0, 0)))
    (hu : P.underlying ty = some d) (hd : (match d with | .struct _ | .array _ _ => true | _ => false) = true) (hi : (P.info? ty).map (·.size) = some cells.size)
    (h : wpList P ops Q rest (a.put op.dst (.agg cells)) w) : wpList P ops Q (op :: rest) a w :=
  wpList_load_row hgd ty x ho g hx t cells (0, 0) d hold hu hd hi h
end Go.Proofs.YtnhmdinpfcoebaaGreatDoor
end
