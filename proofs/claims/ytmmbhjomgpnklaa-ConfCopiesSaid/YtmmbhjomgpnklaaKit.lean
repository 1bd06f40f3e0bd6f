/- General laws for the walks of this seat: no program in sight: an element put behind a row that the call owns; worlds that only grow; bits of words. -/
import Derived.WalkKit
import Derived.WalkSpells
import Derived.WalkLawsBesides
import Derived.Deep.QuietTactic
import Derived.BigQuiet
import Derived.Lib.Hide
import Derived.Deep.RegionHeld3
import Derived.Deep.DrawnRows
namespace Go.Proofs.Ytmmbhjomgpnklaa
open Go.RowKit

/-! ### Worlds that only grow -/
theorem below_alloc' {B : Nat} {w wr : World} (h : Below B w wr) (hB : B ≤ w.heap.size) (o : Obj) : Below B w (wr.alloc o) := h.alloc (Nat.le_trans hB h.size) o
theorem drewN_setCell (w : World) (n : Nat) (a : Addr) (v : Value) : (w.drewN n).setCell a v = (w.setCell a v).drewN n := rfl
theorem drewN_alloc (w : World) (n : Nat) (o : Obj) : (w.drewN n).alloc o = (w.alloc o).drewN n := rfl
theorem heapAt_drewN (w : World) (n k : Nat) : (w.drewN n).heap[k]? = w.heap[k]? := rfl
theorem heapAt_below {B : Nat} {w w' : World} (h : Below B w w') {k : Nat} (hk : k < B) {o : Obj} (ho : w.heap[k]? = some o) : w'.heap[k]? = some o := (h.block k hk).trans ho
theorem heapAt_alloc_new (w : World) (o : Obj) : (w.alloc o).heap[w.heap.size]? = some o := by
  show (w.heap.push o)[w.heap.size]? = _
  simp
theorem heapAt_alloc_old (w : World) (o : Obj) {k : Nat} (hk : k < w.heap.size) : (w.alloc o).heap[k]? = w.heap[k]? := Below.heap_alloc w o k hk
theorem heapAt_lt {w : World} {k : Nat} {o : Obj} (h : w.heap[k]? = some o) : k < w.heap.size := (Array.getElem?_eq_some_iff.1 h).1
theorem cell_block {w : World} {b : Nat} {cs : Array Value} {t : TypeId} {fr : Nat × Nat} (h : w.heap[b]? = some (.cells cs t fr)) (j : Nat) : w.cell? ⟨b, j, none⟩ = cs[j]? := by
  unfold World.cell?
  simp only [h]
  rfl
theorem free_block {w : World} {b : Nat} {cs : Array Value} {t : TypeId} (h : w.heap[b]? = some (.cells cs t (0, 0))) (j : Nat) : w.frozen? ⟨b, j, none⟩ = false := by
  unfold World.frozen?
  simp only [h]
  simp
theorem set_block {w : World} {b : Nat} {cs : Array Value} {t : TypeId} (h : w.heap[b]? = some (.cells cs t (0, 0))) (j : Nat) (v : Value) : (w.setCell ⟨b, j, none⟩ v).heap[b]? = some (.cells (cs.setIfInBounds j v) t (0, 0)) := by
  simp only [World.setCell, Array.getElem?_modify, if_true, h]
  rfl
theorem set_block_other {w : World} {b c : Nat} (hne : c ≠ b) (j : Nat) (v : Value) : (w.setCell ⟨b, j, none⟩ v).heap[c]? = w.heap[c]? :=
  Below.heap_setCell w ⟨b, j, none⟩ v c hne

/-! ### One element put behind a row that the call owns -/
theorem below_grown {B : Nat} {w w' : World} {row : Option Nat} (hg : w.grownBy w' row) (hB : B ≤ w.heap.size) (hr : ∀ k, row = some k → B ≤ k) : Below B w w' :=
  (Below.refl B w).grown hg hB hr

theorem wpList_push {P : Program} {ops : Array Oper} {rest : List Oper} {o : Oper} {a : Act} {Q : Exit → Act → World → Prop} {w : World} (hgd : o.guard = none) (s x : Operand) (t : TypeId)
    (ho : o.op = .call { callee := .builtin .append, args := #[s, x], argTypes := #[t, t] })
    (B : Nat) (e : TypeId) (i : TypeInfo) (z : Value) (bytes : Nat) (ht : P.underlying t = some (.slice e)) (hi : P.info? e = some i) (hz : i.zero = some z) (hsize : i.size = 1) (hby : i.bytes = bytes) (hzs : z.cells.size = 1)
    (v : Value) (n : Nat) (xs : List Value) (p c : Nat) (u : Value) (hs : a.eval s = v) (hown : w.ownsRow B e 1 v n xs) (hx : a.eval x = .slice (some ⟨p, 0, none⟩) 1 c)
    (hc : w.cell? ⟨p, 0, none⟩ = some u) (h1 : u.oneCell' = true) (h63 : n + 1 ≤ maxLen) (hbytes : (n + 1) * bytes ≤ 140737488355328) (hB : B ≤ w.heap.size)
    (h : ∀ v' w', w'.ownsRow B e 1 v' (n + 1) (xs ++ [u]) → Below B w w' → v' ≠ .slice none 0 0 → wpList P ops Q rest (a.put o.dst v') w') : wpList P ops Q (o :: rest) a w :=
  wpList_append_own w hgd s x t ho B e i z 1 bytes ht hi hz hsize hby hzs (by decide) v n xs hs hown ⟨p, 0, none⟩ 1 c [u] hx rfl
    (fun j u' hj => by
      match j, hj with
      | 0, hj => simp at hj; subst hj; simpa [Addr.add] using hc)
    (fun u' hu => by simp at hu; subst hu; exact h1) h63 hbytes hB
    (fun v' w' hown' hg hnil => h v' w' hown' (below_grown hg hB fun k hk => (hown.lt k hk).1) (fun e => by simp [e] at hnil))

/-- Bytes that the call owns, as a string. -/
theorem conv_row {P : Program} (w : World) (src dst e : TypeId) (hs : P.underlying src = some (.slice e)) (he : P.underlying e = some (.int .u8)) (hd : P.underlying dst = some .string)
    (B n : Nat) (v : Value) (l : List UInt8) (hn : l.length = n) (h : w.ownsRow B e 1 v n (l.map fun b => .int .u8 (b.toNat : Int))) : (convert src dst v).run P w = .ok (.string ⟨l.toArray⟩) w := by
  subst hn
  rcases h.2 with ⟨rfl, h0⟩ | ⟨g, cap, cur, rfl, hb, hg, hcap, hm, hsz, htake⟩
  · have : l = [] := List.eq_nil_of_length_eq_zero h0
    subst this
    exact run_convert_bytes_nil w src e hs he 0 0 dst hd
  · refine run_convert_bytes_back w src dst e ⟨g, 0, none⟩ cap l hs he hd fun j hj => ?_
    exact h.cells (g := g) rfl j (.int .u8 (l[j].toNat : Int)) (by simp [hj])

/-- A row that is read, out of a row that the call owns. -/
theorem ownsRow_cell {w : World} {B : Nat} {e : TypeId} {v : Value} {n : Nat} {xs : List Value} (h : w.ownsRow B e 1 v n xs) {g cap : Nat} (hv : v = .slice (some ⟨g, 0, none⟩) n cap) (j : Nat) (hj : j < n) : w.cell? ⟨g, j, none⟩ = some (xs.getD j undef) := by
  have hl : xs.length = n := by rw [h.1]; omega
  have hc := h.cells (g := g) (by rw [hv]; rfl) j (xs.getD j undef) (by simp [List.getD, List.getElem?_eq_getElem (by omega : j < xs.length)])
  have hadd : (⟨g, 0, none⟩ : Addr).add j = ⟨g, j, none⟩ := by unfold Addr.add; split <;> simp_all
  rwa [hadd] at hc

/-! ### Words of 32 bits, by their bits -/
theorem ofInt_toNat32 (a : BitVec 32) : BitVec.ofInt 32 (a.toNat : Int) = a := by
  rw [BitVec.ofInt_natCast, BitVec.ofNat_toNat]; simp
theorem bits_xor32 (a b : BitVec 32) : bits .xor .u32 (a.toNat : Int) (b.toNat : Int) = ((a ^^^ b).toNat : Int) := by
  have h := (a ^^^ b).isLt
  show IntKind.u32.wrap ((BitVec.ofInt 32 (a.toNat : Int) ^^^ BitVec.ofInt 32 (b.toNat : Int)).toNat : Int) = _
  rw [ofInt_toNat32, ofInt_toNat32, IntKind.wrap_u32']; omega
theorem bits_and32 (a b : BitVec 32) : bits .and .u32 (a.toNat : Int) (b.toNat : Int) = ((a &&& b).toNat : Int) := by
  have h := (a &&& b).isLt
  show IntKind.u32.wrap ((BitVec.ofInt 32 (a.toNat : Int) &&& BitVec.ofInt 32 (b.toNat : Int)).toNat : Int) = _
  rw [ofInt_toNat32, ofInt_toNat32, IntKind.wrap_u32']; omega
theorem bits_or32 (a b : BitVec 32) : bits .or .u32 (a.toNat : Int) (b.toNat : Int) = ((a ||| b).toNat : Int) := by
  have h := (a ||| b).isLt
  show IntKind.u32.wrap ((BitVec.ofInt 32 (a.toNat : Int) ||| BitVec.ofInt 32 (b.toNat : Int)).toNat : Int) = _
  rw [ofInt_toNat32, ofInt_toNat32, IntKind.wrap_u32']; omega
theorem bits_andNot32 (a b : BitVec 32) : bits .andNot .u32 (a.toNat : Int) (b.toNat : Int) = ((a &&& ~~~b).toNat : Int) := by
  have h := (a &&& ~~~b).isLt
  show IntKind.u32.wrap ((BitVec.ofInt 32 (a.toNat : Int) &&& ~~~(BitVec.ofInt 32 (b.toNat : Int))).toNat : Int) = _
  rw [ofInt_toNat32, ofInt_toNat32, IntKind.wrap_u32']; omega
theorem bv32_of (x : Int) (h0 : 0 ≤ x) (h1 : x < 4294967296) : ∃ b : BitVec 32, x = (b.toNat : Int) :=
  ⟨BitVec.ofNat 32 x.toNat, by rw [BitVec.toNat_ofNat]; omega⟩
end Go.Proofs.Ytmmbhjomgpnklaa
