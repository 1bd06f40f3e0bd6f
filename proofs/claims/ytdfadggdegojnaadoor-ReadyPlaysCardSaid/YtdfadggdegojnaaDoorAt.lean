/- The walks of At and of the reference's Ints. -/
import Derived.Test.YtdfadggdegojnaaDoorAwake
import Derived.Test.YtdfadggdegojnaaDoorMemI
namespace Go.Proofs.YtdfadggdegojnaaDoor
open Go.RowKit
set_option linter.unusedVariables false
theorem own_alloc {w : World} {B n : Nat} {v : Value} {xs : List Value} (h : w.ownsRow B 3 1 v n xs) (o : Obj) : (w.alloc o).ownsRow B 3 1 v n xs := by
  refine ⟨h.1, ?_⟩
  rcases h.2 with h1 | ⟨g, cap, cur, h1, hB, hg, hr⟩
  · exact .inl h1
  · exact .inr ⟨g, cap, cur, h1, hB, heapAt_alloc_old _ _ (heapAt_lt hg) |>.trans hg, hr⟩
theorem own_form {w : World} {B n : Nat} {v : Value} {xs : List Value} (h : w.ownsRow B 3 1 v n xs) : ∃ A cap, v = .slice A n cap := by
  rcases h.2 with ⟨h1, h2⟩ | ⟨g, cap, cur, rfl, hB, hg, hcap, _⟩
  · subst h2; exact ⟨_, _, h1⟩
  · exact ⟨_, cap, rfl⟩
theorem seg_at {ahead after : Nat → Int} : ∀ (xs : List Nat) (p n : Int), Seg ahead after p xs n → ∀ (k : Nat) (h : k < xs.length), after (xs[k]) = hd n (xs.drop (k + 1))
  | [], _, _, _, k, h => by simp at h
  | x :: xs, p, n, hs, 0, h => by simpa using hs.2.1
  | x :: xs, p, n, hs, k + 1, h => by
    simpa using seg_at xs x n hs.2.2 k (by simpa using h)
theorem drop_hd (n : Int) (xs : List Nat) (k : Nat) (h : k < xs.length) : hd n (xs.drop k) = (xs[k] : Nat) := by
  rw [List.drop_eq_getElem_cons h]; rfl
def lenOf : Value → Nat
  | .slice _ n _ => n
  | _ => 0
attribute [local irreducible] ctz qCells lvl pushR cutR firstR total inR hd
set_option maxRecDepth 100000
set_option maxHeartbeats 1000000 in
/-- Two rows that are the same. -/
theorem ints_same (w : World) (A1 A2 : Option Addr) (n c1 c2 : Nat) (M : Nat → Int) (hn : (n : Int) ≤ 1000) (hc1 : (n : Int) ≤ c1) (hc2 : (n : Int) ≤ c2) (hM1 : MemAt w A1 n M) (hM2 : MemAt w A2 n M) :
    Calls Tryd.prog 21 #[.slice A1 n c1, .slice A2 n c2] w fun e w' => e = .returned (.bool true) ∧ Grow w w' := by
  have H1 := Lib.hid hM1; clear hM1
  have H2 := Lib.hid hM2; clear hM2
  go_enter Tryd.func21, Tryd.ntmps21
  go_wp2_with fail
  go_loopw [5] (fun i wr => ∃ k : Nat, k ≤ n ∧ i = .int .i64 k ∧ Grow w wr) (fun i _ => n - (intOf i).toNat)
  case atStart => exact ⟨0, by omega, rfl, Grow.refl _⟩
  case round =>
    obtain ⟨k, hk, rfl, hg⟩ := hrel
    have HGr := Lib.hid hg; clear hg
    by_cases hlt : k < n
    · obtain ⟨a1, hA1, hm1⟩ := (H1.out.grow HGr.out) (by omega)
      obtain ⟨a2, hA2, hm2⟩ := (H2.out.grow HGr.out) (by omega)
      have m1 := hm1 k hlt
      have m2 := hm2 k hlt
      rw [hA1, hA2]
      clear hm1 hm2 hA1 hA2
      have k0 : (0 : Int) ≤ (k : Int) := by omega
      have kn : (k : Int) < (n : Int) := by omega
      go_wp2_with fail
      go_quiet (fail)
      have HG2 := Lib.hid (HGr.out.trans (Grow.drewN wr nq))
      go_wp2_with fail
      go_roundw
      case rel => exact ⟨k + 1, by omega, by go_num, HG2.out⟩
      case measure => simp [intOf]; omega
    · have kn : ¬ (k : Int) < (n : Int) := by omega
      go_wp2
      go_ret
      exact ⟨rfl, HGr.out⟩

theorem at_out (w : World) (b : Nat) (l : Int) (hl : ¬ (0 ≤ l ∧ l < 32)) : Calls Tryd.prog 20 #[.pointer (some ⟨b, 0, none⟩), .int .i64 l] w fun e w' => e = .returned (.slice none 0 0) ∧ w' = w := by
  have HIS := Lib.hid (is_any w 0 l false ⟨fun h => (by cases h), fun h => absurd h.2.2 hl⟩)
  clear hl
  go_enter Tryd.func20, Tryd.ntmps20
  go_wp2_with fail
  refine HIS.out.mono ?_
  rintro e w' ⟨rfl, rfl⟩
  go_wp2
  go_ret
  exact ⟨rfl, rfl⟩
theorem at_empty (w : World) (b l : Nat) (L : Rows) (hl : l < 32) (he : L l = []) (h : RQ w b L) : Calls Tryd.prog 20 #[.pointer (some ⟨b, 0, none⟩), .int .i64 l] w fun e w' => e = .returned (.slice none 0 0) ∧ w' = w := by
  have HIS := Lib.hid (is_any w 0 l true ⟨fun _ => (by omega), fun _ => rfl⟩)
  obtain ⟨s, hq, hp⟩ := h
  have x0 := hq.c0
  have hw0 := bit_word s.some l hl
  rw [(hp.some l hl).2 he] at hw0
  simp only [Bool.not_false] at hw0
  have l0 : (0 : Int) ≤ (l : Int) := by omega
  have l1 : (l : Int) < 32 := by omega
  clear hq hp he
  go_enter Tryd.func20, Tryd.ntmps20
  go_wp2_with fail
  refine HIS.out.mono ?_
  rintro e w' ⟨rfl, rfl⟩
  go_wp2
  go_ret
  exact ⟨rfl, rfl⟩
set_option maxHeartbeats 1000000 in
theorem at_row (w : World) (b l : Nat) (L : Rows) (hl : l < 32) (he : L l ≠ []) (h : RQ w b L) : Calls Tryd.prog 20 #[.pointer (some ⟨b, 0, none⟩), .int .i64 l] w fun e w' => ∃ A cap, e = .returned (.slice A (L l).length cap) ∧ MemOwn w' w.heap.size A (L l).length (rowM (L l)) ∧ (L l).length ≤ cap ∧ Grow w w' := by
  have HIS := Lib.hid (is_any w 0 l true ⟨fun _ => (by omega), fun _ => rfl⟩)
  obtain ⟨s, hq, hp⟩ := h
  have x0 := hq.c0
  have x1 := hq.front l hl
  have hw0 := bit_word s.some l hl
  have hbit : s.some.getLsbD l = true := by
    cases e : s.some.getLsbD l with
    | true => rfl
    | false => exact absurd ((hp.some l hl).1 e) he
  rw [hbit] at hw0
  simp only [Bool.not_true] at hw0
  rw [hp.front l hl he] at x1
  have l0 : (0 : Int) ≤ (l : Int) := by omega
  have l1 : (l : Int) < 32 := by omega
  have hseg := seg_at _ _ _ (hp.seg l hl)
  have hmem : ∀ (k : Nat) (h : k < (L l).length), (L l)[k] < 64 := fun k h => (hp.mem l hl _ (List.getElem_mem h)).1
  have hlen := nodup_len 64 (L l) (hp.nodup l hl) (fun x hx => (hp.mem l hl x hx).1)
  have HQ := Lib.hid hq; clear hq
  generalize hxs : L l = xs at *
  have HSEG := Lib.hid hseg; clear hseg
  have HMEM := Lib.hid hmem; clear hmem
  clear hbit hp he hxs
  obtain ⟨i0, hi, hz0, hz1, hz2⟩ := info_parts info3
  have HI := Lib.hid hi; clear hi
  have HZ0 := Lib.hid hz0; clear hz0
  have HZ1 := Lib.hid hz1; clear hz1
  have HZ2 := Lib.hid hz2; clear hz2
  go_enter Tryd.func20, Tryd.ntmps20
  go_wp2_with fail
  refine HIS.out.mono ?_
  rintro e w' ⟨rfl, rfl⟩
  go_wp2_with fail
  go_loopw [5, 6] (fun o i wr => ∃ k : Nat, k ≤ xs.length ∧ i = .int .i8 (hd (-1) (xs.drop k)) ∧ wr.ownsRow w'.heap.size 3 1 o k (ints (xs.take k)) ∧ Grow w' wr) (fun o _ _ => xs.length - lenOf o)
  case atStart => exact ⟨0, by omega, by simp, ⟨by simp [ints], .inl ⟨rfl, rfl⟩⟩, Grow.refl _⟩
  case round =>
    obtain ⟨k, hk, rfl, hown, hg⟩ := hrel
    obtain ⟨oA, oc, rfl⟩ := own_form hown
    have HGr := Lib.hid hg; clear hg
    have HOWN := Lib.hid hown; clear hown
    by_cases hlt : k < xs.length
    · have hx := HMEM.out k hlt
      have hnx := HSEG.out k hlt
      rw [drop_hd _ _ _ hlt]
      have HTK := Lib.hid (show ints (xs.take k) ++ [Value.int .i64 ((xs[k] : Nat) : Int)] = ints (xs.take (k + 1)) by rw [ints_snoc, List.take_append_getElem hlt])
      generalize xs[k] = x at *
      have cx := (HQ.out.below HGr.out).after x hx
      have HNX := Lib.hid hnx; clear hnx
      have v0 : (0 : Int) ≤ (x : Int) := by omega
      have v1 : (x : Int) < 64 := by omega
      go_wp2_with (at_builtin; refine wpList_append_any _ rfl (.tmp 38) (.tmp 41) 22 rfl w'.heap.size 3 i0 (.int .i64 0) 1 8 Tryd.underlying22 HI.out HZ0.out HZ1.out HZ2.out rfl (by decide) _ k (ints (xs.take k)) (by rfl) ?c1 (wr.alloc (.cells #[.int .i64 (x : Int)] 3)).heap.size (some ⟨wr.heap.size, 0, none⟩) 1 1 [.int .i64 (x : Int)] (by rfl) ?c2 ?c3 ?c4 ?c5 ?c6 ?c7)
      case c1 => exact own_alloc HOWN.out _
      case c2 =>
        have := Reads.of_own (World.ownsRow_lit (base := wr.heap.size) (e := 3) (size := 1) wr #[.int .i64 (x : Int)] 1 (Nat.le_refl _) (by unfold maxLen; omega) rfl)
        simpa using this
      case c3 => simp [Value.oneCell']
      case c4 => unfold maxLen; omega
      case c5 => omega
      case c6 => have := HGr.out.size; simp; omega
      case c7 =>
      intro v' w1 hown1 hgrow hblk
      have hG1 : Grow w' w1 := Below.trans (HGr.out.trans (Grow.alloc wr (.cells #[.int .i64 (x : Int)] 3))) (below_grown hgrow (by have := HGr.out.size; simp; omega) (fun j hj => by
        rcases HOWN.out.2 with ⟨h1, h2⟩ | ⟨g, c, cur, h1, hB, _⟩
        · injection h1 with h1; rw [h1] at hj; simp [Value.ownBlock] at hj
        · injection h1 with h1; rw [h1] at hj; simp [Value.ownBlock] at hj; omega))
      rw [HTK.out] at hown1
      clear cx
      have cx := (HQ.out.below hG1).after x hx
      rw [HNX.out] at cx
      have HO1 := Lib.hid hown1
      have HG1 := Lib.hid hG1
      clear hown1 hgrow hblk hG1
      obtain ⟨oA2, oc2, rfl⟩ := own_form HO1.out
      go_wp2_with fail
      go_roundw
      case rel => exact ⟨k + 1, by omega, rfl, HO1.out, HG1.out⟩
      case measure => simp [lenOf]; omega
    · have hkx : k = xs.length := by omega
      subst hkx
      have hneg : hd (-1) (xs.drop xs.length) = -1 := by rw [List.drop_length, hd]
      rw [hneg]
      have HOW2 := Lib.hid (show wr.ownsRow w'.heap.size 3 1 (.slice oA xs.length oc) xs.length (nums xs.length (rowM xs)) by
        have := HOWN.out
        rw [List.take_length, ints_nums] at this
        exact this)
      go_wp2
      go_ret
      obtain ⟨A', cap', hv, hc, hm⟩ := own_mem HOW2.out
      injection hv with h1 h2 h3
      subst h1; subst h3
      exact ⟨_, _, rfl, hm, hc, HGr.out⟩
end Go.Proofs.YtdfadggdegojnaaDoor
