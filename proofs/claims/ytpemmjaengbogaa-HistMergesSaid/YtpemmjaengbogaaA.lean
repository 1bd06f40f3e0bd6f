/- The library's walks: Less, BinarySearch, Clone, Equal, Mul64, Add64. -/
import Derived.Test.YtpemmjaengbogaaMem
import Derived.Lib.Mul64
import Derived.Laws.Externs
namespace Go.Proofs.Ytpemmjaengbogaa
open Go.RowKit
set_option linter.unusedVariables false
theorem ret_bool {a b : Bool} (h : a = b) : Ending.returned (.bool a) = .returned (.bool b) := by rw [h]
theorem isNaN_a (x : Int) (w : World) : Calls Try.prog 35 #[.int .u64 x] w fun e w' => e = .returned (.bool false) ∧ w' = w := by
  go_enter Try.func35, Try.ntmps35
  go_wp2
  go_ret
  exact ⟨ret_bool (by simp), rfl⟩
theorem isNaN_b (x : Int) (w : World) : Calls Try.prog 33 #[.int .u64 x] w fun e w' => e = .returned (.bool false) ∧ w' = w := by
  go_enter Try.func33, Try.ntmps33
  go_wp2
  go_ret
  exact ⟨ret_bool (by simp), rfl⟩
theorem less_any (x y : Int) (w : World) : Calls Try.prog 32 #[.int .u64 x, .int .u64 y] w fun e w' => e = .returned (.bool (decide (x < y))) ∧ w' = w := by
  go_enter Try.func32, Try.ntmps32
  go_wp2_with (go_at_call 35; refine (isNaN_a _ _).mono ?_; rintro e w' ⟨rfl, rfl⟩)
  go_ret
  exact ⟨rfl, rfl⟩
/-- How many of the first k are less. -/
def whereP (Bd : Nat → Nat) (v : Nat) : Nat → Nat
  | 0 => 0
  | k + 1 => whereP Bd v k + if Bd k < v then 1 else 0
theorem whereP_step (Bd : Nat → Nat) (v k : Nat) : whereP Bd v (k + 1) = whereP Bd v k + if Bd k < v then 1 else 0 := rfl
theorem whereP_zero (Bd : Nat → Nat) (v : Nat) : whereP Bd v 0 = 0 := rfl
theorem whereP_le (Bd : Nat → Nat) (v : Nat) : ∀ k, whereP Bd v k ≤ k
  | 0 => Nat.le_refl _
  | k + 1 => by have := whereP_le Bd v k; rw [whereP]; split <;> omega
theorem whereP_cut (Bd : Nat → Nat) (v i : Nat) : ∀ n, i ≤ n → (∀ t, t < i → Bd t < v) → (∀ t, i ≤ t → t < n → v ≤ Bd t) → whereP Bd v n = i
  | 0, hi, _, _ => by have : i = 0 := by omega
                      subst this; rfl
  | n + 1, hi, h1, h2 => by
    rw [whereP]
    by_cases e : i = n + 1
    · subst e
      have := whereP_cut Bd v n n (Nat.le_refl _) (fun t ht => h1 t (by omega)) (fun t h3 h4 => by omega)
      rw [this, if_pos (h1 n (by omega))]
    · rw [whereP_cut Bd v i n (by omega) h1 (fun t h3 h4 => h2 t h3 (by omega)), if_neg (by have := h2 n (by omega) (by omega); omega), Nat.add_zero]
def Sorted (Bd : Nat → Nat) (n : Nat) : Prop := ∀ i j, i < j → j < n → Bd i < Bd j
/-- A place is told. -/
def FoundP (p : Nat) (w : World) (e : Ending) (w' : World) : Prop := ∃ b, e = .returned (.tuple #[.int .i64 (p : Int), .bool b]) ∧ w' = w
attribute [local irreducible] whereP
set_option maxHeartbeats 1000000 in
theorem search_any (w : World) (A : Option Addr) (n cap v : Nat) (Bd : Nat → Nat) (hn : (n : Int) ≤ 1000) (hcap : (n : Int) ≤ cap) (hM : MemAt w A n Bd) (hs : Sorted Bd n) :
    Calls Try.prog 29 #[.slice A n cap, .int .u64 v] w (FoundP (whereP Bd v n) w) := by
  have HM := Lib.hid hM; clear hM
  have HS := Lib.hid hs; clear hs
  go_enter Try.func29, Try.ntmps29
  go_wp2_with fail
  go_loopw [7, 8] (fun s7 s8 wr => ∃ lo hi : Nat, s7 = .int .i64 lo ∧ s8 = .int .i64 hi ∧ lo ≤ hi ∧ hi ≤ n ∧ wr = w ∧ (∀ t, t < lo → Bd t < v) ∧ (∀ t, hi ≤ t → t < n → v ≤ Bd t)) (fun a b _ => (intOf b).toNat - (intOf a).toNat)
  case atStart => exact ⟨0, n, rfl, rfl, by omega, by omega, rfl, fun t h => by omega, fun t h h2 => by omega⟩
  case round =>
    obtain ⟨lo, hi, rfl, rfl, hlh, hhn, rfl, h1, h2⟩ := hrel
    have H1 := Lib.hid h1; clear h1
    have H2 := Lib.hid h2; clear h2
    by_cases hlt : lo < hi
    · have l0 : (0 : Int) ≤ (lo : Int) := by omega
      have l1 : (lo : Int) < (hi : Int) := by omega
      have l2 : (hi : Int) ≤ 1000 := by omega
      obtain ⟨m, hm⟩ : ∃ m : Nat, ((lo : Int) + (hi : Int)) / 2 = (m : Int) := ⟨(lo + hi) / 2, by omega⟩
      have m0 : lo ≤ m := by omega
      have m1 : m < hi := by omega
      obtain ⟨a, hA, hc⟩ := HM.out (by omega)
      have c := hc m (by omega)
      rw [hA]
      clear hc hA
      have mn : (m : Int) < (n : Int) := by omega
      have mp : (0 : Int) ≤ (m : Int) := by omega
      go_wp2_with fail
      refine (less_any _ _ _).mono ?_
      rintro e w' ⟨rfl, rfl⟩
      by_cases hb : Bd m < v
      · skip
        have H3 := Lib.hid (show ∀ t, t < m + 1 → Bd t < v from fun t ht => by
          by_cases e : t = m
          · subst e; exact hb
          · have := HS.out t m (by omega) (by omega); omega)
        go_wp2_with fail
        go_roundw
        case rel => exact ⟨m + 1, hi, by go_num, rfl, by omega, hhn, trivial, H3.out, H2.out⟩
        case measure => simp [intOf]; omega
      · have hb2 : v ≤ Bd m := by omega
        have H3 := Lib.hid (show ∀ t, m ≤ t → t < n → v ≤ Bd t from fun t ht1 ht2 => by
          by_cases e : t = m
          · subst e; omega
          · have := HS.out m t (by omega) ht2; omega)
        go_wp2_with fail
        go_roundw
        case rel => exact ⟨lo, m, rfl, rfl, by omega, by omega, trivial, H1.out, H3.out⟩
        case measure => simp [intOf]; omega
    · have hle : ¬ (lo : Int) < (hi : Int) := by omega
      have hw := whereP_cut Bd v lo n (by omega) H1.out (fun t h3 h4 => H2.out t (by omega) h4)
      have HW := Lib.hid hw; clear hw H1 H2
      have hwl : (lo : Int) ≤ n := by omega
      have hwl0 : (0 : Int) ≤ (lo : Int) := by omega
      obtain ⟨p, hp⟩ : ∃ p, p = lo := ⟨_, rfl⟩
      subst hp
      by_cases hpn : p < n
      · obtain ⟨a, hA, hc⟩ := HM.out (by omega)
        have c := hc p hpn
        rw [hA]
        clear hc hA
        have pn : (p : Int) < (n : Int) := by omega
        by_cases heq : Bd p = v
        · have heb : ((Bd p : Int) == (v : Int)) = true := by simp [heq]
          go_wp2_with (first | (go_at_call 33; refine (isNaN_b _ _).mono ?_; rintro e w' ⟨rfl, rfl⟩))
          go_ret2
          rw [HW.out]
          exact ⟨_, rfl, rfl⟩
        · have heb : ((Bd p : Int) == (v : Int)) = false := by simp; omega
          go_wp2_with (first | (go_at_call 33; refine (isNaN_b _ _).mono ?_; rintro e w' ⟨rfl, rfl⟩))
          go_ret2
          rw [HW.out]
          exact ⟨_, rfl, rfl⟩
      · have pn : ¬ (p : Int) < (n : Int) := by omega
        go_wp2
        go_ret2
        rw [HW.out]
        exact ⟨_, rfl, rfl⟩

/-! ### Clone -/
theorem eql_nil (w : World) (A : Option Addr) (n c : Nat) : (binOp .eql 22 (.slice A n c) (.slice none 0 0)).run Try.prog w = .ok (.bool A.isNone) w := by
  simp only [binOp]
  simp [Op.equal, Op.maxDepth, Lib.run_equalIn_slice_nil w 9999 22 28 A n c 0 0 Try.underlying22]
theorem clone_nil (w : World) : Calls Try.prog 28 #[.slice none 0 0] w fun e w' => e = .returned (.slice none 0 0) ∧ w' = w := by
  have hq := fun (w : World) => eql_nil w none 0 0
  go_enter Try.func28, Try.ntmps28
  go_wp2
  go_ret
  exact ⟨rfl, rfl⟩
theorem clone_some (w : World) (a : Addr) (n cap : Nat) (M : Nat → Nat) (hn : (n : Int) ≤ 1000) (hM : MemAt w (some a) n M) :
    Calls Try.prog 28 #[.slice (some a) n cap] w fun e w' => ∃ A' cap', e = .returned (.slice A' n cap') ∧ MemOwn w' w.heap.size A' n M ∧ (n : Int) ≤ cap' ∧ Grow w w' ∧ (∀ m, A' = some ⟨m, 0, none⟩ → w.heap.size ≤ m ∧ m < w'.heap.size) ∧ A' ≠ none := by
  obtain ⟨i0, hi, hz0, hz1, hz2⟩ := info_parts info28
  have HM := Lib.hid hM; clear hM
  have hq := fun (w : World) => eql_nil w (some a) n cap
  go_enter Try.func28, Try.ntmps28
  go_wp2_with (at_builtin; refine wpList_append_any _ rfl (.tmp 5) (.tmp 6) 22 rfl w.heap.size 28 i0 (.int .u64 0) 1 8 Try.underlying22 hi hz0 hz1 hz2 rfl (by decide) _ 0 [] (by rfl) ?c1 w.heap.size (some a) n cap (nums n M) (by rfl) ?c2 ?c3 ?c4 ?c5 ?c6 ?c7)
  case c1 => exact World.ownsRow_made (base := w.heap.size) (e := 28) (size := 1) w #[] 0 (Nat.le_refl _) (by unfold maxLen; omega) rfl
  case c2 => exact HM.out.reads.alloc (Nat.le_refl _) _
  case c3 => intro u hu; obtain ⟨j, hj⟩ := List.mem_iff_getElem?.1 hu; rw [(nums_at n M j u hj).2]; rfl
  case c4 => unfold maxLen; omega
  case c5 => omega
  case c6 => simp
  case c7 =>
    intro v' w1 hown hgrow hblk
    have hG : Grow w w1 := Below.trans (Grow.alloc w (.cells #[] 28)) (below_grown hgrow (by simp) (fun k hk => by simp [Value.ownBlock] at hk; omega))
    obtain ⟨A', cap', rfl, hcap2, hmem⟩ := own_mem hown
    have hlt := own_lt hown
    have hnn : A' ≠ none := by
      rintro rfl
      rcases hblk with h | h <;> simp [Value.ownBlock] at h
    have HH := Lib.hid (And.intro hG (And.intro hcap2 (And.intro hmem (And.intro hlt hnn))))
    clear hown hgrow hblk hG hcap2 hmem hlt hnn
    go_wp2
    go_ret
    obtain ⟨hG, hcap2, hmem, hlt, hnn⟩ := HH.out
    exact ⟨A', cap', rfl, hmem, by omega, hG, hlt, hnn⟩

/-! ### Mul64, Add64 -/
theorem maskN (a : Nat) (ha : a < 18446744073709551616) : bits .and .u64 (a : Int) 4294967295 = ((a % 4294967296 : Nat) : Int) := by
  have h := bits_and_u64_nat a 4294967295 ha (by omega)
  have e : a &&& 4294967295 = a % 4294967296 := Nat.and_two_pow_sub_one_eq_mod a 32
  rw [e] at h
  exact h
theorem divN (a : Nat) : (a : Int) / 4294967296 = ((a / 4294967296 : Nat) : Int) := by omega
theorem mulN (a b : Nat) : (a : Int) * (b : Int) = ((a * b : Nat) : Int) := (Int.natCast_mul a b).symm
theorem addN (a b : Nat) : (a : Int) + (b : Int) = ((a + b : Nat) : Int) := (Int.natCast_add a b).symm
theorem wrapN (a : Nat) (ha : a < 18446744073709551616) : IntKind.u64.wrap (a : Int) = (a : Int) := by rw [IntKind.wrap_u64]; omega
theorem wrapM (a : Nat) : IntKind.u64.wrap (a : Int) = ((a % 18446744073709551616 : Nat) : Int) := by rw [IntKind.wrap_u64]; omega
set_option maxHeartbeats 1000000 in
theorem mul64_any (x y : Nat) (hx : x < 18446744073709551616) (hy : y < 18446744073709551616) (w : World) :
    Calls Try.prog 27 #[.int .u64 x, .int .u64 y] w fun e w' => e = .returned (.tuple #[.int .u64 ((x * y / 18446744073709551616 : Nat) : Int), .int .u64 ((x * y % 18446744073709551616 : Nat) : Int)]) ∧ w' = w := by
  obtain ⟨bd, bt, bw, hhi⟩ := Lib.mul64_hi x y hx hy
  have ba := Lib.half_mul_le (a := x / 4294967296) (b := y / 4294967296) (by omega) (by omega)
  have bb := Lib.half_mul_le (a := x / 4294967296) (b := y % 4294967296) (by omega) (by omega)
  have bc := Lib.half_mul_le (a := x % 4294967296) (b := y / 4294967296) (by omega) (by omega)
  have ba' : x / 4294967296 * (y / 4294967296) < 18446744073709551616 := by omega
  have bb' : x / 4294967296 * (y % 4294967296) < 18446744073709551616 := by omega
  have bc' : x % 4294967296 * (y / 4294967296) < 18446744073709551616 := by omega
  have bh1 : x / 4294967296 * (y / 4294967296) + (x / 4294967296 * (y % 4294967296) + x % 4294967296 * (y % 4294967296) / 4294967296) / 4294967296 < 18446744073709551616 := by omega
  have bh : x / 4294967296 * (y / 4294967296) + (x / 4294967296 * (y % 4294967296) + x % 4294967296 * (y % 4294967296) / 4294967296) / 4294967296 + ((x / 4294967296 * (y % 4294967296) + x % 4294967296 * (y % 4294967296) / 4294967296) % 4294967296 + x % 4294967296 * (y / 4294967296)) / 4294967296 < 18446744073709551616 := by omega
  go_enter Try.func27, Try.ntmps27
  go_wp2
  simp only [maskN x hx, maskN y hy, divN, mulN, addN, wrapN _ bd, wrapN _ bb', wrapN _ bt, maskN _ bt, wrapN _ bc', wrapN _ bw, wrapN _ ba', wrapN _ bh1, wrapN _ bh, wrapM (x * y)]
  rw [hhi]
  go_ret2
  exact ⟨rfl, rfl⟩
theorem add64_run (x y : Nat) (w : World) : (callFunc 34 #[.int .u64 x, .int .u64 y, .int .u64 0]).run Try.prog w = .ok (.value (.tuple #[.int .u64 (((x : Int) + y) % 18446744073709551616), .int .u64 (((x : Int) + y) / 18446744073709551616)])) w := by
  rw [run_callFunc_extern (e := add64Entry) Try.func34 (by decide +kernel) (by kernel_rfl) (by kernel_rfl) (by kernel_rfl)]
  rw [run_add64 (x : Int) y 0 (by omega) (by omega) (by omega) (by omega)]
  simp
def satP (a b : Nat) : Nat := if a + b < 18446744073709551616 then a + b else 18446744073709551615
theorem more_any (x y : Nat) (hx : x < 18446744073709551616) (hy : y < 18446744073709551616) (w : World) :
    Calls Try.prog 31 #[.int .u64 x, .int .u64 y] w fun e w' => e = .returned (.int .u64 (satP x y : Nat)) ∧ w' = w := by
  have ha := fun (w : World) => add64_run x y w
  go_enter Try.func31, Try.ntmps31
  by_cases h : x + y < 18446744073709551616
  · have h1 : ((x : Int) + y) % 18446744073709551616 = ((x + y : Nat) : Int) := by omega
    have h2 : ((x : Int) + y) / 18446744073709551616 = 0 := by omega
    rw [h1, h2] at ha
    clear h1 h2
    go_wp2
    go_ret
    unfold satP
    rw [if_pos h]
    exact ⟨rfl, rfl⟩
  · have h2 : ((x : Int) + y) / 18446744073709551616 = 1 := by omega
    rw [h2] at ha
    clear h2
    go_wp2
    go_ret
    unfold satP
    rw [if_neg h]
    exact ⟨rfl, rfl⟩
end Go.Proofs.Ytpemmjaengbogaa
