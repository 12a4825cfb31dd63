import Derived.Test.YtejkilgpcbdepaaExF
import Derived.Test.YtejkilgpcbdepaaExGm
/-! Exact sums: the walk of get and below. -/
namespace Go.Proofs.Ytejkilgpcbdepaa
open Go.RowKit
set_option linter.unusedVariables false

set_option maxHeartbeats 2000000 in
theorem get_two (C : Array Value) (hsz : C.size = 35) (s q r : Nat) (x0 x1 : Nat) (w : World) (hqi : (s : Int) / 64 = (q : Int)) (hri : (s : Int) % 64 = (r : Int)) (hr : r < 64) (hs : s < 2240) (h1 : q + 1 < 35)
    (c0 : C[q]? = some (.int .u64 (x0 : Nat))) (c1 : C[q + 1]? = some (.int .u64 (x1 : Nat))) :
    Calls Try.prog 38 #[.agg C, .int .i64 s] w fun e w' => e = .returned (.int .u64 (bits .and .u64 (bits .or .u64 ((x0 : Int) / 2 ^ r) (IntKind.u64.wrap ((x1 : Int) * 2 ^ (64 - r)))) 9007199254740991)) ∧ Below w.heap.size w w' := by
  have hb1 : ∀ (o1 : Obj), Below w.heap.size w (w.alloc o1) := fun o1 => below_alloc (Below.refl _ _) _
  have h0v := at_of (by omega) c0
  have h1v := at_of (by omega) c1
  have hq : q < 35 := by omega
  clear c0 c1
  go_enter Try.func38, Try.ntmps38
  go_wp2
  go_ret
  exact ⟨rfl, hb1 _⟩

set_option maxHeartbeats 2000000 in
theorem get_one (C : Array Value) (hsz : C.size = 35) (s q r : Nat) (x0 : Nat) (w : World) (hqi : (s : Int) / 64 = (q : Int)) (hri : (s : Int) % 64 = (r : Int)) (hr : r < 64) (hs : s < 2240) (h1 : q = 34)
    (c0 : C[q]? = some (.int .u64 (x0 : Nat))) :
    Calls Try.prog 38 #[.agg C, .int .i64 s] w fun e w' => e = .returned (.int .u64 (bits .and .u64 ((x0 : Int) / 2 ^ r) 9007199254740991)) ∧ Below w.heap.size w w' := by
  have hb1 : ∀ (o1 : Obj), Below w.heap.size w (w.alloc o1) := fun o1 => below_alloc (Below.refl _ _) _
  have h0v := at_of (by omega) c0
  subst h1
  clear c0
  go_enter Try.func38, Try.ntmps38
  go_wp2
  go_ret
  exact ⟨rfl, hb1 _⟩

theorem top_lt (A q N : Nat) (h : A < 2 ^ N) (hN : N = 64 * q + 64) : A / 2 ^ (64 * q) < 18446744073709551616 := by
  subst hN
  rw [Nat.pow_add] at h
  rw [Nat.div_lt_iff_lt_mul (Nat.two_pow_pos _), Nat.mul_comm]
  exact h
theorem get_any (A s : Nat) (w : World) (hs : s < 2240) (hA : A < 2 ^ 2240) :
    Calls Try.prog 38 #[.agg (ws A), .int .i64 s] w fun e w' => e = .returned (.int .u64 ((A / 2 ^ s % 9007199254740992 : Nat) : Int)) ∧ Below w.heap.size w w' := by
  obtain ⟨q, hq⟩ : ∃ q, q = s / 64 := ⟨_, rfl⟩
  obtain ⟨r, hr⟩ : ∃ r, r = s % 64 := ⟨_, rfl⟩
  have hqi : (s : Int) / 64 = (q : Int) := by omega
  have hri : (s : Int) % 64 = (r : Int) := by omega
  have hr64 : r < 64 := by omega
  have hs0 : s = 64 * q + r := by omega
  have hw : wdn A q = A / 2 ^ (64 * q) % 18446744073709551616 := rfl
  by_cases h1 : q + 1 < 35
  · have := get_two (ws A) (ws_size A) s q r (wdn A q) (wdn A (q + 1)) w hqi hri hr64 hs h1 (ws_at A q (by omega)) (ws_at A (q + 1) h1)
    rw [get_val (wdn A q) (wdn A (q + 1)) r hr64 (wdn_lt A q), wdn_next, hw, get_bits _ r hr64, ← div_words, ← hs0] at this
    exact this
  · have h34 : q = 34 := by omega
    have := get_one (ws A) (ws_size A) s q r (wdn A q) w hqi hri hr64 hs h34 (ws_at A q (by omega))
    have hlt := top_lt A q 2240 hA (by omega)
    rw [get_val0 (wdn A q) r hr64 (wdn_lt A q), hw, Nat.mod_eq_of_lt hlt, ← div_words, ← hs0] at this
    exact this

set_option maxHeartbeats 2000000 in
theorem below_walk (C : Array Value) (hsz : C.size = 35) (A s q r : Nat) (w : World) (hqi : (s : Int) / 64 = (q : Int)) (hri : (s : Int) % 64 = (r : Int)) (hr : r < 64) (hs : s < 2240) (hq : q < 35) (hs0 : s = 64 * q + r)
    (hC : ∀ i (h : i < 35), C[i]'(by omega) = .int .u64 (wdn A i : Nat)) :
    Calls Try.prog 39 #[.agg C, .int .i64 s] w fun e w' => e = .returned (.bool (decide (A % 2 ^ s ≠ 0))) ∧ Below w.heap.size w w' := by
  have hb1 : ∀ (o1 : Obj), Below w.heap.size w (w.alloc o1) := fun o1 => below_alloc (Below.refl _ _) _
  have HC := Lib.hid hC
  have Hfin := Lib.hid (fun (h : A % 2 ^ (64 * q) = 0) => show decide (A % 2 ^ s ≠ 0) = (decide (wdn A q * 2 ^ (64 - r) % 18446744073709551616 ≠ 0) && decide (0 < r)) by
    rw [hs0]
    have := mod_words A q r h
    simp only [this]
    exact below_mod _ r hr)
  have Hearly := Lib.hid (fun k (hk : k < q) (h0 : A % 2 ^ (64 * k) = 0) (h : wdn A k ≠ 0) => show decide (A % 2 ^ s ≠ 0) = true by
    refine decide_eq_true (fun e => h ?_)
    rw [← mod_word_step A k h0]
    have e2 : 2 ^ s = 2 ^ (64 * (k + 1)) * 2 ^ (s - 64 * (k + 1)) := by rw [← Nat.pow_add]; congr 1; omega
    rw [e2] at e
    have := Nat.mod_mul_right_mod A (2 ^ (64 * (k + 1))) (2 ^ (s - 64 * (k + 1)))
    rw [e, Nat.zero_mod] at this
    exact this.symm)
  have Hstep := Lib.hid (fun k (h0 : A % 2 ^ (64 * k) = 0) (h : wdn A k = 0) => show A % 2 ^ (64 * (k + 1)) = 0 by rw [mod_word_step A k h0]; exact h)
  clear hC hs0
  generalize decide (A % 2 ^ s ≠ 0) = R at *
  go_enter Try.func39, Try.ntmps39
  go_wp2
  go_loop [8] (fun i => ∃ k : Nat, k ≤ q ∧ i = .int .i64 k ∧ A % 2 ^ (64 * k) = 0) (fun i => q - (intOf i).toNat)
  case atStart => exact ⟨0, Nat.zero_le _, rfl, by simp [Nat.mod_one]⟩
  case round =>
    obtain ⟨k, hk, rfl, h0⟩ := hrel
    have H0 := Lib.hid h0
    clear h0
    by_cases hlt : k < q
    · have hk35 : k < 35 := by omega
      have hc := HC.out k hk35
      have Hne := Lib.hid (fun h => Hearly.out k hlt H0.out h)
      have Hst := Lib.hid (fun h => Hstep.out k H0.out h)
      generalize wdn A k = x at *
      by_cases hx : x = 0
      · subst hx
        go_wp2
        exact ⟨⟨k + 1, by omega, by go_num, Hst.out rfl⟩, by simp [intOf]; omega⟩
      · have hx1 : ((x : Int) != 0) = true := by simp; omega
        go_wp2
        go_ret
        exact ⟨ret_b (Hne.out hx).symm, hb1 _⟩
    · obtain rfl : k = q := by omega
      have hc := HC.out k hq
      have Hf := Lib.hid (Hfin.out H0.out)
      generalize wdn A k = x at *
      by_cases hr0 : 0 < r
      · have hwr : IntKind.u64.wrap ((x : Int) * 2 ^ (64 - r)) = ((x * 2 ^ (64 - r) % 18446744073709551616 : Nat) : Int) := by rw [IntKind.wrap_u64]; simp
        obtain ⟨N, hN⟩ : ∃ N, x * 2 ^ (64 - r) % 18446744073709551616 = N := ⟨_, rfl⟩
        rw [hN] at hwr
        have Hf2 : Hid (R = (decide (N ≠ 0) && decide (0 < r))) := by rw [← hN]; exact Hf
        have hr1 : (0 : Int) < (r : Int) := by omega
        clear hN Hf Hfin
        by_cases hN0 : N = 0
        · subst hN0
          go_wp2
          all_goals
            go_ret
            exact ⟨ret_b (by rw [Hf2.out]; simp), hb1 _⟩
        · have hN1 : ((N : Int) != 0) = true := by simp; omega
          go_wp2
          all_goals
            go_ret
            exact ⟨ret_b (by rw [Hf2.out]; simp [hN0, hr0]), hb1 _⟩
      · obtain rfl : r = 0 := by omega
        have hR : R = false := by rw [Hf.out]; simp
        subst hR
        have hwr0 : IntKind.u64.wrap ((x : Int) * 18446744073709551616) = 0 := by rw [IntKind.wrap_u64]; omega
        clear Hf Hfin Hearly
        go_wp2
        all_goals
          go_ret
          exact ⟨rfl, hb1 _⟩
theorem below_any (A s : Nat) (w : World) (hs : s < 2240) :
    Calls Try.prog 39 #[.agg (ws A), .int .i64 s] w fun e w' => e = .returned (.bool (decide (A % 2 ^ s ≠ 0))) ∧ Below w.heap.size w w' :=
  below_walk (ws A) (ws_size A) A s (s / 64) (s % 64) w (by omega) (by omega) (by omega) hs (by omega) (by omega) fun i h => at_of _ (ws_at A i h)
end Go.Proofs.Ytejkilgpcbdepaa
