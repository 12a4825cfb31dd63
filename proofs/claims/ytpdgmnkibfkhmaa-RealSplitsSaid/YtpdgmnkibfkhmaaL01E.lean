import Derived.Test.YtpdgmnkibfkhmaaL01D
import Derived.Test.YtpdgmnkibfkhmaaRealLd
/-! The laws of numbers: splits. -/
namespace Go.Proofs.Ytpdgmnkibfkhmaa
open Go.RowKit
set_option linter.unusedVariables false

theorem neg_word (b : Nat) (h : b < 9223372036854775808) : Op.negFloat .f64 b = b + 9223372036854775808 := by
  show b ^^^ 2 ^ 63 = _
  apply Nat.eq_of_testBit_eq
  intro i
  have := Nat.two_pow_add_eq_or_of_lt (i := 63) (b := b) (by omega) 1
  rw [show b + 9223372036854775808 = 2 ^ 63 * 1 ||| b by rw [← this]; omega, Nat.testBit_xor, Nat.testBit_or, Nat.mul_one, Nat.testBit_two_pow]
  by_cases hi : 63 = i
  · subst hi; rw [Nat.testBit_lt_two_pow (by omega)]; simp
  · simp [hi]

theorem signbit_any (x : Nat) (w : World) (hx : x < 18446744073709551616) : Calls Try.prog 31 #[.float .f64 x] w fun e w' => e = .returned (.bool (decide (9223372036854775808 ≤ x))) ∧ w = w' := by
  have hg := run_bits
  have hw : IntKind.i64.wrap (x : Int) = if 9223372036854775808 ≤ x then (x : Int) - 18446744073709551616 else (x : Int) := by
    rw [IntKind.wrap_i64]; split <;> omega
  by_cases h : 9223372036854775808 ≤ x
  · rw [if_pos h] at hw
    have ho : ¬ (0 : Int) ≤ (x : Int) - 18446744073709551616 := by omega
    rw [decide_eq_true h]
    clear h
    go_enter Try.func31, Try.ntmps31
    go_wp2
    go_ret
    exact ⟨ret_b (by simp; try omega), rfl⟩
  · rw [if_neg h] at hw
    rw [decide_eq_false h]
    clear h
    go_enter Try.func31, Try.ntmps31
    go_wp2
    go_ret
    exact ⟨ret_b (by simp; try omega), rfl⟩

theorem normalize_any (x : Nat) (w : World) (hx : 4503599627370496 ≤ x ∧ x < 9218868437227405312) : Calls Try.prog 37 #[.float .f64 x] w fun e w' => e = .returned (.tuple #[.float .f64 x, .int .i64 0]) ∧ w = w' := by
  have h1 := abs_any x w (by omega)
  rw [show x % 9223372036854775808 = x by omega] at h1
  have o := order_lt (x := x) (y := 4503599627370496) (by omega) (by omega) (decide_eq_false (by omega)) (by decide)
  rw [show decide (skey x < skey 4503599627370496) = false from decide_eq_false (by unfold skey; rw [if_neg (by omega), if_neg (by omega)]; omega)] at o
  go_enter Try.func37, Try.ntmps37
  go_wp2_with fail
  refine h1.mono ?_
  rintro e w1 ⟨rfl, rfl⟩
  go_wp2
  go_ret2
  exact ⟨rfl, rfl⟩

/-- A whole number and its power, put together. -/
theorem ldexp_any (r : Nat) (w : World) (h0 : 0 < r) (hr : r < 9218868437227405312) : Calls Try.prog 36 #[.float .f64 (wordOf (magOf r)), .int .i64 ((upOf r : Int) - 1074)] w fun e w' => e = .returned (.float .f64 r) ∧ w = w' := by
  have hm := mag_pos h0
  have hM := mag_lt r
  have hF := wordOf_lt hm hM
  have hk := log_le hm hM
  have hu : upOf r ≤ 2045 := by unfold upOf; omega
  have ld := lead hm hM
  have hq : wordOf (magOf r) / 4503599627370496 = (magOf r).log2 + 1023 := by
    unfold wordOf
    generalize magOf r * 2 ^ (52 - (magOf r).log2) = q at *
    omega
  have hB : 4503599627370496 ≤ r → ∃ b, b = floatBits .mul .f64 4607182418800017408 r ∧ b = some r := fun h => ⟨_, rfl, mul_one h0 hr⟩
  have mA : 4503599627370496 ≤ r → ∀ w : World, (binOp .mul 23 (.float .f64 4607182418800017408) (.float .f64 r)).run Try.prog w = .ok (.float .f64 r) w := fun h w => run_float_arith w .mul _ .f64 _ _ r (mul_one h0 hr)
  have sA : 4503599627370496 ≤ r → wordOf (magOf r) % 4503599627370496 + (upOf r + 1) * 4503599627370496 = r ∧ (magOf r).log2 = 52 := fun h => set_norm h hr
  have mB : ¬ 4503599627370496 ≤ r → (magOf r = r ∧ upOf r = 0 ∧ r.log2 < 52) ∧ ∀ w : World, (binOp .mul 23 (.float .f64 4368491638549381120) (.float .f64 (wordOf (magOf r) % 4503599627370496 + ((magOf r).log2 + 2) * 4503599627370496))).run Try.prog w = .ok (.float .f64 r) w := fun h => by
    have e : magOf r = r := by unfold magOf; rw [if_pos (by omega)]
    refine ⟨⟨e, by unfold upOf; omega, (Nat.log2_lt (by omega)).2 (by omega)⟩, fun w => ?_⟩
    rw [e]
    exact run_float_arith w .mul _ .f64 _ _ r (mul_small h0 (by omega))
  have n1 := isInf_any (wordOf (magOf r)) w (by omega)
  rw [show infB (wordOf (magOf r)) = false from decide_eq_false (by omega)] at n1
  have n2 := isNaN_any (wordOf (magOf r)) w
  have nf : nanB (wordOf (magOf r)) = false := decide_eq_false (by omega)
  rw [nf] at n2
  have n3 := normalize_any (wordOf (magOf r)) w (by omega)
  have o := order_eq (x := wordOf (magOf r)) (y := 0) (by omega) (by omega) nf (by decide)
  rw [show decide (skey (wordOf (magOf r)) = skey 0) = false from decide_eq_false (by unfold skey; rw [if_neg (by omega), if_neg (by omega)]; omega)] at o
  have b1 := andNot_exp (wordOf (magOf r)) hF.2
  have hq' : ((wordOf (magOf r) : Nat) : Int) / 4503599627370496 = (((magOf r).log2 + 1023 : Nat) : Int) := by omega
  have b2 := and_i64_11 ((magOf r).log2 + 1023) (by omega)
  have b3 := fun e he => or_exp (wordOf (magOf r) % 4503599627370496) e (by omega) he
  have hg := run_bits
  have hf := run_frombits
  have lf : wordOf (magOf r) % 4503599627370496 < 4503599627370496 := by omega
  clear hB hq ld
  by_cases h : 4503599627370496 ≤ r
  · obtain ⟨s1, s2⟩ := sA h
    have mA := mA h
    have b3 := b3 (upOf r + 1) (by omega)
    rw [s1] at b3
    have b3 : bits .or .u64 ((wordOf (magOf r) % 4503599627370496 : Nat) : Int) (((upOf r : Int) - 1074 + 52 + 1023) * 4503599627370496) = (r : Int) := by rw [← b3]; congr 1; omega
    rw [s2] at hq'
    have hq' : (wordOf (magOf r) : Int) / 4503599627370496 = 1075 := hq'
    have b2 : bits .and .i64 1075 2047 = 1075 := and_i64_11 1075 (by omega)
    clear sA mB h s1 s2 hm hM nf h0
    generalize upOf r = u at *
    generalize wordOf (magOf r) = F at *
    generalize F % 4503599627370496 = f at *
    go_enter Try.func36, Try.ntmps36
    go_wp2_with (first
      | (go_at_call 28; refine n1.mono ?_; rintro e w1 ⟨rfl, rfl⟩)
      | (go_at_call 27; refine n2.mono ?_; rintro e w1 ⟨rfl, rfl⟩)
      | (go_at_call 37; refine n3.mono ?_; rintro e w1 ⟨rfl, rfl⟩))
    go_ret
    exact ⟨rfl, rfl⟩
  · obtain ⟨⟨s1, s2, s3⟩, mB⟩ := mB h
    have b3 := b3 ((magOf r).log2 + 2) (by omega)
    rw [s1] at b1 b2 b3 hq' n1 n2 n3 o hF lf mB hk ⊢
    rw [s2]
    clear mA sA h s1 s2 hm hM nf h0
    generalize wordOf r = F at *
    generalize F % 4503599627370496 = f at *
    generalize r.log2 = k at *
    generalize hG : f + (k + 2) * 4503599627370496 = G at *
    have b3 : bits .or .u64 (f : Int) ((-1074 + (k : Int) + 53 + 1023) * 4503599627370496) = (G : Int) := by rw [← b3]; congr 1; omega
    have hq' : (F : Int) / 4503599627370496 = (k : Int) + 1023 := by omega
    have b2 : bits .and .i64 ((k : Int) + 1023) 2047 = (k : Int) + 1023 := by have := b2; rwa [Int.natCast_add] at this
    clear hG
    go_enter Try.func36, Try.ntmps36
    go_wp2_with (first
      | (go_at_call 28; refine n1.mono ?_; rintro e w1 ⟨rfl, rfl⟩)
      | (go_at_call 27; refine n2.mono ?_; rintro e w1 ⟨rfl, rfl⟩)
      | (go_at_call 37; refine n3.mono ?_; rintro e w1 ⟨rfl, rfl⟩))
    go_ret
    exact ⟨rfl, rfl⟩

theorem ldexp0_any (w : World) : Calls Try.prog 36 #[.float .f64 0, .int .i64 (-1074)] w fun e w' => e = .returned (.float .f64 0) ∧ w = w' := by
  have o : (FloatKind.f64.format.order 0 0 == some .eq) = true := by decide
  go_enter Try.func36, Try.ntmps36
  go_wp2
  go_ret
  exact ⟨rfl, rfl⟩

theorem Ldexp_any (m : Nat) (s : Int) (r : Nat) (w : World) (h : Calls Try.prog 36 #[.float .f64 m, .int .i64 s] w fun e w' => e = .returned (.float .f64 r) ∧ w = w') :
    Calls Try.prog 32 #[.float .f64 m, .int .i64 s] w fun e w' => e = .returned (.float .f64 r) ∧ w = w' := by
  go_enter Try.func32, Try.ntmps32
  go_wp2_with fail
  refine h.mono ?_
  rintro e w1 ⟨rfl, rfl⟩
  go_wp2
  go_ret
  exact ⟨rfl, rfl⟩

theorem split_special {x : Nat} (hx : x < 18446744073709551616) (h : nanB x = true ∨ infB x = true) : splitOf x = (false, 0, 0, false) := by
  unfold splitOf canon
  by_cases hn : nanB x
  · rw [if_pos hn]; decide
  · rw [if_neg hn]
    have hi := of_decide_eq_true (h.resolve_left hn)
    have : x / 4503599627370496 % 2048 = 2047 := by omega
    simp only [this, if_true]
theorem split_fin {x : Nat} (hx : x < 18446744073709551616) (h : x % 9223372036854775808 < 9218868437227405312) : splitOf x = (decide (9223372036854775808 ≤ x), magOf (x % 9223372036854775808), upOf (x % 9223372036854775808), true) := by
  unfold splitOf canon
  have hn : nanB x = false := decide_eq_false (by omega)
  rw [if_neg (show ¬ nanB x = true by simp [hn])]
  have : ¬ x / 4503599627370496 % 2048 = 2047 := by omega
  simp only [this, if_false]
  have e1 : x % 4503599627370496 + (if 0 < x / 4503599627370496 % 2048 then 4503599627370496 else 0) = magOf (x % 9223372036854775808) := by
    unfold magOf; split <;> split <;> omega
  have e2 : max (x / 4503599627370496 % 2048) 1 - 1 = upOf (x % 9223372036854775808) := by unfold upOf; omega
  rw [e1, e2]

set_option maxRecDepth 100000 in
set_option maxHeartbeats 2000000 in
theorem realSplits_law (x : Nat) (w : World) (hx : x < 18446744073709551616) : Calls Try.prog 9 #[.float .f64 x] w fun e w' => e = .returned (.bool true) ∧ w = w' := by
  have h11 := awake_any w
  have n0 := split_any x w hx
  have n1 := isNaN_any x w
  have n2 := isInf_any x w hx
  by_cases hs : nanB x = true ∨ infB x = true
  · rw [split_special hx hs, show splitVal (false, 0, 0, false) = .tuple #[.bool false, .int .u64 0, .int .i64 0, .bool false] from rfl] at n0
    generalize nanB x = a at *
    generalize infB x = b at *
    cases a <;> cases b
    · exact absurd hs (by decide)
    all_goals
      clear hs
      go_enter Try.func9, Try.ntmps9
      go_wp2_with (first
        | (go_at_call 11; refine h11.mono ?_; rintro e w1 ⟨rfl, rfl⟩)
        | (go_at_call 27; refine n1.mono ?_; rintro e w1 ⟨rfl, rfl⟩)
        | (go_at_call 28; refine n2.mono ?_; rintro e w1 ⟨rfl, rfl⟩)
        | (go_at_call 30; refine n0.mono ?_; rintro e w1 ⟨rfl, rfl⟩))
      go_ret
      exact ⟨rfl, rfl⟩
  · have hn : nanB x = false := by cases h : nanB x; rfl; exact absurd (Or.inl h) hs
    have hi : infB x = false := by cases h : infB x; rfl; exact absurd (Or.inr h) hs
    rw [hn] at n1
    rw [hi] at n2
    have a1 := of_decide_eq_false hn
    have a2 := of_decide_eq_false hi
    have hr : x % 9223372036854775808 < 9218868437227405312 := by omega
    have n3 := signbit_any x w hx
    rw [split_fin hx hr] at n0
    have hM := mag_lt (x % 9223372036854775808)
    have hU : upOf (x % 9223372036854775808) ≤ 2045 := by unfold upOf; omega
    have hB := mag_big (x % 9223372036854775808)
    have hxe : decide (9223372036854775808 ≤ x) = false ∧ x % 9223372036854775808 = x ∨ decide (9223372036854775808 ≤ x) = true ∧ Op.negFloat .f64 (x % 9223372036854775808) = x := by
      by_cases h : 9223372036854775808 ≤ x
      · right; exact ⟨decide_eq_true h, by rw [neg_word _ (by omega)]; omega⟩
      · left; exact ⟨decide_eq_false h, by omega⟩
    have n4 : ∃ F, FloatKind.f64.nearest (magOf (x % 9223372036854775808) : Int) = F ∧ Calls Try.prog 32 #[.float .f64 F, .int .i64 ((upOf (x % 9223372036854775808) : Int) - 1074)] w fun e w' => e = .returned (.float .f64 (x % 9223372036854775808)) ∧ w = w' := by
      rcases Nat.eq_zero_or_pos (x % 9223372036854775808) with h | h
      · rw [h]
        exact ⟨0, by decide, Ldexp_any _ _ _ w (ldexp0_any w)⟩
      · exact ⟨_, conv_nat _ (mag_pos h) hM, Ldexp_any _ _ _ w (ldexp_any _ w h hr)⟩
    obtain ⟨F, hF, n4⟩ := n4
    have n5 := refSame_any x x w hx hx
    rw [show decide (canon x = canon x) = true by simp] at n5
    clear hs hn hi a1 a2 hr
    generalize decide (9223372036854775808 ≤ x) = neg at *
    generalize x % 9223372036854775808 = r at *
    generalize upOf r = U at *
    generalize magOf r = M at *
    simp only [splitVal] at n0
    have hF' : floatOfInt .f64 (M : Int) = F := hF
    clear hF
    have hM' : (M : Int) < 9007199254740992 := by omega
    have hM0 : 0 ≤ (M : Int) := by omega
    have hU' : (U : Int) ≤ 2045 := by omega
    have hU0 : 0 ≤ (U : Int) := by omega
    have hB' : ¬ 0 < (U : Int) ∨ (4503599627370496 : Int) ≤ (M : Int) := by omega
    have hng : ∀ w, (Op.unary .neg (.float .f64 r)).run Try.prog w = .ok (.float .f64 (Op.negFloat .f64 r)) w := fun _ => rfl
    clear hM hU hB
    generalize (M : Int) = m at *
    generalize (U : Int) = u at *
    clear U M
    rcases hxe with ⟨rfl, hxe⟩ | ⟨rfl, hxe⟩
    all_goals
      first
        | subst hxe
        | skip
      rcases hB' with hB | hB
    all_goals
      go_enter Try.func9, Try.ntmps9
      go_wp2_with (first
        | (go_at_call 11; refine h11.mono ?_; rintro e w1 ⟨rfl, rfl⟩)
        | (go_at_call 27; refine n1.mono ?_; rintro e w1 ⟨rfl, rfl⟩)
        | (go_at_call 28; refine n2.mono ?_; rintro e w1 ⟨rfl, rfl⟩)
        | (go_at_call 31; refine n3.mono ?_; rintro e w1 ⟨rfl, rfl⟩)
        | (go_at_call 32; (with_reducible refine n4.mono ?_); rintro e w1 ⟨rfl, rfl⟩)
        | (go_at_call 14; (with_reducible refine n5.mono ?_); rintro e w1 ⟨rfl, rfl⟩)
        | (go_at_call 30; refine n0.mono ?_; rintro e w1 ⟨rfl, rfl⟩))
    all_goals
      go_ret
      exact ⟨rfl, rfl⟩

theorem realSplits_walk (W : World) (x : Nat) (wx : (Lit.float .f64 x).wf = true) : Calls Try.prog 9 #[.float .f64 x] W fun e w' => e = .returned (.bool true) ∧ Below W.heap.size W w' :=
  (realSplits_law x W (f64_lt wx)).mono fun e w' h => ⟨h.1, h.2 ▸ Below.refl _ _⟩
end Go.Proofs.Ytpdgmnkibfkhmaa
