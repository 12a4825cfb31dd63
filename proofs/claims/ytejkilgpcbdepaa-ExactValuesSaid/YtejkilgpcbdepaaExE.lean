import Derived.Test.YtejkilgpcbdepaaExD
import Derived.Test.YtejkilgpcbdepaaRealExact
/-! Exact sums: Add, whatever the number. -/
namespace Go.Proofs.Ytejkilgpcbdepaa
open Go.RowKit
set_option linter.unusedVariables false

theorem split_special {x : Nat} (hx : x < 18446744073709551616) (h : nanB x = true ∨ infB x = true) : splitOf x = (false, 0, 0, false) := by
  unfold splitOf canon
  by_cases hn : nanB x
  · rw [if_pos hn]; decide
  · rw [if_neg hn]
    have hi := of_decide_eq_true (h.resolve_left hn)
    have : x / 4503599627370496 % 2048 = 2047 := by omega
    simp only [this, if_true]
theorem split_fin {x : Nat} (hx : x < 18446744073709551616) (h : x % 9223372036854775808 < 9218868437227405312) : splitOf x = (decide (9223372036854775808 ≤ x), magOf (x % 9223372036854775808), upOf (x % 9223372036854775808), true) := by
  unfold splitOf canon
  have hn : nanB x = false := decide_eq_false (by omega)
  rw [if_neg (show ¬ nanB x = true by simp [hn])]
  have : ¬ x / 4503599627370496 % 2048 = 2047 := by omega
  simp only [this, if_false]
  have e1 : x % 4503599627370496 + (if 0 < x / 4503599627370496 % 2048 then 4503599627370496 else 0) = magOf (x % 9223372036854775808) := by
    unfold magOf; split <;> split <;> omega
  have e2 : max (x / 4503599627370496 % 2048) 1 - 1 = upOf (x % 9223372036854775808) := by unfold upOf; omega
  rw [e1, e2]


theorem neg_any (b : Nat) (h : b < 18446744073709551616) : Op.negFloat .f64 b = if b < 9223372036854775808 then b + 9223372036854775808 else b - 9223372036854775808 := by
  have up : ∀ c : Nat, c < 9223372036854775808 → c ^^^ 2 ^ 63 = c + 9223372036854775808 := fun c hc => by
    apply Nat.eq_of_testBit_eq
    intro i
    have := Nat.two_pow_add_eq_or_of_lt (i := 63) (b := c) (by omega) 1
    rw [show c + 9223372036854775808 = 2 ^ 63 * 1 ||| c by rw [← this]; omega, Nat.testBit_xor, Nat.testBit_or, Nat.mul_one, Nat.testBit_two_pow]
    by_cases hi : 63 = i
    · subst hi; rw [Nat.testBit_lt_two_pow (by omega)]; simp
    · simp [hi]
  show b ^^^ 2 ^ 63 = _
  by_cases hb : b < 9223372036854775808
  · rw [if_pos hb, up b hb]
  · rw [if_neg hb]
    have e := up (b - 9223372036854775808) (by omega)
    rw [show b - 9223372036854775808 + 9223372036854775808 = b by omega] at e
    have e2 : (b - 9223372036854775808) ^^^ 2 ^ 63 ^^^ 2 ^ 63 = b - 9223372036854775808 := by
      rw [Nat.xor_assoc, Nat.xor_self, Nat.xor_zero]
    rw [e] at e2
    exact e2
theorem neg_neg (b : Nat) (h : b < 18446744073709551616) : Op.negFloat .f64 (Op.negFloat .f64 b) = b := by
  rw [neg_any b h]
  split
  · rw [neg_any _ (by omega), if_neg (by omega)]; omega
  · rw [neg_any _ (by omega), if_pos (by omega)]; omega
def infP (x : Nat) : Bool := decide (x = 9218868437227405312)
def infM (x : Nat) : Bool := decide (x = 18442240474082181120)
theorem inf_gtP {x : Nat} (hx : x < 18446744073709551616) : (FloatKind.f64.format.order x 9218868437227405311 == some .gt) = infP x := by
  by_cases h : nanB x
  · show (Ieee.double.order _ _ == some .gt) = _
    rw [order_nan_left _ h]
    have := of_decide_eq_true h
    unfold infP
    rw [eq_comm]
    exact decide_eq_false (by omega)
  · rw [order_gt hx (by omega) (by simpa using h) (by decide)]
    have h' := of_decide_eq_false (Bool.eq_false_iff.2 h)
    unfold infP skey
    rw [Bool.eq_iff_iff]
    simp only [decide_eq_true_eq]
    rw [if_neg (show ¬ 9223372036854775808 ≤ 9218868437227405311 by omega)]
    split <;> omega
theorem infM_neg {x : Nat} (hx : x < 18446744073709551616) : infP (Op.negFloat .f64 x) = infM x := by
  rw [neg_any x hx]
  unfold infP infM
  rw [Bool.eq_iff_iff]
  simp only [decide_eq_true_eq]
  split <;> omega
theorem isInfP_any (x : Nat) (w : World) (hx : x < 18446744073709551616) : Calls Try.prog 15 #[.float .f64 x, .int .i64 1] w fun e w' => e = .returned (.bool (infP x)) ∧ w = w' := by
  have Hg := Lib.hid (inf_gtP hx)
  go_enter Try.func15, Try.ntmps15
  go_wp2
  go_ret
  exact ⟨ret_b Hg.out, rfl⟩
theorem isInfM_any (x : Nat) (w : World) (hx : x < 18446744073709551616) : Calls Try.prog 15 #[.float .f64 x, .int .i64 (-1)] w fun e w' => e = .returned (.bool (infM x)) ∧ w = w' := by
  have hng : ∀ w, (Op.unary .neg (.float .f64 x)).run Try.prog w = .ok (.float .f64 (Op.negFloat .f64 x)) w := fun _ => rfl
  have hl : Op.negFloat .f64 x < 18446744073709551616 := by rw [neg_any x hx]; split <;> omega
  have Hg := Lib.hid ((inf_gtP hl).trans (infM_neg hx))
  generalize Op.negFloat .f64 x = y at *
  go_enter Try.func15, Try.ntmps15
  go_wp2
  go_ret
  exact ⟨ret_b Hg.out, rfl⟩

/-- A sum with one more number. -/
def addSt (s : St) (x : Nat) : St :=
  if nanB x = true ∨ infB x = true then { s with nan := s.nan || nanB x, pos := s.pos || infP x, neg := s.neg || infM x, any := true, other := true }
  else if rung x = 0 then { s with any := true, other := s.other || !negB x }
  else { s with w := s.w + (if negB x = true then 2 ^ 2240 - val (rung x) else val (rung x)), any := true, other := true }

theorem add_any (s : St) (x : Nat) (w : World) (hx : x < 18446744073709551616) :
    Calls Try.prog 20 #[.agg (sumC s), .float .f64 x] w fun e w' => e = .returned (.agg (sumC (addSt s x))) ∧ Below w.heap.size w w' := by
  have n0 := fun w => split_any x w hx
  by_cases hs : nanB x = true ∨ infB x = true
  · rw [split_special hx hs, show splitVal (false, 0, 0, false) = .tuple #[.bool false, .int .u64 0, .int .i64 0, .bool false] from rfl] at n0
    have := add_special (sumC s) (sumC_size s) (sumC_one s) s.nan s.pos s.neg (sumC_f s 0) (sumC_f s 1) (sumC_f s 2) x (nanB x) (infP x) (infM x) w n0 (isNaN_any x) (fun w => isInfP_any x w hx) (fun w => isInfM_any x w hx)
    rw [set_any, set_other, set_nan, set_pos, set_neg] at this
    unfold addSt
    rw [if_pos hs]
    exact this
  · have hn : ¬ nanB x = true := fun h => hs (.inl h)
    have hi : ¬ infB x = true := fun h => hs (.inr h)
    have hr : x % 9223372036854775808 < 9218868437227405312 := by
      have h1 := of_decide_eq_false (Bool.eq_false_iff.2 hn)
      have h2 := of_decide_eq_false (Bool.eq_false_iff.2 hi)
      omega
    rw [split_fin hx hr] at n0
    have hrg : rung x = x % 9223372036854775808 := rfl
    have hng : decide (9223372036854775808 ≤ x) = negB x := (negB_eq hx).symm
    rw [hng, ← hrg] at n0
    unfold addSt
    rw [if_neg hs]
    by_cases h0 : rung x = 0
    · rw [if_pos h0]
      rw [h0] at n0
      have := add_nought (sumC s) (sumC_size s) (sumC_one s) s.other (sumC_f s 4) x (negB x) 0 w n0
      rw [set_any, set_other] at this
      exact this
    · rw [if_neg h0, val_mag]
      have hU : upOf (rung x) ≤ 2045 := by unfold upOf; omega
      exact add_fin s x (negB x) (magOf (rung x)) (upOf (rung x)) (upOf (rung x) / 64) (upOf (rung x) % 64) w (mag_pos (by omega)) (mag_lt _) (by omega) (by omega) (by omega) (by omega) hU n0
end Go.Proofs.Ytejkilgpcbdepaa
