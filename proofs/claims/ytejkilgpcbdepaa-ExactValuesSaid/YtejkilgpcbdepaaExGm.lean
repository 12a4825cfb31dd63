import Derived.Test.YtejkilgpcbdepaaExWords
import Derived.Test.YtejkilgpcbdepaaBits64
/-! Exact sums: the walk of get and below. -/
namespace Go.Proofs.Ytejkilgpcbdepaa
open Go.RowKit
set_option linter.unusedVariables false

theorem get_bits (X r : Nat) (hr : r < 64) : ((X % 18446744073709551616) / 2 ^ r ||| (X / 18446744073709551616 % 18446744073709551616 * 2 ^ (64 - r)) % 18446744073709551616) % 9007199254740992 = X / 2 ^ r % 9007199254740992 := by
  rw [show (18446744073709551616 : Nat) = 2 ^ 64 from rfl, show (9007199254740992 : Nat) = 2 ^ 53 from rfl]
  apply Nat.eq_of_testBit_eq
  intro i
  simp only [Nat.testBit_mod_two_pow, Nat.testBit_or, Nat.testBit_div_two_pow, Nat.testBit_mul_two_pow]
  by_cases hi : i < 53
  · by_cases h1 : i + r < 64
    · simp [hi, h1]
      intro _ h; omega
    · have e2 : i - (64 - r) + 64 = i + r := by omega
      have e3 : i - (64 - r) < 64 := by omega
      have e4 : i < 64 := by omega
      simp [hi, h1, e2, e3, e4]
      intro _; omega
  · simp [hi]
theorem below_mod (X r : Nat) (hr : r < 64) : decide (X % 2 ^ r ≠ 0) = (decide (X % 18446744073709551616 * 2 ^ (64 - r) % 18446744073709551616 ≠ 0) && decide (0 < r)) := by
  have e : (18446744073709551616 : Nat) = 2 ^ r * 2 ^ (64 - r) := by rw [← Nat.pow_add, show r + (64 - r) = 64 by omega]
  have h1 : X % 18446744073709551616 * 2 ^ (64 - r) % 18446744073709551616 = X % 2 ^ r * 2 ^ (64 - r) := by
    rw [e, Nat.mul_mod_mul_right, Nat.mod_mul_right_mod]
  rw [h1]
  have hp := Nat.two_pow_pos (64 - r)
  by_cases h0 : r = 0
  · subst h0; simp [Nat.mod_one]
  · have : (X % 2 ^ r * 2 ^ (64 - r) ≠ 0) = (X % 2 ^ r ≠ 0) := by
      apply propext
      rw [Nat.mul_ne_zero_iff]
      exact ⟨fun h => h.1, fun h => ⟨h, by omega⟩⟩
    simp only [this]
    rw [show decide (0 < r) = true from decide_eq_true (by omega), Bool.and_true]
theorem mod_words (A q r : Nat) (h : A % 2 ^ (64 * q) = 0) : (A % 2 ^ (64 * q + r) ≠ 0) = (A / 2 ^ (64 * q) % 2 ^ r ≠ 0) := by
  rw [Nat.pow_add, mod_split, h, Nat.add_zero]
  have hp := Nat.two_pow_pos (64 * q)
  apply propext
  rw [Nat.mul_ne_zero_iff]
  exact ⟨fun h => h.2, fun h => ⟨by omega, h⟩⟩
theorem mod_word_step (A i : Nat) (h : A % 2 ^ (64 * i) = 0) : (A % 2 ^ (64 * (i + 1)) = 0) = (wdn A i = 0) := by
  rw [pow_step, mod_split, h, Nat.add_zero]
  have hp := Nat.two_pow_pos (64 * i)
  unfold wdn
  apply propext
  rw [Nat.mul_eq_zero]
  exact ⟨fun h => h.resolve_left (by omega), fun h => .inr h⟩
theorem wdn_next (A q : Nat) : wdn A (q + 1) = A / 2 ^ (64 * q) / 18446744073709551616 % 18446744073709551616 := by unfold wdn; rw [pow_step, Nat.div_div_eq_div_mul]
theorem div_words (A q r : Nat) : A / 2 ^ (64 * q + r) = A / 2 ^ (64 * q) / 2 ^ r := by rw [Nat.pow_add, Nat.div_div_eq_div_mul]
theorem get_val (a b r : Nat) (hr : r < 64) (ha : a < 18446744073709551616) : bits .and .u64 (bits .or .u64 ((a : Int) / 2 ^ r) (IntKind.u64.wrap ((b : Int) * 2 ^ (64 - r)))) 9007199254740991 = ((((a / 2 ^ r ||| (b * 2 ^ (64 - r)) % 18446744073709551616) % 9007199254740992 : Nat)) : Int) := by
  have e1 : (a : Int) / 2 ^ r = ((a / 2 ^ r : Nat) : Int) := by simp
  have e2 : IntKind.u64.wrap ((b : Int) * 2 ^ (64 - r)) = ((b * 2 ^ (64 - r) % 18446744073709551616 : Nat) : Int) := by rw [IntKind.wrap_u64]; simp
  have h1 : a / 2 ^ r < 18446744073709551616 := Nat.lt_of_le_of_lt (Nat.div_le_self _ _) ha
  have h2 : b * 2 ^ (64 - r) % 18446744073709551616 < 18446744073709551616 := Nat.mod_lt _ (by omega)
  rw [e1, e2]
  generalize a / 2 ^ r = x at *
  generalize b * 2 ^ (64 - r) % 18446744073709551616 = y at *
  rw [or64 x y h1 h2, show (9007199254740991 : Int) = ((9007199254740991 : Nat) : Int) from rfl, and64 _ _ (Nat.or_lt_two_pow (n := 64) h1 h2) (by omega)]
  congr 1
  exact Nat.and_two_pow_sub_one_eq_mod _ 53
theorem get_val0 (a r : Nat) (hr : r < 64) (ha : a < 18446744073709551616) : bits .and .u64 ((a : Int) / 2 ^ r) 9007199254740991 = (((a / 2 ^ r % 9007199254740992 : Nat)) : Int) := by
  have e1 : (a : Int) / 2 ^ r = ((a / 2 ^ r : Nat) : Int) := by simp
  have h1 : a / 2 ^ r < 18446744073709551616 := Nat.lt_of_le_of_lt (Nat.div_le_self _ _) ha
  rw [e1, show (9007199254740991 : Int) = ((9007199254740991 : Nat) : Int) from rfl, and64 _ _ h1 (by omega)]
  congr 1
  exact Nat.and_two_pow_sub_one_eq_mod _ 53

end Go.Proofs.Ytejkilgpcbdepaa
