import Derived.Test.YtejkilgpcbdepaaRealLaw
/-! What is exact is not rounded. -/
namespace Go.Proofs.Ytejkilgpcbdepaa
set_option linter.unusedVariables false
open Ieee

/-- A rung's whole number and power. -/
def magOf (r : Nat) : Nat := if r < 4503599627370496 then r else 4503599627370496 + r % 4503599627370496
def upOf (r : Nat) : Nat := r / 4503599627370496 - 1
theorem mag_up (r : Nat) : upOf r * 4503599627370496 + magOf r = r := by unfold upOf magOf; split <;> omega
theorem mag_lt (r : Nat) : magOf r < 9007199254740992 := by unfold magOf; split <;> omega
theorem mag_pos {r : Nat} (h : 0 < r) : 0 < magOf r := by unfold magOf; split <;> omega
theorem mag_big (r : Nat) : upOf r = 0 ∨ 4503599627370496 ≤ magOf r := by unfold upOf magOf; split <;> omega
theorem val_mag (r : Nat) : val r = magOf r * 2 ^ upOf r := by
  unfold val magOf upOf
  by_cases h : r < 4503599627370496
  · rw [if_pos (by omega), if_pos h, show r / 4503599627370496 - 1 = 0 by omega]; omega
  · rw [if_neg (by omega), if_neg h]
theorem read_mag {x : Nat} (h : rung x < 9218868437227405312) : double.read x = .number (negB x) (magOf (rung x)) (-1074 + (upOf (rung x) : Int)) := by
  rw [read_eq]
  by_cases h0 : rung x < 4503599627370496
  · rw [if_pos h0]; unfold magOf upOf; rw [if_pos h0, show rung x / 4503599627370496 - 1 = 0 by omega]; rfl
  · rw [if_neg h0, if_pos h]; unfold magOf upOf; rw [if_neg h0]

theorem cut_exact (neg : Bool) (M b : Nat) (hM : 0 < M) : Toward.even.cut neg (M * 2 ^ b) b = M := by
  unfold Toward.cut
  have hl : b ≤ (M * 2 ^ b).log2 + 2 := by
    have h1 : 2 ^ b ≤ M * 2 ^ b := Nat.le_mul_of_pos_left _ hM
    have h2 : M * 2 ^ b ≠ 0 := Nat.ne_of_gt (Nat.mul_pos hM (Nat.two_pow_pos _))
    have := (Nat.le_log2 h2).2 h1
    omega
  have hg : 1 <<< min b ((M * 2 ^ b).log2 + 2) = 2 ^ b := by rw [Nat.min_eq_left hl, Nat.shiftLeft_eq, Nat.one_mul]
  simp only [hg]
  rw [Nat.mul_div_cancel _ (Nat.two_pow_pos b), Nat.mul_mod_left]
  have hp := Nat.two_pow_pos b
  have h1 : decide (2 ^ b < 2 * 0) = false := by simp
  have h2 : (2 ^ b == 2 * 0) = false := by rw [beq_eq_false_iff_ne]; omega
  simp

theorem log2_mul (M b : Nat) (hM : 0 < M) : (M * 2 ^ b).log2 = M.log2 + b := by
  have h2 : M * 2 ^ b ≠ 0 := Nat.ne_of_gt (Nat.mul_pos hM (Nat.two_pow_pos _))
  rw [Nat.log2_eq_iff h2]
  have h0 : M ≠ 0 := by omega
  have := (Nat.log2_eq_iff h0).1 rfl
  rw [Nat.pow_add, show M.log2 + b + 1 = M.log2 + 1 + b by omega, Nat.pow_add _ (M.log2 + 1)]
  exact ⟨Nat.mul_le_mul_right _ this.1, Nat.mul_lt_mul_of_pos_right this.2 (Nat.two_pow_pos _)⟩

/-- WHAT IS EXACT IS NOT ROUNDED: a number that is some rung's own is that rung's word. -/
theorem nearest_exact (neg : Bool) (r mag a b : Nat) (h0 : 0 < r) (hr : r < 9218868437227405312) (h : mag * 2 ^ a = magOf r * 2 ^ b) :
    double.nearest neg mag (-1074 + (upOf r : Int) + (a : Int) - (b : Int)) = double.word neg r := by
  have hM := mag_pos h0
  have hm : 0 < mag := by
    rcases Nat.eq_zero_or_pos mag with e | e
    · rw [e, Nat.zero_mul] at h
      have := Nat.mul_pos hM (Nat.two_pow_pos b)
      omega
    · exact e
  have hlog : mag.log2 + a = (magOf r).log2 + b := by rw [← log2_mul _ _ hm, ← log2_mul _ _ hM, h]
  have hlM : (magOf r).log2 ≤ 52 := by
    have := (Nat.log2_lt (n := magOf r) (k := 53) (by omega)).2 (mag_lt r)
    omega
  have hbig : upOf r = 0 ∨ (magOf r).log2 = 52 := by
    rcases mag_big r with e | e
    · exact Or.inl e
    · right
      have := (Nat.le_log2 (n := magOf r) (k := 52) (by omega)).2 e
      omega
  unfold Format.nearest
  rw [if_neg (by omega)]
  have e1 : double.leastPlace = -1074 := by decide
  have e2 : double.infRung = 9218868437227405312 := by decide
  have e3 : double.binade = 4503599627370496 := by decide
  have e4 : (double.fractionBits : Int) = 52 := by decide
  simp only [e1, e2, e3, e4]
  have hlast : max (-1074 + (upOf r : Int) + (a : Int) - (b : Int) + (mag.log2 : Int) - 52) (-1074) = -1074 + (upOf r : Int) := by omega
  rw [hlast]
  have hkept : Toward.even.cut neg (mag <<< (-1074 + (upOf r : Int) + (a : Int) - (b : Int) - (-1074 + (upOf r : Int))).toNat) (-1074 + (upOf r : Int) - (-1074 + (upOf r : Int) + (a : Int) - (b : Int))).toNat = magOf r := by
    have t1 : (-1074 + (upOf r : Int) + (a : Int) - (b : Int) - (-1074 + (upOf r : Int))).toNat = a - b := by omega
    have t2 : (-1074 + (upOf r : Int) - (-1074 + (upOf r : Int) + (a : Int) - (b : Int))).toNat = b - a := by omega
    rw [t1, t2, Nat.shiftLeft_eq]
    rcases Nat.le_total a b with k | k
    · have : mag = magOf r * 2 ^ (b - a) := by
        have e : 2 ^ b = 2 ^ (b - a) * 2 ^ a := by rw [← Nat.pow_add]; congr 1; omega
        rw [e, ← Nat.mul_assoc] at h
        exact Nat.eq_of_mul_eq_mul_right (Nat.two_pow_pos a) h
      rw [show a - b = 0 by omega, Nat.pow_zero, Nat.mul_one, this]
      exact cut_exact _ _ _ hM
    · have : mag * 2 ^ (a - b) = magOf r := by
        have e : 2 ^ a = 2 ^ (a - b) * 2 ^ b := by rw [← Nat.pow_add]; congr 1; omega
        rw [e, ← Nat.mul_assoc] at h
        exact Nat.eq_of_mul_eq_mul_right (Nat.two_pow_pos b) h
      rw [this, show b - a = 0 by omega]
      have := cut_exact neg (magOf r) 0 hM
      rw [Nat.pow_zero, Nat.mul_one] at this
      exact this
  rw [hkept]
  have t3 : (-1074 + (upOf r : Int) - -1074).toNat = upOf r := by omega
  rw [t3, mag_up, Nat.min_eq_left (by omega)]
theorem word_eq (neg : Bool) (r : Nat) : double.word neg r = if neg then 9223372036854775808 + r else r := by unfold Format.word; rw [show double.signWeight = 9223372036854775808 by decide]
end Go.Proofs.Ytejkilgpcbdepaa
