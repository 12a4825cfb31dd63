import Derived.Test.YtejkilgpcbdepaaRealExact
import Derived.Laws.Entries
import Derived.IntWalk
/-! Whole numbers as numbers, and powers of two: the plain law. -/
namespace Go.Proofs.Ytejkilgpcbdepaa
set_option linter.unusedVariables false
open Ieee

/-- A whole number's word. -/
def wordOf (m : Nat) : Nat := (m.log2 + 1022) * 4503599627370496 + m * 2 ^ (52 - m.log2)
theorem log_le {m : Nat} (h0 : 0 < m) (h : m < 9007199254740992) : m.log2 ≤ 52 := by
  have := (Nat.log2_lt (n := m) (k := 53) (by omega)).2 h
  omega
theorem lead {m : Nat} (h0 : 0 < m) (h : m < 9007199254740992) : 4503599627370496 ≤ m * 2 ^ (52 - m.log2) ∧ m * 2 ^ (52 - m.log2) < 9007199254740992 := by
  have hl := log_le h0 h
  have h1 := log2_mul m (52 - m.log2) h0
  have h2 : m.log2 + (52 - m.log2) = 52 := by omega
  rw [h2] at h1
  have h3 : m * 2 ^ (52 - m.log2) ≠ 0 := Nat.ne_of_gt (Nat.mul_pos h0 (Nat.two_pow_pos _))
  have := (Nat.log2_eq_iff h3).1 h1
  exact this
theorem wordOf_mag {m : Nat} (h0 : 0 < m) (h : m < 9007199254740992) : magOf (wordOf m) = m * 2 ^ (52 - m.log2) ∧ upOf (wordOf m) = m.log2 + 1022 := by
  have := lead h0 h
  unfold wordOf magOf upOf
  generalize m * 2 ^ (52 - m.log2) = q at *
  constructor
  · rw [if_neg (by omega)]; omega
  · omega
theorem wordOf_lt {m : Nat} (h0 : 0 < m) (h : m < 9007199254740992) : 4607182418800017408 ≤ wordOf m ∧ wordOf m < 9218868437227405312 := by
  have := lead h0 h
  have := log_le h0 h
  unfold wordOf
  generalize m * 2 ^ (52 - m.log2) = q at *
  omega
theorem conv_nat (m : Nat) (h0 : 0 < m) (h : m < 9007199254740992) : FloatKind.f64.nearest (m : Int) = wordOf m := by
  have hm := wordOf_mag h0 h
  have hl := wordOf_lt h0 h
  have hk := log_le h0 h
  have := nearest_exact false (wordOf m) m (52 - m.log2) 0 (by omega) hl.2 (by rw [hm.1]; simp)
  rw [word_eq, hm.2, show (-1074 + ((m.log2 + 1022 : Nat) : Int) + ((52 - m.log2 : Nat) : Int) - ((0 : Nat) : Int)) = 0 by omega] at this
  show double.nearest (decide ((m : Int) < 0)) (m : Int).natAbs 0 = _
  rw [show decide ((m : Int) < 0) = false by simp, show (m : Int).natAbs = m by simp, this]
  simp
theorem conv_zero : FloatKind.f64.nearest (0 : Int) = 0 := by decide

theorem mul_word {x y : Nat} (hx : x < 9218868437227405312) (hy : y < 9218868437227405312) (r b : Nat) (h0 : 0 < r) (hr : r < 9218868437227405312) (h : magOf x * magOf y = magOf r * 2 ^ b) (hp : (upOf x : Int) + (upOf y : Int) + (b : Int) = 1074 + (upOf r : Int)) :
    floatBits .mul .f64 x y = some r := by
  show double.mul x y = some r
  unfold Format.mul
  have ex : rung x = x := by unfold rung; omega
  have ey : rung y = y := by unfold rung; omega
  have nx : negB x = false := by unfold negB; rw [beq_eq_false_iff_ne]; omega
  have ny : negB y = false := by unfold negB; rw [beq_eq_false_iff_ne]; omega
  rw [read_mag (by omega), read_mag (by omega), ex, ey, nx, ny]
  have := nearest_exact false r (magOf x * magOf y) 0 b h0 hr (by rw [Nat.pow_zero, Nat.mul_one]; exact h)
  show some (double.nearest (false ^^ false) (magOf x * magOf y) (-1074 + (upOf x : Int) + (-1074 + (upOf y : Int)))) = some r
  rw [show (-1074 + (upOf x : Int) + (-1074 + (upOf y : Int))) = -1074 + (upOf r : Int) + ((0 : Nat) : Int) - (b : Int) by omega, show (false ^^ false) = false from rfl, this, word_eq]
  simp
theorem mul_one {r : Nat} (h0 : 0 < r) (hr : r < 9218868437227405312) : floatBits .mul .f64 4607182418800017408 r = some r := by
  refine mul_word (by omega) hr r 52 h0 hr ?_ ?_
  · rw [show magOf 4607182418800017408 = 4503599627370496 by decide]; omega
  · rw [show upOf 4607182418800017408 = 1022 by decide]; omega
/-- A word of a whole number's, set to another power. -/
theorem mul_small {m : Nat} (h0 : 0 < m) (h : m < 4503599627370496) : floatBits .mul .f64 4368491638549381120 (wordOf m % 4503599627370496 + (m.log2 + 2) * 4503599627370496) = some m := by
  have hl := lead h0 (by omega)
  have hk := log_le h0 (by omega)
  have hG : magOf (wordOf m % 4503599627370496 + (m.log2 + 2) * 4503599627370496) = m * 2 ^ (52 - m.log2) ∧ upOf (wordOf m % 4503599627370496 + (m.log2 + 2) * 4503599627370496) = m.log2 + 1 := by
    unfold wordOf magOf upOf
    generalize m * 2 ^ (52 - m.log2) = q at *
    constructor
    · rw [if_neg (by omega)]; omega
    · omega
  refine mul_word (by omega) (by omega) m (104 - m.log2) h0 (by omega) ?_ ?_
  · rw [hG.1, show magOf 4368491638549381120 = 2 ^ 52 by decide, show magOf m = m by unfold magOf; rw [if_pos h], Nat.mul_left_comm, ← Nat.pow_add]
    congr 2; omega
  · rw [hG.2, show upOf 4368491638549381120 = 969 by decide, show upOf m = 0 by unfold upOf; omega]; omega
/-- A word of a whole number's, set to its own power. -/
theorem set_norm {r : Nat} (h : 4503599627370496 ≤ r) (hr : r < 9218868437227405312) : wordOf (magOf r) % 4503599627370496 + (upOf r + 1) * 4503599627370496 = r ∧ (magOf r).log2 = 52 := by
  have h1 := mag_lt r
  have h2 : 4503599627370496 ≤ magOf r := by unfold magOf; rw [if_neg (by omega)]; omega
  have h3 := log_le (by omega : 0 < magOf r) h1
  have h4 := (Nat.le_log2 (n := magOf r) (k := 52) (by omega)).2 h2
  have h5 : (magOf r).log2 = 52 := by omega
  refine ⟨?_, h5⟩
  unfold wordOf
  rw [h5, show 2 ^ (52 - 52) = 1 by decide]
  have := mag_up r
  omega

theorem and_i64_11 (a : Nat) (h : a < 2048) : bits .and .i64 (a : Int) 2047 = (a : Int) := by
  have e : (BitVec.ofInt 64 (a : Int)).toNat = a := by rw [BitVec.ofInt_natCast, BitVec.toNat_ofNat]; exact Nat.mod_eq_of_lt (by omega)
  show IntKind.i64.wrap ((BitVec.ofInt 64 (a : Int) &&& BitVec.ofInt 64 2047).toNat : Int) = _
  rw [BitVec.toNat_and, e, show (BitVec.ofInt 64 2047).toNat = 2 ^ 11 - 1 by decide, Nat.and_two_pow_sub_one_eq_mod, IntWalk.i64_in _ (by omega)]
  omega
theorem andNot_exp (x : Nat) (h : x < 9218868437227405312) : bits .andNot .u64 (x : Int) 9218868437227405312 = ((x % 4503599627370496 : Nat) : Int) := by
  have e : (BitVec.ofInt 64 (x : Int)).toNat = x := by rw [BitVec.ofInt_natCast, BitVec.toNat_ofNat]; exact Nat.mod_eq_of_lt (by omega)
  show IntKind.u64.wrap ((BitVec.ofInt 64 (x : Int) &&& ~~~ BitVec.ofInt 64 9218868437227405312).toNat : Int) = _
  have hb : (BitVec.ofInt 64 (x : Int) &&& ~~~ BitVec.ofInt 64 9218868437227405312) = BitVec.ofInt 64 (x : Int) &&& BitVec.ofNat 64 (2 ^ 52 - 1) := by
    have hx : (BitVec.ofInt 64 (x : Int)) &&& BitVec.ofNat 64 (2 ^ 63) = 0#64 := by
      apply BitVec.eq_of_toNat_eq
      rw [BitVec.toNat_and, e, BitVec.toNat_ofNat, show 2 ^ 63 % 2 ^ 64 = 2 ^ 63 by decide]
      apply Nat.eq_of_testBit_eq
      intro i
      rw [Nat.testBit_and, Nat.testBit_two_pow]
      by_cases hi : 63 = i
      · subst hi
        rw [Nat.testBit_lt_two_pow (by omega)]; simp
      · simp [hi]
    have hs : ~~~ BitVec.ofInt 64 9218868437227405312 = BitVec.ofNat 64 (2 ^ 52 - 1) ||| BitVec.ofNat 64 (2 ^ 63) := by decide
    rw [hs]
    generalize BitVec.ofInt 64 (x : Int) = v at *
    apply BitVec.eq_of_getLsbD_eq
    intro i hi
    have h1 := congrArg (fun z => z.getLsbD i) hx
    simp only [BitVec.getLsbD_and, BitVec.getLsbD_or] at h1 ⊢
    generalize v.getLsbD i = p at *
    generalize (BitVec.ofNat 64 (2 ^ 52 - 1)).getLsbD i = q at *
    generalize (BitVec.ofNat 64 (2 ^ 63)).getLsbD i = s at *
    revert h1
    cases p <;> cases q <;> cases s <;> simp
  rw [hb, BitVec.toNat_and, e, BitVec.toNat_ofNat, Nat.mod_eq_of_lt (by omega), Nat.and_two_pow_sub_one_eq_mod, IntWalk.u64_in _ (by omega)]
theorem or_exp (f e : Nat) (hf : f < 4503599627370496) (he : e < 2048) : bits .or .u64 (f : Int) ((e * 4503599627370496 : Nat) : Int) = ((f + e * 4503599627370496 : Nat) : Int) := by
  have h1 : (BitVec.ofInt 64 (f : Int)).toNat = f := by rw [BitVec.ofInt_natCast, BitVec.toNat_ofNat]; exact Nat.mod_eq_of_lt (by omega)
  have h2 : (BitVec.ofInt 64 ((e * 4503599627370496 : Nat) : Int)).toNat = e * 4503599627370496 := by rw [BitVec.ofInt_natCast, BitVec.toNat_ofNat]; exact Nat.mod_eq_of_lt (by omega)
  show IntKind.u64.wrap ((BitVec.ofInt 64 (f : Int) ||| BitVec.ofInt 64 ((e * 4503599627370496 : Nat) : Int)).toNat : Int) = _
  rw [BitVec.toNat_or, h1, h2]
  have := Nat.two_pow_add_eq_or_of_lt (i := 52) (b := f) (by omega) e
  rw [Nat.or_comm, show e * 4503599627370496 = 2 ^ 52 * e by omega, ← this, IntWalk.u64_in _ (by omega)]
  omega
end Go.Proofs.Ytejkilgpcbdepaa
