import Derived.Test.YtejkilgpcbdepaaExGm
import Derived.Lib.BitFns
/-! Exact sums: the plain law of the leading bit. -/
namespace Go.Proofs.Ytejkilgpcbdepaa
set_option linter.unusedVariables false

theorem bitLen_log {x : Nat} (h0 : x ≠ 0) (h : x < 18446744073709551616) : Lib.bitLen x = x.log2 + 1 := by
  have h1 := Nat.log2_self_le h0
  have h2 : x < 2 ^ (x.log2 + 1) := Nat.lt_log2_self
  rw [Lib.bitLen_shift x.log2 x h1 h]
  have : x / 2 ^ x.log2 = 1 := by
    have hp := Nat.two_pow_pos x.log2
    rw [Nat.pow_succ] at h2
    have h3 : x / 2 ^ x.log2 < 2 := by rw [Nat.div_lt_iff_lt_mul hp, Nat.mul_comm]; exact h2
    have h4 : 1 ≤ x / 2 ^ x.log2 := by rw [Nat.le_div_iff_mul_le hp, Nat.one_mul]; exact h1
    omega
  rw [this]
  rfl
/-- The leading bit's place among the first k words. -/
def topI (A k : Nat) : Int := if A % 2 ^ (64 * k) = 0 then -1 else ((A % 2 ^ (64 * k)).log2 : Int)
theorem topI_zero (A : Nat) : topI A 0 = -1 := by unfold topI; simp [Nat.mod_one]
theorem topI_same (A k : Nat) (h : wdn A k = 0) : topI A (k + 1) = topI A k := by
  unfold topI
  rw [pow_step, mod_split, show A / 2 ^ (64 * k) % 18446744073709551616 = 0 from h, Nat.mul_zero, Nat.zero_add]
theorem log2_top (x P y : Nat) (k : Nat) (hP : P = 2 ^ k) (hx : x ≠ 0) (hy : y < P) : (P * x + y).log2 = k + x.log2 := by
  have hp := Nat.two_pow_pos k
  have h1 := Nat.log2_self_le hx
  have h2 : x < 2 ^ (x.log2 + 1) := Nat.lt_log2_self
  have hne : P * x + y ≠ 0 := by
    have : 0 < P * x := Nat.mul_pos (by omega) (by omega)
    omega
  rw [Nat.log2_eq_iff hne]
  subst hP
  constructor
  · rw [Nat.pow_add]
    exact Nat.le_trans (Nat.mul_le_mul_left _ h1) (Nat.le_add_right _ _)
  · have h3 : 2 ^ k * x + y < 2 ^ k * (x + 1) := by rw [Nat.mul_add, Nat.mul_one]; omega
    rw [show k + x.log2 + 1 = k + (x.log2 + 1) by omega, Nat.pow_add]
    exact Nat.lt_of_lt_of_le h3 (Nat.mul_le_mul_left _ h2)
theorem topI_step (A k : Nat) (h : wdn A k ≠ 0) : topI A (k + 1) = 64 * (k : Int) + (Lib.bitLen (wdn A k) : Int) - 1 := by
  unfold topI
  rw [pow_step, mod_split]
  have hp := Nat.two_pow_pos (64 * k)
  have hx : A / 2 ^ (64 * k) % 18446744073709551616 ≠ 0 := h
  have hb := bitLen_log h (wdn_lt A k)
  have hne : 2 ^ (64 * k) * (A / 2 ^ (64 * k) % 18446744073709551616) + A % 2 ^ (64 * k) ≠ 0 := by
    have : 0 < 2 ^ (64 * k) * (A / 2 ^ (64 * k) % 18446744073709551616) := Nat.mul_pos hp (by omega)
    omega
  rw [if_neg hne, log2_top _ _ _ (64 * k) rfl hx (Nat.mod_lt _ hp), hb, show wdn A k = A / 2 ^ (64 * k) % 18446744073709551616 from rfl]
  omega
theorem topI_all (A N : Nat) (hA : A < 2 ^ N) (k : Nat) (hN : N = 64 * k) : topI A k = if A = 0 then -1 else (A.log2 : Int) := by
  subst hN
  unfold topI
  rw [Nat.mod_eq_of_lt hA]
theorem wdn_mod (W i N : Nat) (h : 64 * i + 64 ≤ N) : wdn (W % 2 ^ N) i = wdn W i := by
  unfold wdn
  obtain ⟨d, rfl⟩ : ∃ d, N = 64 * i + (64 + d) := ⟨N - 64 * i - 64, by omega⟩
  rw [Nat.pow_add, Nat.mod_mul_right_div_self, Nat.pow_add]
  exact Nat.mod_mul_right_mod _ _ _
theorem ws_mod (W N : Nat) (h : 2240 ≤ N) : ws (W % 2 ^ N) = ws W := by
  unfold ws
  congr 1
  funext i
  unfold wdv
  rw [wdn_mod W i.val N (by have := i.isLt; omega)]
/-- What is kept behind s bits that are dropped. -/
def upB (A s : Nat) : Bool := decide (A / 2 ^ (s - 1) % 2 = 1) && (decide (A / 2 ^ s % 2 = 1) || decide (A % 2 ^ (s - 1) ≠ 0))
def rungOf (A : Nat) : Nat := if A < 9007199254740992 then A else (A.log2 - 52) * 4503599627370496 + (A / 2 ^ (A.log2 - 52) + (upB A (A.log2 - 52)).toNat)
end Go.Proofs.Ytejkilgpcbdepaa
