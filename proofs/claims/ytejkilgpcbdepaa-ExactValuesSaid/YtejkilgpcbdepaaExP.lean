import Derived.Test.YtejkilgpcbdepaaExO
import Derived.Test.YtejkilgpcbdepaaExN
/-! Exact sums: a whole number in words, its sign taken off. -/
namespace Go.Proofs.Ytejkilgpcbdepaa
open Go.RowKit
set_option linter.unusedVariables false
open Ieee

theorem top_word (W N i : Nat) (hN : N = 64 * i + 64) : wdn W i = W % 2 ^ N / 2 ^ (64 * i) := by
  rw [← wdn_mod W i N (by omega)]
  exact Nat.mod_eq_of_lt (top_lt _ i N (Nat.mod_lt _ (Nat.two_pow_pos _)) hN)
theorem sg_iff (W N M i : Nat) (hi : i = 34) (hN : N = 64 * i + 64) (hM : M = 64 * i + 63) : sgOf W = decide (2 ^ M ≤ W % 2 ^ N) := by
  unfold sgOf
  rw [← hi, top_word W N i hN]
  have hp := Nat.two_pow_pos (64 * i)
  have e : 2 ^ M = 9223372036854775808 * 2 ^ (64 * i) := by
    rw [hM, Nat.pow_add, Nat.mul_comm]
  rw [e]
  have : (9223372036854775808 ≤ W % 2 ^ N / 2 ^ (64 * i)) = (9223372036854775808 * 2 ^ (64 * i) ≤ W % 2 ^ N) := by
    apply propext
    exact Nat.le_div_iff_mul_le hp
  simp only [this]
/-- What a whole number's words tell of it. -/
theorem words_tell (W N M i : Nat) (T : Int) (hi : i = 34) (hN : N = 64 * i + 64) (hM : M = 64 * i + 63) (hA : absOf W = if sgOf W = true then 2 ^ N - W % 2 ^ N else W % 2 ^ N) (h : (W : Int) % ((2 ^ N : Nat) : Int) = T % ((2 ^ N : Nat) : Int)) (h1 : T.natAbs < 2 ^ M) : sgOf W = decide (T < 0) ∧ absOf W = T.natAbs := by
  have hs := sg_iff W N M i hi hN hM
  have e2 : 2 ^ N = 2 * 2 ^ M := by rw [hN, hM, ← Nat.pow_succ']
  have hp := Nat.two_pow_pos M
  have hlt := Nat.mod_lt W (Nat.two_pow_pos N)
  have h' : ((W % 2 ^ N : Nat) : Int) = T % ((2 ^ N : Nat) : Int) := by rw [Int.natCast_emod]; exact h
  clear h
  generalize W % 2 ^ N = R at *
  generalize 2 ^ N = K at *
  generalize 2 ^ M = Q at *
  rw [hA, hs]
  by_cases hT : T < 0
  · have hm : T % (K : Int) = T + (K : Int) := by
      have h3 : (T + (K : Int)) % (K : Int) = T + (K : Int) := Int.emod_eq_of_lt (by omega) (by omega)
      rw [Int.add_emod_right] at h3
      exact h3
    have hR : (R : Int) = T + (K : Int) := by rw [h', hm]
    rw [decide_eq_true (show Q ≤ R by omega), decide_eq_true hT]
    refine ⟨rfl, ?_⟩
    rw [if_pos rfl]; omega
  · have hR : (R : Int) = T := by rw [h']; exact Int.emod_eq_of_lt (by omega) (by omega)
    rw [decide_eq_false (show ¬ Q ≤ R by omega), decide_eq_false hT]
    refine ⟨rfl, ?_⟩
    rw [if_neg (by decide)]; omega
end Go.Proofs.Ytejkilgpcbdepaa
