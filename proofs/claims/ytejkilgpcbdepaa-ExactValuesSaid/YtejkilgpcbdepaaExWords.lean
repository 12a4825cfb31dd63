import Derived.Test.YtejkilgpcbdepaaKit
/-! A whole number's words: the plain law. -/
namespace Go.Proofs.Ytejkilgpcbdepaa
open Go.RowKit
set_option linter.unusedVariables false

/-- A number's word. -/
def wdn (A i : Nat) : Nat := A / 2 ^ (64 * i) % 18446744073709551616
def wdv (A i : Nat) : Value := .int .u64 (wdn A i : Nat)
def ws (A : Nat) : Array Value := Array.ofFn (n := 35) fun i => wdv A i
theorem wdn_lt (A i : Nat) : wdn A i < 18446744073709551616 := Nat.mod_lt _ (by omega)
theorem ws_size (A : Nat) : (ws A).size = 35 := by simp [ws]
theorem ws_at (A i : Nat) (h : i < 35) : (ws A)[i]? = some (wdv A i) := by simp [ws, h]
theorem ofFn_one {n : Nat} (f : Fin n → Value) (h : ∀ i, (f i).oneCell' = true) : (Array.ofFn f).all (·.oneCell') = true := by
  rw [Array.all_eq_true_iff_forall_mem]
  intro x hx
  obtain ⟨i, rfl⟩ := Array.mem_ofFn.1 hx
  exact h i
theorem ws_one (A : Nat) : (ws A).all (·.oneCell') = true := ofFn_one _ fun i => rfl
/-- The first i words of R, and behind them those of A. -/
def mixW (R A i : Nat) : Array Value := Array.ofFn (n := 35) fun j => if j.val < i then wdv R j else wdv A j
theorem mixW_size (R A i : Nat) : (mixW R A i).size = 35 := by simp [mixW]
theorem mixW_one (R A i : Nat) : (mixW R A i).all (·.oneCell') = true := ofFn_one _ fun i => by split <;> rfl
theorem mixW_at (R A i : Nat) (h : i < 35) : (mixW R A i)[i]? = some (wdv A i) := by simp [mixW, h]
theorem mixW_zero (R A : Nat) : mixW R A 0 = ws A := by simp [mixW, ws]
theorem mixW_all (R A : Nat) : mixW R A 35 = ws R := by
  unfold mixW ws
  congr 1
  funext j
  rw [if_pos j.isLt]
theorem mixW_set (R A i : Nat) (h : i < 35) : (mixW R A i).setIfInBounds i (wdv R i) = mixW R A (i + 1) := by
  apply Array.ext
  · simp [mixW]
  · intro k h1 h2
    have h3 : k < (mixW R A i).size := by rw [mixW_size]; rw [mixW_size] at h2; exact h2
    rw [Array.getElem_setIfInBounds h3]
    simp only [mixW, Array.getElem_ofFn]
    simp only [mixW, Array.size_ofFn] at h2
    by_cases hk : i = k
    · subst hk; simp
    · rw [if_neg hk]
      by_cases h4 : k < i
      · rw [if_pos h4, if_pos (by omega)]
      · rw [if_neg h4, if_neg (by omega)]

theorem mod_split (A P Q : Nat) : A % (P * Q) = P * (A / P % Q) + A % P := by rw [Nat.mod_mul, Nat.add_comm]
theorem carry_step (a b x y P Q : Nat) (hP : 0 < P) : (P * a + x + (P * b + y)) / (P * Q) = (a + b + (x + y) / P) / Q := by
  rw [← Nat.div_div_eq_div_mul]
  congr 1
  rw [show P * a + x + (P * b + y) = (x + y) + P * (a + b) by rw [Nat.mul_add]; omega, Nat.add_mul_div_left _ _ hP, Nat.add_comm]
def carryA (A B i : Nat) : Nat := (A % 2 ^ (64 * i) + B % 2 ^ (64 * i)) / 2 ^ (64 * i)
theorem carryA_le (A B i : Nat) : carryA A B i ≤ 1 := by
  have hP := Nat.two_pow_pos (64 * i)
  have h1 := Nat.mod_lt A hP
  have h2 := Nat.mod_lt B hP
  have : carryA A B i < 2 := by unfold carryA; rw [Nat.div_lt_iff_lt_mul hP]; omega
  omega
theorem carryA_zero (A B : Nat) : carryA A B 0 = 0 := by unfold carryA; simp [Nat.mod_one]
theorem pow_step (i : Nat) : 2 ^ (64 * (i + 1)) = 2 ^ (64 * i) * 18446744073709551616 := by
  rw [show 64 * (i + 1) = 64 * i + 64 by omega, Nat.pow_add]
theorem carryA_succ (A B i : Nat) : carryA A B (i + 1) = (wdn A i + wdn B i + carryA A B i) / 18446744073709551616 := by
  unfold carryA wdn
  rw [pow_step, mod_split A, mod_split B, carry_step _ _ _ _ _ _ (Nat.two_pow_pos _)]
theorem wdn_add (A B i : Nat) : wdn (A + B) i = (wdn A i + wdn B i + carryA A B i) % 18446744073709551616 := by
  unfold carryA wdn
  have hP := Nat.two_pow_pos (64 * i)
  generalize 2 ^ (64 * i) = P at *
  have e : (A + B) / P = A / P + B / P + (A % P + B % P) / P := by
    have h1 := Nat.div_add_mod A P
    have h2 := Nat.div_add_mod B P
    rw [show A + B = (A % P + B % P) + P * (A / P + B / P) by rw [Nat.mul_add]; omega, Nat.add_mul_div_left _ _ hP]
    omega
  rw [e]
  omega
/-- What is borrowed. -/
def borrowA (A i : Nat) : Nat := if A % 2 ^ (64 * i) = 0 then 0 else 1
theorem borrowA_le (A i : Nat) : borrowA A i ≤ 1 := by unfold borrowA; split <;> omega
theorem borrowA_zero (A : Nat) : borrowA A 0 = 0 := by unfold borrowA; simp [Nat.mod_one]
theorem borrowA_succ (A i : Nat) : borrowA A (i + 1) = if wdn A i + borrowA A i = 0 then 0 else 1 := by
  have hP := Nat.two_pow_pos (64 * i)
  unfold borrowA wdn
  rw [pow_step, mod_split A]
  generalize 2 ^ (64 * i) = P at *
  generalize A / P % 18446744073709551616 = q
  generalize A % P = r
  by_cases hr : r = 0
  · rw [if_pos hr, hr]
    by_cases hq : q = 0
    · rw [hq]; simp
    · rw [if_neg (by rw [Nat.add_zero]; exact Nat.ne_of_gt (Nat.mul_pos hP (by omega))), if_neg (by omega)]
  · rw [if_neg hr, if_neg (by omega), if_neg (by omega)]
theorem wdn_neg (A i : Nat) (hi : i < 35) (hA : A ≤ 2 ^ 2240) : wdn (2 ^ 2240 - A) i = (18446744073709551616 - wdn A i - borrowA A i) % 18446744073709551616 := by
  have hP := Nat.two_pow_pos (64 * i)
  have hM : 2 ^ 2240 = 2 ^ (64 * i) * (2 ^ (2176 - 64 * i) * 18446744073709551616) := by
    rw [show (18446744073709551616 : Nat) = 2 ^ 64 by rfl, ← Nat.pow_add, ← Nat.pow_add]
    congr 1; omega
  have hK := Nat.two_pow_pos (2176 - 64 * i)
  unfold wdn borrowA
  rw [hM] at hA ⊢
  generalize 2 ^ (2176 - 64 * i) = K at *
  generalize 2 ^ (64 * i) = P at *
  have h1 := Nat.div_add_mod A P
  have h2 := Nat.mod_lt A hP
  have hle : A / P ≤ K * 18446744073709551616 := by
    have := Nat.div_le_div_right (c := P) hA
    rwa [Nat.mul_div_cancel_left _ hP] at this
  generalize A / P = q at *
  generalize A % P = r at *
  subst h1
  by_cases hr : r = 0
  · subst hr
    rw [if_pos rfl, Nat.add_zero, ← Nat.mul_sub, Nat.mul_div_cancel_left _ hP]
    omega
  · rw [if_neg hr]
    have hq : q < K * 18446744073709551616 := by
      rcases Nat.lt_or_ge q (K * 18446744073709551616) with h | h
      · exact h
      · have := Nat.mul_le_mul_left P h; omega
    have e : P * (K * 18446744073709551616) - (P * q + r) = P * (K * 18446744073709551616 - q - 1) + (P - r) := by
      rw [Nat.sub_sub, Nat.mul_sub, Nat.mul_add, Nat.mul_one]
      have := Nat.mul_le_mul_left P (show q + 1 ≤ K * 18446744073709551616 by omega)
      rw [Nat.mul_add, Nat.mul_one] at this
      omega
    rw [e, Nat.mul_add_div hP, Nat.div_eq_of_lt (show P - r < P by omega)]
    omega
end Go.Proofs.Ytejkilgpcbdepaa
