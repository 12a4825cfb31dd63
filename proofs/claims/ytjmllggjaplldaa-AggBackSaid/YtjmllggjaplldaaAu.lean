import Derived.Test.YtjmllggjaplldaaAt
/-! Tellings laid and read: the plain law. -/
namespace Go.Proofs.Ytjmllggjaplldaa
open Go.RowKit
set_option linter.unusedVariables false
attribute [-simp] Try.isAgg27 Try.sizeOf27 Try.typeInfo27 Try.type27
theorem rdU_step_end (most f i acc : Nat) (m : Nat) (rest : List Int) (h9 : i < 9 ∨ (i = 9 ∧ m < 2)) (hm : m < 128) (h0 : i = 0 ∨ 0 < m) :
    rdU most (f + 1) i acc ((m : Int) :: rest) = if acc + m * 2 ^ (7 * i) ≤ most then some (acc + m * 2 ^ (7 * i), rest) else none := by
  have h1 : i < 9 ∨ (i = 9 ∧ (m : Int) < 2) := by omega
  have h2 : (m : Int) < 128 := by omega
  have h3 : (m : Int).toNat % 128 = m := by omega
  have h4 : i = 0 ∨ 0 < (m : Int) := by omega
  rw [rdU, if_pos h1, if_pos h2, h3]
  by_cases hc : acc + m * 2 ^ (7 * i) ≤ most
  · rw [if_pos ⟨hc, h4⟩, if_pos hc]
  · rw [if_neg (fun e => hc e.1), if_neg hc]
theorem rdU_lay (most : Nat) (rest : List Int) : ∀ (f i acc m : Nat), i + f = 9 → m * 2 ^ (7 * i) < 18446744073709551616 → (i = 0 ∨ 0 < m) →
    rdU most (f + 1) i acc (uintF f m ++ rest) = if acc + m * 2 ^ (7 * i) ≤ most then some (acc + m * 2 ^ (7 * i), rest) else none := by
  intro f
  induction f with
  | zero =>
    intro i acc m hi hm h0
    have hi9 : i = 9 := by omega
    subst hi9
    have hm2 : m < 2 := by
      have : (2 : Nat) ^ (7 * 9) = 9223372036854775808 := by decide
      rw [this] at hm
      omega
    exact rdU_step_end most 0 9 acc m rest (.inr ⟨rfl, hm2⟩) (by omega) h0
  | succ f ih =>
    intro i acc m hi hm h0
    by_cases h128 : m < 128
    · rw [uintF, if_pos h128]
      exact rdU_step_end most (f + 1) i acc m rest (.inl (by omega)) h128 h0
    · rw [uintF, if_neg h128]
      have h1 : i < 9 ∨ (i = 9 ∧ ((m % 128 + 128 : Nat) : Int) < 2) := .inl (by omega)
      have h2 : ¬ ((m % 128 + 128 : Nat) : Int) < 128 := by omega
      have h3 : ((m % 128 + 128 : Nat) : Int).toNat % 128 = m % 128 := by omega
      have hp : (2 : Nat) ^ (7 * (i + 1)) = 128 * 2 ^ (7 * i) := by
        rw [show 7 * (i + 1) = 7 + 7 * i from by omega, Nat.pow_add]
      have hd : m / 128 * 2 ^ (7 * (i + 1)) + m % 128 * 2 ^ (7 * i) = m * 2 ^ (7 * i) := by
        rw [hp, ← Nat.mul_assoc, ← Nat.add_mul]
        congr 1
        omega
      rw [List.cons_append, rdU, if_pos h1, if_neg h2, h3, ih (i + 1) _ (m / 128) (by omega) (by omega) (.inr (by omega))]
      rw [show acc + m % 128 * 2 ^ (7 * i) + m / 128 * 2 ^ (7 * (i + 1)) = acc + m * 2 ^ (7 * i) from by omega]
theorem rdU_uintL (most n : Nat) (rest : List Int) (hn : n < 18446744073709551616) : rdU most 10 0 0 (uintL n ++ rest) = if n ≤ most then some (n, rest) else none := by
  have := rdU_lay most rest 9 0 0 n rfl (by simpa using hn) (.inl rfl)
  simpa [uintL] using this
theorem rdNum_uintL (c : Nat) (rest : List Int) (hn : c < 18446744073709551616) (hc : canon c = c) : rdNum (uintL c ++ rest) = some (c, rest) := by
  unfold rdNum
  rw [rdU_uintL _ _ _ hn, if_pos (by omega), Option.bind_some, if_pos hc]
/-- A telling that is laid is read. -/
theorem rdVal_lay (a : AV) (h : a.ok) : rdVal (layVL a) = if a.n ≤ 1099511627776 then some (⟨a.n, canon a.x, a.ov, canon a.lo, canon a.hi⟩, []) else none := by
  have e : layVL a = uintL a.n ++ (uintL (canon a.x) ++ (uintL (ovN a.ov) ++ (uintL (canon a.lo) ++ (uintL (canon a.hi) ++ [])))) := by
    unfold layVL
    simp only [List.append_assoc, List.append_nil]
  unfold rdVal
  rw [e, rdU_uintL _ _ _ h.n]
  by_cases hn : a.n ≤ 1099511627776
  · rw [if_pos hn, if_pos hn]
    have ho : ovN a.ov ≤ 1 := by unfold ovN; split <;> decide
    have hd : decide (ovN a.ov = 1) = a.ov := by cases a.ov <;> rfl
    simp only [Option.bind_some]
    rw [rdNum_uintL _ _ (canon_lt h.x) (canon_canon _)]
    simp only [Option.bind_some]
    rw [rdU_uintL _ _ _ (by omega), if_pos ho]
    simp only [Option.bind_some]
    rw [rdNum_uintL _ _ (canon_lt h.lo) (canon_canon _)]
    simp only [Option.bind_some]
    rw [rdNum_uintL _ _ (canon_lt h.hi) (canon_canon _)]
    simp only [Option.bind_some, hd]
  · rw [if_neg hn, if_neg hn]
    rfl
end Go.Proofs.Ytjmllggjaplldaa
