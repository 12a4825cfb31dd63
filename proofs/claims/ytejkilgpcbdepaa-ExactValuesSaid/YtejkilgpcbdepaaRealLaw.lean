import Ieee.Arith
import Derived.Laws.FloatBits
import Derived.Laws.FloatArith
/-! The numbers' plain law: bits, ranks, and the order, with no program in sight. -/
namespace Go.Proofs.Ytejkilgpcbdepaa
set_option linter.unusedVariables false

/-- Is it no number? -/
def nanB (x : Nat) : Bool := decide (9218868437227405312 < x % 9223372036854775808)
def canon (x : Nat) : Nat := if nanB x then 9221120237041090560 else x
def rank (x : Nat) : Nat := if 9223372036854775808 ≤ canon x then 18446744073709551615 - canon x else canon x + 9223372036854775808
theorem canon_lt {x : Nat} (h : x < 18446744073709551616) : canon x < 18446744073709551616 := by unfold canon; split <;> omega
theorem canon_canon (x : Nat) : canon (canon x) = canon x := by
  unfold canon
  by_cases h : nanB x
  · simp only [h, if_true]; rfl
  · simp only [h]; simp [h]
theorem nanB_canon (x : Nat) : nanB (canon x) = nanB x := by
  unfold canon
  by_cases h : nanB x
  · simp only [h, if_true]; rfl
  · simp [h]
theorem rank_lt {x : Nat} (h : x < 18446744073709551616) : rank x < 18446744073709551616 := by have := canon_lt h; unfold rank; split <;> omega
theorem rank_canon (x : Nat) : rank (canon x) = rank x := by unfold rank; rw [canon_canon]
theorem rank_inj {x y : Nat} (hx : x < 18446744073709551616) (hy : y < 18446744073709551616) (h : rank x = rank y) : canon x = canon y := by
  have := canon_lt hx; have := canon_lt hy; unfold rank at h; split at h <;> split at h <;> omega

/-- The magnitude of a rung, in units of the least. -/
def val (r : Nat) : Nat := if r / 4503599627370496 = 0 then r % 4503599627370496 else (4503599627370496 + r % 4503599627370496) * 2 ^ (r / 4503599627370496 - 1)
theorem val_small {r : Nat} (h : r < 4503599627370496) : val r = r := by unfold val; rw [if_pos (by omega)]; omega
theorem val_step (r : Nat) : val r < val (r + 1) := by
  unfold val
  by_cases h0 : r / 4503599627370496 = 0
  · rw [if_pos h0]
    by_cases h1 : (r + 1) / 4503599627370496 = 0
    · rw [if_pos h1]; omega
    · rw [if_neg h1]
      have e : (r + 1) / 4503599627370496 = 1 := by omega
      rw [e]; simp; omega
  · rw [if_neg h0, if_neg (by omega)]
    by_cases h1 : (r + 1) / 4503599627370496 = r / 4503599627370496
    · rw [h1]
      exact Nat.mul_lt_mul_of_pos_right (by omega) (Nat.two_pow_pos _)
    · have e : (r + 1) / 4503599627370496 - 1 = (r / 4503599627370496 - 1) + 1 := by omega
      rw [e, Nat.pow_succ]
      have p := Nat.two_pow_pos (r / 4503599627370496 - 1)
      generalize 2 ^ (r / 4503599627370496 - 1) = q at *
      have a1 : r % 4503599627370496 = 4503599627370495 := by omega
      have a2 : (r + 1) % 4503599627370496 = 0 := by omega
      rw [a1, a2]
      omega
theorem val_lt {r s : Nat} (h : r < s) : val r < val s := by
  induction s with
  | zero => omega
  | succ s ih =>
    by_cases e : r = s
    · subst e; exact val_step r
    · exact Nat.lt_trans (ih (by omega)) (val_step s)
theorem val_zero : val 0 = 0 := by decide
theorem val_pos {r : Nat} (h : 0 < r) : 0 < val r := by have := val_lt h; rw [val_zero] at this; exact this
theorem val_inj {r s : Nat} (h : val r = val s) : r = s := by
  rcases Nat.lt_trichotomy r s with k | k | k
  · have := val_lt k; omega
  · exact k
  · have := val_lt k; omega
theorem val_le {r s : Nat} : val r ≤ val s ↔ r ≤ s := by
  constructor
  · intro h
    rcases Nat.lt_or_ge s r with k | k
    · have := val_lt k; omega
    · exact k
  · intro h
    rcases Nat.lt_or_ge r s with k | k
    · exact Nat.le_of_lt (val_lt k)
    · have : r = s := by omega
      subst this; exact Nat.le_refl _

def negB (x : Nat) : Bool := x / 9223372036854775808 % 2 == 1
def rung (x : Nat) : Nat := x % 9223372036854775808
def sval (x : Nat) : Int := if negB x then -(val (rung x) : Int) else (val (rung x) : Int)

open Ieee in
theorem read_eq (x : Nat) : double.read x = if rung x < 4503599627370496 then .number (negB x) (rung x) (-1074) else if rung x < 9218868437227405312 then .number (negB x) (4503599627370496 + rung x % 4503599627370496) (-1074 + (rung x / 4503599627370496 - 1 : Nat)) else if rung x = 9218868437227405312 then .infinity (negB x) else .nan (negB x) (rung x - 9218868437227405312) := by
  have h1 : double.signWeight = 9223372036854775808 := by decide
  have h2 : double.binade = 4503599627370496 := by decide
  have h3 : double.infRung = 9218868437227405312 := by decide
  have h4 : double.leastPlace = -1074 := by decide
  unfold Format.read
  rw [h1, h2, h3, h4]
  rfl
open Ieee in
theorem read_nan {x : Nat} (h : nanB x = true) : double.read x = .nan (negB x) (rung x - 9218868437227405312) := by
  have h := of_decide_eq_true h
  rw [read_eq, if_neg (by unfold rung; omega), if_neg (by unfold rung; omega), if_neg (by unfold rung; omega)]
open Ieee in
/-- A finite number's reading. -/
theorem read_fin {x : Nat} (h : rung x < 9218868437227405312) : ∃ m p : Nat, double.read x = .number (negB x) m (-1074 + (p : Int)) ∧ val (rung x) = m * 2 ^ p ∧ (m = 0 ↔ rung x = 0) := by
  rw [read_eq]
  by_cases h0 : rung x < 4503599627370496
  · rw [if_pos h0]
    exact ⟨rung x, 0, by simp, by rw [val_small h0]; simp, Iff.rfl⟩
  · rw [if_neg h0, if_pos h]
    refine ⟨_, _, rfl, ?_, by omega⟩
    unfold val
    rw [if_neg (by omega)]
open Ieee in
theorem read_inf {x : Nat} (h : rung x = 9218868437227405312) : double.read x = .infinity (negB x) := by
  rw [read_eq, if_neg (by omega), if_neg (by omega), if_pos h]

theorem compare_mul (a b : Int) (k : Nat) (hk : 0 < k) : compare (a * k) (b * k) = compare a b := by
  have hk' : (0 : Int) < k := by omega
  rcases Int.lt_trichotomy a b with h | h | h
  · rw [Int.compare_eq_lt.2 h, Int.compare_eq_lt.2 (Int.mul_lt_mul_of_pos_right h hk')]
  · subst h; simp
  · rw [Int.compare_eq_gt.2 h, Int.compare_eq_gt.2 (Int.mul_lt_mul_of_pos_right h hk')]

theorem signed_mul (s : Bool) (m u k : Nat) : Ieee.signed s m (u + k) = Ieee.signed s m u * (2 ^ k : Nat) := by
  unfold Ieee.signed
  simp only [Nat.shiftLeft_eq, Nat.pow_add]
  split
  · rw [← Nat.mul_assoc]; push_cast; rw [Int.neg_mul]
  · rw [← Nat.mul_assoc]; push_cast; rfl
theorem signed_val (x m p : Nat) (h : val (rung x) = m * 2 ^ p) : Ieee.signed (negB x) m p = sval x := by
  unfold Ieee.signed sval
  rw [Nat.shiftLeft_eq, h]

open Ieee in
theorem order_fin {x y : Nat} (hx : rung x < 9218868437227405312) (hy : rung y < 9218868437227405312) : double.order x y = some (compare (sval x) (sval y)) := by
  obtain ⟨m, p, h1, h2, _⟩ := read_fin hx
  obtain ⟨n, q, k1, k2, _⟩ := read_fin hy
  unfold Format.order
  rw [h1, k1]
  unfold Datum.order
  simp only
  congr 1
  rw [← signed_val x m p h2, ← signed_val y n q k2]
  rcases Nat.le_total p q with h | h
  · have e1 : (-1074 + (p : Int) - min (-1074 + (p : Int)) (-1074 + (q : Int))).toNat = 0 := by omega
    have e2 : (-1074 + (q : Int) - min (-1074 + (p : Int)) (-1074 + (q : Int))).toNat = q - p := by omega
    rw [e1, e2, ← compare_mul _ _ (2 ^ p) (Nat.two_pow_pos _), ← signed_mul, ← signed_mul]
    congr 2 <;> omega
  · have e1 : (-1074 + (p : Int) - min (-1074 + (p : Int)) (-1074 + (q : Int))).toNat = p - q := by omega
    have e2 : (-1074 + (q : Int) - min (-1074 + (p : Int)) (-1074 + (q : Int))).toNat = 0 := by omega
    rw [e1, e2, ← compare_mul _ _ (2 ^ q) (Nat.two_pow_pos _), ← signed_mul, ← signed_mul]
    congr 2 <;> omega

open Ieee in
/-- THE ORDER: of two numbers that are numbers, that of their signed magnitudes. -/
theorem order_num {x y : Nat} (hx : nanB x = false) (hy : nanB y = false) : double.order x y = some (compare (sval x) (sval y)) := by
  have hx := of_decide_eq_false hx
  have hy := of_decide_eq_false hy
  have hx' : rung x ≤ 9218868437227405312 := by unfold rung; omega
  have hy' : rung y ≤ 9218868437227405312 := by unfold rung; omega
  by_cases ix : rung x = 9218868437227405312 <;> by_cases iy : rung y = 9218868437227405312
  · unfold Format.order; rw [read_inf ix, read_inf iy]; unfold Datum.order sval; rw [ix, iy]
    have hv := val_pos (r := 9218868437227405312) (by omega)
    generalize val 9218868437227405312 = V at *
    cases negB x <;> cases negB y <;> simp
    · rw [eq_comm]; exact Int.compare_eq_gt.2 (by omega)
    · rw [eq_comm]; exact Int.compare_eq_lt.2 (by omega)
  · have hv : rung y < 9218868437227405312 := by omega
    obtain ⟨m, p, h1, h2, _⟩ := read_fin hv
    unfold Format.order; rw [read_inf ix, h1]; unfold Datum.order sval; rw [ix]
    have hl := val_lt hv
    cases negB x <;> cases negB y <;> simp
    all_goals (rw [eq_comm]; first | exact Int.compare_eq_gt.2 (by omega) | exact Int.compare_eq_lt.2 (by omega))
  · have hv : rung x < 9218868437227405312 := by omega
    obtain ⟨m, p, h1, h2, _⟩ := read_fin hv
    unfold Format.order; rw [read_inf iy, h1]; unfold Datum.order sval; rw [iy]
    have hl := val_lt hv
    cases negB x <;> cases negB y <;> simp
    all_goals (rw [eq_comm]; first | exact Int.compare_eq_gt.2 (by omega) | exact Int.compare_eq_lt.2 (by omega))
  · exact order_fin (by omega) (by omega)
open Ieee in
theorem order_nan_left {x : Nat} (y : Nat) (h : nanB x = true) : double.order x y = none := by
  unfold Format.order; rw [read_nan h]; rfl
open Ieee in
theorem order_nan_right {y : Nat} (x : Nat) (h : nanB y = true) : double.order x y = none := by
  unfold Format.order; rw [read_nan h]; unfold Datum.order; split <;> first | rfl | (rename_i h1 h2; cases h2) | simp_all
open Ieee in
theorem order_self (x : Nat) : (double.order x x != some .eq) = nanB x := by
  cases h : nanB x with
  | true => rw [order_nan_left x h]; rfl
  | false => rw [order_num h h]; simp
end Go.Proofs.Ytejkilgpcbdepaa
