import Ieee.Arith
import Derived.Laws.FloatBits
import Derived.Laws.FloatArith
import Derived.Laws.Entries
import Derived.IntWalk
import Derived.Test.YthplelglifnhoaaBase
import Derived.Laws.Externs
import Derived.WalkLawsBesides
/-! The numbers' plain law: bits, ranks, and the order, with no program in sight. -/
namespace Go.Proofs.Ythplelglifnhoaa
set_option linter.unusedVariables false

/-- Is it no number? -/
def nanB (x : Nat) : Bool := decide (9218868437227405312 < x % 9223372036854775808)
def canon (x : Nat) : Nat := if nanB x then 9221120237041090560 else x
def rank (x : Nat) : Nat := if 9223372036854775808 ≤ canon x then 18446744073709551615 - canon x else canon x + 9223372036854775808
theorem canon_lt {x : Nat} (h : x < 18446744073709551616) : canon x < 18446744073709551616 := by unfold canon; split <;> omega
theorem canon_canon (x : Nat) : canon (canon x) = canon x := by
  unfold canon
  by_cases h : nanB x
  · simp only [h, if_true]; rfl
  · simp only [h]; simp [h]
theorem nanB_canon (x : Nat) : nanB (canon x) = nanB x := by
  unfold canon
  by_cases h : nanB x
  · simp only [h, if_true]; rfl
  · simp [h]
theorem rank_lt {x : Nat} (h : x < 18446744073709551616) : rank x < 18446744073709551616 := by have := canon_lt h; unfold rank; split <;> omega
theorem rank_canon (x : Nat) : rank (canon x) = rank x := by unfold rank; rw [canon_canon]
theorem rank_inj {x y : Nat} (hx : x < 18446744073709551616) (hy : y < 18446744073709551616) (h : rank x = rank y) : canon x = canon y := by
  have := canon_lt hx; have := canon_lt hy; unfold rank at h; split at h <;> split at h <;> omega

/-- The magnitude of a rung, in units of the least. -/
def val (r : Nat) : Nat := if r / 4503599627370496 = 0 then r % 4503599627370496 else (4503599627370496 + r % 4503599627370496) * 2 ^ (r / 4503599627370496 - 1)
theorem val_small {r : Nat} (h : r < 4503599627370496) : val r = r := by unfold val; rw [if_pos (by omega)]; omega
theorem val_step (r : Nat) : val r < val (r + 1) := by
  unfold val
  by_cases h0 : r / 4503599627370496 = 0
  · rw [if_pos h0]
    by_cases h1 : (r + 1) / 4503599627370496 = 0
    · rw [if_pos h1]; omega
    · rw [if_neg h1]
      have e : (r + 1) / 4503599627370496 = 1 := by omega
      rw [e]; simp; omega
  · rw [if_neg h0, if_neg (by omega)]
    by_cases h1 : (r + 1) / 4503599627370496 = r / 4503599627370496
    · rw [h1]
      exact Nat.mul_lt_mul_of_pos_right (by omega) (Nat.two_pow_pos _)
    · have e : (r + 1) / 4503599627370496 - 1 = (r / 4503599627370496 - 1) + 1 := by omega
      rw [e, Nat.pow_succ]
      have p := Nat.two_pow_pos (r / 4503599627370496 - 1)
      generalize 2 ^ (r / 4503599627370496 - 1) = q at *
      have a1 : r % 4503599627370496 = 4503599627370495 := by omega
      have a2 : (r + 1) % 4503599627370496 = 0 := by omega
      rw [a1, a2]
      omega
theorem val_lt {r s : Nat} (h : r < s) : val r < val s := by
  induction s with
  | zero => omega
  | succ s ih =>
    by_cases e : r = s
    · subst e; exact val_step r
    · exact Nat.lt_trans (ih (by omega)) (val_step s)
theorem val_zero : val 0 = 0 := by decide
theorem val_pos {r : Nat} (h : 0 < r) : 0 < val r := by have := val_lt h; rw [val_zero] at this; exact this
theorem val_inj {r s : Nat} (h : val r = val s) : r = s := by
  rcases Nat.lt_trichotomy r s with k | k | k
  · have := val_lt k; omega
  · exact k
  · have := val_lt k; omega
theorem val_le {r s : Nat} : val r ≤ val s ↔ r ≤ s := by
  constructor
  · intro h
    rcases Nat.lt_or_ge s r with k | k
    · have := val_lt k; omega
    · exact k
  · intro h
    rcases Nat.lt_or_ge r s with k | k
    · exact Nat.le_of_lt (val_lt k)
    · have : r = s := by omega
      subst this; exact Nat.le_refl _

def negB (x : Nat) : Bool := x / 9223372036854775808 % 2 == 1
def rung (x : Nat) : Nat := x % 9223372036854775808
def sval (x : Nat) : Int := if negB x then -(val (rung x) : Int) else (val (rung x) : Int)

open Ieee in
theorem read_eq (x : Nat) : double.read x = if rung x < 4503599627370496 then .number (negB x) (rung x) (-1074) else if rung x < 9218868437227405312 then .number (negB x) (4503599627370496 + rung x % 4503599627370496) (-1074 + (rung x / 4503599627370496 - 1 : Nat)) else if rung x = 9218868437227405312 then .infinity (negB x) else .nan (negB x) (rung x - 9218868437227405312) := by
  have h1 : double.signWeight = 9223372036854775808 := by decide
  have h2 : double.binade = 4503599627370496 := by decide
  have h3 : double.infRung = 9218868437227405312 := by decide
  have h4 : double.leastPlace = -1074 := by decide
  unfold Format.read
  rw [h1, h2, h3, h4]
  rfl
open Ieee in
theorem read_nan {x : Nat} (h : nanB x = true) : double.read x = .nan (negB x) (rung x - 9218868437227405312) := by
  have h := of_decide_eq_true h
  rw [read_eq, if_neg (by unfold rung; omega), if_neg (by unfold rung; omega), if_neg (by unfold rung; omega)]
open Ieee in
/-- A finite number's reading. -/
theorem read_fin {x : Nat} (h : rung x < 9218868437227405312) : ∃ m p : Nat, double.read x = .number (negB x) m (-1074 + (p : Int)) ∧ val (rung x) = m * 2 ^ p ∧ (m = 0 ↔ rung x = 0) := by
  rw [read_eq]
  by_cases h0 : rung x < 4503599627370496
  · rw [if_pos h0]
    exact ⟨rung x, 0, by simp, by rw [val_small h0]; simp, Iff.rfl⟩
  · rw [if_neg h0, if_pos h]
    refine ⟨_, _, rfl, ?_, by omega⟩
    unfold val
    rw [if_neg (by omega)]
open Ieee in
theorem read_inf {x : Nat} (h : rung x = 9218868437227405312) : double.read x = .infinity (negB x) := by
  rw [read_eq, if_neg (by omega), if_neg (by omega), if_pos h]

theorem compare_mul (a b : Int) (k : Nat) (hk : 0 < k) : compare (a * k) (b * k) = compare a b := by
  have hk' : (0 : Int) < k := by omega
  rcases Int.lt_trichotomy a b with h | h | h
  · rw [Int.compare_eq_lt.2 h, Int.compare_eq_lt.2 (Int.mul_lt_mul_of_pos_right h hk')]
  · subst h; simp
  · rw [Int.compare_eq_gt.2 h, Int.compare_eq_gt.2 (Int.mul_lt_mul_of_pos_right h hk')]

theorem signed_mul (s : Bool) (m u k : Nat) : Ieee.signed s m (u + k) = Ieee.signed s m u * (2 ^ k : Nat) := by
  unfold Ieee.signed
  simp only [Nat.shiftLeft_eq, Nat.pow_add]
  split
  · rw [← Nat.mul_assoc]; push_cast; rw [Int.neg_mul]
  · rw [← Nat.mul_assoc]; push_cast; rfl
theorem signed_val (x m p : Nat) (h : val (rung x) = m * 2 ^ p) : Ieee.signed (negB x) m p = sval x := by
  unfold Ieee.signed sval
  rw [Nat.shiftLeft_eq, h]

open Ieee in
theorem order_fin {x y : Nat} (hx : rung x < 9218868437227405312) (hy : rung y < 9218868437227405312) : double.order x y = some (compare (sval x) (sval y)) := by
  obtain ⟨m, p, h1, h2, _⟩ := read_fin hx
  obtain ⟨n, q, k1, k2, _⟩ := read_fin hy
  unfold Format.order
  rw [h1, k1]
  unfold Datum.order
  simp only
  congr 1
  rw [← signed_val x m p h2, ← signed_val y n q k2]
  rcases Nat.le_total p q with h | h
  · have e1 : (-1074 + (p : Int) - min (-1074 + (p : Int)) (-1074 + (q : Int))).toNat = 0 := by omega
    have e2 : (-1074 + (q : Int) - min (-1074 + (p : Int)) (-1074 + (q : Int))).toNat = q - p := by omega
    rw [e1, e2, ← compare_mul _ _ (2 ^ p) (Nat.two_pow_pos _), ← signed_mul, ← signed_mul]
    congr 2 <;> omega
  · have e1 : (-1074 + (p : Int) - min (-1074 + (p : Int)) (-1074 + (q : Int))).toNat = p - q := by omega
    have e2 : (-1074 + (q : Int) - min (-1074 + (p : Int)) (-1074 + (q : Int))).toNat = 0 := by omega
    rw [e1, e2, ← compare_mul _ _ (2 ^ q) (Nat.two_pow_pos _), ← signed_mul, ← signed_mul]
    congr 2 <;> omega

open Ieee in
/-- THE ORDER: of two numbers that are numbers, that of their signed magnitudes. -/
theorem order_num {x y : Nat} (hx : nanB x = false) (hy : nanB y = false) : double.order x y = some (compare (sval x) (sval y)) := by
  have hx := of_decide_eq_false hx
  have hy := of_decide_eq_false hy
  have hx' : rung x ≤ 9218868437227405312 := by unfold rung; omega
  have hy' : rung y ≤ 9218868437227405312 := by unfold rung; omega
  by_cases ix : rung x = 9218868437227405312 <;> by_cases iy : rung y = 9218868437227405312
  · unfold Format.order; rw [read_inf ix, read_inf iy]; unfold Datum.order sval; rw [ix, iy]
    have hv := val_pos (r := 9218868437227405312) (by omega)
    generalize val 9218868437227405312 = V at *
    cases negB x <;> cases negB y <;> simp
    · rw [eq_comm]; exact Int.compare_eq_gt.2 (by omega)
    · rw [eq_comm]; exact Int.compare_eq_lt.2 (by omega)
  · have hv : rung y < 9218868437227405312 := by omega
    obtain ⟨m, p, h1, h2, _⟩ := read_fin hv
    unfold Format.order; rw [read_inf ix, h1]; unfold Datum.order sval; rw [ix]
    have hl := val_lt hv
    cases negB x <;> cases negB y <;> simp
    all_goals (rw [eq_comm]; first | exact Int.compare_eq_gt.2 (by omega) | exact Int.compare_eq_lt.2 (by omega))
  · have hv : rung x < 9218868437227405312 := by omega
    obtain ⟨m, p, h1, h2, _⟩ := read_fin hv
    unfold Format.order; rw [read_inf iy, h1]; unfold Datum.order sval; rw [iy]
    have hl := val_lt hv
    cases negB x <;> cases negB y <;> simp
    all_goals (rw [eq_comm]; first | exact Int.compare_eq_gt.2 (by omega) | exact Int.compare_eq_lt.2 (by omega))
  · exact order_fin (by omega) (by omega)
open Ieee in
theorem order_nan_left {x : Nat} (y : Nat) (h : nanB x = true) : double.order x y = none := by
  unfold Format.order; rw [read_nan h]; rfl
open Ieee in
theorem order_nan_right {y : Nat} (x : Nat) (h : nanB y = true) : double.order x y = none := by
  unfold Format.order; rw [read_nan h]; unfold Datum.order; split <;> first | rfl | (rename_i h1 h2; cases h2) | simp_all
open Ieee in
theorem order_self (x : Nat) : (double.order x x != some .eq) = nanB x := by
  cases h : nanB x with
  | true => rw [order_nan_left x h]; rfl
  | false => rw [order_num h h]; simp
end Go.Proofs.Ythplelglifnhoaa
/-! Bits of words of 64, as natural numbers. -/
namespace Go.Proofs.Ythplelglifnhoaa

theorem ofInt_nat (a : Nat) (h : a < 18446744073709551616) : (BitVec.ofInt 64 (a : Int)).toNat = a := by
  rw [BitVec.ofInt_natCast, BitVec.toNat_ofNat]; exact Nat.mod_eq_of_lt (by omega)
theorem and64 (a b : Nat) (ha : a < 18446744073709551616) (hb : b < 18446744073709551616) : bits .and .u64 (a : Int) (b : Int) = ((a &&& b : Nat) : Int) := by
  have hx : a &&& b < 2 ^ 64 := Nat.and_lt_two_pow _ (by omega)
  show IntKind.u64.wrap ((BitVec.ofInt 64 (a : Int) &&& BitVec.ofInt 64 (b : Int)).toNat : Int) = _
  rw [BitVec.toNat_and, ofInt_nat a ha, ofInt_nat b hb]; exact IntWalk.u64_in _ (by omega)
theorem or64 (a b : Nat) (ha : a < 18446744073709551616) (hb : b < 18446744073709551616) : bits .or .u64 (a : Int) (b : Int) = ((a ||| b : Nat) : Int) := by
  have hx : a ||| b < 2 ^ 64 := Nat.or_lt_two_pow (by omega) (by omega)
  show IntKind.u64.wrap ((BitVec.ofInt 64 (a : Int) ||| BitVec.ofInt 64 (b : Int)).toNat : Int) = _
  rw [BitVec.toNat_or, ofInt_nat a ha, ofInt_nat b hb]; exact IntWalk.u64_in _ (by omega)
theorem xor64 (a b : Nat) (ha : a < 18446744073709551616) (hb : b < 18446744073709551616) : bits .xor .u64 (a : Int) (b : Int) = ((a ^^^ b : Nat) : Int) := by
  have hx : a ^^^ b < 2 ^ 64 := Nat.xor_lt_two_pow (by omega) (by omega)
  show IntKind.u64.wrap ((BitVec.ofInt 64 (a : Int) ^^^ BitVec.ofInt 64 (b : Int)).toNat : Int) = _
  rw [BitVec.toNat_xor, ofInt_nat a ha, ofInt_nat b hb]; exact IntWalk.u64_in _ (by omega)
theorem not64 (b : Nat) (hb : b < 18446744073709551616) : bits .xor .u64 IntKind.u64.max (b : Int) = ((18446744073709551615 - b : Nat) : Int) := by
  show IntKind.u64.wrap ((BitVec.ofInt 64 18446744073709551615 ^^^ BitVec.ofInt 64 (b : Int)).toNat : Int) = _
  have e : BitVec.ofInt 64 18446744073709551615 ^^^ BitVec.ofInt 64 (b : Int) = ~~~ (BitVec.ofInt 64 (b : Int)) := by
    rw [show BitVec.ofInt 64 18446744073709551615 = BitVec.allOnes 64 by decide, BitVec.allOnes_xor]
  rw [e, BitVec.toNat_not, ofInt_nat b hb, IntWalk.u64_in _ (by omega)]
theorem or_high (b : Nat) (h : b < 9223372036854775808) : bits .or .u64 (b : Int) 9223372036854775808 = ((b + 9223372036854775808 : Nat) : Int) := by
  rw [show (9223372036854775808 : Int) = ((9223372036854775808 : Nat) : Int) from rfl, or64 _ _ (by omega) (by omega)]
  have := Nat.two_pow_add_eq_or_of_lt (i := 63) (b := b) (by omega) 1
  rw [Nat.or_comm, show (9223372036854775808 : Nat) = 2 ^ 63 * 1 by decide, ← this]; omega
theorem or_52 (b : Nat) (h : b < 4503599627370496) : bits .or .u64 (b : Int) 4503599627370496 = ((b + 4503599627370496 : Nat) : Int) := by
  rw [show (4503599627370496 : Int) = ((4503599627370496 : Nat) : Int) from rfl, or64 _ _ (by omega) (by omega)]
  have := Nat.two_pow_add_eq_or_of_lt (i := 52) (b := b) (by omega) 1
  rw [Nat.or_comm, show (4503599627370496 : Nat) = 2 ^ 52 * 1 by decide, ← this]; omega
theorem and_52 (b : Nat) (h : b < 18446744073709551616) : bits .and .u64 (b : Int) 4503599627370495 = ((b % 4503599627370496 : Nat) : Int) := by
  rw [show (4503599627370495 : Int) = ((2 ^ 52 - 1 : Nat) : Int) from rfl, and64 _ _ h (by omega), Nat.and_two_pow_sub_one_eq_mod]
theorem and_11 (b : Nat) (h : b < 18446744073709551616) : bits .and .u64 (b : Int) 2047 = ((b % 2048 : Nat) : Int) := by
  rw [show (2047 : Int) = ((2 ^ 11 - 1 : Nat) : Int) from rfl, and64 _ _ h (by omega), Nat.and_two_pow_sub_one_eq_mod]
end Go.Proofs.Ythplelglifnhoaa
/-! The order of numbers by their rungs. -/
namespace Go.Proofs.Ythplelglifnhoaa
set_option linter.unusedVariables false

def skey (x : Nat) : Int := if 9223372036854775808 ≤ x then -((x % 9223372036854775808 : Nat) : Int) else ((x % 9223372036854775808 : Nat) : Int)
theorem negB_eq {x : Nat} (h : x < 18446744073709551616) : negB x = decide (9223372036854775808 ≤ x) := by unfold negB; rw [Bool.eq_iff_iff]; simp; omega
theorem compare_key {x y : Nat} (hx : x < 18446744073709551616) (hy : y < 18446744073709551616) : compare (sval x) (sval y) = compare (skey x) (skey y) := by
  have v0 := val_zero
  have px : rung x = 0 ∨ 0 < val (rung x) := by
    rcases Nat.eq_zero_or_pos (rung x) with h | h
    · exact Or.inl h
    · exact Or.inr (val_pos h)
  have py : rung y = 0 ∨ 0 < val (rung y) := by
    rcases Nat.eq_zero_or_pos (rung y) with h | h
    · exact Or.inl h
    · exact Or.inr (val_pos h)
  have tri : (rung x < rung y ∧ val (rung x) < val (rung y)) ∨ rung x = rung y ∨ (rung y < rung x ∧ val (rung y) < val (rung x)) := by
    rcases Nat.lt_trichotomy (rung x) (rung y) with h | h | h
    · exact Or.inl ⟨h, val_lt h⟩
    · exact Or.inr (Or.inl h)
    · exact Or.inr (Or.inr ⟨h, val_lt h⟩)
  have zx : rung x = 0 → val (rung x) = 0 := fun h => by rw [h]; exact v0
  have zy : rung y = 0 → val (rung y) = 0 := fun h => by rw [h]; exact v0
  have ev : rung x = rung y → val (rung x) = val (rung y) := fun h => by rw [h]
  unfold sval skey
  rw [negB_eq hx, negB_eq hy]
  change compare _ _ = compare (if 9223372036854775808 ≤ x then -((rung x : Nat) : Int) else ((rung x : Nat) : Int)) (if 9223372036854775808 ≤ y then -((rung y : Nat) : Int) else ((rung y : Nat) : Int))
  generalize val (rung x) = a at *
  generalize val (rung y) = b at *
  generalize rung x = r at *
  generalize rung y = s at *
  simp only [decide_eq_true_eq]
  have both : ∀ (p q p' q' : Int), (p < q ↔ p' < q') → (p = q ↔ p' = q') → compare p q = compare p' q' := fun p q p' q' h1 h2 => by
    rcases Int.lt_trichotomy p q with h | h | h
    · rw [Int.compare_eq_lt.2 h, Int.compare_eq_lt.2 (h1.1 h)]
    · rw [Int.compare_eq_eq.2 h, Int.compare_eq_eq.2 (h2.1 h)]
    · rw [Int.compare_eq_gt.2 h, Int.compare_eq_gt.2 (by omega)]
  apply both
  · split <;> split <;> omega
  · split <;> split <;> omega
theorem order_key {x y : Nat} (hx : x < 18446744073709551616) (hy : y < 18446744073709551616) (nx : nanB x = false) (ny : nanB y = false) : Ieee.double.order x y = some (compare (skey x) (skey y)) := by
  rw [order_num nx ny, compare_key hx hy]
theorem order_eq {x y : Nat} (hx : x < 18446744073709551616) (hy : y < 18446744073709551616) (nx : nanB x = false) (ny : nanB y = false) : (FloatKind.f64.format.order x y == some .eq) = decide (skey x = skey y) := by
  show (Ieee.double.order x y == some .eq) = _
  rw [order_key hx hy nx ny, Bool.eq_iff_iff]; simp
theorem order_lt {x y : Nat} (hx : x < 18446744073709551616) (hy : y < 18446744073709551616) (nx : nanB x = false) (ny : nanB y = false) : (FloatKind.f64.format.order x y == some .lt) = decide (skey x < skey y) := by
  show (Ieee.double.order x y == some .lt) = _
  rw [order_key hx hy nx ny, Bool.eq_iff_iff]; simp [Int.compare_eq_lt]
theorem order_gt {x y : Nat} (hx : x < 18446744073709551616) (hy : y < 18446744073709551616) (nx : nanB x = false) (ny : nanB y = false) : (FloatKind.f64.format.order x y == some .gt) = decide (skey y < skey x) := by
  show (Ieee.double.order x y == some .gt) = _
  rw [order_key hx hy nx ny, Bool.eq_iff_iff]; simp [Int.compare_eq_gt]
/-- Is it infinite? -/
def infB (x : Nat) : Bool := decide (x % 9223372036854775808 = 9218868437227405312)
theorem inf_gt {x : Nat} (hx : x < 18446744073709551616) : (FloatKind.f64.format.order (x % 9223372036854775808) 9218868437227405311 == some .gt) = infB x := by
  by_cases h : nanB (x % 9223372036854775808)
  · show (Ieee.double.order _ _ == some .gt) = _
    rw [order_nan_left _ h]
    have := of_decide_eq_true h
    unfold infB
    rw [eq_comm]
    exact decide_eq_false (by omega)
  · rw [order_gt (by omega) (by omega) (by simpa using h) (by decide)]
    have h' := of_decide_eq_false (Bool.eq_false_iff.2 h)
    unfold infB skey
    rw [Bool.eq_iff_iff]
    simp only [decide_eq_true_eq]
    rw [if_neg (by omega), if_neg (by omega)]
    omega
/-- A sign taken off. -/
theorem andNot_high (x : Nat) (hx : x < 18446744073709551616) : bits .andNot .u64 (x : Int) 9223372036854775808 = ((x % 9223372036854775808 : Nat) : Int) := by
  have e : (BitVec.ofInt 64 (x : Int)).toNat = x := by rw [BitVec.ofInt_natCast, BitVec.toNat_ofNat]; exact Nat.mod_eq_of_lt (by omega)
  show IntKind.u64.wrap ((BitVec.ofInt 64 (x : Int) &&& ~~~ BitVec.ofInt 64 9223372036854775808).toNat : Int) = _
  rw [show (~~~ BitVec.ofInt 64 9223372036854775808 : BitVec 64) = BitVec.ofNat 64 (2 ^ 63 - 1) by decide, BitVec.toNat_and, e, BitVec.toNat_ofNat, Nat.mod_eq_of_lt (by omega), Nat.and_two_pow_sub_one_eq_mod, IntWalk.u64_in _ (by omega)]
end Go.Proofs.Ythplelglifnhoaa
/-! What is exact is not rounded. -/
namespace Go.Proofs.Ythplelglifnhoaa
set_option linter.unusedVariables false
open Ieee

/-- A rung's whole number and power. -/
def magOf (r : Nat) : Nat := if r < 4503599627370496 then r else 4503599627370496 + r % 4503599627370496
def upOf (r : Nat) : Nat := r / 4503599627370496 - 1
theorem mag_up (r : Nat) : upOf r * 4503599627370496 + magOf r = r := by unfold upOf magOf; split <;> omega
theorem mag_lt (r : Nat) : magOf r < 9007199254740992 := by unfold magOf; split <;> omega
theorem mag_pos {r : Nat} (h : 0 < r) : 0 < magOf r := by unfold magOf; split <;> omega
theorem mag_big (r : Nat) : upOf r = 0 ∨ 4503599627370496 ≤ magOf r := by unfold upOf magOf; split <;> omega
theorem val_mag (r : Nat) : val r = magOf r * 2 ^ upOf r := by
  unfold val magOf upOf
  by_cases h : r < 4503599627370496
  · rw [if_pos (by omega), if_pos h, show r / 4503599627370496 - 1 = 0 by omega]; omega
  · rw [if_neg (by omega), if_neg h]
theorem read_mag {x : Nat} (h : rung x < 9218868437227405312) : double.read x = .number (negB x) (magOf (rung x)) (-1074 + (upOf (rung x) : Int)) := by
  rw [read_eq]
  by_cases h0 : rung x < 4503599627370496
  · rw [if_pos h0]; unfold magOf upOf; rw [if_pos h0, show rung x / 4503599627370496 - 1 = 0 by omega]; rfl
  · rw [if_neg h0, if_pos h]; unfold magOf upOf; rw [if_neg h0]

theorem cut_exact (neg : Bool) (M b : Nat) (hM : 0 < M) : Toward.even.cut neg (M * 2 ^ b) b = M := by
  unfold Toward.cut
  have hl : b ≤ (M * 2 ^ b).log2 + 2 := by
    have h1 : 2 ^ b ≤ M * 2 ^ b := Nat.le_mul_of_pos_left _ hM
    have h2 : M * 2 ^ b ≠ 0 := Nat.ne_of_gt (Nat.mul_pos hM (Nat.two_pow_pos _))
    have := (Nat.le_log2 h2).2 h1
    omega
  have hg : 1 <<< min b ((M * 2 ^ b).log2 + 2) = 2 ^ b := by rw [Nat.min_eq_left hl, Nat.shiftLeft_eq, Nat.one_mul]
  simp only [hg]
  rw [Nat.mul_div_cancel _ (Nat.two_pow_pos b), Nat.mul_mod_left]
  have hp := Nat.two_pow_pos b
  have h1 : decide (2 ^ b < 2 * 0) = false := by simp
  have h2 : (2 ^ b == 2 * 0) = false := by rw [beq_eq_false_iff_ne]; omega
  simp

theorem log2_mul (M b : Nat) (hM : 0 < M) : (M * 2 ^ b).log2 = M.log2 + b := by
  have h2 : M * 2 ^ b ≠ 0 := Nat.ne_of_gt (Nat.mul_pos hM (Nat.two_pow_pos _))
  rw [Nat.log2_eq_iff h2]
  have h0 : M ≠ 0 := by omega
  have := (Nat.log2_eq_iff h0).1 rfl
  rw [Nat.pow_add, show M.log2 + b + 1 = M.log2 + 1 + b by omega, Nat.pow_add _ (M.log2 + 1)]
  exact ⟨Nat.mul_le_mul_right _ this.1, Nat.mul_lt_mul_of_pos_right this.2 (Nat.two_pow_pos _)⟩

/-- WHAT IS EXACT IS NOT ROUNDED: a number that is some rung's own is that rung's word. -/
theorem nearest_exact (neg : Bool) (r mag a b : Nat) (h0 : 0 < r) (hr : r < 9218868437227405312) (h : mag * 2 ^ a = magOf r * 2 ^ b) :
    double.nearest neg mag (-1074 + (upOf r : Int) + (a : Int) - (b : Int)) = double.word neg r := by
  have hM := mag_pos h0
  have hm : 0 < mag := by
    rcases Nat.eq_zero_or_pos mag with e | e
    · rw [e, Nat.zero_mul] at h
      have := Nat.mul_pos hM (Nat.two_pow_pos b)
      omega
    · exact e
  have hlog : mag.log2 + a = (magOf r).log2 + b := by rw [← log2_mul _ _ hm, ← log2_mul _ _ hM, h]
  have hlM : (magOf r).log2 ≤ 52 := by
    have := (Nat.log2_lt (n := magOf r) (k := 53) (by omega)).2 (mag_lt r)
    omega
  have hbig : upOf r = 0 ∨ (magOf r).log2 = 52 := by
    rcases mag_big r with e | e
    · exact Or.inl e
    · right
      have := (Nat.le_log2 (n := magOf r) (k := 52) (by omega)).2 e
      omega
  unfold Format.nearest
  rw [if_neg (by omega)]
  have e1 : double.leastPlace = -1074 := by decide
  have e2 : double.infRung = 9218868437227405312 := by decide
  have e3 : double.binade = 4503599627370496 := by decide
  have e4 : (double.fractionBits : Int) = 52 := by decide
  simp only [e1, e2, e3, e4]
  have hlast : max (-1074 + (upOf r : Int) + (a : Int) - (b : Int) + (mag.log2 : Int) - 52) (-1074) = -1074 + (upOf r : Int) := by omega
  rw [hlast]
  have hkept : Toward.even.cut neg (mag <<< (-1074 + (upOf r : Int) + (a : Int) - (b : Int) - (-1074 + (upOf r : Int))).toNat) (-1074 + (upOf r : Int) - (-1074 + (upOf r : Int) + (a : Int) - (b : Int))).toNat = magOf r := by
    have t1 : (-1074 + (upOf r : Int) + (a : Int) - (b : Int) - (-1074 + (upOf r : Int))).toNat = a - b := by omega
    have t2 : (-1074 + (upOf r : Int) - (-1074 + (upOf r : Int) + (a : Int) - (b : Int))).toNat = b - a := by omega
    rw [t1, t2, Nat.shiftLeft_eq]
    rcases Nat.le_total a b with k | k
    · have : mag = magOf r * 2 ^ (b - a) := by
        have e : 2 ^ b = 2 ^ (b - a) * 2 ^ a := by rw [← Nat.pow_add]; congr 1; omega
        rw [e, ← Nat.mul_assoc] at h
        exact Nat.eq_of_mul_eq_mul_right (Nat.two_pow_pos a) h
      rw [show a - b = 0 by omega, Nat.pow_zero, Nat.mul_one, this]
      exact cut_exact _ _ _ hM
    · have : mag * 2 ^ (a - b) = magOf r := by
        have e : 2 ^ a = 2 ^ (a - b) * 2 ^ b := by rw [← Nat.pow_add]; congr 1; omega
        rw [e, ← Nat.mul_assoc] at h
        exact Nat.eq_of_mul_eq_mul_right (Nat.two_pow_pos b) h
      rw [this, show b - a = 0 by omega]
      have := cut_exact neg (magOf r) 0 hM
      rw [Nat.pow_zero, Nat.mul_one] at this
      exact this
  rw [hkept]
  have t3 : (-1074 + (upOf r : Int) - -1074).toNat = upOf r := by omega
  rw [t3, mag_up, Nat.min_eq_left (by omega)]
theorem word_eq (neg : Bool) (r : Nat) : double.word neg r = if neg then 9223372036854775808 + r else r := by unfold Format.word; rw [show double.signWeight = 9223372036854775808 by decide]
end Go.Proofs.Ythplelglifnhoaa
/-! The walk of the package of numbers: each function once. -/
namespace Go.Proofs.Ythplelglifnhoaa
open Go.RowKit
set_option linter.unusedVariables false

theorem ret_b {a b : Bool} (h : a = b) : Ending.returned (.bool a) = .returned (.bool b) := by rw [h]
theorem ret_u64 {a b : Int} (h : a = b) : Ending.returned (.int .u64 a) = .returned (.int .u64 b) := by rw [h]
theorem ret_f64 {a b : Nat} (h : a = b) : Ending.returned (.float .f64 a) = .returned (.float .f64 b) := by rw [h]

set_option maxRecDepth 100000 in
theorem run_bits (x : Nat) (w : World) : (callFunc 74 #[.float .f64 x]).run Try.prog w = .ok (.value (.int .u64 (x : Int))) w :=
  (run_callFunc_extern (e := Extern.MathFloatBits.float64bits) Try.func74 (by kernel_rfl) (by kernel_rfl) (by kernel_rfl) (by kernel_rfl) _ w).trans rfl
set_option maxRecDepth 100000 in
theorem run_frombits (x : Int) (w : World) : (callFunc 63 #[.int .u64 x]).run Try.prog w = .ok (.value (.float .f64 x.toNat)) w :=
  (run_callFunc_extern (e := Extern.MathFloatBits.float64frombits) Try.func63 (by kernel_rfl) (by kernel_rfl) (by kernel_rfl) (by kernel_rfl) _ w).trans rfl

set_option maxRecDepth 100000 in
theorem isNaN_any (x : Nat) (w : World) : Calls Try.prog 66 #[.float .f64 x] w fun e w' => e = .returned (.bool (nanB x)) ∧ w = w' := by
  go_enter Try.func66, Try.ntmps66
  go_wp2
  go_ret
  exact ⟨ret_b (order_self x), rfl⟩

set_option maxRecDepth 100000 in
theorem canon_any (x : Nat) (w : World) : Calls Try.prog 44 #[.float .f64 x] w fun e w' => e = .returned (.float .f64 (canon x)) ∧ w = w' := by
  have hn := isNaN_any x
  have hf := run_frombits
  have Hc := Lib.hid (show canon x = if nanB x then 9221120237041090560 else x from rfl)
  by_cases h : nanB x
  · go_enter Try.func44, Try.ntmps44
    go_wp2_with fail
    refine (hn w).mono ?_
    rintro e w1 ⟨rfl, rfl⟩
    go_wp2
    go_ret
    exact ⟨ret_f64 (by rw [Hc.out, if_pos h]), rfl⟩
  · go_enter Try.func44, Try.ntmps44
    go_wp2_with fail
    refine (hn w).mono ?_
    rintro e w1 ⟨rfl, rfl⟩
    go_wp2
    go_ret
    exact ⟨ret_f64 (by rw [Hc.out, if_neg h]), rfl⟩

set_option maxRecDepth 100000 in
theorem realBits_any (x : Nat) (w : World) : Calls Try.prog 100 #[.float .f64 x] w fun e w' => e = .returned (.int .u64 (canon x : Nat)) ∧ w = w' := by
  have hc := canon_any x
  have hf := run_bits
  go_enter Try.func100, Try.ntmps100
  go_wp2_with fail
  refine (hc w).mono ?_
  rintro e w1 ⟨rfl, rfl⟩
  go_wp2
  go_ret
  exact ⟨rfl, rfl⟩

set_option maxRecDepth 100000 in
theorem rank_any (x : Nat) (w : World) (hx : x < 18446744073709551616) : Calls Try.prog 105 #[.float .f64 x] w fun e w' => e = .returned (.int .u64 (rank x : Nat)) ∧ w = w' := by
  have hc := realBits_any x
  have hl := canon_lt hx
  have Hr := Lib.hid (show rank x = if 9223372036854775808 ≤ canon x then 18446744073709551615 - canon x else canon x + 9223372036854775808 from rfl)
  generalize canon x = b at *
  by_cases h : 9223372036854775808 ≤ b
  · have h1 : ((b : Int) / 9223372036854775808 == 1) = true := by rw [beq_iff_eq]; omega
    go_enter Try.func105, Try.ntmps105
    go_wp2_with fail
    refine (hc w).mono ?_
    rintro e w1 ⟨rfl, rfl⟩
    go_wp2
    go_ret
    exact ⟨ret_u64 (by rw [Hr.out, if_pos (by assumption)]; exact not64 b hl), rfl⟩
  · have h1 : ((b : Int) / 9223372036854775808 == 1) = false := by rw [beq_eq_false_iff_ne]; omega
    go_enter Try.func105, Try.ntmps105
    go_wp2_with fail
    refine (hc w).mono ?_
    rintro e w1 ⟨rfl, rfl⟩
    go_wp2
    go_ret
    exact ⟨ret_u64 (by rw [Hr.out, if_neg h]; exact or_high b (by omega)), rfl⟩

set_option maxRecDepth 100000 in
theorem less_any (x y : Nat) (w : World) (hx : x < 18446744073709551616) (hy : y < 18446744073709551616) : Calls Try.prog 99 #[.float .f64 x, .float .f64 y] w fun e w' => e = .returned (.bool (decide (rank x < rank y))) ∧ w = w' := by
  have h1 := fun w => rank_any x w hx
  have h2 := fun w => rank_any y w hy
  go_enter Try.func99, Try.ntmps99
  go_wp2_with fail
  refine (h1 w).mono ?_
  rintro e w1 ⟨rfl, rfl⟩
  go_wp2_with fail
  refine (h2 w).mono ?_
  rintro e w1 ⟨rfl, rfl⟩
  go_wp2
  go_ret
  exact ⟨ret_b (by simp), rfl⟩

end Go.Proofs.Ythplelglifnhoaa
/-! A number's sign, whole number and power: the walk. -/
namespace Go.Proofs.Ythplelglifnhoaa
open Go.RowKit
set_option linter.unusedVariables false

/-- What Split tells. -/
def splitOf (x : Nat) : Bool × Nat × Nat × Bool :=
  let b := canon x
  let e := b / 4503599627370496 % 2048
  if e = 2047 then (false, 0, 0, false) else (decide (9223372036854775808 ≤ b), b % 4503599627370496 + (if 0 < e then 4503599627370496 else 0), max e 1 - 1, true)
def splitVal (r : Bool × Nat × Nat × Bool) : Value := .tuple #[.bool r.1, .int .u64 r.2.1, .int .i64 r.2.2.1, .bool r.2.2.2]

set_option maxRecDepth 100000 in
theorem split_any (x : Nat) (w : World) (hx : x < 18446744073709551616) : Calls Try.prog 89 #[.float .f64 x] w fun e w' => e = .returned (splitVal (splitOf x)) ∧ w = w' := by
  have hc := realBits_any x
  have hl := canon_lt hx
  have Hs : Hid (splitOf x = (if canon x / 4503599627370496 % 2048 = 2047 then (false, 0, 0, false) else (decide (9223372036854775808 ≤ canon x), canon x % 4503599627370496 + (if 0 < canon x / 4503599627370496 % 2048 then 4503599627370496 else 0), max (canon x / 4503599627370496 % 2048) 1 - 1, true))) := Lib.hid rfl
  generalize splitOf x = s at *
  generalize canon x = b at *
  have e1 : (b : Int) / 4503599627370496 = ((b / 4503599627370496 : Nat) : Int) := by omega
  have e2 := and_11 (b / 4503599627370496) (by omega)
  have e3 := and_52 b (by omega)
  rw [← e1] at e2
  have he : b / 4503599627370496 % 2048 < 2048 := by omega
  have hm : b % 4503599627370496 < 4503599627370496 := by omega
  clear e1
  have Hb := Lib.hid (show ((b : Int) / 9223372036854775808 == 1) = decide (9223372036854775808 ≤ b) by rw [Bool.eq_iff_iff]; simp; omega)
  generalize b / 4503599627370496 % 2048 = E at *
  generalize b % 4503599627370496 = M at *
  have e4 := or_52 M hm
  have w1 : IntKind.i64.wrap (E : Int) = (E : Int) := IntWalk.i64_in _ (by omega)
  by_cases h : E = 2047
  · have q1 : ((E : Int) == 2047) = true := by rw [beq_iff_eq]; omega
    go_enter Try.func89, Try.ntmps89
    go_wp2_with fail
    refine (hc w).mono ?_
    rintro e w1 ⟨rfl, rfl⟩
    go_wp2
    refine bodyPost_ret (results_tmp4 rfl _ _ _) rfl ?_
    exact ⟨by rw [Hs.out, if_pos h]; rfl, rfl⟩
  · have q1 : ((E : Int) == 2047) = false := by rw [beq_eq_false_iff_ne]; omega
    by_cases h0 : 0 < E
    · have q2 : (0 : Int) < (E : Int) := by omega
      go_enter Try.func89, Try.ntmps89
      go_wp2_with fail
      refine (hc w).mono ?_
      rintro e w1 ⟨rfl, rfl⟩
      go_wp2
      refine bodyPost_ret (results_tmp4 rfl _ _ _) rfl ?_
      refine ⟨?_, rfl⟩
      have hE : E ≠ 2047 := by omega
      rw [Hs.out, if_neg hE, if_pos h0]
      simp only [splitVal, Hb.out]
      have a1 : max E 1 - 1 = E - 1 := by omega
      have a2 : ((E : Int) - 1) = ((E - 1 : Nat) : Int) := by omega
      rw [a1, a2]
      rfl
    · have q2 : ¬ (0 : Int) < (E : Int) := by omega
      go_enter Try.func89, Try.ntmps89
      go_wp2_with fail
      refine (hc w).mono ?_
      rintro e w1 ⟨rfl, rfl⟩
      go_wp2
      refine bodyPost_ret (results_tmp4 rfl _ _ _) rfl ?_
      refine ⟨?_, rfl⟩
      have hE : E = 0 := by omega
      subst hE
      rw [Hs.out, if_neg (by omega), if_neg (by omega)]
      simp only [splitVal, Hb.out]
      rfl
end Go.Proofs.Ythplelglifnhoaa
/-! The document's own answer about numbers, by the bits; and the example. -/
namespace Go.Proofs.Ythplelglifnhoaa
open Go.RowKit
set_option linter.unusedVariables false

theorem beqT {a b : Int} (h : a = b) : (a == b) = true := beq_iff_eq.2 h
theorem beqF {a b : Int} (h : a ≠ b) : (a == b) = false := beq_eq_false_iff_ne.2 h
theorem bneT {a b : Int} (h : a ≠ b) : (a != b) = true := bne_iff_ne.2 h
theorem bneF {a b : Int} (h : a = b) : (a != b) = false := by simp [h]

set_option maxRecDepth 100000 in
theorem refBits_any (x : Nat) (w : World) (hx : x < 18446744073709551616) : Calls Try.prog 52 #[.float .f64 x] w fun e w' => e = .returned (.int .u64 (canon x : Nat)) ∧ w = w' := by
  have hf := run_bits
  by_cases h : nanB x
  · have Hc := Lib.hid (show canon x = 9221120237041090560 by unfold canon; rw [if_pos h])
    have h' := of_decide_eq_true h
    have t1 : ((x : Int) / 4503599627370496 % 2048 == 2047) = true := beqT (by omega)
    have t2 : ((x : Int) % 4503599627370496 != 0) = true := bneT (by omega)
    clear h h'
    go_enter Try.func52, Try.ntmps52
    go_wp2
    go_ret
    exact ⟨ret_u64 (by rw [Hc.out]; rfl), rfl⟩
  · have Hc := Lib.hid (show canon x = x by unfold canon; rw [if_neg h])
    have h' := of_decide_eq_false (Bool.eq_false_iff.2 h)
    clear h
    by_cases k : (x : Int) / 4503599627370496 % 2048 = 2047
    · have t1 : ((x : Int) / 4503599627370496 % 2048 == 2047) = true := beqT k
      have t2 : ((x : Int) % 4503599627370496 != 0) = false := bneF (by omega)
      clear k h'
      go_enter Try.func52, Try.ntmps52
      go_wp2
      go_ret
      exact ⟨ret_u64 (by rw [Hc.out]), rfl⟩
    · have t1 : ((x : Int) / 4503599627370496 % 2048 == 2047) = false := beqF k
      clear k h'
      go_enter Try.func52, Try.ntmps52
      go_wp2
      go_ret
      exact ⟨ret_u64 (by rw [Hc.out]), rfl⟩

theorem canon_kind (x : Nat) : canon x = 9221120237041090560 ∨ canon x % 9223372036854775808 ≤ 9218868437227405312 := by
  unfold canon
  by_cases h : nanB x
  · left; rw [if_pos h]
  · right; rw [if_neg h]; have := of_decide_eq_false (Bool.eq_false_iff.2 h); omega

set_option maxRecDepth 100000 in
theorem before_any (x y : Nat) (w : World) (hx : x < 18446744073709551616) (hy : y < 18446744073709551616) : Calls Try.prog 50 #[.float .f64 x, .float .f64 y] w fun e w' => e = .returned (.bool (decide (rank x < rank y))) ∧ w = w' := by
  have h1 := fun w => refBits_any x w hx
  have h2 := fun w => refBits_any y w hy
  have a1 := canon_lt hx
  have a2 := canon_lt hy
  have b1 := canon_kind x
  have b2 := canon_kind y
  have Hr := Lib.hid (show rank x = if 9223372036854775808 ≤ canon x then 18446744073709551615 - canon x else canon x + 9223372036854775808 from rfl)
  have Hs := Lib.hid (show rank y = if 9223372036854775808 ≤ canon y then 18446744073709551615 - canon y else canon y + 9223372036854775808 from rfl)
  generalize rank x = r at *
  generalize rank y = s at *
  generalize canon x = p at *
  generalize canon y = q at *
  have key : ∃ c1 c2 c3 c4 c5 : Bool, ((p : Int) == (q : Int)) = c1 ∧ ((p : Int) == 9221120237041090560) = c2 ∧ ((q : Int) == 9221120237041090560) = c3 ∧ ((p : Int) / 9223372036854775808 != (q : Int) / 9223372036854775808) = c4 ∧ ((p : Int) / 9223372036854775808 == 1) = c5 ∧
      decide (r < s) = (if c1 then false else if c2 then false else if c3 then true else if c4 then c5 else if c5 then decide ((q : Int) < p) else decide ((p : Int) < q)) := by
    refine ⟨_, _, _, _, _, rfl, rfl, rfl, rfl, rfl, ?_⟩
    have hr := Hr.out
    have hs := Hs.out
    simp only [beq_iff_eq, bne_iff_ne]
    clear h1 h2 Hr Hs
    split at hr <;> split at hs <;> subst hr <;> subst hs <;> (repeat' split) <;> rw [Bool.eq_iff_iff] <;> simp only [decide_eq_true_eq, beq_iff_eq] <;> first | omega | exact iff_of_false (by omega) (by simp) | (simp only [iff_true]; omega)
  obtain ⟨c1, c2, c3, c4, c5, t1, t2, t3, t4, t5, hR⟩ := key
  have HR := Lib.hid hR
  clear hR Hr Hs b1 b2
  cases c1 <;> cases c2 <;> cases c3 <;> cases c4 <;> cases c5
  all_goals
    go_enter Try.func50, Try.ntmps50
    go_wp2_with fail
    refine (h1 w).mono ?_
    rintro e w1 ⟨rfl, rfl⟩
    go_wp2_with fail
    refine (h2 w).mono ?_
    rintro e w1 ⟨rfl, rfl⟩
    go_wp2
    go_ret
    exact ⟨ret_b (by rw [HR.out]; first | rfl | simp), rfl⟩

set_option maxRecDepth 100000 in
theorem refSame_any (x y : Nat) (w : World) (hx : x < 18446744073709551616) (hy : y < 18446744073709551616) : Calls Try.prog 36 #[.float .f64 x, .float .f64 y] w fun e w' => e = .returned (.bool (decide (canon x = canon y))) ∧ w = w' := by
  have h1 := fun w => refBits_any x w hx
  have h2 := fun w => refBits_any y w hy
  go_enter Try.func36, Try.ntmps36
  go_wp2_with fail
  refine (h1 w).mono ?_
  rintro e w1 ⟨rfl, rfl⟩
  go_wp2_with fail
  refine (h2 w).mono ?_
  rintro e w1 ⟨rfl, rfl⟩
  go_wp2
  go_ret
  exact ⟨ret_b (by rw [Bool.eq_iff_iff]; simp; omega), rfl⟩

set_option maxRecDepth 100000 in
theorem inf_any (s : Int) (w : World) : Calls Try.prog 59 #[.int .i64 s] w fun e w' => e = .returned (.float .f64 (if 0 ≤ s then 9218868437227405312 else 18442240474082181120)) ∧ w = w' := by
  have hf := run_frombits
  by_cases h : 0 ≤ s
  · have Hc := Lib.hid (show (if 0 ≤ s then 9218868437227405312 else 18442240474082181120) = 9218868437227405312 by rw [if_pos h])
    go_enter Try.func59, Try.ntmps59
    go_wp2
    go_ret
    exact ⟨rfl, rfl⟩
  · have Hc := Lib.hid (show (if 0 ≤ s then 9218868437227405312 else 18442240474082181120) = 18442240474082181120 by rw [if_neg h])
    go_enter Try.func59, Try.ntmps59
    go_wp2
    go_ret
    exact ⟨rfl, rfl⟩
end Go.Proofs.Ythplelglifnhoaa
/-! The one that stands ahead, and the one behind: the walk. -/
namespace Go.Proofs.Ythplelglifnhoaa
open Go.RowKit
set_option linter.unusedVariables false

def minOf (x y : Nat) : Nat := if rank y < rank x then canon y else canon x
def maxOf (x y : Nat) : Nat := if rank x < rank y then canon y else canon x
set_option maxRecDepth 100000 in
theorem min_any (x y : Nat) (w : World) (hx : x < 18446744073709551616) (hy : y < 18446744073709551616) : Calls Try.prog 87 #[.float .f64 x, .float .f64 y] w fun e w' => e = .returned (.float .f64 (minOf x y)) ∧ w = w' := by
  have l1 := less_any y x w hy hx
  have cx := canon_any x w
  have cy := canon_any y w
  have Hm := Lib.hid (show minOf x y = if rank y < rank x then canon y else canon x from rfl)
  by_cases h : rank y < rank x
  · rw [show decide (rank y < rank x) = true from decide_eq_true h] at l1
    go_enter Try.func87, Try.ntmps87
    go_wp2_with fail
    refine l1.mono ?_
    rintro e w1 ⟨rfl, rfl⟩
    go_wp2_with fail
    refine cy.mono ?_
    rintro e w1 ⟨rfl, rfl⟩
    go_wp2
    go_ret
    exact ⟨ret_f64 (by rw [Hm.out, if_pos h]), rfl⟩
  · rw [show decide (rank y < rank x) = false from decide_eq_false h] at l1
    go_enter Try.func87, Try.ntmps87
    go_wp2_with fail
    refine l1.mono ?_
    rintro e w1 ⟨rfl, rfl⟩
    go_wp2_with fail
    refine cx.mono ?_
    rintro e w1 ⟨rfl, rfl⟩
    go_wp2
    go_ret
    exact ⟨ret_f64 (by rw [Hm.out, if_neg h]), rfl⟩
set_option maxRecDepth 100000 in
theorem max_any (x y : Nat) (w : World) (hx : x < 18446744073709551616) (hy : y < 18446744073709551616) : Calls Try.prog 88 #[.float .f64 x, .float .f64 y] w fun e w' => e = .returned (.float .f64 (maxOf x y)) ∧ w = w' := by
  have l1 := less_any x y w hx hy
  have cx := canon_any x w
  have cy := canon_any y w
  have Hm := Lib.hid (show maxOf x y = if rank x < rank y then canon y else canon x from rfl)
  by_cases h : rank x < rank y
  · rw [show decide (rank x < rank y) = true from decide_eq_true h] at l1
    go_enter Try.func88, Try.ntmps88
    go_wp2_with fail
    refine l1.mono ?_
    rintro e w1 ⟨rfl, rfl⟩
    go_wp2_with fail
    refine cy.mono ?_
    rintro e w1 ⟨rfl, rfl⟩
    go_wp2
    go_ret
    exact ⟨ret_f64 (by rw [Hm.out, if_pos h]), rfl⟩
  · rw [show decide (rank x < rank y) = false from decide_eq_false h] at l1
    go_enter Try.func88, Try.ntmps88
    go_wp2_with fail
    refine l1.mono ?_
    rintro e w1 ⟨rfl, rfl⟩
    go_wp2_with fail
    refine cx.mono ?_
    rintro e w1 ⟨rfl, rfl⟩
    go_wp2
    go_ret
    exact ⟨ret_f64 (by rw [Hm.out, if_neg h]), rfl⟩
theorem minOf_lt {x y : Nat} (hx : x < 18446744073709551616) (hy : y < 18446744073709551616) : minOf x y < 18446744073709551616 := by have := canon_lt hx; have := canon_lt hy; unfold minOf; split <;> assumption
theorem maxOf_lt {x y : Nat} (hx : x < 18446744073709551616) (hy : y < 18446744073709551616) : maxOf x y < 18446744073709551616 := by have := canon_lt hx; have := canon_lt hy; unfold maxOf; split <;> assumption
end Go.Proofs.Ythplelglifnhoaa
/-! Is a number infinite: the walk. -/
namespace Go.Proofs.Ythplelglifnhoaa
open Go.RowKit
set_option linter.unusedVariables false

set_option maxRecDepth 100000 in
theorem abs_any (x : Nat) (w : World) (hx : x < 18446744073709551616) : Calls Try.prog 101 #[.float .f64 x] w fun e w' => e = .returned (.float .f64 (x % 9223372036854775808)) ∧ w = w' := by
  have hf := run_frombits
  have hg := run_bits
  have ha := andNot_high x hx
  generalize x % 9223372036854775808 = r at *
  go_enter Try.func101, Try.ntmps101
  go_wp2
  go_ret
  exact ⟨ret_f64 (by simp), rfl⟩

set_option maxRecDepth 100000 in
theorem isInf_any (x : Nat) (w : World) (hx : x < 18446744073709551616) : Calls Try.prog 90 #[.float .f64 x, .int .i64 0] w fun e w' => e = .returned (.bool (infB x)) ∧ w = w' := by
  have h1 := abs_any x w hx
  have Hg := Lib.hid (inf_gt hx)
  go_enter Try.func90, Try.ntmps90
  go_wp2_with fail
  refine h1.mono ?_
  rintro e w1 ⟨rfl, rfl⟩
  go_wp2
  go_ret
  exact ⟨ret_b Hg.out, rfl⟩
end Go.Proofs.Ythplelglifnhoaa
