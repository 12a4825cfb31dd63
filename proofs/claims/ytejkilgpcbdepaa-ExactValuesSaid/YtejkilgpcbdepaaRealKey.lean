import Derived.Test.YtejkilgpcbdepaaRealLaw
import Derived.Laws.Entries
import Derived.IntWalk
/-! The order of numbers by their rungs. -/
namespace Go.Proofs.Ytejkilgpcbdepaa
set_option linter.unusedVariables false

def skey (x : Nat) : Int := if 9223372036854775808 ≤ x then -((x % 9223372036854775808 : Nat) : Int) else ((x % 9223372036854775808 : Nat) : Int)
theorem negB_eq {x : Nat} (h : x < 18446744073709551616) : negB x = decide (9223372036854775808 ≤ x) := by unfold negB; rw [Bool.eq_iff_iff]; simp; omega
theorem compare_key {x y : Nat} (hx : x < 18446744073709551616) (hy : y < 18446744073709551616) : compare (sval x) (sval y) = compare (skey x) (skey y) := by
  have v0 := val_zero
  have px : rung x = 0 ∨ 0 < val (rung x) := by
    rcases Nat.eq_zero_or_pos (rung x) with h | h
    · exact Or.inl h
    · exact Or.inr (val_pos h)
  have py : rung y = 0 ∨ 0 < val (rung y) := by
    rcases Nat.eq_zero_or_pos (rung y) with h | h
    · exact Or.inl h
    · exact Or.inr (val_pos h)
  have tri : (rung x < rung y ∧ val (rung x) < val (rung y)) ∨ rung x = rung y ∨ (rung y < rung x ∧ val (rung y) < val (rung x)) := by
    rcases Nat.lt_trichotomy (rung x) (rung y) with h | h | h
    · exact Or.inl ⟨h, val_lt h⟩
    · exact Or.inr (Or.inl h)
    · exact Or.inr (Or.inr ⟨h, val_lt h⟩)
  have zx : rung x = 0 → val (rung x) = 0 := fun h => by rw [h]; exact v0
  have zy : rung y = 0 → val (rung y) = 0 := fun h => by rw [h]; exact v0
  have ev : rung x = rung y → val (rung x) = val (rung y) := fun h => by rw [h]
  unfold sval skey
  rw [negB_eq hx, negB_eq hy]
  change compare _ _ = compare (if 9223372036854775808 ≤ x then -((rung x : Nat) : Int) else ((rung x : Nat) : Int)) (if 9223372036854775808 ≤ y then -((rung y : Nat) : Int) else ((rung y : Nat) : Int))
  generalize val (rung x) = a at *
  generalize val (rung y) = b at *
  generalize rung x = r at *
  generalize rung y = s at *
  simp only [decide_eq_true_eq]
  have both : ∀ (p q p' q' : Int), (p < q ↔ p' < q') → (p = q ↔ p' = q') → compare p q = compare p' q' := fun p q p' q' h1 h2 => by
    rcases Int.lt_trichotomy p q with h | h | h
    · rw [Int.compare_eq_lt.2 h, Int.compare_eq_lt.2 (h1.1 h)]
    · rw [Int.compare_eq_eq.2 h, Int.compare_eq_eq.2 (h2.1 h)]
    · rw [Int.compare_eq_gt.2 h, Int.compare_eq_gt.2 (by omega)]
  apply both
  · split <;> split <;> omega
  · split <;> split <;> omega
theorem order_key {x y : Nat} (hx : x < 18446744073709551616) (hy : y < 18446744073709551616) (nx : nanB x = false) (ny : nanB y = false) : Ieee.double.order x y = some (compare (skey x) (skey y)) := by
  rw [order_num nx ny, compare_key hx hy]
theorem order_eq {x y : Nat} (hx : x < 18446744073709551616) (hy : y < 18446744073709551616) (nx : nanB x = false) (ny : nanB y = false) : (FloatKind.f64.format.order x y == some .eq) = decide (skey x = skey y) := by
  show (Ieee.double.order x y == some .eq) = _
  rw [order_key hx hy nx ny, Bool.eq_iff_iff]; simp
theorem order_lt {x y : Nat} (hx : x < 18446744073709551616) (hy : y < 18446744073709551616) (nx : nanB x = false) (ny : nanB y = false) : (FloatKind.f64.format.order x y == some .lt) = decide (skey x < skey y) := by
  show (Ieee.double.order x y == some .lt) = _
  rw [order_key hx hy nx ny, Bool.eq_iff_iff]; simp [Int.compare_eq_lt]
theorem order_gt {x y : Nat} (hx : x < 18446744073709551616) (hy : y < 18446744073709551616) (nx : nanB x = false) (ny : nanB y = false) : (FloatKind.f64.format.order x y == some .gt) = decide (skey y < skey x) := by
  show (Ieee.double.order x y == some .gt) = _
  rw [order_key hx hy nx ny, Bool.eq_iff_iff]; simp [Int.compare_eq_gt]
/-- Is it infinite? -/
def infB (x : Nat) : Bool := decide (x % 9223372036854775808 = 9218868437227405312)
theorem inf_gt {x : Nat} (hx : x < 18446744073709551616) : (FloatKind.f64.format.order (x % 9223372036854775808) 9218868437227405311 == some .gt) = infB x := by
  by_cases h : nanB (x % 9223372036854775808)
  · show (Ieee.double.order _ _ == some .gt) = _
    rw [order_nan_left _ h]
    have := of_decide_eq_true h
    unfold infB
    rw [eq_comm]
    exact decide_eq_false (by omega)
  · rw [order_gt (by omega) (by omega) (by simpa using h) (by decide)]
    have h' := of_decide_eq_false (Bool.eq_false_iff.2 h)
    unfold infB skey
    rw [Bool.eq_iff_iff]
    simp only [decide_eq_true_eq]
    rw [if_neg (by omega), if_neg (by omega)]
    omega
/-- A sign taken off. -/
theorem andNot_high (x : Nat) (hx : x < 18446744073709551616) : bits .andNot .u64 (x : Int) 9223372036854775808 = ((x % 9223372036854775808 : Nat) : Int) := by
  have e : (BitVec.ofInt 64 (x : Int)).toNat = x := by rw [BitVec.ofInt_natCast, BitVec.toNat_ofNat]; exact Nat.mod_eq_of_lt (by omega)
  show IntKind.u64.wrap ((BitVec.ofInt 64 (x : Int) &&& ~~~ BitVec.ofInt 64 9223372036854775808).toNat : Int) = _
  rw [show (~~~ BitVec.ofInt 64 9223372036854775808 : BitVec 64) = BitVec.ofNat 64 (2 ^ 63 - 1) by decide, BitVec.toNat_and, e, BitVec.toNat_ofNat, Nat.mod_eq_of_lt (by omega), Nat.and_two_pow_sub_one_eq_mod, IntWalk.u64_in _ (by omega)]
end Go.Proofs.Ytejkilgpcbdepaa
