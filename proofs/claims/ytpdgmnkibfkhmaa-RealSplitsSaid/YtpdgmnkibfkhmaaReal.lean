import Derived.Test.YtpdgmnkibfkhmaaKit
import Derived.Test.YtpdgmnkibfkhmaaRealLaw
import Derived.Test.YtpdgmnkibfkhmaaBits64
import Derived.Laws.Externs
import Derived.WalkLawsBesides
/-! The walk of the package of numbers: each function once. -/
namespace Go.Proofs.Ytpdgmnkibfkhmaa
open Go.RowKit
set_option linter.unusedVariables false

theorem ret_b {a b : Bool} (h : a = b) : Ending.returned (.bool a) = .returned (.bool b) := by rw [h]
theorem ret_u64 {a b : Int} (h : a = b) : Ending.returned (.int .u64 a) = .returned (.int .u64 b) := by rw [h]
theorem ret_f64 {a b : Nat} (h : a = b) : Ending.returned (.float .f64 a) = .returned (.float .f64 b) := by rw [h]

theorem run_bits (x : Nat) (w : World) : (callFunc 17 #[.float .f64 x]).run Try.prog w = .ok (.value (.int .u64 (x : Int))) w :=
  (run_callFunc_extern (e := Extern.MathFloatBits.float64bits) Try.func17 (by kernel_rfl) (by kernel_rfl) (by kernel_rfl) (by kernel_rfl) _ w).trans rfl
theorem run_frombits (x : Int) (w : World) : (callFunc 10 #[.int .u64 x]).run Try.prog w = .ok (.value (.float .f64 x.toNat)) w :=
  (run_callFunc_extern (e := Extern.MathFloatBits.float64frombits) Try.func10 (by kernel_rfl) (by kernel_rfl) (by kernel_rfl) (by kernel_rfl) _ w).trans rfl

theorem isNaN_any (x : Nat) (w : World) : Calls Try.prog 27 #[.float .f64 x] w fun e w' => e = .returned (.bool (nanB x)) ∧ w = w' := by
  go_enter Try.func27, Try.ntmps27
  go_wp2
  go_ret
  exact ⟨ret_b (order_self x), rfl⟩

theorem canon_any (x : Nat) (w : World) : Calls Try.prog 18 #[.float .f64 x] w fun e w' => e = .returned (.float .f64 (canon x)) ∧ w = w' := by
  have hn := isNaN_any x
  have hf := run_frombits
  have Hc := Lib.hid (show canon x = if nanB x then 9221120237041090560 else x from rfl)
  by_cases h : nanB x
  · go_enter Try.func18, Try.ntmps18
    go_wp2_with fail
    refine (hn w).mono ?_
    rintro e w1 ⟨rfl, rfl⟩
    go_wp2
    go_ret
    exact ⟨ret_f64 (by rw [Hc.out, if_pos h]), rfl⟩
  · go_enter Try.func18, Try.ntmps18
    go_wp2_with fail
    refine (hn w).mono ?_
    rintro e w1 ⟨rfl, rfl⟩
    go_wp2
    go_ret
    exact ⟨ret_f64 (by rw [Hc.out, if_neg h]), rfl⟩

theorem realBits_any (x : Nat) (w : World) : Calls Try.prog 12 #[.float .f64 x] w fun e w' => e = .returned (.int .u64 (canon x : Nat)) ∧ w = w' := by
  have hc := canon_any x
  have hf := run_bits
  go_enter Try.func12, Try.ntmps12
  go_wp2_with fail
  refine (hc w).mono ?_
  rintro e w1 ⟨rfl, rfl⟩
  go_wp2
  go_ret
  exact ⟨rfl, rfl⟩

theorem realOf_any (b : Nat) (w : World) : Calls Try.prog 15 #[.int .u64 (b : Int)] w fun e w' => e = .returned (.float .f64 (canon b)) ∧ w = w' := by
  have hc := canon_any b
  have hf := run_frombits
  go_enter Try.func15, Try.ntmps15
  go_wp2_with fail
  refine (hc w).mono ?_
  rintro e w1 ⟨rfl, rfl⟩
  go_wp2
  go_ret
  exact ⟨rfl, rfl⟩

theorem rank_any (x : Nat) (w : World) (hx : x < 18446744073709551616) : Calls Try.prog 22 #[.float .f64 x] w fun e w' => e = .returned (.int .u64 (rank x : Nat)) ∧ w = w' := by
  have hc := realBits_any x
  have hl := canon_lt hx
  have Hr := Lib.hid (show rank x = if 9223372036854775808 ≤ canon x then 18446744073709551615 - canon x else canon x + 9223372036854775808 from rfl)
  generalize canon x = b at *
  by_cases h : 9223372036854775808 ≤ b
  · have h1 : ((b : Int) / 9223372036854775808 == 1) = true := by rw [beq_iff_eq]; omega
    go_enter Try.func22, Try.ntmps22
    go_wp2_with fail
    refine (hc w).mono ?_
    rintro e w1 ⟨rfl, rfl⟩
    go_wp2
    go_ret
    exact ⟨ret_u64 (by rw [Hr.out, if_pos (by assumption)]; exact not64 b hl), rfl⟩
  · have h1 : ((b : Int) / 9223372036854775808 == 1) = false := by rw [beq_eq_false_iff_ne]; omega
    go_enter Try.func22, Try.ntmps22
    go_wp2_with fail
    refine (hc w).mono ?_
    rintro e w1 ⟨rfl, rfl⟩
    go_wp2
    go_ret
    exact ⟨ret_u64 (by rw [Hr.out, if_neg h]; exact or_high b (by omega)), rfl⟩

theorem less_any (x y : Nat) (w : World) (hx : x < 18446744073709551616) (hy : y < 18446744073709551616) : Calls Try.prog 19 #[.float .f64 x, .float .f64 y] w fun e w' => e = .returned (.bool (decide (rank x < rank y))) ∧ w = w' := by
  have h1 := fun w => rank_any x w hx
  have h2 := fun w => rank_any y w hy
  go_enter Try.func19, Try.ntmps19
  go_wp2_with fail
  refine (h1 w).mono ?_
  rintro e w1 ⟨rfl, rfl⟩
  go_wp2_with fail
  refine (h2 w).mono ?_
  rintro e w1 ⟨rfl, rfl⟩
  go_wp2
  go_ret
  exact ⟨ret_b (by simp), rfl⟩

theorem same_any (x y : Nat) (w : World) : Calls Try.prog 20 #[.float .f64 x, .float .f64 y] w fun e w' => e = .returned (.bool (decide (canon x = canon y))) ∧ w = w' := by
  have h1 := fun w => realBits_any x w
  have h2 := fun w => realBits_any y w
  go_enter Try.func20, Try.ntmps20
  go_wp2_with fail
  refine (h1 w).mono ?_
  rintro e w1 ⟨rfl, rfl⟩
  go_wp2_with fail
  refine (h2 w).mono ?_
  rintro e w1 ⟨rfl, rfl⟩
  go_wp2
  go_ret
  exact ⟨ret_b (by rw [Bool.eq_iff_iff]; simp; omega), rfl⟩
end Go.Proofs.Ytpdgmnkibfkhmaa
