import Derived.Test.YtejkilgpcbdepaaKit
import Derived.Test.YtejkilgpcbdepaaRealLaw
import Derived.Test.YtejkilgpcbdepaaBits64
import Derived.Laws.Externs
import Derived.WalkLawsBesides
/-! The walk of the package of numbers: each function once. -/
namespace Go.Proofs.Ytejkilgpcbdepaa
open Go.RowKit
set_option linter.unusedVariables false

theorem ret_b {a b : Bool} (h : a = b) : Ending.returned (.bool a) = .returned (.bool b) := by rw [h]
theorem ret_u64 {a b : Int} (h : a = b) : Ending.returned (.int .u64 a) = .returned (.int .u64 b) := by rw [h]
theorem ret_f64 {a b : Nat} (h : a = b) : Ending.returned (.float .f64 a) = .returned (.float .f64 b) := by rw [h]

theorem run_bits (x : Nat) (w : World) : (callFunc 43 #[.float .f64 x]).run Try.prog w = .ok (.value (.int .u64 (x : Int))) w :=
  (run_callFunc_extern (e := Extern.MathFloatBits.float64bits) Try.func43 (by kernel_rfl) (by kernel_rfl) (by kernel_rfl) (by kernel_rfl) _ w).trans rfl
theorem run_frombits (x : Int) (w : World) : (callFunc 37 #[.int .u64 x]).run Try.prog w = .ok (.value (.float .f64 x.toNat)) w :=
  (run_callFunc_extern (e := Extern.MathFloatBits.float64frombits) Try.func37 (by kernel_rfl) (by kernel_rfl) (by kernel_rfl) (by kernel_rfl) _ w).trans rfl

theorem isNaN_any (x : Nat) (w : World) : Calls Try.prog 14 #[.float .f64 x] w fun e w' => e = .returned (.bool (nanB x)) ∧ w = w' := by
  go_enter Try.func14, Try.ntmps14
  go_wp2
  go_ret
  exact ⟨ret_b (order_self x), rfl⟩

theorem canon_any (x : Nat) (w : World) : Calls Try.prog 54 #[.float .f64 x] w fun e w' => e = .returned (.float .f64 (canon x)) ∧ w = w' := by
  have hn := isNaN_any x
  have hf := run_frombits
  have Hc := Lib.hid (show canon x = if nanB x then 9221120237041090560 else x from rfl)
  by_cases h : nanB x
  · go_enter Try.func54, Try.ntmps54
    go_wp2_with fail
    refine (hn w).mono ?_
    rintro e w1 ⟨rfl, rfl⟩
    go_wp2
    go_ret
    exact ⟨ret_f64 (by rw [Hc.out, if_pos h]), rfl⟩
  · go_enter Try.func54, Try.ntmps54
    go_wp2_with fail
    refine (hn w).mono ?_
    rintro e w1 ⟨rfl, rfl⟩
    go_wp2
    go_ret
    exact ⟨ret_f64 (by rw [Hc.out, if_neg h]), rfl⟩

theorem realBits_any (x : Nat) (w : World) : Calls Try.prog 52 #[.float .f64 x] w fun e w' => e = .returned (.int .u64 (canon x : Nat)) ∧ w = w' := by
  have hc := canon_any x
  have hf := run_bits
  go_enter Try.func52, Try.ntmps52
  go_wp2_with fail
  refine (hc w).mono ?_
  rintro e w1 ⟨rfl, rfl⟩
  go_wp2
  go_ret
  exact ⟨rfl, rfl⟩

end Go.Proofs.Ytejkilgpcbdepaa
