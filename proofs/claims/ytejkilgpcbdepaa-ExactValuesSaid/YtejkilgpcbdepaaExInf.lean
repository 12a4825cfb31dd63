import Derived.Test.YtejkilgpcbdepaaReal0
import Derived.Test.YtejkilgpcbdepaaRealKey
/-! Is a number infinite: the walk. -/
namespace Go.Proofs.Ytejkilgpcbdepaa
open Go.RowKit
set_option linter.unusedVariables false

theorem abs_any (x : Nat) (w : World) (hx : x < 18446744073709551616) : Calls Try.prog 27 #[.float .f64 x] w fun e w' => e = .returned (.float .f64 (x % 9223372036854775808)) ∧ w = w' := by
  have hf := run_frombits
  have hg := run_bits
  have ha := andNot_high x hx
  generalize x % 9223372036854775808 = r at *
  go_enter Try.func27, Try.ntmps27
  go_wp2
  go_ret
  exact ⟨ret_f64 (by simp), rfl⟩

theorem isInf_any (x : Nat) (w : World) (hx : x < 18446744073709551616) : Calls Try.prog 15 #[.float .f64 x, .int .i64 0] w fun e w' => e = .returned (.bool (infB x)) ∧ w = w' := by
  have h1 := abs_any x w hx
  have Hg := Lib.hid (inf_gt hx)
  go_enter Try.func15, Try.ntmps15
  go_wp2_with fail
  refine h1.mono ?_
  rintro e w1 ⟨rfl, rfl⟩
  go_wp2
  go_ret
  exact ⟨ret_b Hg.out, rfl⟩
end Go.Proofs.Ytejkilgpcbdepaa
