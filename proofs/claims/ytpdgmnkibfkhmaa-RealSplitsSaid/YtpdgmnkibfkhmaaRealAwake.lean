import Derived.Test.YtpdgmnkibfkhmaaRealRef
/-! The laws of numbers: the walks. -/
namespace Go.Proofs.Ytpdgmnkibfkhmaa
open Go.RowKit
set_option linter.unusedVariables false

theorem awake_any (w : World) : Calls Try.prog 11 #[] w fun e w' => e = .returned (.bool true) ∧ w = w' := by
  have h1 := split_any 4607182418800017408 w (by omega)
  rw [show splitOf 4607182418800017408 = (false, 4503599627370496, 1022, true) by decide +kernel, show splitVal (false, 4503599627370496, 1022, true) = .tuple #[.bool false, .int .u64 4503599627370496, .int .i64 1022, .bool true] from rfl] at h1
  have h2 := inf_any (-1) w
  rw [if_neg (by omega)] at h2
  have h3 := less_any 18442240474082181120 13830554455654793216 w (by omega) (by omega)
  rw [show decide (rank 18442240474082181120 < rank 13830554455654793216) = true by decide +kernel] at h3
  go_enter Try.func11, Try.ntmps11
  go_wp2_with fail
  refine h1.mono ?_
  rintro e w1 ⟨rfl, rfl⟩
  go_wp2_with fail
  refine h2.mono ?_
  rintro e w1 ⟨rfl, rfl⟩
  go_wp2_with fail
  refine h3.mono ?_
  rintro e w1 ⟨rfl, rfl⟩
  go_wp2
  go_ret
  exact ⟨rfl, rfl⟩
end Go.Proofs.Ytpdgmnkibfkhmaa
