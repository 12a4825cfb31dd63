import Derived.Test.YtpdgmnkibfkhmaaReal
/-! The one that stands ahead, and the one behind: the walk. -/
namespace Go.Proofs.Ytpdgmnkibfkhmaa
open Go.RowKit
set_option linter.unusedVariables false

def minOf (x y : Nat) : Nat := if rank y < rank x then canon y else canon x
def maxOf (x y : Nat) : Nat := if rank x < rank y then canon y else canon x
theorem min_any (x y : Nat) (w : World) (hx : x < 18446744073709551616) (hy : y < 18446744073709551616) : Calls Try.prog 25 #[.float .f64 x, .float .f64 y] w fun e w' => e = .returned (.float .f64 (minOf x y)) ∧ w = w' := by
  have l1 := less_any y x w hy hx
  have cx := canon_any x w
  have cy := canon_any y w
  have Hm := Lib.hid (show minOf x y = if rank y < rank x then canon y else canon x from rfl)
  by_cases h : rank y < rank x
  · rw [show decide (rank y < rank x) = true from decide_eq_true h] at l1
    go_enter Try.func25, Try.ntmps25
    go_wp2_with fail
    refine l1.mono ?_
    rintro e w1 ⟨rfl, rfl⟩
    go_wp2_with fail
    refine cy.mono ?_
    rintro e w1 ⟨rfl, rfl⟩
    go_wp2
    go_ret
    exact ⟨ret_f64 (by rw [Hm.out, if_pos h]), rfl⟩
  · rw [show decide (rank y < rank x) = false from decide_eq_false h] at l1
    go_enter Try.func25, Try.ntmps25
    go_wp2_with fail
    refine l1.mono ?_
    rintro e w1 ⟨rfl, rfl⟩
    go_wp2_with fail
    refine cx.mono ?_
    rintro e w1 ⟨rfl, rfl⟩
    go_wp2
    go_ret
    exact ⟨ret_f64 (by rw [Hm.out, if_neg h]), rfl⟩
theorem max_any (x y : Nat) (w : World) (hx : x < 18446744073709551616) (hy : y < 18446744073709551616) : Calls Try.prog 26 #[.float .f64 x, .float .f64 y] w fun e w' => e = .returned (.float .f64 (maxOf x y)) ∧ w = w' := by
  have l1 := less_any x y w hx hy
  have cx := canon_any x w
  have cy := canon_any y w
  have Hm := Lib.hid (show maxOf x y = if rank x < rank y then canon y else canon x from rfl)
  by_cases h : rank x < rank y
  · rw [show decide (rank x < rank y) = true from decide_eq_true h] at l1
    go_enter Try.func26, Try.ntmps26
    go_wp2_with fail
    refine l1.mono ?_
    rintro e w1 ⟨rfl, rfl⟩
    go_wp2_with fail
    refine cy.mono ?_
    rintro e w1 ⟨rfl, rfl⟩
    go_wp2
    go_ret
    exact ⟨ret_f64 (by rw [Hm.out, if_pos h]), rfl⟩
  · rw [show decide (rank x < rank y) = false from decide_eq_false h] at l1
    go_enter Try.func26, Try.ntmps26
    go_wp2_with fail
    refine l1.mono ?_
    rintro e w1 ⟨rfl, rfl⟩
    go_wp2_with fail
    refine cx.mono ?_
    rintro e w1 ⟨rfl, rfl⟩
    go_wp2
    go_ret
    exact ⟨ret_f64 (by rw [Hm.out, if_neg h]), rfl⟩
theorem minOf_lt {x y : Nat} (hx : x < 18446744073709551616) (hy : y < 18446744073709551616) : minOf x y < 18446744073709551616 := by have := canon_lt hx; have := canon_lt hy; unfold minOf; split <;> assumption
theorem maxOf_lt {x y : Nat} (hx : x < 18446744073709551616) (hy : y < 18446744073709551616) : maxOf x y < 18446744073709551616 := by have := canon_lt hx; have := canon_lt hy; unfold maxOf; split <;> assumption
end Go.Proofs.Ytpdgmnkibfkhmaa
