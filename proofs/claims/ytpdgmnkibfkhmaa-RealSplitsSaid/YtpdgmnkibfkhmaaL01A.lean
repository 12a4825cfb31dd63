import Derived.Test.YtpdgmnkibfkhmaaRealAwake
/-! The laws of numbers: bits, order, three. -/
namespace Go.Proofs.Ytpdgmnkibfkhmaa
open Go.RowKit
set_option linter.unusedVariables false

theorem f64_lt {x : Nat} (h : (Lit.float .f64 x).wf = true) : x < 18446744073709551616 := by
  have h := of_decide_eq_true h
  exact h
theorem u64_bd {x : Int} (h : (Lit.int .u64 x).wf = true) : 0 ≤ x ∧ x < 18446744073709551616 := by
  simp [Lit.wf, IntKind.min, IntKind.max, IntKind.bits, IntKind.signed] at h; omega

theorem refOf_any (b : Nat) (w : World) (hb : b < 18446744073709551616) : Calls Try.prog 16 #[.int .u64 (b : Int)] w fun e w' => e = .returned (.float .f64 (canon b)) ∧ w = w' := by
  have hc := refBits_any b w hb
  have hf := run_frombits
  go_enter Try.func16, Try.ntmps16
  go_wp2_with fail
  refine hc.mono ?_
  rintro e w1 ⟨rfl, rfl⟩
  go_wp2
  go_ret
  exact ⟨rfl, rfl⟩

theorem realBits_law (b : Nat) (w : World) (hb : b < 18446744073709551616) : Calls Try.prog 3 #[.int .u64 (b : Int)] w fun e w' => e = .returned (.bool true) ∧ w = w' := by
  have hl := canon_lt hb
  have h11 := awake_any w
  have h12 := realBits_any b w
  have h12' := realBits_any (canon b) w
  rw [canon_canon] at h12'
  have h13 := refBits_any b w hb
  have h15 := realOf_any b w
  have h16 := refOf_any b w hb
  have h14 := refSame_any (canon b) (canon b) w hl hl
  rw [canon_canon, show decide (canon b = canon b) = true by simp] at h14
  have h18 := canon_any b w
  have hf := run_frombits
  have hg := run_bits
  generalize canon b = c at *
  go_enter Try.func3, Try.ntmps3
  go_wp2_with (first
    | (go_at_call 11; refine h11.mono ?_; rintro e w1 ⟨rfl, rfl⟩)
    | (go_at_call 12; (first | (with_reducible refine h12.mono ?_) | (with_reducible refine h12'.mono ?_)); rintro e w1 ⟨rfl, rfl⟩)
    | (go_at_call 13; refine h13.mono ?_; rintro e w1 ⟨rfl, rfl⟩)
    | (go_at_call 14; refine h14.mono ?_; rintro e w1 ⟨rfl, rfl⟩)
    | (go_at_call 15; refine h15.mono ?_; rintro e w1 ⟨rfl, rfl⟩)
    | (go_at_call 16; refine h16.mono ?_; rintro e w1 ⟨rfl, rfl⟩)
    | (go_at_call 18; refine h18.mono ?_; rintro e w1 ⟨rfl, rfl⟩))
  go_ret
  exact ⟨rfl, rfl⟩

set_option maxHeartbeats 2000000 in
theorem realOrder_law (x y : Nat) (w : World) (hx : x < 18446744073709551616) (hy : y < 18446744073709551616) : Calls Try.prog 4 #[.float .f64 x, .float .f64 y] w fun e w' => e = .returned (.bool true) ∧ w = w' := by
  have h11 := awake_any w
  have l1 := less_any x y w hx hy
  have l2 := less_any y x w hy hx
  have l3 := same_any x y w
  have b1 := before_any x y w hx hy
  have b2 := before_any y x w hy hx
  have b3 := refSame_any x y w hx hy
  have r1 := rank_any x w hx
  have r2 := rank_any y w hy
  have hs : decide (canon x = canon y) = decide (rank x = rank y) := by
    rw [Bool.eq_iff_iff]; simp only [decide_eq_true_eq]
    exact ⟨fun h => by unfold rank; rw [h], rank_inj hx hy⟩
  rw [hs] at l3 b3
  generalize rank x = p at *
  generalize rank y = q at *
  have tri : (p < q ∧ ¬ q < p ∧ ¬ p = q) ∨ (¬ p < q ∧ q < p ∧ ¬ p = q) ∨ (¬ p < q ∧ ¬ q < p ∧ p = q) := by omega
  rcases tri with ⟨t1, t2, t3⟩ | ⟨t1, t2, t3⟩ | ⟨t1, t2, t3⟩
  all_goals
    simp only [t1, t2, t3, decide_true, decide_false] at l1 l2 l3 b1 b2 b3
    go_enter Try.func4, Try.ntmps4
    go_wp2_with (first
      | (go_at_call 11; refine h11.mono ?_; rintro e w1 ⟨rfl, rfl⟩)
      | (go_at_call 19; (first | (with_reducible refine l1.mono ?_) | (with_reducible refine l2.mono ?_)); rintro e w1 ⟨rfl, rfl⟩)
      | (go_at_call 20; refine l3.mono ?_; rintro e w1 ⟨rfl, rfl⟩)
      | (go_at_call 21; (first | (with_reducible refine b1.mono ?_) | (with_reducible refine b2.mono ?_)); rintro e w1 ⟨rfl, rfl⟩)
      | (go_at_call 14; refine b3.mono ?_; rintro e w1 ⟨rfl, rfl⟩)
      | (go_at_call 22; (first | (with_reducible refine r1.mono ?_) | (with_reducible refine r2.mono ?_)); rintro e w1 ⟨rfl, rfl⟩))
    all_goals first
      | (exfalso; omega)
      | (go_ret; exact ⟨ret_b (by first | rfl | (simp; omega)), rfl⟩)
end Go.Proofs.Ytpdgmnkibfkhmaa
