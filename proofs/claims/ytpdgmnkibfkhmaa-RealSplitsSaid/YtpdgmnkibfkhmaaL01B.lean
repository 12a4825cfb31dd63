import Derived.Test.YtpdgmnkibfkhmaaL01A
/-! The laws of numbers: three, numbers, ends. -/
namespace Go.Proofs.Ytpdgmnkibfkhmaa
open Go.RowKit
set_option linter.unusedVariables false

theorem rank_le (x : Nat) (hx : x < 18446744073709551616) : rank x ≤ 18444492273895866368 := by
  have := canon_kind x
  have := canon_lt hx
  unfold rank; split <;> omega
theorem rank_nan : rank 9221120237041090561 = 18444492273895866368 := by decide +kernel
theorem same_iff (x y : Nat) (hx : x < 18446744073709551616) (hy : y < 18446744073709551616) : decide (canon x = canon y) = decide (rank x = rank y) := by
  rw [Bool.eq_iff_iff]; simp only [decide_eq_true_eq]
  exact ⟨fun h => by unfold rank; rw [h], rank_inj hx hy⟩

theorem nan_any (w : World) : Calls Try.prog 24 #[] w fun e w' => e = .returned (.float .f64 9221120237041090561) ∧ w = w' := by
  have hf := run_frombits
  go_enter Try.func24, Try.ntmps24
  go_wp2
  go_ret
  exact ⟨rfl, rfl⟩

set_option maxHeartbeats 2000000 in
theorem realThree_law (x y z : Nat) (w : World) (hx : x < 18446744073709551616) (hy : y < 18446744073709551616) (hz : z < 18446744073709551616) : Calls Try.prog 6 #[.float .f64 x, .float .f64 y, .float .f64 z] w fun e w' => e = .returned (.bool true) ∧ w = w' := by
  have h11 := awake_any w
  have hn := nan_any w
  have l1 := less_any x y w hx hy
  have l2 := less_any y z w hy hz
  have l3 := less_any x z w hx hz
  have l4 := less_any x x w hx hx
  have l5 := less_any 9221120237041090561 x w (by omega) hx
  have l6 := less_any x 9221120237041090561 w hx (by omega)
  have l7 := same_any x 9221120237041090561 w
  rw [same_iff _ _ hx (by omega)] at l7
  rw [rank_nan] at l5 l6 l7
  have m1 := rank_le x hx
  generalize rank x = p at *
  generalize rank y = q at *
  generalize rank z = r at *
  rw [show decide (p < p) = false by simp] at l4
  rw [show decide (18444492273895866368 < p) = false by simp; omega] at l5
  have t3 : p < q → q < r → decide (p < r) = true := by simp; omega
  by_cases t1 : p < q <;> by_cases t2 : q < r <;> by_cases t4 : p = 18444492273895866368
  all_goals
    simp only [t1, t2, decide_true, decide_false] at l1 l2
    first
      | rw [t3 t1 t2] at l3
      | skip
    first
      | (have t5 : ¬ p < 18444492273895866368 := by omega
         simp only [t4, decide_true] at l6 l7)
      | (have t5 : p < 18444492273895866368 := by omega
         simp only [t4, t5, decide_true, decide_false] at l6 l7)
    clear t1 t2 t3 t4 t5 m1
    go_enter Try.func6, Try.ntmps6
    go_wp2_with (first
      | (go_at_call 11; refine h11.mono ?_; rintro e w1 ⟨rfl, rfl⟩)
      | (go_at_call 24; refine hn.mono ?_; rintro e w1 ⟨rfl, rfl⟩)
      | (go_at_call 19; (first | (with_reducible refine l1.mono ?_) | (with_reducible refine l2.mono ?_) | (with_reducible refine l3.mono ?_) | (with_reducible refine l4.mono ?_) | (with_reducible refine l5.mono ?_) | (with_reducible refine l6.mono ?_)); rintro e w1 ⟨rfl, rfl⟩)
      | (go_at_call 20; refine l7.mono ?_; rintro e w1 ⟨rfl, rfl⟩))
    go_ret
    exact ⟨rfl, rfl⟩

theorem sval_rank {x y : Nat} (hx : x < 18446744073709551616) (hy : y < 18446744073709551616) (nx : nanB x = false) (ny : nanB y = false) (h : sval x < sval y) : rank x < rank y := by
  have cx : canon x = x := by unfold canon; rw [if_neg (by simp [nx])]
  have cy : canon y = y := by unfold canon; rw [if_neg (by simp [ny])]
  unfold rank
  rw [cx, cy]
  unfold sval at h
  have ex : negB x = decide (9223372036854775808 ≤ x) := by unfold negB; rw [Bool.eq_iff_iff]; simp; omega
  have ey : negB y = decide (9223372036854775808 ≤ y) := by unfold negB; rw [Bool.eq_iff_iff]; simp; omega
  rw [ex, ey] at h
  by_cases kx : 9223372036854775808 ≤ x <;> by_cases ky : 9223372036854775808 ≤ y
  · simp only [kx, ky, decide_true, if_true] at h ⊢
    have : ¬ val (rung x) ≤ val (rung y) := by omega
    rw [val_le] at this
    unfold rung at this
    omega
  · simp only [kx, ky, decide_true, decide_false, if_true, if_false] at h ⊢
    omega
  · simp only [kx, ky, decide_true, decide_false, if_true] at h
    simp at h
    omega
  · simp only [kx, ky, decide_false, if_false] at h ⊢
    have : ¬ val (rung y) ≤ val (rung x) := by simp at h; omega
    rw [val_le] at this
    unfold rung at this
    omega

set_option maxHeartbeats 2000000 in
theorem realNumbers_law (x y : Nat) (w : World) (hx : x < 18446744073709551616) (hy : y < 18446744073709551616) : Calls Try.prog 5 #[.float .f64 x, .float .f64 y] w fun e w' => e = .returned (.bool true) ∧ w = w' := by
  have h11 := awake_any w
  have l1 := less_any x y w hx hy
  have l2 := less_any y x w hy hx
  have hi := inf_any 1 w
  rw [if_pos (by omega)] at hi
  have hq := fun w => run_float_arith (P := Try.prog) (w := w) .quo 23 .f64 13830554455654793216 9218868437227405312 9223372036854775808 (by kernel_rfl)
  have l3 := less_any 9223372036854775808 0 w (by omega) (by omega)
  rw [show decide (rank 9223372036854775808 < rank 0) = true by decide +kernel] at l3
  have l4 := less_any 0 9223372036854775808 w (by omega) (by omega)
  rw [show decide (rank 0 < rank 9223372036854775808) = false by decide +kernel] at l4
  have l5 := same_any 0 9223372036854775808 w
  rw [show decide (canon 0 = canon 9223372036854775808) = false by decide +kernel] at l5
  have key : ∃ c1 c2 c3 c4 : Bool, (FloatKind.f64.format.order x x != some .eq) = c1 ∧ (FloatKind.f64.format.order y y != some .eq) = c2 ∧ (FloatKind.f64.format.order x y == some .lt) = c3 ∧ (FloatKind.f64.format.order x y == some .gt) = c4 ∧
      (c1 = false → c2 = false → (c3 = true → decide (rank x < rank y) = true) ∧ (c4 = true → decide (rank y < rank x) = true)) := by
    refine ⟨_, _, _, _, rfl, rfl, rfl, rfl, ?_⟩
    show (Ieee.double.order x x != some .eq) = false → (Ieee.double.order y y != some .eq) = false → ((Ieee.double.order x y == some .lt) = true → _) ∧ ((Ieee.double.order x y == some .gt) = true → _)
    rw [order_self, order_self]
    intro nx ny
    rw [order_num nx ny]
    constructor
    · intro h
      exact decide_eq_true (sval_rank hx hy nx ny (by simpa [Int.compare_eq_lt] using h))
    · intro h
      exact decide_eq_true (sval_rank hy hx ny nx (by simpa [Int.compare_eq_gt] using h))
  obtain ⟨c1, c2, c3, c4, t1, t2, t3, t4, hk⟩ := key
  generalize decide (rank x < rank y) = r1 at *
  generalize decide (rank y < rank x) = r2 at *
  cases c1 <;> cases c2 <;> cases c3 <;> cases c4
  all_goals
    first
      | (obtain rfl := (hk rfl rfl).1 rfl)
      | skip
    first
      | (obtain rfl := (hk rfl rfl).2 rfl)
      | skip
    clear hk
    go_enter Try.func5, Try.ntmps5
    go_wp2_with (first
      | (go_at_call 11; refine h11.mono ?_; rintro e w1 ⟨rfl, rfl⟩)
      | (go_at_call 23; refine hi.mono ?_; rintro e w1 ⟨rfl, rfl⟩)
      | (go_at_call 19; (first | (with_reducible refine l1.mono ?_) | (with_reducible refine l2.mono ?_) | (with_reducible refine l3.mono ?_) | (with_reducible refine l4.mono ?_)); rintro e w1 ⟨rfl, rfl⟩)
      | (go_at_call 20; refine l5.mono ?_; rintro e w1 ⟨rfl, rfl⟩))
    go_ret
    exact ⟨rfl, rfl⟩

theorem realBits_walk (W : World) (a : Int) (wa : (Lit.int .u64 a).wf = true) : Calls Try.prog 3 #[.int .u64 a] W fun e w' => e = .returned (.bool true) ∧ Below W.heap.size W w' := by
  have h := u64_bd wa
  obtain ⟨b, rfl⟩ := Int.eq_ofNat_of_zero_le h.1
  exact (realBits_law b W (by omega)).mono fun e w' h => ⟨h.1, h.2 ▸ Below.refl _ _⟩
theorem realOrder_walk (W : World) (x : Nat) (wx : (Lit.float .f64 x).wf = true) (y : Nat) (wy : (Lit.float .f64 y).wf = true) : Calls Try.prog 4 #[.float .f64 x, .float .f64 y] W fun e w' => e = .returned (.bool true) ∧ Below W.heap.size W w' :=
  (realOrder_law x y W (f64_lt wx) (f64_lt wy)).mono fun e w' h => ⟨h.1, h.2 ▸ Below.refl _ _⟩
theorem realThree_walk (W : World) (x : Nat) (wx : (Lit.float .f64 x).wf = true) (y : Nat) (wy : (Lit.float .f64 y).wf = true) (z : Nat) (wz : (Lit.float .f64 z).wf = true) : Calls Try.prog 6 #[.float .f64 x, .float .f64 y, .float .f64 z] W fun e w' => e = .returned (.bool true) ∧ Below W.heap.size W w' :=
  (realThree_law x y z W (f64_lt wx) (f64_lt wy) (f64_lt wz)).mono fun e w' h => ⟨h.1, h.2 ▸ Below.refl _ _⟩
theorem realNumbers_walk (W : World) (x : Nat) (wx : (Lit.float .f64 x).wf = true) (y : Nat) (wy : (Lit.float .f64 y).wf = true) : Calls Try.prog 5 #[.float .f64 x, .float .f64 y] W fun e w' => e = .returned (.bool true) ∧ Below W.heap.size W w' :=
  (realNumbers_law x y W (f64_lt wx) (f64_lt wy)).mono fun e w' h => ⟨h.1, h.2 ▸ Below.refl _ _⟩
end Go.Proofs.Ytpdgmnkibfkhmaa
