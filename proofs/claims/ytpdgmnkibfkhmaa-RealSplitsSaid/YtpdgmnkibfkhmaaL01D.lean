import Derived.Test.YtpdgmnkibfkhmaaL01C
import Derived.Test.YtpdgmnkibfkhmaaRealInf
/-! The laws of numbers: the next one. -/
namespace Go.Proofs.Ytpdgmnkibfkhmaa
open Go.RowKit
set_option linter.unusedVariables false

/-- The next number, up or down. -/
def nextOf (x : Nat) (up : Bool) : Nat := if decide (9223372036854775808 ≤ x) = up then x - 1 else x + 1
def infOf (up : Bool) : Nat := if up then 9218868437227405312 else 18442240474082181120
theorem nextafter_any (x : Nat) (up : Bool) (w : World) (hx : x < 18446744073709551616) (hf : x % 9223372036854775808 < 9218868437227405312) (h0 : 0 < x % 9223372036854775808) :
    Calls Try.prog 29 #[.float .f64 x, .float .f64 (infOf up)] w fun e w' => e = .returned (.float .f64 (nextOf x up)) ∧ w = w' := by
  have nx : nanB x = false := decide_eq_false (by omega)
  have ni : nanB (infOf up) = false := by cases up <;> decide
  have li : infOf up < 18446744073709551616 := by cases up <;> decide
  have n1 := isNaN_any x w
  have n2 := isNaN_any (infOf up) w
  rw [nx] at n1
  rw [ni] at n2
  have o1 := order_eq hx li nx ni
  have o2 := order_eq hx (by omega : 0 < 18446744073709551616) nx (by decide)
  have o3 := order_gt li hx ni nx
  have o4 := order_gt hx (by omega : 0 < 18446744073709551616) nx (by decide)
  have q : skey (infOf up) = if up then 9218868437227405312 else -9218868437227405312 := by cases up <;> rfl
  have q0 : skey 0 = 0 := rfl
  have k1 : decide (skey x = skey (infOf up)) = false := decide_eq_false (by rw [q]; unfold skey; cases up <;> simp <;> split <;> omega)
  have k2 : decide (skey x = skey 0) = false := decide_eq_false (by rw [q0]; unfold skey; split <;> omega)
  have k3 : decide (skey x < skey (infOf up)) = up := by rw [q, Bool.eq_iff_iff, decide_eq_true_eq]; unfold skey; cases up <;> simp <;> split <;> omega
  have k4 : decide (skey 0 < skey x) = !decide (9223372036854775808 ≤ x) := by rw [q0, Bool.eq_iff_iff]; simp only [decide_eq_true_eq, Bool.not_eq_true', decide_eq_false_iff_not]; unfold skey; split <;> omega
  rw [k1] at o1
  rw [k2] at o2
  rw [k3] at o3
  rw [k4] at o4
  have hb := run_bits
  have hfb := run_frombits
  have Hn := Lib.hid (show nextOf x up = if decide (9223372036854775808 ≤ x) = up then x - 1 else x + 1 from rfl)
  have l1 : 0 < x := by omega
  have l2 : x < 18446744073709551615 := by omega
  clear k1 k2 k3 k4 q q0 nx ni hf h0
  generalize infOf up = y at *
  generalize hd : decide (9223372036854775808 ≤ x) = n at *
  clear hd
  cases n <;> cases up
  all_goals
    have Hn := Lib.hid Hn.out
    go_enter Try.func29, Try.ntmps29
    go_wp2_with (first
      | (go_at_call 27; (first | (with_reducible refine n1.mono ?_) | (with_reducible refine n2.mono ?_)); rintro e w1 ⟨rfl, rfl⟩))
    go_ret
    exact ⟨ret_f64 (by rw [Hn.out]; simp; try omega), rfl⟩

theorem rank_of {x : Nat} (h : nanB x = false) : rank x = if 9223372036854775808 ≤ x then 18446744073709551615 - x else x + 9223372036854775808 := by
  have c : canon x = x := by unfold canon; rw [if_neg (by simp [h])]
  unfold rank; rw [c]
set_option maxHeartbeats 2000000 in
theorem realNext_law (x : Nat) (w : World) (hx : x < 18446744073709551616) : Calls Try.prog 8 #[.float .f64 x] w fun e w' => e = .returned (.bool true) ∧ w = w' := by
  have h11 := awake_any w
  have n1 := isNaN_any x w
  have n2 := isInf_any x w hx
  by_cases hn : nanB x
  · rw [hn] at n1
    go_enter Try.func8, Try.ntmps8
    go_wp2_with (first
      | (go_at_call 11; refine h11.mono ?_; rintro e w1 ⟨rfl, rfl⟩)
      | (go_at_call 27; refine n1.mono ?_; rintro e w1 ⟨rfl, rfl⟩))
    go_ret
    exact ⟨rfl, rfl⟩
  have hn : nanB x = false := by simpa using hn
  rw [hn] at n1
  by_cases hi : infB x
  · rw [hi] at n2
    go_enter Try.func8, Try.ntmps8
    go_wp2_with (first
      | (go_at_call 11; refine h11.mono ?_; rintro e w1 ⟨rfl, rfl⟩)
      | (go_at_call 27; refine n1.mono ?_; rintro e w1 ⟨rfl, rfl⟩)
      | (go_at_call 28; refine n2.mono ?_; rintro e w1 ⟨rfl, rfl⟩))
    go_ret
    exact ⟨rfl, rfl⟩
  have hi : infB x = false := by simpa using hi
  rw [hi] at n2
  have o := order_eq hx (by omega : 0 < 18446744073709551616) hn (by decide)
  rw [show skey 0 = 0 from rfl] at o
  by_cases h0 : skey x = 0
  · rw [decide_eq_true h0] at o
    go_enter Try.func8, Try.ntmps8
    go_wp2_with (first
      | (go_at_call 11; refine h11.mono ?_; rintro e w1 ⟨rfl, rfl⟩)
      | (go_at_call 27; refine n1.mono ?_; rintro e w1 ⟨rfl, rfl⟩)
      | (go_at_call 28; refine n2.mono ?_; rintro e w1 ⟨rfl, rfl⟩))
    go_ret
    exact ⟨rfl, rfl⟩
  rw [decide_eq_false h0] at o
  have a1 := of_decide_eq_false hn
  have a2 := of_decide_eq_false hi
  have a3 : x % 9223372036854775808 ≠ 0 := fun h => h0 (by unfold skey; rw [h]; split <;> rfl)
  have U := nextafter_any x true w hx (by omega) (by omega)
  have D := nextafter_any x false w hx (by omega) (by omega)
  have eU : nextOf x true = if 9223372036854775808 ≤ x then x - 1 else x + 1 := by unfold nextOf; simp
  have eD : nextOf x false = if 9223372036854775808 ≤ x then x + 1 else x - 1 := by
    unfold nextOf
    by_cases h : 9223372036854775808 ≤ x
    · simp [h]
    · simp [h]
  have lU : nextOf x true < 18446744073709551616 := by rw [eU]; split <;> omega
  have lD : nextOf x false < 18446744073709551616 := by rw [eD]; split <;> omega
  have nU : nanB (nextOf x true) = false := decide_eq_false (by rw [eU]; split <;> omega)
  have nD : nanB (nextOf x false) = false := decide_eq_false (by rw [eD]; split <;> omega)
  have rx : rank x = if 9223372036854775808 ≤ x then 18446744073709551615 - x else x + 9223372036854775808 := rank_of hn
  have rU : rank (nextOf x true) = if 9223372036854775808 ≤ nextOf x true then 18446744073709551615 - nextOf x true else nextOf x true + 9223372036854775808 := rank_of nU
  have rD : rank (nextOf x false) = if 9223372036854775808 ≤ nextOf x false then 18446744073709551615 - nextOf x false else nextOf x false + 9223372036854775808 := rank_of nD
  have sU : rank (nextOf x true) = rank x + 1 := by
    have gen : ∀ X, X = (if 9223372036854775808 ≤ x then x - 1 else x + 1) → (if 9223372036854775808 ≤ X then 18446744073709551615 - X else X + 9223372036854775808) = (if 9223372036854775808 ≤ x then 18446744073709551615 - x else x + 9223372036854775808) + 1 := by
      intro X hX; clear eU eD lU lD nU nD rx rU rD; split at hX <;> (repeat' split) <;> omega
    rw [rU, rx]; exact gen _ eU
  have sD : rank x = rank (nextOf x false) + 1 := by
    have gen : ∀ X, X = (if 9223372036854775808 ≤ x then x + 1 else x - 1) → (if 9223372036854775808 ≤ x then 18446744073709551615 - x else x + 9223372036854775808) = (if 9223372036854775808 ≤ X then 18446744073709551615 - X else X + 9223372036854775808) + 1 := by
      intro X hX; clear eU eD lU lD nU nD rx rU rD; split at hX <;> (repeat' split) <;> omega
    rw [rD, rx]; exact gen _ eD
  have oU := order_eq lU (by omega : 0 < 18446744073709551616) nU (by decide)
  have oD := order_eq lD (by omega : 0 < 18446744073709551616) nD (by decide)
  have i1 := inf_any 1 w
  have i2 := inf_any (-1) w
  rw [if_pos (by omega)] at i1
  rw [if_neg (by omega)] at i2
  have kx := rank_any x w hx
  have kU := rank_any _ w lU
  have kD := rank_any _ w lD
  have bU := before_any x _ w hx lU
  have bD := before_any _ x w lD hx
  have lsU := less_any x _ w hx lU
  have lsD := less_any _ x w lD hx
  have hr := rank_lt lU
  rw [show infOf true = 9218868437227405312 from rfl] at U
  rw [show infOf false = 18442240474082181120 from rfl] at D
  clear eU eD nU nD rx rU rD a1 a2 a3 h0
  generalize decide (skey (nextOf x true) = skey 0) = c1 at *
  generalize decide (skey (nextOf x false) = skey 0) = c2 at *
  rw [sU] at kU bU lsU hr
  rw [sD] at kx kU bU bD lsU lsD hr
  generalize rank (nextOf x false) = r at *
  generalize nextOf x true = u at *
  generalize nextOf x false = d at *
  clear sU sD
  rw [show decide (r + 1 < r + 1 + 1) = true by simp] at bU lsU
  rw [show decide (r < r + 1) = true by simp] at bD lsD
  cases c1 <;> cases c2
  all_goals
    go_enter Try.func8, Try.ntmps8
    go_wp2_with (first
      | (go_at_call 11; refine h11.mono ?_; rintro e w1 ⟨rfl, rfl⟩)
      | (go_at_call 27; refine n1.mono ?_; rintro e w1 ⟨rfl, rfl⟩)
      | (go_at_call 28; refine n2.mono ?_; rintro e w1 ⟨rfl, rfl⟩)
      | (go_at_call 23; (first | (with_reducible refine i1.mono ?_) | (with_reducible refine i2.mono ?_)); rintro e w1 ⟨rfl, rfl⟩)
      | (go_at_call 29; (first | (with_reducible refine U.mono ?_) | (with_reducible refine D.mono ?_)); rintro e w1 ⟨rfl, rfl⟩)
      | (go_at_call 22; (first | (with_reducible refine kx.mono ?_) | (with_reducible refine kU.mono ?_) | (with_reducible refine kD.mono ?_)); rintro e w1 ⟨rfl, rfl⟩)
      | (go_at_call 21; (first | (with_reducible refine bU.mono ?_) | (with_reducible refine bD.mono ?_)); rintro e w1 ⟨rfl, rfl⟩)
      | (go_at_call 19; (first | (with_reducible refine lsU.mono ?_) | (with_reducible refine lsD.mono ?_)); rintro e w1 ⟨rfl, rfl⟩))
    go_ret
    exact ⟨ret_b (by first | rfl | (simp; omega)), rfl⟩

theorem realNext_walk (W : World) (x : Nat) (wx : (Lit.float .f64 x).wf = true) : Calls Try.prog 8 #[.float .f64 x] W fun e w' => e = .returned (.bool true) ∧ Below W.heap.size W w' :=
  (realNext_law x W (f64_lt wx)).mono fun e w' h => ⟨h.1, h.2 ▸ Below.refl _ _⟩
end Go.Proofs.Ytpdgmnkibfkhmaa
