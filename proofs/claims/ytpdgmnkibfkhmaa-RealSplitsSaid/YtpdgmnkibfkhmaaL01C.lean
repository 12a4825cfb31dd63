import Derived.Test.YtpdgmnkibfkhmaaL01B
import Derived.Test.YtpdgmnkibfkhmaaRealMin
/-! The laws of numbers: ends. -/
namespace Go.Proofs.Ytpdgmnkibfkhmaa
open Go.RowKit
set_option linter.unusedVariables false

theorem minOf_canon (x y : Nat) : canon (minOf x y) = minOf x y := by unfold minOf; split <;> exact canon_canon _
theorem maxOf_canon (x y : Nat) : canon (maxOf x y) = maxOf x y := by unfold maxOf; split <;> exact canon_canon _

set_option maxHeartbeats 2000000 in
theorem realEnds_law (x y : Nat) (w : World) (hx : x < 18446744073709551616) (hy : y < 18446744073709551616) : Calls Try.prog 7 #[.float .f64 x, .float .f64 y] w fun e w' => e = .returned (.bool true) ∧ w = w' := by
  have h11 := awake_any w
  have i1 := min_any x y w hx hy
  have i2 := min_any y x w hy hx
  have a1 := max_any x y w hx hy
  have a2 := max_any y x w hy hx
  have hm := minOf_lt hx hy
  have hM := maxOf_lt hx hy
  have l1 := less_any (maxOf x y) (minOf x y) w hM hm
  have s1 := same_any (minOf x y) x w
  have s2 := same_any (minOf x y) y w
  have s3 := same_any (maxOf x y) x w
  have s4 := same_any (maxOf x y) y w
  have s5 := same_any (minOf x y) (minOf y x) w
  have s6 := same_any (maxOf x y) (maxOf y x) w
  rw [minOf_canon] at s1 s2
  rw [maxOf_canon] at s3 s4
  rw [minOf_canon, minOf_canon] at s5
  rw [maxOf_canon, maxOf_canon] at s6
  have e5 : minOf x y = minOf y x := by
    unfold minOf
    split <;> split
    · omega
    · rfl
    · rfl
    · exact rank_inj hx hy (by omega)
  have e6 : maxOf x y = maxOf y x := by
    unfold maxOf
    split <;> split
    · omega
    · rfl
    · rfl
    · exact rank_inj hx hy (by omega)
  rw [show decide (minOf x y = minOf y x) = true from decide_eq_true e5] at s5
  rw [show decide (maxOf x y = maxOf y x) = true from decide_eq_true e6] at s6
  have k1 : ¬ rank (maxOf x y) < rank (minOf x y) := by
    unfold maxOf minOf
    split <;> split <;> simp only [rank_canon] <;> omega
  rw [show decide (rank (maxOf x y) < rank (minOf x y)) = false from decide_eq_false k1] at l1
  have key : ∃ c1 c2 c3 c4 : Bool, decide (minOf x y = canon x) = c1 ∧ decide (minOf x y = canon y) = c2 ∧ decide (maxOf x y = canon x) = c3 ∧ decide (maxOf x y = canon y) = c4 ∧ ((c1 = true ∧ c4 = true) ∨ (c2 = true ∧ c3 = true)) := by
    refine ⟨_, _, _, _, rfl, rfl, rfl, rfl, ?_⟩
    simp only [decide_eq_true_eq]
    rcases Nat.lt_trichotomy (rank x) (rank y) with h | h | h
    · left; unfold minOf maxOf; rw [if_neg (by omega), if_pos h]; exact ⟨rfl, rfl⟩
    · left
      have := rank_inj hx hy h
      unfold minOf maxOf; rw [if_neg (by omega), if_neg (by omega)]; exact ⟨rfl, this⟩
    · right; unfold minOf maxOf; rw [if_pos (by omega), if_neg (by omega)]; exact ⟨rfl, rfl⟩
  obtain ⟨c1, c2, c3, c4, t1, t2, t3, t4, hk⟩ := key
  rw [t1] at s1
  rw [t2] at s2
  rw [t3] at s3
  rw [t4] at s4
  clear t1 t2 t3 t4 e5 e6 k1
  generalize minOf x y = m at *
  generalize maxOf x y = M at *
  generalize minOf y x = m' at *
  generalize maxOf y x = M' at *
  cases c1 <;> cases c2 <;> cases c3 <;> cases c4
  all_goals first
    | (exfalso; revert hk; decide)
    | (clear hk
       go_enter Try.func7, Try.ntmps7
       go_wp2_with (first
         | (go_at_call 11; refine h11.mono ?_; rintro e w1 ⟨rfl, rfl⟩)
         | (go_at_call 19; refine l1.mono ?_; rintro e w1 ⟨rfl, rfl⟩)
         | (go_at_call 25; (first | (with_reducible refine i1.mono ?_) | (with_reducible refine i2.mono ?_)); rintro e w1 ⟨rfl, rfl⟩)
         | (go_at_call 26; (first | (with_reducible refine a1.mono ?_) | (with_reducible refine a2.mono ?_)); rintro e w1 ⟨rfl, rfl⟩)
         | (go_at_call 20; (first | (with_reducible refine s1.mono ?_) | (with_reducible refine s2.mono ?_) | (with_reducible refine s3.mono ?_) | (with_reducible refine s4.mono ?_) | (with_reducible refine s5.mono ?_) | (with_reducible refine s6.mono ?_)); rintro e w1 ⟨rfl, rfl⟩))
       go_ret
       exact ⟨rfl, rfl⟩)

theorem realEnds_walk (W : World) (x : Nat) (wx : (Lit.float .f64 x).wf = true) (y : Nat) (wy : (Lit.float .f64 y).wf = true) : Calls Try.prog 7 #[.float .f64 x, .float .f64 y] W fun e w' => e = .returned (.bool true) ∧ Below W.heap.size W w' :=
  (realEnds_law x y W (f64_lt wx) (f64_lt wy)).mono fun e w' h => ⟨h.1, h.2 ▸ Below.refl _ _⟩
end Go.Proofs.Ytpdgmnkibfkhmaa
