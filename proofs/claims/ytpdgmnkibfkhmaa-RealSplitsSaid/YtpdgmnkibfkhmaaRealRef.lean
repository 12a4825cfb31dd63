import Derived.Test.YtpdgmnkibfkhmaaRealSplit
/-! The document's own answer about numbers, by the bits; and the example. -/
namespace Go.Proofs.Ytpdgmnkibfkhmaa
open Go.RowKit
set_option linter.unusedVariables false

theorem beqT {a b : Int} (h : a = b) : (a == b) = true := beq_iff_eq.2 h
theorem beqF {a b : Int} (h : a ≠ b) : (a == b) = false := beq_eq_false_iff_ne.2 h
theorem bneT {a b : Int} (h : a ≠ b) : (a != b) = true := bne_iff_ne.2 h
theorem bneF {a b : Int} (h : a = b) : (a != b) = false := by simp [h]

theorem refBits_any (x : Nat) (w : World) (hx : x < 18446744073709551616) : Calls Try.prog 13 #[.float .f64 x] w fun e w' => e = .returned (.int .u64 (canon x : Nat)) ∧ w = w' := by
  have hf := run_bits
  by_cases h : nanB x
  · have Hc := Lib.hid (show canon x = 9221120237041090560 by unfold canon; rw [if_pos h])
    have h' := of_decide_eq_true h
    have t1 : ((x : Int) / 4503599627370496 % 2048 == 2047) = true := beqT (by omega)
    have t2 : ((x : Int) % 4503599627370496 != 0) = true := bneT (by omega)
    clear h h'
    go_enter Try.func13, Try.ntmps13
    go_wp2
    go_ret
    exact ⟨ret_u64 (by rw [Hc.out]; rfl), rfl⟩
  · have Hc := Lib.hid (show canon x = x by unfold canon; rw [if_neg h])
    have h' := of_decide_eq_false (Bool.eq_false_iff.2 h)
    clear h
    by_cases k : (x : Int) / 4503599627370496 % 2048 = 2047
    · have t1 : ((x : Int) / 4503599627370496 % 2048 == 2047) = true := beqT k
      have t2 : ((x : Int) % 4503599627370496 != 0) = false := bneF (by omega)
      clear k h'
      go_enter Try.func13, Try.ntmps13
      go_wp2
      go_ret
      exact ⟨ret_u64 (by rw [Hc.out]), rfl⟩
    · have t1 : ((x : Int) / 4503599627370496 % 2048 == 2047) = false := beqF k
      clear k h'
      go_enter Try.func13, Try.ntmps13
      go_wp2
      go_ret
      exact ⟨ret_u64 (by rw [Hc.out]), rfl⟩

theorem canon_kind (x : Nat) : canon x = 9221120237041090560 ∨ canon x % 9223372036854775808 ≤ 9218868437227405312 := by
  unfold canon
  by_cases h : nanB x
  · left; rw [if_pos h]
  · right; rw [if_neg h]; have := of_decide_eq_false (Bool.eq_false_iff.2 h); omega

theorem before_any (x y : Nat) (w : World) (hx : x < 18446744073709551616) (hy : y < 18446744073709551616) : Calls Try.prog 21 #[.float .f64 x, .float .f64 y] w fun e w' => e = .returned (.bool (decide (rank x < rank y))) ∧ w = w' := by
  have h1 := fun w => refBits_any x w hx
  have h2 := fun w => refBits_any y w hy
  have a1 := canon_lt hx
  have a2 := canon_lt hy
  have b1 := canon_kind x
  have b2 := canon_kind y
  have Hr := Lib.hid (show rank x = if 9223372036854775808 ≤ canon x then 18446744073709551615 - canon x else canon x + 9223372036854775808 from rfl)
  have Hs := Lib.hid (show rank y = if 9223372036854775808 ≤ canon y then 18446744073709551615 - canon y else canon y + 9223372036854775808 from rfl)
  generalize rank x = r at *
  generalize rank y = s at *
  generalize canon x = p at *
  generalize canon y = q at *
  have key : ∃ c1 c2 c3 c4 c5 : Bool, ((p : Int) == (q : Int)) = c1 ∧ ((p : Int) == 9221120237041090560) = c2 ∧ ((q : Int) == 9221120237041090560) = c3 ∧ ((p : Int) / 9223372036854775808 != (q : Int) / 9223372036854775808) = c4 ∧ ((p : Int) / 9223372036854775808 == 1) = c5 ∧
      decide (r < s) = (if c1 then false else if c2 then false else if c3 then true else if c4 then c5 else if c5 then decide ((q : Int) < p) else decide ((p : Int) < q)) := by
    refine ⟨_, _, _, _, _, rfl, rfl, rfl, rfl, rfl, ?_⟩
    have hr := Hr.out
    have hs := Hs.out
    simp only [beq_iff_eq, bne_iff_ne]
    clear h1 h2 Hr Hs
    split at hr <;> split at hs <;> subst hr <;> subst hs <;> (repeat' split) <;> rw [Bool.eq_iff_iff] <;> simp only [decide_eq_true_eq, beq_iff_eq] <;> first | omega | exact iff_of_false (by omega) (by simp) | (simp only [iff_true]; omega)
  obtain ⟨c1, c2, c3, c4, c5, t1, t2, t3, t4, t5, hR⟩ := key
  have HR := Lib.hid hR
  clear hR Hr Hs b1 b2
  cases c1 <;> cases c2 <;> cases c3 <;> cases c4 <;> cases c5
  all_goals
    go_enter Try.func21, Try.ntmps21
    go_wp2_with fail
    refine (h1 w).mono ?_
    rintro e w1 ⟨rfl, rfl⟩
    go_wp2_with fail
    refine (h2 w).mono ?_
    rintro e w1 ⟨rfl, rfl⟩
    go_wp2
    go_ret
    exact ⟨ret_b (by rw [HR.out]; first | rfl | simp), rfl⟩

theorem refSame_any (x y : Nat) (w : World) (hx : x < 18446744073709551616) (hy : y < 18446744073709551616) : Calls Try.prog 14 #[.float .f64 x, .float .f64 y] w fun e w' => e = .returned (.bool (decide (canon x = canon y))) ∧ w = w' := by
  have h1 := fun w => refBits_any x w hx
  have h2 := fun w => refBits_any y w hy
  go_enter Try.func14, Try.ntmps14
  go_wp2_with fail
  refine (h1 w).mono ?_
  rintro e w1 ⟨rfl, rfl⟩
  go_wp2_with fail
  refine (h2 w).mono ?_
  rintro e w1 ⟨rfl, rfl⟩
  go_wp2
  go_ret
  exact ⟨ret_b (by rw [Bool.eq_iff_iff]; simp; omega), rfl⟩

theorem inf_any (s : Int) (w : World) : Calls Try.prog 23 #[.int .i64 s] w fun e w' => e = .returned (.float .f64 (if 0 ≤ s then 9218868437227405312 else 18442240474082181120)) ∧ w = w' := by
  have hf := run_frombits
  by_cases h : 0 ≤ s
  · have Hc := Lib.hid (show (if 0 ≤ s then 9218868437227405312 else 18442240474082181120) = 9218868437227405312 by rw [if_pos h])
    go_enter Try.func23, Try.ntmps23
    go_wp2
    go_ret
    exact ⟨rfl, rfl⟩
  · have Hc := Lib.hid (show (if 0 ≤ s then 9218868437227405312 else 18442240474082181120) = 18442240474082181120 by rw [if_neg h])
    go_enter Try.func23, Try.ntmps23
    go_wp2
    go_ret
    exact ⟨rfl, rfl⟩
end Go.Proofs.Ytpdgmnkibfkhmaa
