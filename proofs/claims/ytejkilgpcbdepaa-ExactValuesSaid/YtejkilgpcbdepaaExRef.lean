import Derived.Test.YtejkilgpcbdepaaExSplit
/-! The document's own answer about numbers, by the bits; and the example. -/
namespace Go.Proofs.Ytejkilgpcbdepaa
open Go.RowKit
set_option linter.unusedVariables false

theorem beqT {a b : Int} (h : a = b) : (a == b) = true := beq_iff_eq.2 h
theorem beqF {a b : Int} (h : a ≠ b) : (a == b) = false := beq_eq_false_iff_ne.2 h
theorem bneT {a b : Int} (h : a ≠ b) : (a != b) = true := bne_iff_ne.2 h
theorem bneF {a b : Int} (h : a = b) : (a != b) = false := by simp [h]

theorem refBits_any (x : Nat) (w : World) (hx : x < 18446744073709551616) : Calls Try.prog 40 #[.float .f64 x] w fun e w' => e = .returned (.int .u64 (canon x : Nat)) ∧ w = w' := by
  have hf := run_bits
  by_cases h : nanB x
  · have Hc := Lib.hid (show canon x = 9221120237041090560 by unfold canon; rw [if_pos h])
    have h' := of_decide_eq_true h
    have t1 : ((x : Int) / 4503599627370496 % 2048 == 2047) = true := beqT (by omega)
    have t2 : ((x : Int) % 4503599627370496 != 0) = true := bneT (by omega)
    clear h h'
    go_enter Try.func40, Try.ntmps40
    go_wp2
    go_ret
    exact ⟨ret_u64 (by rw [Hc.out]; rfl), rfl⟩
  · have Hc := Lib.hid (show canon x = x by unfold canon; rw [if_neg h])
    have h' := of_decide_eq_false (Bool.eq_false_iff.2 h)
    clear h
    by_cases k : (x : Int) / 4503599627370496 % 2048 = 2047
    · have t1 : ((x : Int) / 4503599627370496 % 2048 == 2047) = true := beqT k
      have t2 : ((x : Int) % 4503599627370496 != 0) = false := bneF (by omega)
      clear k h'
      go_enter Try.func40, Try.ntmps40
      go_wp2
      go_ret
      exact ⟨ret_u64 (by rw [Hc.out]), rfl⟩
    · have t1 : ((x : Int) / 4503599627370496 % 2048 == 2047) = false := beqF k
      clear k h'
      go_enter Try.func40, Try.ntmps40
      go_wp2
      go_ret
      exact ⟨ret_u64 (by rw [Hc.out]), rfl⟩

theorem refSame_any (x y : Nat) (w : World) (hx : x < 18446744073709551616) (hy : y < 18446744073709551616) : Calls Try.prog 18 #[.float .f64 x, .float .f64 y] w fun e w' => e = .returned (.bool (decide (canon x = canon y))) ∧ w = w' := by
  have h1 := fun w => refBits_any x w hx
  have h2 := fun w => refBits_any y w hy
  go_enter Try.func18, Try.ntmps18
  go_wp2_with fail
  refine (h1 w).mono ?_
  rintro e w1 ⟨rfl, rfl⟩
  go_wp2_with fail
  refine (h2 w).mono ?_
  rintro e w1 ⟨rfl, rfl⟩
  go_wp2
  go_ret
  exact ⟨ret_b (by rw [Bool.eq_iff_iff]; simp; omega), rfl⟩
end Go.Proofs.Ytejkilgpcbdepaa
