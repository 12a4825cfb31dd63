import Derived.Test.YtejkilgpcbdepaaReal0
import Derived.Test.YtejkilgpcbdepaaOwn
/-! A number's sign, whole number and power: the walk. -/
namespace Go.Proofs.Ytejkilgpcbdepaa
open Go.RowKit
set_option linter.unusedVariables false

/-- What Split tells. -/
def splitOf (x : Nat) : Bool × Nat × Nat × Bool :=
  let b := canon x
  let e := b / 4503599627370496 % 2048
  if e = 2047 then (false, 0, 0, false) else (decide (9223372036854775808 ≤ b), b % 4503599627370496 + (if 0 < e then 4503599627370496 else 0), max e 1 - 1, true)
def splitVal (r : Bool × Nat × Nat × Bool) : Value := .tuple #[.bool r.1, .int .u64 r.2.1, .int .i64 r.2.2.1, .bool r.2.2.2]

theorem split_any (x : Nat) (w : World) (hx : x < 18446744073709551616) : Calls Try.prog 41 #[.float .f64 x] w fun e w' => e = .returned (splitVal (splitOf x)) ∧ w = w' := by
  have hc := realBits_any x
  have hl := canon_lt hx
  have Hs : Hid (splitOf x = (if canon x / 4503599627370496 % 2048 = 2047 then (false, 0, 0, false) else (decide (9223372036854775808 ≤ canon x), canon x % 4503599627370496 + (if 0 < canon x / 4503599627370496 % 2048 then 4503599627370496 else 0), max (canon x / 4503599627370496 % 2048) 1 - 1, true))) := Lib.hid rfl
  generalize splitOf x = s at *
  generalize canon x = b at *
  have e1 : (b : Int) / 4503599627370496 = ((b / 4503599627370496 : Nat) : Int) := by omega
  have e2 := and_11 (b / 4503599627370496) (by omega)
  have e3 := and_52 b (by omega)
  rw [← e1] at e2
  have he : b / 4503599627370496 % 2048 < 2048 := by omega
  have hm : b % 4503599627370496 < 4503599627370496 := by omega
  clear e1
  have Hb := Lib.hid (show ((b : Int) / 9223372036854775808 == 1) = decide (9223372036854775808 ≤ b) by rw [Bool.eq_iff_iff]; simp; omega)
  generalize b / 4503599627370496 % 2048 = E at *
  generalize b % 4503599627370496 = M at *
  have e4 := or_52 M hm
  have w1 : IntKind.i64.wrap (E : Int) = (E : Int) := IntWalk.i64_in _ (by omega)
  by_cases h : E = 2047
  · have q1 : ((E : Int) == 2047) = true := by rw [beq_iff_eq]; omega
    go_enter Try.func41, Try.ntmps41
    go_wp2_with fail
    refine (hc w).mono ?_
    rintro e w1 ⟨rfl, rfl⟩
    go_wp2
    refine bodyPost_ret (results_tmp4 rfl _ _ _) rfl ?_
    exact ⟨by rw [Hs.out, if_pos h]; rfl, rfl⟩
  · have q1 : ((E : Int) == 2047) = false := by rw [beq_eq_false_iff_ne]; omega
    by_cases h0 : 0 < E
    · have q2 : (0 : Int) < (E : Int) := by omega
      go_enter Try.func41, Try.ntmps41
      go_wp2_with fail
      refine (hc w).mono ?_
      rintro e w1 ⟨rfl, rfl⟩
      go_wp2
      refine bodyPost_ret (results_tmp4 rfl _ _ _) rfl ?_
      refine ⟨?_, rfl⟩
      have hE : E ≠ 2047 := by omega
      rw [Hs.out, if_neg hE, if_pos h0]
      simp only [splitVal, Hb.out]
      have a1 : max E 1 - 1 = E - 1 := by omega
      have a2 : ((E : Int) - 1) = ((E - 1 : Nat) : Int) := by omega
      rw [a1, a2]
      rfl
    · have q2 : ¬ (0 : Int) < (E : Int) := by omega
      go_enter Try.func41, Try.ntmps41
      go_wp2_with fail
      refine (hc w).mono ?_
      rintro e w1 ⟨rfl, rfl⟩
      go_wp2
      refine bodyPost_ret (results_tmp4 rfl _ _ _) rfl ?_
      refine ⟨?_, rfl⟩
      have hE : E = 0 := by omega
      subst hE
      rw [Hs.out, if_neg (by omega), if_neg (by omega)]
      simp only [splitVal, Hb.out]
      rfl
end Go.Proofs.Ytejkilgpcbdepaa
