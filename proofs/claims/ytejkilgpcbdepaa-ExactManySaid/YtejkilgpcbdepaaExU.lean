import Derived.Test.YtejkilgpcbdepaaExT
import Derived.Test.YtejkilgpcbdepaaRealLd
/-! Exact sums: one number, many times: the plain law. -/
namespace Go.Proofs.Ytejkilgpcbdepaa
open Go.RowKit
set_option linter.unusedVariables false
open Ieee

theorem quo_word (m : Nat) (h0 : 0 < m) (h : m < 9007199254740992) : floatBits .quo .f64 (wordOf m) 4652218415073722368 = some (wordOf m - 45035996273704960) := by
  have hl := wordOf_lt h0 h
  have hm := wordOf_mag h0 h
  have hk := log_le h0 h
  have ld := lead h0 h
  show double.div (wordOf m) 4652218415073722368 = some _
  unfold Format.div
  have ex : rung (wordOf m) = wordOf m := by unfold rung; omega
  have ey : rung 4652218415073722368 = 4652218415073722368 := by decide
  have nx : negB (wordOf m) = false := by unfold negB; rw [beq_eq_false_iff_ne]; omega
  have ny : negB 4652218415073722368 = false := by decide
  rw [read_mag (x := wordOf m) (by omega), read_mag (x := 4652218415073722368) (by decide), ex, ey, nx, ny, hm.1, hm.2]
  have m2 : magOf 4652218415073722368 = 4503599627370496 := by decide
  have u2 : upOf 4652218415073722368 = 1032 := by decide
  rw [m2, u2]
  have hr : wordOf m - 45035996273704960 < 9218868437227405312 := by omega
  have hmr : magOf (wordOf m - 45035996273704960) = m * 2 ^ (52 - m.log2) ∧ upOf (wordOf m - 45035996273704960) = m.log2 + 1012 := by
    unfold wordOf magOf upOf
    generalize m * 2 ^ (52 - m.log2) = q at *
    constructor
    · rw [if_neg (by omega)]; omega
    · omega
  have hn := nearest_exact false (wordOf m - 45035996273704960) (8 * (m * 2 ^ (52 - m.log2))) 0 3 (by omega) hr (by rw [hmr.1]; omega)
  rw [hmr.2, word_eq] at hn
  generalize m * 2 ^ (52 - m.log2) = M at *
  have hlog : M.log2 = 52 := by
    rw [Nat.log2_eq_iff (by omega)]; omega
  simp only [Datum.quotient]
  have l2 : Nat.log2 4503599627370496 = 52 := by decide
  rw [if_neg (by decide), l2, hlog]
  have f2 : double.fractionBits = 52 := rfl
  rw [f2, Nat.shiftLeft_eq]
  have e1 : M * 2 ^ (52 + 2 + 52 - 52) / 4503599627370496 = 4 * M := by omega
  have e2 : (M * 2 ^ (52 + 2 + 52 - 52) % 4503599627370496 != 0) = false := by simp; omega
  rw [e1, e2]
  simp only [Option.map_some, Format.write]
  refine congrArg some ?_
  rw [show (2 * (4 * M) + false.toNat) = 8 * M by simp; omega]
  rw [show (-1074 + ((m.log2 + 1022 : Nat) : Int) - (-1074 + ((1032 : Nat) : Int)) - ((52 + 2 + 52 - 52 : Nat) : Int) - 1) = -1074 + ((m.log2 + 1012 : Nat) : Int) + ((0 : Nat) : Int) - ((3 : Nat) : Int) by omega]
  show double.nearest (false ^^ false) _ _ = _
  rw [show (false ^^ false) = false from rfl, hn]
  simp
theorem mul_near {x y : Nat} (hx : x < 9218868437227405312) (hy : y < 9218868437227405312) : floatBits .mul .f64 x y = some (double.nearest false (magOf x * magOf y) (-1074 + (upOf x : Int) + (-1074 + (upOf y : Int)))) := by
  show double.mul x y = some _
  unfold Format.mul
  have ex : rung x = x := by unfold rung; omega
  have ey : rung y = y := by unfold rung; omega
  have nx : negB x = false := by unfold negB; rw [beq_eq_false_iff_ne]; omega
  have ny : negB y = false := by unfold negB; rw [beq_eq_false_iff_ne]; omega
  rw [read_mag (by omega), read_mag (by omega), ex, ey, nx, ny]
  rfl
theorem many_st (x N : Nat) (hN : N = 2240) (hn : nanB x = false) (hi : infB x = false) (h0 : rung x ≠ 0) (hs : negB x = false) : ∀ k, manySt x k = { w := k * val (rung x), nan := false, pos := false, neg := false, any := decide (0 < k), other := decide (0 < k) } := by
  intro k
  have ha : addW x N = val (rung x) := by unfold addW; rw [if_neg h0, hs]; rfl
  induction k with
  | zero => simp [manySt, noSt]
  | succ k ih =>
    show addSt (manySt x k) x = _
    rw [addSt_w _ x N hN hn hi, ih, ha, decide_eq_false h0, hs, Nat.add_mul, Nat.one_mul]
    simp
theorem rung_lt (A : Nat) (h : A.log2 ≤ 1200) : rungOf A < 9218868437227405312 := by
  unfold rungOf
  by_cases hs : A < 9007199254740992
  · rw [if_pos hs]; omega
  · rw [if_neg hs]
    have h0 : A ≠ 0 := by omega
    have hp := Nat.two_pow_pos (A.log2 - 52)
    have h53 : 53 ≤ A.log2 := (Nat.le_log2 h0).2 (by omega)
    have h2 : A < 2 ^ (A.log2 + 1) := Nat.lt_log2_self
    have h1 : A / 2 ^ (A.log2 - 52) < 9007199254740992 := by
      rw [Nat.div_lt_iff_lt_mul hp, show (9007199254740992 : Nat) = 2 ^ 53 from rfl, ← Nat.pow_add, show 53 + (A.log2 - 52) = A.log2 + 1 by omega]
      exact h2
    have hb : (upB A (A.log2 - 52)).toNat ≤ 1 := by cases upB A (A.log2 - 52) <;> decide
    omega
theorem valOf_near (A : Nat) (an ot : Bool) (h0 : A ≠ 0) (h : rungOf A < 9218868437227405312) : valOf false A an ot = (rungOf A, false) := by
  unfold valOf
  rw [if_neg h0]
  by_cases hs : A < 9007199254740992
  · rw [if_pos hs]
    have hr : rungOf A = A := by unfold rungOf; rw [if_pos hs]
    rw [hr]; simp
  · rw [if_neg hs, if_neg (by omega)]; simp
theorem many_val (m n N M : Nat) (hN : N = 64 * 34 + 64) (hM : M = 64 * 34 + 63) (h0 : 0 < m) (h : m < 4294967296) (n0 : 0 < n) (hn : n ≤ 255)
    (hA : ∀ W, absOf W = if sgOf W = true then 2 ^ N - W % 2 ^ N else W % 2 ^ N) :
    ∃ v, valSt (manySt (wordOf m - 45035996273704960) n) = (v, false) ∧ floatBits .mul .f64 (wordOf m - 45035996273704960) (wordOf n) = some v ∧ v < 9218868437227405312 := by
  have hl := wordOf_lt h0 (by omega : m < 9007199254740992)
  have hk := log_le h0 (by omega : m < 9007199254740992)
  have ld := lead h0 (by omega : m < 9007199254740992)
  have hm32 : m.log2 < 32 := (Nat.log2_lt (by omega)).2 (by omega)
  have hn8 : n.log2 < 8 := (Nat.log2_lt (by omega)).2 (by omega)
  have hln := wordOf_lt n0 (by omega : n < 9007199254740992)
  have hwn := wordOf_mag n0 (by omega : n < 9007199254740992)
  have ldn := lead n0 (by omega : n < 9007199254740992)
  have hmr : magOf (wordOf m - 45035996273704960) = m * 2 ^ (52 - m.log2) ∧ upOf (wordOf m - 45035996273704960) = m.log2 + 1012 := by
    unfold wordOf magOf upOf
    generalize m * 2 ^ (52 - m.log2) = q at *
    constructor
    · rw [if_neg (by omega)]; omega
    · omega
  obtain ⟨x, hx⟩ : ∃ x, x = wordOf m - 45035996273704960 := ⟨_, rfl⟩
  rw [← hx] at hmr ⊢
  have hxl : 0 < x ∧ x < 9218868437227405312 := by omega
  have hrx : rung x = x := by unfold rung; omega
  have hst := many_st x N (by omega) (by unfold nanB; exact decide_eq_false (by omega)) (by unfold infB; exact decide_eq_false (by omega)) (by omega) (by unfold negB; rw [beq_eq_false_iff_ne]; omega) n
  rw [hrx] at hst
  have hval := val_mag x
  rw [hmr.1, hmr.2] at hval
  obtain ⟨A, hAd⟩ : ∃ A, A = n * val x := ⟨_, rfl⟩
  have hA0 : A ≠ 0 := by
    have := val_pos hxl.1
    have := Nat.mul_pos n0 this
    omega
  obtain ⟨E, hE⟩ : ∃ E, E = 1104 := ⟨_, rfl⟩
  have hAlt : A < 2 ^ E := by
    have e : 2 ^ E = 2 ^ 8 * (2 ^ 53 * 2 ^ (E - 61)) := by rw [← Nat.pow_add, ← Nat.pow_add]; congr 1; omega
    rw [hAd, hval, e]
    have p1 : 2 ^ (m.log2 + 1012) ≤ 2 ^ (E - 61) := Nat.pow_le_pow_right (by decide) (by omega)
    refine Nat.mul_lt_mul_of_lt_of_le (by omega) (Nat.mul_le_mul (by omega) p1) ?_
    exact Nat.mul_pos (by decide) (Nat.two_pow_pos _)
  have hlog : A.log2 < E := (Nat.log2_lt hA0).2 hAlt
  have hrl := rung_lt A (by omega)
  refine ⟨rungOf A, ?_, ?_, hrl⟩
  · obtain ⟨t1, t2⟩ := words_tell A N M 34 (A : Int) rfl hN hM (hA _) rfl (by
      rw [Int.natAbs_natCast]
      exact Nat.lt_of_lt_of_le hAlt (Nat.pow_le_pow_right (by decide) (by omega)))
    rw [hst, ← hAd]
    unfold valSt
    rw [if_neg (by simp)]
    simp only [t1, t2, Int.natAbs_natCast]
    rw [decide_eq_false (by omega : ¬ (A : Int) < 0)]
    exact valOf_near A _ _ hA0 hrl
  · rw [mul_near hxl.2 hln.2, hmr.1, hmr.2, hwn.1, hwn.2]
    have hk2 : (-1074 + ((m.log2 + 1012 : Nat) : Int) + (-1074 + ((n.log2 + 1022 : Nat) : Int))) = -1074 + ((m.log2 + n.log2 + 960 : Nat) : Int) := by omega
    rw [hk2, ← near_scale false _ _ (Nat.mul_pos (by omega) (by omega))]
    have hAe : m * 2 ^ (52 - m.log2) * (n * 2 ^ (52 - n.log2)) * 2 ^ (m.log2 + n.log2 + 960) = A := by
      rw [hAd, hval, show m.log2 + 1012 = (52 - n.log2) + (m.log2 + n.log2 + 960) by omega, Nat.pow_add 2 (52 - n.log2)]
      generalize m * 2 ^ (52 - m.log2) = a
      generalize 2 ^ (52 - n.log2) = b
      generalize 2 ^ (m.log2 + n.log2 + 960) = c
      rw [← Nat.mul_assoc, Nat.mul_comm a n, Nat.mul_assoc n a b, Nat.mul_assoc n, Nat.mul_assoc a b c]
    rw [hAe, near_rung false A hA0, word_eq', Nat.min_eq_left (by omega)]
    simp
theorem manySt_zero : ∀ k, manySt 0 k = ⟨0, false, false, false, decide (0 < k), decide (0 < k)⟩ := by
  intro k
  induction k with
  | zero => simp [manySt, noSt]
  | succ k ih =>
    show addSt (manySt 0 k) 0 = _
    rw [add_naught, ih]
    simp
theorem order_self_eq (v : Nat) (h : v < 9218868437227405312) : (FloatKind.f64.format.order v v == some .eq) = true := by
  have hn : nanB v = false := by unfold nanB; exact decide_eq_false (by omega)
  rw [order_eq (by omega) (by omega) hn hn]
  exact decide_eq_true rfl
theorem mul_naught {x y : Nat} (hx : x < 9218868437227405312) (hy : y < 9218868437227405312) (h : x = 0 ∨ y = 0) : floatBits .mul .f64 x y = some 0 := by
  rw [mul_near hx hy]
  have : magOf x * magOf y = 0 := by
    rcases h with rfl | rfl
    · rw [show magOf 0 = 0 by decide, Nat.zero_mul]
    · rw [show magOf 0 = 0 by decide, Nat.mul_zero]
  rw [this]
  unfold Format.nearest
  rw [if_pos rfl]
  rfl
theorem conv_lt (n : Nat) (h : n < 9007199254740992) : FloatKind.f64.nearest (n : Int) < 9218868437227405312 := by
  rcases Nat.eq_zero_or_pos n with h0 | h0
  · subst h0; rw [show ((0 : Nat) : Int) = 0 from rfl, conv_zero]; decide
  · rw [conv_nat n h0 h]; exact (wordOf_lt h0 h).2
theorem many_any (m n : Nat) (w : World) (hm : m < 4294967296) (hn : n ≤ 255) : Calls Try.prog 5 #[.int .u32 (m : Int), .int .u8 (n : Int)] w fun e w' => e = .returned (.bool true) ∧ Below w.heap.size w w' := by
  have c1 : ∀ w, (convert 39 22 (.int .u32 (m : Int))).run Try.prog w = .ok (.float .f64 (FloatKind.f64.nearest (m : Int))) w := fun w => run_convert_int_float w _ _ _ _ _ (by kernel_rfl) Try.underlying22
  have c3 : ∀ w, (convert 5 22 (.int .u8 (n : Int))).run Try.prog w = .ok (.float .f64 (FloatKind.f64.nearest (n : Int))) w := fun w => run_convert_int_float w _ _ _ _ _ (by kernel_rfl) Try.underlying22
  have hfn := conv_lt n (by omega)
  rcases Nat.eq_zero_or_pos m with h0 | h0
  · have hz : FloatKind.f64.nearest (m : Int) = 0 := by rw [h0]; exact conv_zero
    rw [hz] at c1
    refine many_walk m n 0 0 (FloatKind.f64.nearest (n : Int)) 0 0 w hn (by decide) c1 (fun w => run_float_arith w .quo _ .f64 _ _ 0 (by decide)) c3 (fun w => run_float_arith w .mul _ .f64 _ _ 0 (mul_naught (by decide) hfn (.inl rfl))) ?_ (order_self_eq 0 (by decide))
    rw [manySt_zero, val_zero_of]
    cases decide (0 < n) <;> rfl
  · have hl := wordOf_lt h0 (by omega : m < 9007199254740992)
    rw [conv_nat m h0 (by omega)] at c1
    have c2 := fun w => run_float_arith (P := Try.prog) w .quo 22 .f64 _ _ _ (quo_word m h0 (by omega))
    rcases Nat.eq_zero_or_pos n with n0 | n0
    · subst n0
      exact many_walk m 0 _ _ _ 0 0 w hn (by omega) c1 c2 c3 (fun w => run_float_arith w .mul _ .f64 _ _ 0 (mul_naught (by omega) hfn (.inr conv_zero))) (val_zero_of false false) (order_self_eq 0 (by decide))
    · obtain ⟨v, hv, hp, hvl⟩ := many_val m n 2240 2239 rfl rfl h0 hm n0 hn (fun W => rfl)
      rw [conv_nat n n0 (by omega)] at c3
      exact many_walk m n _ _ _ v v w hn (by omega) c1 c2 c3 (fun w => run_float_arith w .mul _ .f64 _ _ v hp) hv (order_self_eq v hvl)
theorem many_law (W : World) (a0 : Int) (wa0 : (Lit.int .u32 a0).wf = true) (a1 : Int) (wa1 : (Lit.int .u8 a1).wf = true) :
    Calls Try.prog 5 #[.int .u32 a0, .int .u8 a1] W fun e w' => e = .returned (.bool true) ∧ Below W.heap.size W w' := by
  simp [Lit.wf, IntKind.min, IntKind.max, IntKind.bits, IntKind.signed] at wa0 wa1
  obtain ⟨m, rfl⟩ := Int.eq_ofNat_of_zero_le (show 0 ≤ a0 by omega)
  obtain ⟨n, rfl⟩ := Int.eq_ofNat_of_zero_le (show 0 ≤ a1 by omega)
  exact many_any m n W (by omega) (by omega)
end Go.Proofs.Ytejkilgpcbdepaa
