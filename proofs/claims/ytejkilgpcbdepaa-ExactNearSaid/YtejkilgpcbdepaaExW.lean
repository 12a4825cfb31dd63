import Derived.Test.YtejkilgpcbdepaaExV
import Derived.Test.YtejkilgpcbdepaaExM
/-! Exact sums: the value is the nearest number: the next number, what is told of a sum with one number more, and the walk. -/
namespace Go.Proofs.Ytejkilgpcbdepaa
open Go.RowKit
set_option linter.unusedVariables false
attribute [-simp] Try.isAgg30 Try.sizeOf30 Try.typeInfo30 Try.type30

def infOf (up : Bool) : Nat := if up then 9218868437227405312 else 18442240474082181120
theorem copysign_one (up : Bool) (w : World) : Calls Try.prog 23 #[.float .f64 1, .float .f64 (infOf up)] w fun e w' => e = .returned (.float .f64 (if up = true then 1 else 9223372036854775809)) ∧ w = w' := by
  have hf := run_frombits
  have hg := run_bits
  have b1 : bits .andNot .u64 1 9223372036854775808 = 1 := by decide
  have b2 : bits .and .u64 18442240474082181120 9223372036854775808 = 9223372036854775808 := by decide
  have b3 : bits .or .u64 1 9223372036854775808 = 9223372036854775809 := by decide
  have b4 : bits .and .u64 9218868437227405312 9223372036854775808 = 0 := by decide
  have b5 : bits .or .u64 1 0 = 1 := by decide
  cases up
  all_goals
    go_enter Try.func23, Try.ntmps23
    simp only [infOf]
    go_wp2
    go_ret
    exact ⟨ret_f64 (by simp), rfl⟩
theorem nextafter_any (x : Nat) (up : Bool) (w : World) (hx : x < 18446744073709551616) (hf : x % 9223372036854775808 < 9218868437227405312) :
    Calls Try.prog 26 #[.float .f64 x, .float .f64 (infOf up)] w fun e w' => e = .returned (.float .f64 (nextX x up)) ∧ w = w' := by
  have nx : nanB x = false := decide_eq_false (by omega)
  have ni : nanB (infOf up) = false := by cases up <;> decide
  have li : infOf up < 18446744073709551616 := by cases up <;> decide
  have n1 := isNaN_any x w
  have n2 := isNaN_any (infOf up) w
  rw [nx] at n1
  rw [ni] at n2
  have o1 := order_eq hx li nx ni
  have o2 := order_eq hx (by omega : 0 < 18446744073709551616) nx (by decide)
  have o3 := order_gt li hx ni nx
  have o4 := order_gt hx (by omega : 0 < 18446744073709551616) nx (by decide)
  have q : skey (infOf up) = if up then 9218868437227405312 else -9218868437227405312 := by cases up <;> rfl
  have q0 : skey 0 = 0 := rfl
  have k1 : decide (skey x = skey (infOf up)) = false := decide_eq_false (by rw [q]; unfold skey; cases up <;> simp <;> split <;> omega)
  have k3 : decide (skey x < skey (infOf up)) = up := by rw [q, Bool.eq_iff_iff, decide_eq_true_eq]; unfold skey; cases up <;> simp <;> split <;> omega
  rw [k1] at o1
  rw [k3] at o3
  have hb := run_bits
  have hfb := run_frombits
  by_cases h0 : x % 9223372036854775808 = 0
  · have k2 : decide (skey x = skey 0) = true := decide_eq_true (by rw [q0]; unfold skey; split <;> omega)
    rw [k2] at o2
    have hcs := copysign_one up
    have Hn := Lib.hid (show nextX x up = if up = true then 1 else 9223372036854775809 by unfold nextX; rw [if_pos h0])
    clear o3 o4 k1 k2 k3 q q0 nx ni hf h0
    generalize infOf up = y at *
    obtain ⟨v, hv⟩ : ∃ v, v = if up = true then 1 else 9223372036854775809 := ⟨_, rfl⟩
    rw [← hv] at hcs Hn
    clear hv
    go_enter Try.func26, Try.ntmps26
    go_wp2_with (first
      | (go_at_call 14; (first | (with_reducible refine n1.mono ?_) | (with_reducible refine n2.mono ?_)); rintro e w1 ⟨rfl, rfl⟩)
      | (go_at_call 23; (with_reducible refine (hcs _).mono ?_); rintro e w1 ⟨rfl, rfl⟩))
    go_ret
    exact ⟨ret_f64 Hn.out.symm, rfl⟩
  · have k2 : decide (skey x = skey 0) = false := decide_eq_false (by rw [q0]; unfold skey; split <;> omega)
    have k4 : decide (skey 0 < skey x) = !decide (9223372036854775808 ≤ x) := by rw [q0, Bool.eq_iff_iff]; simp only [decide_eq_true_eq, Bool.not_eq_true', decide_eq_false_iff_not]; unfold skey; split <;> omega
    rw [k2] at o2
    rw [k4] at o4
    have Hn := Lib.hid (show nextX x up = if decide (9223372036854775808 ≤ x) = up then x - 1 else x + 1 by unfold nextX; rw [if_neg h0])
    have l1 : 0 < x := by omega
    have l2 : x < 18446744073709551615 := by omega
    clear k1 k2 k3 k4 q q0 nx ni hf h0
    generalize infOf up = y at *
    generalize hd : decide (9223372036854775808 ≤ x) = n at *
    clear hd
    cases n <;> cases up
    all_goals
      have Hn := Lib.hid Hn.out
      go_enter Try.func26, Try.ntmps26
      go_wp2_with (first
        | (go_at_call 14; (first | (with_reducible refine n1.mono ?_) | (with_reducible refine n2.mono ?_)); rintro e w1 ⟨rfl, rfl⟩))
      go_ret
      exact ⟨ret_f64 (by rw [Hn.out]; simp; try omega), rfl⟩
theorem neg_rung (y : Nat) (hy : y < 18446744073709551616) : Op.negFloat .f64 y < 18446744073709551616 ∧ rung (Op.negFloat .f64 y) = rung y ∧ sval (Op.negFloat .f64 y) = - sval y := by
  have h := neg_any y hy
  generalize Op.negFloat .f64 y = z at *
  have hl : z < 18446744073709551616 := by rw [h]; split <;> omega
  have hr : rung z = rung y := by unfold rung; rw [h]; split <;> omega
  refine ⟨hl, hr, ?_⟩
  unfold sval
  rw [hr, negB_eq hl, negB_eq hy]
  by_cases hc : y < 9223372036854775808
  · rw [if_pos hc] at h
    rw [decide_eq_true (by omega : 9223372036854775808 ≤ z), decide_eq_false (by omega : ¬ 9223372036854775808 ≤ y)]; rfl
  · rw [if_neg hc] at h
    rw [decide_eq_false (by omega : ¬ 9223372036854775808 ≤ z), decide_eq_true (by omega : 9223372036854775808 ≤ y)]; simp
/-- What is told of a sum with one number more, its sign taken off. -/
theorem near_val (S : St) (N M E : Nat) (hN : N = 64 * 34 + 64) (hM : M = 64 * 34 + 63) (hE : E = 2100) (hA : ∀ W, absOf W = if sgOf W = true then 2 ^ N - W % 2 ^ N else W % 2 ^ N) (T : Int)
    (hz : ∃ z : Int, (S.w : Int) = T + z * ((2 ^ N : Nat) : Int)) (hT : T.natAbs ≤ 40 * 2 ^ E) (h1 : S.nan = false) (h2 : S.pos = false) (h3 : S.neg = false) (y : Nat) (hy : y < 18446744073709551616) (hr : rung y ≤ 9218868437227405312) :
    (valSt (addSt S y)).1 % 9223372036854775808 = (if rung y = 9218868437227405312 then 9218868437227405312 else min (rungOf (T + sval y).natAbs) 9218868437227405312) ∧ (valSt (addSt S y)).1 < 18446744073709551616 := by
  by_cases hi : rung y = 9218868437227405312
  · rw [if_pos hi]
    have hc : y = 9218868437227405312 ∨ y = 18442240474082181120 := by unfold rung at hi; omega
    rcases hc with rfl | rfl
    · rw [end_pos, end_val _ _ _ _ (by simp), h1, h3]; decide
    · rw [end_neg, end_val _ _ _ _ (by simp), h1, h2]; decide
  · rw [if_neg hi]
    have hn : nanB y = false := decide_eq_false (by unfold rung at hr; omega)
    have hin : infB y = false := decide_eq_false (by unfold rung at hi; omega)
    obtain ⟨z, hz⟩ := hz
    obtain ⟨z1, e1⟩ := addW_mod y N (by omega) (by omega)
    rw [addSt_w S y N (by omega) hn hin]
    unfold valSt
    rw [if_neg (by rw [h1, h2, h3]; simp)]
    have hv := val_le_exp (rung y) E (by omega) (by omega)
    have ha := sval_abs y
    have hp : 2 ^ M = 64 * 2 ^ (M - 6) := by rw [show (64 : Nat) = 2 ^ 6 from rfl, ← Nat.pow_add]; congr 1; omega
    have hm : 2 ^ E ≤ 2 ^ (M - 6) := Nat.pow_le_pow_right (by decide) (by omega)
    have hpos := Nat.two_pow_pos E
    obtain ⟨t1, t2⟩ := words_tell (S.w + addW y N) N M 34 (T + sval y) rfl hN hM (hA _) (by
      rw [Int.natCast_add, hz, e1, show T + z * ((2 ^ N : Nat) : Int) + (sval y + z1 * ((2 ^ N : Nat) : Int)) = T + sval y + (z + z1) * ((2 ^ N : Nat) : Int) by rw [Int.add_mul]; omega]
      exact Int.add_mul_emod_self_right _ _ _) (by omega)
    simp only [t1, t2]
    exact valOf_low _ _ _ _
theorem flags_none (xs : List Nat) (h64 : Words64 xs) : ∀ k, k ≤ xs.length → (sumOf (xs.take k)).nan = false → (sumOf (xs.take k)).pos = false → (sumOf (xs.take k)).neg = false → ∀ i, i < k → nanB (fd xs i) = false ∧ infB (fd xs i) = false := by
  intro k
  induction k with
  | zero => intro _ _ _ _ i hi; omega
  | succ k ih =>
    intro hk h1 h2 h3 i hi
    rw [sumOf_snoc xs k (by omega)] at h1 h2 h3
    have hx := h64 k (by omega)
    by_cases hs : nanB (fd xs k) = true ∨ infB (fd xs k) = true
    · exfalso
      unfold addSt at h1 h2 h3
      rw [if_pos hs] at h1 h2 h3
      simp only [Bool.or_eq_false_iff] at h1 h2 h3
      rcases hs with hs | hs
      · rw [hs] at h1; exact absurd h1.2 (by decide)
      · have q2 := of_decide_eq_false h2.2
        have q3 := of_decide_eq_false h3.2
        have := of_decide_eq_true hs
        omega
    · have hfin : nanB (fd xs k) = false ∧ infB (fd xs k) = false := by
        cases h4 : nanB (fd xs k) <;> cases h5 : infB (fd xs k) <;> simp_all
      have hst : (sumOf (xs.take k)).nan = false ∧ (sumOf (xs.take k)).pos = false ∧ (sumOf (xs.take k)).neg = false := by
        unfold addSt at h1 h2 h3
        rw [if_neg hs] at h1 h2 h3
        split at h1 <;> exact ⟨h1, by split at h2 <;> first | exact h2 | omega, by split at h3 <;> first | exact h3 | omega⟩
      by_cases hik : i = k
      · rw [hik]; exact hfin
      · exact ih (by omega) hst.1 hst.2.1 hst.2.2 i (by omega)
theorem order_le_of {a b : Nat} (ha : a ≤ b) (hb : b ≤ 9218868437227405312) : (FloatKind.f64.format.order a b == some .lt || FloatKind.f64.format.order a b == some .eq) = true := by
  have na : nanB a = false := decide_eq_false (by omega)
  have nb : nanB b = false := decide_eq_false (by omega)
  rw [order_lt (by omega) (by omega) na nb, order_eq (by omega) (by omega) na nb]
  have k : ∀ x, x ≤ 9218868437227405312 → skey x = (x : Int) := fun x hx => by unfold skey; rw [if_neg (by omega)]; omega
  rw [k a (by omega), k b hb]
  simp; omega
/-- The law: what is told of the sum without its value isn't above what is told of it without a neighbour. -/
theorem near_law (xs : List Nat) (N M E : Nat) (hN : N = 64 * 34 + 64) (hM : M = 64 * 34 + 63) (hE : E = 2100) (hA : ∀ W, absOf W = if sgOf W = true then 2 ^ N - W % 2 ^ N else W % 2 ^ N) (h64 : Words64 xs) (hl : xs.length ≤ 40)
    (x : Nat) (hv : valSt (sumOf xs) = (x, false)) (hn : nanB x = false) (hi : infB x = false) :
    x < 18446744073709551616 ∧ x % 9223372036854775808 < 9218868437227405312 ∧ (∀ i, i < xs.length → nanB (fd xs i) = false ∧ infB (fd xs i) = false) ∧
    (valSt (addSt (sumOf xs) (Op.negFloat .f64 x))).1 < 18446744073709551616 ∧ ∀ up, (valSt (addSt (sumOf xs) (Op.negFloat .f64 (nextX x up)))).1 < 18446744073709551616 ∧
      (valSt (addSt (sumOf xs) (Op.negFloat .f64 x))).1 % 9223372036854775808 ≤ (valSt (addSt (sumOf xs) (Op.negFloat .f64 (nextX x up)))).1 % 9223372036854775808 ∧
      (valSt (addSt (sumOf xs) (Op.negFloat .f64 (nextX x up)))).1 % 9223372036854775808 ≤ 9218868437227405312 := by
  have ht := sum_tot xs N E (by omega) (by omega) h64 xs.length (Nat.le_refl _)
  have hfl := flags_none xs h64 xs.length (Nat.le_refl _)
  rw [List.take_length] at ht hfl
  obtain ⟨hz, hb⟩ := ht
  generalize totF xs xs.length = T at *
  generalize sumOf xs = S at *
  have hflag : S.nan = false ∧ S.pos = false ∧ S.neg = false := by
    have hv2 := congrArg Prod.fst hv
    unfold valSt at hv2
    by_cases hc : (S.nan || S.pos || S.neg) = true
    · exfalso
      rw [if_pos hc] at hv2
      replace hv2 : specVal S.nan S.pos S.neg = x := hv2
      rw [← hv2] at hn hi
      cases h1 : S.nan <;> cases h2 : S.pos <;> cases h3 : S.neg <;> rw [h1, h2, h3] at hn hi hc <;> first | (revert hc; decide) | (revert hn; decide) | (revert hi; decide)
    · have hc := Bool.eq_false_iff.2 hc
      rw [Bool.or_eq_false_iff, Bool.or_eq_false_iff] at hc
      exact ⟨hc.1.1, hc.1.2, hc.2⟩
  obtain ⟨f1, f2, f3⟩ := hflag
  have hfin := hfl f1 f2 f3
  have hT : T.natAbs ≤ 40 * 2 ^ E := Nat.le_trans hb (Nat.mul_le_mul_right _ hl)
  have hp : 2 ^ M = 64 * 2 ^ (M - 6) := by rw [show (64 : Nat) = 2 ^ 6 from rfl, ← Nat.pow_add]; congr 1; omega
  have hm : 2 ^ E ≤ 2 ^ (M - 6) := Nat.pow_le_pow_right (by decide) (by omega)
  have hpos := Nat.two_pow_pos E
  have hvv : valSt S = valOf (decide (T < 0)) T.natAbs S.any S.other := by
    unfold valSt
    rw [if_neg (by rw [f1, f2, f3]; simp)]
    obtain ⟨z, hz⟩ := hz
    obtain ⟨t1, t2⟩ := words_tell S.w N M 34 T rfl hN hM (hA _) (by rw [hz]; exact Int.add_mul_emod_self_right _ _ _) (by omega)
    simp only [t1, t2]
  obtain ⟨l1, l2⟩ := valOf_low (decide (T < 0)) T.natAbs S.any S.other
  have l3 := fun h => valOf_sign (decide (T < 0)) T.natAbs S.any S.other h
  rw [← hvv, hv] at l1 l2 l3
  have hi2 := of_decide_eq_false hi
  have hxl : x % 9223372036854775808 < 9218868437227405312 := by
    replace l1 : x % 9223372036854775808 = min (rungOf T.natAbs) 9218868437227405312 := l1
    omega
  have hxr : rung x = rungOf T.natAbs := by
    replace l1 : x % 9223372036854775808 = min (rungOf T.natAbs) 9218868437227405312 := l1
    unfold rung; omega
  obtain ⟨d1, d2, d3⟩ := neg_rung x l2
  obtain ⟨e1, e2⟩ := near_val S N M E hN hM hE hA T hz hT f1 f2 f3 (Op.negFloat .f64 x) d1 (by rw [d2]; unfold rung; omega)
  refine ⟨l2, hxl, hfin, e2, fun up => ?_⟩
  obtain ⟨k1, k2⟩ := nextX_lt x up l2 hxl
  obtain ⟨u1, u2, u3⟩ := neg_rung (nextX x up) k1
  obtain ⟨v1, v2⟩ := near_val S N M E hN hM hE hA T hz hT f1 f2 f3 (Op.negFloat .f64 (nextX x up)) u1 (by rw [u2]; exact k2)
  rw [d2, d3, if_neg (by unfold rung; omega)] at e1
  rw [u2, u3] at v1
  refine ⟨v2, ?_, ?_⟩
  · rw [e1, v1]
    split
    · omega
    · have := rung_mono (near_next T x up l2 hxr (fun h => l3 (by omega)) (by unfold rung; omega))
      rw [← Int.sub_eq_add_neg, ← Int.sub_eq_add_neg]
      omega
  · rw [v1]; split <;> omega
end Go.Proofs.Ytejkilgpcbdepaa
