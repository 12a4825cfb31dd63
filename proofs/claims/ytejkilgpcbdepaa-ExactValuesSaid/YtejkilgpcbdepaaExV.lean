import Derived.Test.YtejkilgpcbdepaaExQ
/-! Exact sums: the value is the nearest number: the plain law. -/
namespace Go.Proofs.Ytejkilgpcbdepaa
set_option linter.unusedVariables false

theorem val_low {A : Nat} (h : A < 9007199254740992) : val A = A := by
  unfold val
  by_cases h0 : A / 4503599627370496 = 0
  · rw [if_pos h0]; omega
  · rw [if_neg h0, show A / 4503599627370496 - 1 = 0 by omega, Nat.pow_zero]; omega
theorem val_rung (q s : Nat) (h1 : 4503599627370496 ≤ q) (h2 : q ≤ 9007199254740992) : val (s * 4503599627370496 + q) = q * 2 ^ s := by
  unfold val
  rw [if_neg (by omega)]
  by_cases h : q = 9007199254740992
  · subst h
    rw [show (s * 4503599627370496 + 9007199254740992) / 4503599627370496 - 1 = s + 1 by omega, show (s * 4503599627370496 + 9007199254740992) % 4503599627370496 = 0 by omega, Nat.pow_succ]
    generalize 2 ^ s = P
    omega
  · rw [show (s * 4503599627370496 + q) / 4503599627370496 - 1 = s by omega, show 4503599627370496 + (s * 4503599627370496 + q) % 4503599627370496 = q by omega]
/-- The number that is told lies nearest: it is not past the middle between its neighbours and it. -/
theorem near_core (A : Nat) : 2 * A ≤ val (rungOf A) + val (rungOf A + 1) ∧ (0 < rungOf A → val (rungOf A - 1) + val (rungOf A) ≤ 2 * A) := by
  have hup := val_step (rungOf A)
  by_cases hs : A < 9007199254740992
  · have hr : rungOf A = A := by unfold rungOf; rw [if_pos hs]
    rw [hr] at hup ⊢
    rw [val_low hs] at hup ⊢
    refine ⟨by omega, fun h0 => ?_⟩
    rw [val_low (by omega : A - 1 < 9007199254740992)]; omega
  · have h0 : A ≠ 0 := by omega
    have h53 : 53 ≤ A.log2 := (Nat.le_log2 h0).2 (by omega)
    have hr : rungOf A = (A.log2 - 52) * 4503599627370496 + (A / 2 ^ (A.log2 - 52) + (upB A (A.log2 - 52)).toNat) := by unfold rungOf; rw [if_neg hs]
    have hub := up_cut A (A.log2 - 52) (by omega)
    have hlo : 2 ^ A.log2 ≤ A := Nat.log2_self_le h0
    have hhi : A < 2 ^ (A.log2 + 1) := Nat.lt_log2_self
    obtain ⟨s, hsd⟩ : ∃ s, s = A.log2 - 52 := ⟨_, rfl⟩
    have e1 : 2 ^ A.log2 = 4503599627370496 * 2 ^ s := by rw [show (4503599627370496 : Nat) = 2 ^ 52 from rfl, ← Nat.pow_add]; congr 1; omega
    have e2 : 2 ^ (A.log2 + 1) = 9007199254740992 * 2 ^ s := by rw [show (9007199254740992 : Nat) = 2 ^ 53 from rfl, ← Nat.pow_add]; congr 1; omega
    rw [← hsd] at hr hub
    rw [e1] at hlo
    rw [e2] at hhi
    have hp := Nat.two_pow_pos s
    have hq1 : 4503599627370496 ≤ A / 2 ^ s := (Nat.le_div_iff_mul_le hp).2 hlo
    have hq2 : A / 2 ^ s < 9007199254740992 := (Nat.div_lt_iff_lt_mul hp).2 hhi
    have ht := Nat.mod_lt A hp
    have hA : A / 2 ^ s * 2 ^ s + A % 2 ^ s = A := by rw [Nat.mul_comm]; exact Nat.div_add_mod A (2 ^ s)
    have v0 := val_rung (A / 2 ^ s) s hq1 (by omega)
    have v1 := val_rung (A / 2 ^ s + 1) s (by omega) (by omega)
    rw [Nat.add_mul, Nat.one_mul] at v1
    generalize A / 2 ^ s = q at *
    generalize A % 2 ^ s = t at *
    generalize hu : upB A s = u at *
    rw [hr] at hup ⊢
    generalize s * 4503599627370496 = K at *
    generalize 2 ^ s = P at *
    generalize q * P = QP at *
    clear hr hlo hhi e1 e2 hu hs h0 h53
    cases u
    · have hub := hub.symm
      simp only [Bool.or_eq_false_iff, decide_eq_false_iff_not] at hub
      obtain ⟨hub, -⟩ := hub
      have ed : K + (q + false.toNat) = K + q := by rw [Bool.toNat_false, Nat.add_zero]
      rw [ed] at hup ⊢
      rw [show K + q + 1 = K + (q + 1) by omega, v0, v1]
      refine ⟨by omega, fun h => ?_⟩
      have hd : val (K + q - 1) < val (K + q) := val_lt (by omega)
      rw [v0] at hd
      omega
    · have hub := hub.symm
      have hub2 : P ≤ 2 * t := by
        simp only [Bool.or_eq_true, Bool.and_eq_true, decide_eq_true_eq] at hub
        omega
      have ed : K + (q + true.toNat) = K + (q + 1) := by rw [Bool.toNat_true]
      rw [ed] at hup ⊢
      rw [show K + (q + 1) - 1 = K + q by omega]
      rw [v1] at hup ⊢
      rw [v0]
      exact ⟨by omega, fun _ => by omega⟩
theorem val_mono {r s : Nat} (h : r ≤ s) : val r ≤ val s := by
  by_cases e : r = s
  · subst e; exact Nat.le_refl _
  · exact Nat.le_of_lt (val_lt (by omega))
theorem rung_mono {A B : Nat} (h : A ≤ B) : rungOf A ≤ rungOf B := by
  by_cases hc : rungOf A ≤ rungOf B
  · exact hc
  · obtain ⟨-, a⟩ := near_core A
    obtain ⟨b, -⟩ := near_core B
    have a := a (by omega)
    have m1 : val (rungOf B) ≤ val (rungOf A - 1) := val_mono (by omega)
    have m2 : val (rungOf B + 1) ≤ val (rungOf A) := val_mono (by omega)
    have : A = B := by omega
    subst this
    omega
theorem rung_zero {A : Nat} (h : rungOf A = 0) : A = 0 := by
  by_cases hs : A < 9007199254740992
  · have hr : rungOf A = A := by unfold rungOf; rw [if_pos hs]
    omega
  · obtain ⟨a, -⟩ := near_core A
    rw [h] at a
    rw [show val 0 = 0 by decide, show val (0 + 1) = 1 by decide] at a
    omega
/-- The next number, of noughts too. -/
def nextX (x : Nat) (up : Bool) : Nat := if x % 9223372036854775808 = 0 then (if up = true then 1 else 9223372036854775809) else if decide (9223372036854775808 ≤ x) = up then x - 1 else x + 1
theorem nextX_lt (x : Nat) (up : Bool) (hx : x < 18446744073709551616) (hf : x % 9223372036854775808 < 9218868437227405312) : nextX x up < 18446744073709551616 ∧ rung (nextX x up) ≤ 9218868437227405312 := by
  unfold nextX rung
  constructor
  · repeat' split
    all_goals omega
  · repeat' split
    all_goals omega
/-- No next number lies nearer. -/
theorem near_next (T : Int) (x : Nat) (up : Bool) (hx : x < 18446744073709551616) (hr : rung x = rungOf T.natAbs) (hs : T ≠ 0 → negB x = decide (T < 0)) (hf : rung x < 9218868437227405312) :
    (T - sval x).natAbs ≤ (T - sval (nextX x up)).natAbs := by
  by_cases h0 : rung x = 0
  · have : T = 0 := by have := rung_zero (hr.symm.trans h0); omega
    subst this
    have : sval x = 0 := by unfold sval; rw [h0, show val 0 = 0 by decide]; cases negB x <;> rfl
    rw [this]; simp
  · have hT : T ≠ 0 := by
      intro h; subst h
      rw [show (0 : Int).natAbs = 0 from rfl, show rungOf 0 = 0 by decide] at hr
      exact h0 hr
    have hs := hs hT
    obtain ⟨n1, n2⟩ := near_core T.natAbs
    rw [← hr] at n1 n2
    have n2 := n2 (by omega)
    have m1 := val_step (rung x)
    have m2 : val (rung x - 1) < val (rung x) := val_lt (by omega)
    have hnb := negB_eq hx
    have hrx : rung x = x % 9223372036854775808 := rfl
    have hb : ∀ y, y < 18446744073709551616 → negB y = decide (9223372036854775808 ≤ y) := fun y hy => negB_eq hy
    unfold nextX
    rw [if_neg (by omega)]
    by_cases hn : 9223372036854775808 ≤ x
    · rw [decide_eq_true hn] at hnb ⊢
      have hTn : T < 0 := by rw [hnb] at hs; exact of_decide_eq_true hs.symm
      have sx : sval x = -(val (rung x) : Int) := by unfold sval; rw [hnb]; rfl
      cases up
      · have sy : sval (x + 1) = -(val (rung x + 1) : Int) := by
          unfold sval; rw [hb _ (by omega), decide_eq_true (by omega), show rung (x + 1) = rung x + 1 by unfold rung at *; omega]; rfl
        rw [if_neg (by simp), sx, sy]; omega
      · have sy : sval (x - 1) = -(val (rung x - 1) : Int) := by
          unfold sval; rw [hb _ (by omega), decide_eq_true (by omega), show rung (x - 1) = rung x - 1 by unfold rung at *; omega]; rfl
        rw [if_pos rfl, sx, sy]; omega
    · rw [decide_eq_false hn] at hnb ⊢
      have hTn : ¬ T < 0 := by rw [hnb] at hs; exact of_decide_eq_false hs.symm
      have sx : sval x = (val (rung x) : Int) := by unfold sval; rw [hnb]; rfl
      cases up
      · have sy : sval (x - 1) = (val (rung x - 1) : Int) := by
          unfold sval; rw [hb _ (by omega), decide_eq_false (by omega), show rung (x - 1) = rung x - 1 by unfold rung at *; omega]; rfl
        rw [if_pos rfl, sx, sy]; omega
      · have sy : sval (x + 1) = (val (rung x + 1) : Int) := by
          unfold sval; rw [hb _ (by omega), decide_eq_false (by omega), show rung (x + 1) = rung x + 1 by unfold rung at *; omega]; rfl
        rw [if_neg (by simp), sx, sy]; omega
/-- The whole number that is summed: of what is finite. -/
def fsv (x : Nat) : Int := if (nanB x || infB x) = true then 0 else sval x
def totF (xs : List Nat) : Nat → Int
  | 0 => 0
  | k + 1 => totF xs k + fsv (fd xs k)
theorem val_le_exp (r E : Nat) (hr : r < 9218868437227405312) (hE : 2100 ≤ E) : val r ≤ 2 ^ E := by
  rw [val_mag]
  have h1 : upOf r ≤ 2045 := by unfold upOf; omega
  exact fin_le (magOf r) (upOf r) E (mag_lt r) (by omega)
theorem addSt_some (s : St) (x : Nat) (h : (nanB x || infB x) = true) : (addSt s x).w = s.w := by
  unfold addSt
  rw [if_pos (by simpa using h)]
theorem sum_tot (xs : List Nat) (N E : Nat) (hN : N = 2240) (hE : 2100 ≤ E) (h64 : Words64 xs) : ∀ k, k ≤ xs.length → (∃ z : Int, ((sumOf (xs.take k)).w : Int) = totF xs k + z * ((2 ^ N : Nat) : Int)) ∧ (totF xs k).natAbs ≤ k * 2 ^ E := by
  intro k
  induction k with
  | zero => intro _; exact ⟨⟨0, by simp [sumOf, noSt, totF]⟩, by simp [totF]⟩
  | succ k ih =>
    intro hk
    obtain ⟨⟨z, hz⟩, hb⟩ := ih (by omega)
    rw [sumOf_snoc xs k (by omega)]
    have hx := h64 k (by omega)
    show (∃ z : Int, _ = totF xs k + fsv (fd xs k) + _) ∧ (totF xs k + fsv (fd xs k)).natAbs ≤ _
    generalize fd xs k = x at *
    rw [Nat.add_mul, Nat.one_mul]
    by_cases hs : (nanB x || infB x) = true
    · rw [addSt_some _ x hs]
      unfold fsv; rw [if_pos hs, Int.add_zero]
      exact ⟨⟨z, hz⟩, Nat.le_trans hb (Nat.le_add_right _ _)⟩
    · obtain ⟨hn, hi⟩ := Bool.or_eq_false_iff.1 (Bool.eq_false_iff.2 hs)
      have hr := fin_rung hx hn hi
      obtain ⟨z1, e1⟩ := addW_mod x N hr (Nat.le_of_eq hN.symm)
      rw [addSt_w _ x N hN hn hi]
      unfold fsv; rw [if_neg hs]
      have ha := sval_abs x
      have hv := val_le_exp (rung x) E hr hE
      refine ⟨⟨z + z1, ?_⟩, by clear hz e1 hN; omega⟩
      show (((sumOf (xs.take k)).w + addW x N : Nat) : Int) = _
      rw [Int.natCast_add, hz, e1, Int.add_mul]; omega
/-- What a sum tells that has only finite numbers, its sign taken off. -/
theorem valOf_low (sg : Bool) (A : Nat) (an ot : Bool) : (valOf sg A an ot).1 % 9223372036854775808 = min (rungOf A) 9218868437227405312 ∧ (valOf sg A an ot).1 < 18446744073709551616 := by
  unfold valOf
  by_cases h0 : A = 0
  · subst h0
    rw [if_pos rfl, show rungOf 0 = 0 by decide]
    cases an <;> cases ot <;> decide
  · rw [if_neg h0]
    by_cases hs : A < 9007199254740992
    · have hr : rungOf A = A := by unfold rungOf; rw [if_pos hs]
      rw [if_pos hs, hr]
      cases sg <;> simp <;> omega
    · rw [if_neg hs]
      by_cases hi : 2047 * 4503599627370496 ≤ rungOf A
      · rw [if_pos hi]
        cases sg <;> simp <;> omega
      · rw [if_neg hi]
        cases sg <;> simp <;> omega
theorem valOf_sign (sg : Bool) (A : Nat) (an ot : Bool) (h0 : A ≠ 0) : negB (valOf sg A an ot).1 = sg := by
  obtain ⟨-, h2⟩ := valOf_low sg A an ot
  rw [negB_eq h2]
  unfold valOf
  rw [if_neg h0]
  by_cases hs : A < 9007199254740992
  · rw [if_pos hs]
    cases sg <;> simp <;> omega
  · rw [if_neg hs]
    by_cases hi : 2047 * 4503599627370496 ≤ rungOf A
    · rw [if_pos hi]
      cases sg <;> simp
    · rw [if_neg hi]
      cases sg <;> simp <;> omega
end Go.Proofs.Ytejkilgpcbdepaa
