import Derived.Test.YtejkilgpcbdepaaExP
/-! Exact sums: of two numbers the sum is what the machine's addition says. -/
namespace Go.Proofs.Ytejkilgpcbdepaa
open Go.RowKit
set_option linter.unusedVariables false
open Ieee

theorem signed_scale (ng : Bool) (m u b : Nat) (h : b ≤ u) : signed ng m (u - b) * ((2 ^ b : Nat) : Int) = if ng = true then -((m * 2 ^ u : Nat) : Int) else ((m * 2 ^ u : Nat) : Int) := by
  unfold signed
  have e : ((m <<< (u - b) : Nat) : Int) * ((2 ^ b : Nat) : Int) = ((m * 2 ^ u : Nat) : Int) := by
    rw [← Int.natCast_mul, Nat.shiftLeft_eq, Nat.mul_assoc, ← Nat.pow_add, show u - b + b = u by omega]
  cases ng
  · simp only [Bool.false_eq_true, if_false]; exact e
  · simp only [if_true]; rw [Int.neg_mul, e]
/-- What the machine's addition says of two finite numbers. -/
theorem add_word (x y : Nat) (hx : rung x < 9218868437227405312) (hy : rung y < 9218868437227405312) :
    double.add x y = some (if sval x + sval y = 0 then double.word (negB x && negB y) 0 else double.nearest (decide (sval x + sval y < 0)) (sval x + sval y).natAbs (-1074)) := by
  unfold Format.add
  rw [read_mag hx, read_mag hy]
  simp only [Datum.sum, Option.map_some, Format.write]
  congr 1
  have hb : min (-1074 + (upOf (rung x) : Int)) (-1074 + (upOf (rung y) : Int)) = -1074 + ((min (upOf (rung x)) (upOf (rung y)) : Nat) : Int) := by omega
  rw [hb]
  obtain ⟨b, hbd⟩ : ∃ b, b = min (upOf (rung x)) (upOf (rung y)) := ⟨_, rfl⟩
  rw [← hbd]
  have i1 : ((-1074 : Int) + (upOf (rung x) : Int) - (-1074 + (b : Int))).toNat = upOf (rung x) - b := by omega
  have i2 : ((-1074 : Int) + (upOf (rung y) : Int) - (-1074 + (b : Int))).toNat = upOf (rung y) - b := by omega
  rw [i1, i2]
  have s1 := signed_scale (negB x) (magOf (rung x)) (upOf (rung x)) b (by omega)
  have s2 := signed_scale (negB y) (magOf (rung y)) (upOf (rung y)) b (by omega)
  rw [← val_mag] at s1 s2
  have hT : (signed (negB x) (magOf (rung x)) (upOf (rung x) - b) + signed (negB y) (magOf (rung y)) (upOf (rung y) - b)) * ((2 ^ b : Nat) : Int) = sval x + sval y := by
    rw [Int.add_mul, s1, s2]; rfl
  generalize signed (negB x) (magOf (rung x)) (upOf (rung x) - b) + signed (negB y) (magOf (rung y)) (upOf (rung y) - b) = t at *
  have hp : (0 : Int) < ((2 ^ b : Nat) : Int) := by have := Nat.two_pow_pos b; omega
  rw [← hT]
  by_cases h0 : t = 0
  · subst h0
    rw [Int.zero_mul, if_pos rfl, if_pos rfl]
    unfold Format.nearest
    rfl
  · have hne : t * ((2 ^ b : Nat) : Int) ≠ 0 := Int.mul_ne_zero h0 (by omega)
    rw [if_neg hne, if_neg h0, Int.natAbs_mul, Int.natAbs_natCast, near_scale _ _ _ (by omega)]
    congr 1
    rw [Bool.eq_iff_iff]
    simp only [decide_eq_true_eq]
    constructor
    · intro h; exact Int.mul_neg_of_neg_of_pos h hp
    · intro h
      by_cases g : t < 0
      · exact g
      · have := Int.mul_nonneg (Int.not_lt.1 g) (Int.le_of_lt hp); omega

/-- What a finite number adds to the words. -/
def addW (x N : Nat) : Nat := if rung x = 0 then 0 else if negB x = true then 2 ^ N - val (rung x) else val (rung x)
theorem addW_mod (x N : Nat) (hx : rung x < 9218868437227405312) (hN : 2240 ≤ N) : ∃ z : Int, (addW x N : Int) = sval x + z * ((2 ^ N : Nat) : Int) := by
  have hv := val_le_pow (rung x) N hx hN
  unfold addW sval
  by_cases h0 : rung x = 0
  · rw [if_pos h0, h0, val_zero]
    exact ⟨0, by cases negB x <;> simp⟩
  · rw [if_neg h0]
    generalize val (rung x) = v at *
    generalize 2 ^ N = K at *
    cases negB x
    · exact ⟨0, by simp⟩
    · exact ⟨1, by simp; omega⟩
theorem addSt_finN (s : St) (x N : Nat) (hN : N = 2240) (hn : nanB x = false) (hi : infB x = false) : addSt s x = if rung x = 0 then { s with any := true, other := s.other || !negB x } else { s with w := s.w + (if negB x = true then 2 ^ N - val (rung x) else val (rung x)), any := true, other := true } := by
  rw [hN]; exact addSt_fin s x hn hi
theorem addSt_w (s : St) (x N : Nat) (hN : N = 2240) (hn : nanB x = false) (hi : infB x = false) : addSt s x = { s with w := s.w + addW x N, any := true, other := s.other || (!decide (rung x = 0) || !negB x) } := by
  rw [addSt_finN s x N hN hn hi]
  clear hN
  unfold addW
  generalize 2 ^ N = K
  by_cases h0 : rung x = 0
  · rw [if_pos h0, if_pos h0, decide_eq_true h0]; simp
  · rw [if_neg h0, if_neg h0, decide_eq_false h0]; simp
theorem zero_sign (x y : Nat) (h0 : sval x + sval y = 0) : (true && !((!decide (rung x = 0) || !negB x) || (!decide (rung y = 0) || !negB y))) = (negB x && negB y) := by
  have px : rung x ≠ 0 → 0 < val (rung x) := fun h => val_pos (by omega)
  have py : rung y ≠ 0 → 0 < val (rung y) := fun h => val_pos (by omega)
  have qx : rung x = 0 → val (rung x) = 0 := fun h => by rw [h]; exact val_zero
  have qy : rung y = 0 → val (rung y) = 0 := fun h => by rw [h]; exact val_zero
  unfold sval at h0
  generalize val (rung x) = a at *
  generalize val (rung y) = b at *
  by_cases zx : rung x = 0
  · have ha := qx zx
    by_cases zy : rung y = 0
    · rw [decide_eq_true zx, decide_eq_true zy]
      cases negB x <;> cases negB y <;> rfl
    · have hb := py zy
      rw [ha] at h0
      exfalso
      cases h1 : negB x <;> cases h2 : negB y <;> rw [h1, h2] at h0 <;> simp at h0 <;> omega
  · have ha := px zx
    rw [decide_eq_false zx]
    cases h1 : negB x <;> cases h2 : negB y <;> rw [h1, h2] at h0 <;> simp at h0 ⊢ <;> omega
theorem valOf_zero (sg ot : Bool) : valOf sg 0 true ot = (if (true && !ot) = true then 9223372036854775808 else 0, false) := rfl
theorem fin_rung {x : Nat} (hx : x < 18446744073709551616) (hn : nanB x = false) (hi : infB x = false) : rung x < 9218868437227405312 := by
  have h1 := of_decide_eq_false hn
  have h2 := of_decide_eq_false hi
  have hr0 : rung x = x % 9223372036854775808 := rfl
  omega
theorem val_lt_pow (r M : Nat) (hr : r < 9218868437227405312) (hM : 2239 ≤ M) : 2 * val r < 2 ^ M := by
  rw [val_mag]
  have h1 : upOf r ≤ 2045 := by unfold upOf; omega
  have h2 := fin_le (magOf r) (upOf r) (M - 2) (mag_lt r) (by omega)
  have h3 : 2 ^ M = 4 * 2 ^ (M - 2) := by rw [show (4 : Nat) = 2 ^ 2 from rfl, ← Nat.pow_add]; congr 1; omega
  have := Nat.two_pow_pos (M - 2)
  omega
theorem sval_abs (x : Nat) : (sval x).natAbs = val (rung x) := by unfold sval; cases negB x <;> simp
theorem word_eq' (sg : Bool) (r : Nat) : double.word sg r = (if sg = true then 9223372036854775808 else 0) + r := by
  have h : double.signWeight = 9223372036854775808 := by decide
  unfold Format.word
  rw [h]
  cases sg <;> simp
/-- Of two finite numbers the sum tells what the machine's addition says. -/
theorem two_val (x y N M : Nat) (hN : N = 64 * 34 + 64) (hM : M = 64 * 34 + 63) (hx : x < 18446744073709551616) (hy : y < 18446744073709551616) (nx : nanB x = false) (ny : nanB y = false) (ix : infB x = false) (iy : infB y = false)
    (hA : ∀ W, absOf W = if sgOf W = true then 2 ^ N - W % 2 ^ N else W % 2 ^ N) :
    ∃ r, double.add x y = some r ∧ r < 18446744073709551616 ∧ valSt (sumOf [x, y]) = (r, infB r) := by
  have rx := fin_rung hx nx ix
  have ry := fin_rung hy ny iy
  obtain ⟨z1, e1⟩ := addW_mod x N rx (by omega)
  obtain ⟨z2, e2⟩ := addW_mod y N ry (by omega)
  have hS : sumOf [x, y] = { w := addW x N + addW y N, nan := false, pos := false, neg := false, any := true, other := (!decide (rung x = 0) || !negB x) || (!decide (rung y = 0) || !negB y) } := by
    show addSt (addSt noSt x) y = _
    rw [addSt_w noSt x N (by omega) nx ix, addSt_w _ y N (by omega) ny iy]
    simp [noSt]
  have hmod : ((addW x N + addW y N : Nat) : Int) % ((2 ^ N : Nat) : Int) = (sval x + sval y) % ((2 ^ N : Nat) : Int) := by
    rw [Int.natCast_add, e1, e2]
    rw [show sval x + z1 * ((2 ^ N : Nat) : Int) + (sval y + z2 * ((2 ^ N : Nat) : Int)) = sval x + sval y + (z1 + z2) * ((2 ^ N : Nat) : Int) by rw [Int.add_mul]; omega]
    exact Int.add_mul_emod_self_right _ _ _
  have hab : (sval x + sval y).natAbs < 2 ^ M := by
    have a1 := val_lt_pow (rung x) M rx (by omega)
    have a2 := val_lt_pow (rung y) M ry (by omega)
    have a3 := sval_abs x
    have a4 := sval_abs y
    omega
  obtain ⟨t1, t2⟩ := words_tell (addW x N + addW y N) N M 34 (sval x + sval y) rfl hN hM (hA _) hmod hab
  rw [add_word x y rx ry]
  refine ⟨_, rfl, ?_⟩
  have hv : valSt (sumOf [x, y]) = valOf (decide (sval x + sval y < 0)) (sval x + sval y).natAbs true ((!decide (rung x = 0) || !negB x) || (!decide (rung y = 0) || !negB y)) := by
    rw [hS]; unfold valSt
    rw [if_neg (by simp)]
    simp only [t1, t2]
  rw [hv]
  by_cases h0 : sval x + sval y = 0
  · rw [if_pos h0, h0, word_eq']
    have hb := zero_sign x y h0
    rw [show (0 : Int).natAbs = 0 from rfl, valOf_zero, hb]
    cases negB x <;> cases negB y <;> exact ⟨by decide, by decide⟩
  · have hne : (sval x + sval y).natAbs ≠ 0 := by omega
    rw [if_neg h0, near_rung _ _ hne, word_eq']
    generalize (sval x + sval y).natAbs = A at *
    generalize decide (sval x + sval y < 0) = sg
    unfold valOf
    rw [if_neg hne]
    by_cases hs : A < 9007199254740992
    · have hr : rungOf A = A := by unfold rungOf; rw [if_pos hs]
      rw [if_pos hs, hr, Nat.min_eq_left (by omega)]
      refine ⟨by cases sg <;> simp <;> omega, ?_⟩
      rw [show infB ((if sg = true then 9223372036854775808 else 0) + A) = false by unfold infB; cases sg <;> simp <;> omega]
    · rw [if_neg hs]
      by_cases hi : 2047 * 4503599627370496 ≤ rungOf A
      · rw [if_pos hi, Nat.min_eq_right (by omega)]
        cases sg <;> exact ⟨by decide, by decide⟩
      · rw [if_neg hi, Nat.min_eq_left (by omega)]
        refine ⟨by cases sg <;> simp <;> omega, ?_⟩
        rw [show infB ((if sg = true then 9223372036854775808 else 0) + rungOf A) = false by unfold infB; cases sg <;> simp <;> omega]
end Go.Proofs.Ytejkilgpcbdepaa
