import Derived.Test.YthplelglifnhoaaVf
import Derived.Test.YthplelglifnhoaaJb
import Derived.Deep.DeepCutAuto
import Derived.Deep.CutBlock
/-! Exact sums: the document's answer: the nearest number: the plain law. -/
namespace Go.Proofs.Ythplelglifnhoaa
open Go.RowKit
set_option linter.unusedVariables false

/-- The greatest number that is not above. -/
def dnOf (A : Nat) : Nat := if A < 9007199254740992 then A else (A.log2 - 52) * 4503599627370496 + A / 2 ^ (A.log2 - 52)
theorem dn_near (A : Nat) : val (dnOf A) ≤ A ∧ A < val (dnOf A + 1) ∧ rungOf A = if val (dnOf A + 1) - A < A - val (dnOf A) ∨ (¬ A - val (dnOf A) < val (dnOf A + 1) - A ∧ dnOf A % 2 = 1) then dnOf A + 1 else dnOf A := by
  by_cases hs : A < 9007199254740992
  · have hr : rungOf A = A := by unfold rungOf; rw [if_pos hs]
    have hd : dnOf A = A := by unfold dnOf; rw [if_pos hs]
    have hup := val_step A
    rw [hr, hd, val_low hs] at *
    rw [if_neg (by omega)]
    exact ⟨Nat.le_refl _, by omega, rfl⟩
  · have h0 : A ≠ 0 := by omega
    have h53 : 53 ≤ A.log2 := (Nat.le_log2 h0).2 (by omega)
    have hr : rungOf A = (A.log2 - 52) * 4503599627370496 + (A / 2 ^ (A.log2 - 52) + (upB A (A.log2 - 52)).toNat) := by unfold rungOf; rw [if_neg hs]
    have hd : dnOf A = (A.log2 - 52) * 4503599627370496 + A / 2 ^ (A.log2 - 52) := by unfold dnOf; rw [if_neg hs]
    have hub := up_cut A (A.log2 - 52) (by omega)
    have hlo : 2 ^ A.log2 ≤ A := Nat.log2_self_le h0
    have hhi : A < 2 ^ (A.log2 + 1) := Nat.lt_log2_self
    obtain ⟨s, hsd⟩ : ∃ s, s = A.log2 - 52 := ⟨_, rfl⟩
    have e1 : 2 ^ A.log2 = 4503599627370496 * 2 ^ s := by rw [show (4503599627370496 : Nat) = 2 ^ 52 from rfl, ← Nat.pow_add]; congr 1; omega
    have e2 : 2 ^ (A.log2 + 1) = 9007199254740992 * 2 ^ s := by rw [show (9007199254740992 : Nat) = 2 ^ 53 from rfl, ← Nat.pow_add]; congr 1; omega
    rw [← hsd] at hr hub hd
    rw [e1] at hlo
    rw [e2] at hhi
    have hp := Nat.two_pow_pos s
    have hq1 : 4503599627370496 ≤ A / 2 ^ s := (Nat.le_div_iff_mul_le hp).2 hlo
    have hq2 : A / 2 ^ s < 9007199254740992 := (Nat.div_lt_iff_lt_mul hp).2 hhi
    have ht := Nat.mod_lt A hp
    have hA : A / 2 ^ s * 2 ^ s + A % 2 ^ s = A := by rw [Nat.mul_comm]; exact Nat.div_add_mod A (2 ^ s)
    have v0 := val_rung (A / 2 ^ s) s hq1 (by omega)
    have v1 := val_rung (A / 2 ^ s + 1) s (by omega) (by omega)
    rw [Nat.add_mul, Nat.one_mul] at v1
    have hpar : (s * 4503599627370496 + A / 2 ^ s) % 2 = A / 2 ^ s % 2 := by omega
    rw [hd, hr, show s * 4503599627370496 + A / 2 ^ s + 1 = s * 4503599627370496 + (A / 2 ^ s + 1) by omega, v0, v1, hpar]
    generalize A / 2 ^ s = q at *
    generalize A % 2 ^ s = t at *
    generalize hu : upB A s = u at *
    generalize s * 4503599627370496 = K at *
    generalize 2 ^ s = P at *
    generalize q * P = QP at *
    clear hr hlo hhi e1 e2 hu hs h0 h53 hd v0 v1
    refine ⟨by omega, by omega, ?_⟩
    have hub := hub.symm
    cases u
    · simp only [Bool.or_eq_false_iff, Bool.and_eq_false_iff, decide_eq_false_iff_not] at hub
      rw [if_neg (by omega)]; rfl
    · simp only [Bool.or_eq_true, Bool.and_eq_true, decide_eq_true_eq] at hub
      rw [if_pos (by omega)]
      simp only [Bool.toNat_true]
/-- The highest bit below a place. -/
def topB (A i : Nat) : Int := if A % 2 ^ i = 0 then -1 else ((A % 2 ^ i).log2 : Int)
theorem topB_zero (A : Nat) : topB A 0 = -1 := by unfold topB; simp [Nat.mod_one]
theorem topB_step (A i : Nat) : topB A (i + 1) = if bit A i = 1 then (i : Int) else topB A i := by
  have hp := Nat.two_pow_pos i
  have e : A % 2 ^ (i + 1) = 2 ^ i * bit A i + A % 2 ^ i := by rw [Nat.pow_succ, mod_split]; rfl
  have h1 := Nat.mod_lt A hp
  have h2 := bit_lt A i
  unfold topB
  by_cases h : bit A i = 1
  · rw [if_pos h, e, h, Nat.mul_one]
    have hl : (2 ^ i + A % 2 ^ i).log2 = i := by
      rw [Nat.log2_eq_iff (by omega), Nat.pow_succ]; omega
    rw [if_neg (by omega), hl]
  · rw [if_neg h, e, show bit A i = 0 by omega, Nat.mul_zero, Nat.zero_add]
theorem topB_all (A N : Nat) (hA : A < 2 ^ N) : topB A N = if A = 0 then -1 else (A.log2 : Int) := by
  unfold topB; rw [Nat.mod_eq_of_lt hA]
/-- One bit more, of a low number. -/
theorem low_step (A t : Nat) : A / 2 ^ (t + 1) * 2 ^ (t + 1) + bit A t * 2 ^ t = A / 2 ^ t * 2 ^ t := by
  unfold bit
  rw [Nat.pow_succ, ← Nat.div_div_eq_div_mul, Nat.mul_comm (2 ^ t) 2, ← Nat.mul_assoc, ← Nat.add_mul]
  congr 1; omega
/-- One bit more, of a great number. -/
theorem great_step (A t u : Nat) : A / 2 ^ (t + 1) * 2 ^ (u + 1) + bit A t * 2 ^ u = A / 2 ^ t * 2 ^ u := by
  unfold bit
  rw [Nat.pow_succ, Nat.pow_succ, ← Nat.div_div_eq_div_mul, Nat.mul_comm (2 ^ u) 2, ← Nat.mul_assoc, ← Nat.add_mul]
  congr 1; omega
theorem div_pow2 (W a b : Nat) : W / 2 ^ (a + b) = W / 2 ^ a / 2 ^ b := by rw [Nat.div_div_eq_div_mul, ← Nat.pow_add]
theorem mod_top (W n : Nat) : W % 2 ^ (n + 1) = 2 ^ n * bit W n + W % 2 ^ n := by rw [Nat.pow_succ, mod_split]; rfl
theorem two_top (n : Nat) : 2 ^ (n + 1) = 2 * 2 ^ n := by rw [Nat.pow_succ, Nat.mul_comm]
theorem sg_bit (W N : Nat) (hN : N = 2240) : (bit W 2239 = 1 ↔ sgOf W = true) ∧ bit W 2239 < 2 ∧ (sgOf W = true → 2 ^ N ≤ 2 * (W % 2 ^ N)) ∧ (sgOf W = false → 2 * (W % 2 ^ N) < 2 ^ N) := by
  have h2 := bit_lt W 2239
  have hb : bit W 2239 = 1 ↔ sgOf W = true := by
    unfold sgOf bit wdn
    rw [decide_eq_true_eq]
    have e := div_pow2 W (64 * 34) 63
    rw [show 64 * 34 + 63 = 2239 from rfl] at e
    rw [e]
    generalize W / 2 ^ (64 * 34) = X
    omega
  obtain ⟨n, hn⟩ : ∃ n, n = 2239 := ⟨_, rfl⟩
  rw [show N = n + 1 by omega]
  have hs := mod_top W n
  have hm := Nat.mod_lt W (Nat.two_pow_pos n)
  have hp := two_top n
  rw [← hn] at hb h2 ⊢
  refine ⟨hb, h2, fun h => ?_, fun h => ?_⟩
  · rw [hs, hp, hb.2 h]
    generalize 2 ^ n = P at *
    omega
  · have : bit W n = 0 := by
      rcases Nat.lt_or_ge (bit W n) 1 with h3 | h3
      · omega
      · have := hb.1 (by omega); rw [h] at this; cases this
    rw [hs, hp, this]
    generalize 2 ^ n = P at *
    omega
theorem bitsAt_mod {w : World} {g A N : Nat} (hN : N = 2240) (h : BitsAt w g A) : BitsAt w g (A % 2 ^ N) := fun i hi => by
  rw [h i hi]
  have e : bit (A % 2 ^ N) i = bit A i := by
    unfold bit
    have e : 2 ^ N = 2 ^ i * (2 * 2 ^ (N - i - 1)) := by rw [← Nat.pow_succ', ← Nat.pow_add]; congr 1; omega
    rw [e, Nat.mod_mul_right_div_self]
    exact Nat.mod_mod_of_dvd _ (Nat.dvd_mul_right _ _)
  rw [e]
/-- What a sum's number tells, said by its rung. -/
theorem valOf_rung (sg : Bool) (A : Nat) (an ot : Bool) (h0 : A = 0 → sg = false) :
    valOf sg A an ot = ((if (sg || (decide (min (rungOf A) 9218868437227405312 = 0) && an && !ot)) = true then 9223372036854775808 else 0) + min (rungOf A) 9218868437227405312, decide (min (rungOf A) 9218868437227405312 = 9218868437227405312)) := by
  unfold valOf
  by_cases ha : A = 0
  · subst ha
    rw [if_pos rfl, h0 rfl, show rungOf 0 = 0 by decide]
    simp
  · have hr0 : rungOf A ≠ 0 := fun h => ha (rung_zero h)
    rw [if_neg ha]
    have hd : decide (min (rungOf A) 9218868437227405312 = 0) = false := decide_eq_false (by omega)
    rw [hd, Bool.false_and, Bool.false_and, Bool.or_false]
    by_cases hs : A < 9007199254740992
    · have hr : rungOf A = A := by unfold rungOf; rw [if_pos hs]
      rw [if_pos hs, hr, Nat.min_eq_left (by omega), decide_eq_false (by omega)]
    · rw [if_neg hs]
      by_cases hi : 2047 * 4503599627370496 ≤ rungOf A
      · rw [if_pos hi, Nat.min_eq_right (by omega), decide_eq_true rfl]
        cases sg <;> rfl
      · rw [if_neg hi, Nat.min_eq_left (by omega), decide_eq_false (by omega)]
end Go.Proofs.Ythplelglifnhoaa
/-! Exact sums: the document's answer: what a sum tells: the walk. -/
namespace Go.Proofs.Ythplelglifnhoaa
open Go.RowKit
set_option linter.unusedVariables false

set_option maxRecDepth 100000 in
theorem refNaN_any (w : World) : Calls Try.prog 51 #[.int .u64 9221120237041090560] w fun e w' => e = .returned (.float .f64 9221120237041090560) ∧ w = w' := by
  have hf := run_frombits
  have hb := refBits_any 9221120237041090560 w (by decide)
  go_enter Try.func51, Try.ntmps51
  go_wp2_with (go_at_call 52; (with_reducible refine hb.mono ?_); rintro e w1 ⟨rfl, rfl⟩)
  go_ret
  exact ⟨rfl, rfl⟩
def refSpec (a b c : Bool) : Nat := if a || (b && c) then 9221120237041090560 else if b then 9218868437227405312 else 18442240474082181120
set_option maxRecDepth 100000 in
set_option maxHeartbeats 4000000 in
theorem refValue_special (g : Nat) (s : St) (w : World) (h : (s.nan || s.pos || s.neg) = true) :
    Calls Try.prog 49 #[.agg (refC g s)] w fun e w' => e = .returned (.tuple #[.float .f64 (refSpec s.nan s.pos s.neg), .bool false]) ∧ Below w.heap.size w w' := by
  have hb1 : ∀ (o1 : Obj), Below w.heap.size w (w.alloc o1) := fun o1 => below_alloc (Below.refl _ _) _
  have hn := refNaN_any
  have hp := fun w => infP_any w 1 (by omega)
  have hm := fun w => infM_any w (-1) (by omega)
  unfold refC
  generalize s.nan = a at *
  generalize s.pos = b at *
  generalize s.neg = c at *
  generalize s.any = d at *
  generalize s.other = o at *
  cases a <;> cases b <;> cases c
  case false.false.false => cases h
  all_goals
    clear h
    go_enter Try.func49, Try.ntmps49
    go_wp2_with (first
      | (go_at_call 51; (with_reducible refine (hn _).mono ?_); rintro e w1 ⟨rfl, rfl⟩)
      | (go_at_call 59; first | ((with_reducible refine (hp _).mono ?_); rintro e w1 ⟨rfl, rfl⟩) | ((with_reducible refine (hm _).mono ?_); rintro e w1 ⟨rfl, rfl⟩)))
    go_ret2
    exact ⟨rfl, hb1 _⟩
theorem val_lt_N (r N : Nat) (hr : r ≤ 9218868437227405312) (hN : 2240 ≤ N) : val r < 2 ^ N := by
  rw [val_parts r hr]
  have h1 : (if r / 4503599627370496 = 0 then r % 4503599627370496 else 4503599627370496 + r % 4503599627370496) < 2 ^ 53 := by split <;> omega
  have h2 : (if r / 4503599627370496 = 0 then 0 else r / 4503599627370496 - 1) ≤ N - 53 := by split <;> omega
  generalize (if r / 4503599627370496 = 0 then r % 4503599627370496 else 4503599627370496 + r % 4503599627370496) = M at *
  generalize (if r / 4503599627370496 = 0 then 0 else r / 4503599627370496 - 1) = E at *
  rw [show N = 53 + (N - 53) by omega, Nat.pow_add]
  exact Nat.mul_lt_mul_of_lt_of_le h1 (Nat.pow_le_pow_right (by decide) h2) (Nat.two_pow_pos _)
/-- How far the low bits are read; what they come to. -/
def lenB (A : Nat) : Nat := if A = 0 then 0 else A.log2 + 1
theorem lenB_top (A : Nat) : (if A = 0 then (-1 : Int) else (A.log2 : Int)) = (lenB A : Int) - 1 := by unfold lenB; split <;> omega
theorem lenB_lt (A : Nat) : A < 2 ^ lenB A := by
  unfold lenB
  split
  · subst_vars; decide
  · exact Nat.lt_log2_self
theorem lenB_small (A : Nat) : lenB A ≤ 53 ↔ A < 9007199254740992 := by
  unfold lenB
  by_cases h : A = 0
  · rw [if_pos h]; omega
  · rw [if_neg h]
    have := Nat.log2_lt h (k := 53)
    rw [show (2 : Nat) ^ 53 = 9007199254740992 from rfl] at this
    omega
def lowK (A k : Nat) : Nat := if A < 9007199254740992 then A / 2 ^ (lenB A - k) * 2 ^ (lenB A - k) else A / 2 ^ (lenB A - k) * 2 ^ (53 - k) - 4503599627370496
theorem lowK_zero (A : Nat) : lowK A 0 = 0 := by
  unfold lowK
  rw [Nat.sub_zero, Nat.div_eq_of_lt (lenB_lt A)]; simp
theorem lowK_small (A k t : Nat) (h : A < 9007199254740992) (hk : k + t + 1 = lenB A) : lowK A (k + 1) = lowK A k + bit A t * 2 ^ t ∧ lowK A (k + 1) < 9007199254740992 := by
  unfold lowK
  rw [if_pos h, if_pos h, show lenB A - (k + 1) = t by omega, show lenB A - k = t + 1 by omega, low_step]
  exact ⟨rfl, Nat.lt_of_le_of_lt (Nat.div_mul_le_self _ _) h⟩
theorem great_top (A t : Nat) (h : ¬ A < 9007199254740992) (ht : t + 1 = lenB A) : A / 2 ^ t = 1 := by
  have h0 : A ≠ 0 := by omega
  have e : lenB A = A.log2 + 1 := by unfold lenB; rw [if_neg h0]
  have h1 := Nat.log2_self_le h0
  have h2 : A < 2 ^ (A.log2 + 1) := Nat.lt_log2_self
  rw [show t = A.log2 by omega]
  have hp := Nat.two_pow_pos A.log2
  rw [Nat.pow_succ] at h2
  exact Nat.div_eq_of_lt_le (by omega) (by omega)
theorem great_le (A k t : Nat) (h : ¬ A < 9007199254740992) (hk : k + t + 1 = lenB A) : A / 2 ^ t < 2 ^ (k + 1) ∧ 2 ^ k ≤ A / 2 ^ t := by
  have h0 : A ≠ 0 := by omega
  have e : lenB A = A.log2 + 1 := by unfold lenB; rw [if_neg h0]
  have h1 := Nat.log2_self_le h0
  have h2 : A < 2 ^ (A.log2 + 1) := Nat.lt_log2_self
  have hp := Nat.two_pow_pos t
  constructor
  · rw [Nat.div_lt_iff_lt_mul hp, ← Nat.pow_add, show k + 1 + t = A.log2 + 1 by omega]; exact h2
  · rw [Nat.le_div_iff_mul_le hp, ← Nat.pow_add, show k + t = A.log2 by omega]; exact h1
theorem lowK_first (A t : Nat) (h : ¬ A < 9007199254740992) (hk : t + 1 = lenB A) : lowK A 1 = 0 := by
  unfold lowK
  rw [if_neg h, show lenB A - 1 = t by omega, great_top A t h hk]
theorem lowK_great (A k t u : Nat) (h : ¬ A < 9007199254740992) (hk : k + t + 1 = lenB A) (hk0 : 0 < k) (hu : k + u = 52) : lowK A (k + 1) = lowK A k + bit A t * 2 ^ u ∧ lowK A (k + 1) < 9007199254740992 := by
  unfold lowK
  rw [if_neg h, if_neg h, show lenB A - (k + 1) = t by omega, show lenB A - k = t + 1 by omega, show 53 - (k + 1) = u by omega, show 53 - k = u + 1 by omega]
  have g := great_step A t u
  obtain ⟨b1, -⟩ := great_le A k t h hk
  obtain ⟨-, b2⟩ := great_le A (k - 1) (t + 1) h (by omega)
  have p := Nat.two_pow_pos u
  have e1 : 2 ^ (k + 1) * 2 ^ u = 9007199254740992 := by rw [← Nat.pow_add, show k + 1 + u = 53 by omega]
  have e2 : 2 ^ (k - 1) * 2 ^ (u + 1) = 4503599627370496 := by rw [← Nat.pow_add, show k - 1 + (u + 1) = 52 by omega]
  have m1 := Nat.mul_lt_mul_of_pos_right b1 p
  have m2 := Nat.mul_le_mul_right (2 ^ (u + 1)) b2
  rw [e1] at m1
  rw [e2] at m2
  generalize A / 2 ^ (t + 1) * 2 ^ (u + 1) = X at *
  generalize A / 2 ^ t * 2 ^ u = Y at *
  generalize bit A t * 2 ^ u = Z at *
  omega
theorem lowK_end (A : Nat) : (A < 9007199254740992 → lowK A (lenB A) = dnOf A) ∧ (¬ A < 9007199254740992 → lowK A 53 + (lenB A - 52) * 4503599627370496 = dnOf A ∧ lowK A 53 < 4503599627370496) := by
  constructor
  · intro h
    unfold lowK dnOf
    rw [if_pos h, if_pos h, Nat.sub_self]; simp
  · intro h
    have h0 : A ≠ 0 := by omega
    have e : lenB A = A.log2 + 1 := by unfold lenB; rw [if_neg h0]
    have h53 : ¬ lenB A ≤ 53 := fun x => h ((lenB_small A).1 x)
    obtain ⟨b1, b2⟩ := great_le A 52 (lenB A - 53) h (by omega)
    unfold lowK dnOf
    rw [if_neg h, if_neg h, Nat.sub_self, Nat.pow_zero, Nat.mul_one, show A.log2 - 52 = lenB A - 53 by omega]
    rw [show (2 : Nat) ^ 52 = 4503599627370496 from rfl] at b2
    rw [show (2 : Nat) ^ (52 + 1) = 9007199254740992 from rfl] at b1
    omega
end Go.Proofs.Ythplelglifnhoaa
/-! Exact sums: the document's answer: what a sum tells: the walk. -/
namespace Go.Proofs.Ythplelglifnhoaa
open Go.RowKit
set_option linter.unusedVariables false

theorem wrap_low (z0 b t z1 : Nat) (h : z1 = z0 + b * 2 ^ t) (hl : z1 < 9007199254740992) : IntKind.u64.wrap ((z0 : Int) + IntKind.u64.wrap ((b : Int) * 2 ^ t)) = (z1 : Int) := by
  have e : (b : Int) * 2 ^ t = ((b * 2 ^ t : Nat) : Int) := by simp
  rw [e]
  generalize b * 2 ^ t = x at *
  rw [IntKind.wrap_u64, IntKind.wrap_u64]
  omega
set_option maxRecDepth 100000 in
set_option maxHeartbeats 4000000 in
theorem refValue_walk (g W A N : Nat) (sg an ot : Bool) (w : World) (hN : N = 2240) (hg : BitsAt w g W) (hW : W < 2 ^ N) (hsg : ((bit W 2239 : Int) == 1) = sg)
    (hA : A = if sg = true then 2 ^ N - W else W) (hAN : A < 2 ^ N) :
    Calls Try.prog 49 #[.agg #[rowV g, .bool false, .bool false, .bool false, .bool an, .bool ot]] w fun e w' => e = .returned (.tuple #[.float .f64 ((if (sg || (decide (min (rungOf A) 9218868437227405312 = 0) && an && !ot)) = true then 9223372036854775808 else 0) + min (rungOf A) 9218868437227405312), .bool (decide (min (rungOf A) 9218868437227405312 = 9218868437227405312))]) ∧ Below w.heap.size w w' := by
  have hturn := fun w1 (h : BitsAt w1 g W) => refTurn_any g W N w1 hN hW h
  obtain ⟨R, hR⟩ : ∃ R, R = min (rungOf A) 9218868437227405312 := ⟨_, rfl⟩
  rw [← hR]
  have HR := Lib.hid hR
  obtain ⟨V, hV⟩ : ∃ V, (if (sg || (decide (R = 0) && an && !ot)) = true then 9223372036854775808 else 0) + R = V := ⟨_, rfl⟩
  obtain ⟨OV, hOV⟩ : ∃ OV, decide (R = 9218868437227405312) = OV := ⟨_, rfl⟩
  rw [hV, hOV]
  have HV := Lib.hid hV
  have HOV := Lib.hid hOV
  clear hV hOV
  have Hturn := Lib.hid hturn
  have hbw := below_alloc (Below.refl w.heap.size w) (.cells #[rowV g, .bool false, .bool false, .bool false, .bool an, .bool ot] 99)
  have hg1 := hg.below hbw
  have hk0 := heap_alloc_new w (.cells #[rowV g, .bool false, .bool false, .bool false, .bool an, .bool ot] 99)
  have hcell := hg1 2239 (by decide)
  have Hg := Lib.hid hg
  have Hg1 := Lib.hid hg1
  have HN := Lib.hid hN
  have HA := Lib.hid hA
  have HAN := Lib.hid hAN
  clear hR hg hg1 hturn hN hW hA hAN
  generalize hb0 : bit W 2239 = b at *
  clear hb0
  go_enter Try.func49, Try.ntmps49
  go_upto_if 37 with fail
  go_cut [5] (fun va wr => ∃ k, va = rowV k ∧ BitsAt wr k A ∧ wr.heap[w.heap.size]? = some (.cells #[rowV g, .bool false, .bool false, .bool false, .bool an, .bool ot] 99 (0, 0)) ∧ Below w.heap.size w wr)
  case first =>
    have h1 := HA.out
    generalize w.alloc (.cells #[rowV g, .bool false, .bool false, .bool false, .bool an, .bool ot] 99) = w1 at *
    cases sg
    · rw [if_neg (by decide)] at h1
      have H1 := Lib.hid h1
      clear h1
      go_wp2_with fail
      go_meet
      exact ⟨g, rfl, by rw [H1.out]; exact Hg1.out, hk0, hbw⟩
    · rw [if_pos rfl] at h1
      have H1 := Lib.hid h1
      have ht := Hturn.out _ Hg1.out
      clear h1
      go_wp2_with (go_at_call 70; (with_reducible refine ht.mono ?_); rintro e w7 ⟨k, rfl, hk, hbk, b7⟩)
      go_meet
      exact ⟨k, rfl, by rw [H1.out]; exact hbk, (b7.block _ (heap_lt hk0)).trans hk0, below_trans hbw b7⟩
  case rest =>
    obtain ⟨k, rfl, hk, h0, hb⟩ := hcut
    clear hk0 hbw Hg1 hcell hsg HA Hturn
    have Hk := Lib.hid hk
    have H0 := Lib.hid h0
    have hT0 := topB_zero A
    have hT1 := topB_all A N HAN.out
    have hTs := topB_step A
    have HT0 := Lib.hid hT0
    have HT1 := Lib.hid hT1
    have HTs := Lib.hid hTs
    clear hk h0 hT0 hT1 hTs
    go_upto_block 0 with fail
    go_cut [6] (fun vt wr => vt = .int .i64 ((lenB A : Int) - 1) ∧ wr = wc)
    case first =>
      go_wp2_with fail
      go_loopw [6, 7] (fun vt v wr => ∃ i : Nat, i ≤ 2240 ∧ v = .int .i64 i ∧ vt = .int .i64 (topB A i) ∧ wr = wc) (fun _ v _ => 2240 - (intOf v).toNat)
      case atStart => exact ⟨0, by omega, rfl, by rw [HT0.out], rfl⟩
      case round =>
        obtain ⟨i, hi, rfl, rfl, rfl⟩ := hrel
        by_cases hlt : i < 2240
        · have hcell := Hk.out i hlt
          have hst := HTs.out i
          by_cases hbit : bit A i = 1
          · rw [if_pos hbit] at hst
            rw [hbit] at hcell
            have Hst := Lib.hid hst
            clear hst hbit
            generalize topB A i = z at *
            go_wp2_with fail
            exact ⟨⟨i + 1, by omega, by go_num, by rw [Hst.out], trivial⟩, by simp [intOf]; omega⟩
          · rw [if_neg hbit] at hst
            have hb0 : bit A i = 0 := by have := bit_lt A i; omega
            rw [hb0] at hcell
            have Hst := Lib.hid hst
            clear hst hbit hb0
            generalize hz : topB A i = z at *
            go_wp2_with fail
            exact ⟨⟨i + 1, by omega, by go_num, by rw [Hst.out], trivial⟩, by simp [intOf]; omega⟩
        · obtain rfl : i = 2240 := by omega
          have h1 := HT1.out
          rw [HN.out, lenB_top] at h1
          have H1 := Lib.hid h1
          clear h1
          go_wp2_with fail
          go_meet
          exact ⟨by rw [H1.out], rfl⟩
    case rest =>
      obtain ⟨rfl, rfl⟩ := hcut
      have hLA : lenB A ≤ 2240 := by
        unfold lenB
        by_cases h : A = 0
        · rw [if_pos h]; omega
        · rw [if_neg h]; have := (Nat.log2_lt h).2 HAN.out; have := HN.out; omega
      have hL0 := lowK_zero A
      have hLs := lowK_small A
      have hLf := lowK_first A
      have hLg := lowK_great A
      have hsm := lenB_small A
      have HL0 := Lib.hid hL0
      have HLs := Lib.hid hLs
      have HLf := Lib.hid hLf
      have HLg := Lib.hid hLg
      have Hsm := Lib.hid hsm
      have Hend := Lib.hid (lowK_end A)
      clear hL0 hLs hLf hLg hsm HT0 HT1 HTs
      go_upto_block 2 with fail
      go_cut [8] (fun v wr => v = .int .u64 (lowK A (min (lenB A) 53) : Nat) ∧ wr = wc)
      case first =>
        go_wp2_with fail
        go_loopw [8, 9] (fun vl v wr => ∃ i : Nat, i ≤ min (lenB A) 53 ∧ v = .int .i64 i ∧ vl = .int .u64 (lowK A i : Nat) ∧ wr = wc) (fun _ v _ => 53 - (intOf v).toNat)
        case atStart => exact ⟨0, by omega, rfl, by rw [HL0.out]; rfl, rfl⟩
        case round =>
          obtain ⟨i, hi, rfl, rfl, rfl⟩ := hrel
          by_cases hlt : i < min (lenB A) 53
          · obtain ⟨t, ht⟩ : ∃ t, i + t + 1 = lenB A := ⟨lenB A - i - 1, by omega⟩
            have hcell := Hk.out t (by omega)
            have hbt := bit_lt A t
            have eT : ((lenB A : Int) - 1 - (i : Int)) = (t : Int) := by omega
            have hi53 : (i : Int) < 53 := by omega
            have htl : (t : Int) < 2240 := by omega
            by_cases hs : A < 9007199254740992
            · have h53 := Hsm.out.2 hs
              obtain ⟨h1, h2⟩ := HLs.out i t hs ht
              have Hs := Lib.hid hs
              have Ht := Lib.hid ht
              have H1 := Lib.hid h1
              clear h1 hs ht
              have hz : lowK A (i + 1) = lowK A i + bit A t * 2 ^ t := H1.out
              have Hz := Lib.hid (wrap_low _ _ _ _ hz h2)
              clear hz H1 h2
              generalize lowK A i = z0 at *
              generalize bit A t = bb at *
              go_wp2_with fail
              exact ⟨⟨i + 1, by omega, by go_num, by rw [Hz.out], trivial⟩, by simp [intOf]; omega⟩
            · have h53 : ¬ lenB A ≤ 53 := fun x => hs (Hsm.out.1 x)
              have Hs := Lib.hid hs
              have Ht := Lib.hid ht
              by_cases hi0 : i = 0
              · subst hi0
                have h0 := HLf.out t hs (by omega)
                have h1 := HL0.out
                have Hz := Lib.hid (h1.trans h0.symm)
                clear h0 h1 hs ht
                generalize lowK A 0 = z0 at *
                generalize bit A t = bb at *
                go_wp2_with fail
                exact ⟨⟨1, by omega, by go_num, by rw [Hz.out], trivial⟩, by simp [intOf]⟩
              · obtain ⟨u, hu⟩ : ∃ u, i + u = 52 := ⟨52 - i, by omega⟩
                have eU : (52 : Int) - (i : Int) = (u : Int) := by omega
                have hip : (0 : Int) < (i : Int) := by omega
                have hul : (u : Int) < 52 := by omega
                obtain ⟨hz, h2⟩ := HLg.out i t u hs ht (by omega) hu
                have Hz := Lib.hid (wrap_low _ _ _ _ hz h2)
                clear hz h2 hs ht
                generalize lowK A i = z0 at *
                generalize bit A t = bb at *
                go_wp2_with fail
                exact ⟨⟨i + 1, by omega, by go_num, by rw [Hz.out], trivial⟩, by simp [intOf]; omega⟩
          · have hm : i = min (lenB A) 53 := by omega
            obtain ⟨z0, hz0⟩ : ∃ z0, lowK A i = z0 := ⟨_, rfl⟩
            have Hz := Lib.hid ((congrArg (lowK A) hm.symm).trans hz0)
            rw [hz0]
            clear hz0
            by_cases h53 : i = 53
            · subst h53
              clear hm hi hlt
              go_wp2_with fail
              go_meet
              exact ⟨by rw [Hz.out], rfl⟩
            · have eT : ((lenB A : Int) - 1 - (i : Int)) = -1 := by omega
              have hi53 : (i : Int) < 53 := by omega
              clear hm hi hlt
              go_wp2_with fail
              go_meet
              exact ⟨by rw [Hz.out], rfl⟩
      case rest =>
        obtain ⟨rfl, rfl⟩ := hcut
        obtain ⟨D, hD⟩ : ∃ D, dnOf A = D := ⟨_, rfl⟩
        go_upto_if 90 with fail
        go_cut [8] (fun v wr => v = .int .u64 (D : Nat) ∧ wr = wc)
        case first =>
          by_cases hs : A < 9007199254740992
          · have h53 := Hsm.out.2 hs
            have h1 := Hend.out.1 hs
            have H1 := Lib.hid (h1.trans hD)
            rw [Nat.min_eq_left h53]
            clear h1 hD hs
            generalize lowK A (lenB A) = z0 at *
            go_wp2_with fail
            go_meet
            exact ⟨by rw [H1.out], rfl⟩
          · have h53 : ¬ lenB A ≤ 53 := fun x => hs (Hsm.out.1 x)
            obtain ⟨h1, h2⟩ := Hend.out.2 hs
            have H1 := Lib.hid (h1.trans hD)
            rw [Nat.min_eq_right (by omega)]
            have eT : ((lenB A : Int) - 1 - 51) = ((lenB A - 52 : Nat) : Int) := by omega
            have hl2 : lenB A - 52 ≤ 2188 := by omega
            have hT : (53 : Int) ≤ (lenB A : Int) - 1 := by omega
            clear h1 hD hs
            generalize lenB A - 52 = e at *
            generalize lowK A 53 = z0 at *
            go_wp2_with fail
            go_meet
            exact ⟨by rw [← H1.out]; go_num, rfl⟩
        case rest =>
          obtain ⟨rfl, rfl⟩ := hcut
          obtain ⟨v1, v2, v3⟩ := dn_near A
          rw [hD] at v1 v2 v3
          have V1 := Lib.hid v1
          have V2 := Lib.hid v2
          have V3 := Lib.hid v3
          clear v1 v2 v3 HL0 HLs HLf HLg Hsm Hend hD hLA
          go_upto_if 98 with fail
          go_cut [8] (fun v wr => v = .int .u64 (R : Nat) ∧ wr.heap[w.heap.size]? = some (.cells #[rowV g, .bool false, .bool false, .bool false, .bool an, .bool ot] 99 (0, 0)) ∧ Below w.heap.size w wr)
          case first =>
            by_cases hinf : 9218868437227405312 ≤ D
            · have hr : R = 9218868437227405312 := by
                have := HR.out
                have v3 := V3.out
                split at v3 <;> omega
              have Hr := Lib.hid hr
              have hi2 : (9218868437227405312 : Int) ≤ (D : Int) := by omega
              clear hr hinf
              generalize (D : Int) = DI at *
              go_wp2_with fail
              go_meet
              exact ⟨by rw [Hr.out]; rfl, H0.out, hb⟩
            · have hw1 := fun w1 => refWhole_any D w1 (by omega)
              have hw2 := fun w1 => refWhole_any (D + 1) w1 (by omega)
              have v1l := val_lt_N D N (by omega) (by have := HN.out; omega)
              have v2l := val_lt_N (D + 1) N (by omega) (by have := HN.out; omega)
              have ht1 := fun k1 w1 (h : BitsAt w1 k1 (val D)) => refTurn_any k1 (val D) N w1 HN.out v1l h
              have ht2 := fun w1 (h : BitsAt w1 k A) => refTurn_any k A N w1 HN.out HAN.out h
              have ha1 := fun k2 w1 (h1 : BitsAt w1 k A) (h2 : BitsAt w1 k2 (2 ^ N - val D)) => refAdd_any k k2 A (2 ^ N - val D) w1 h1 h2
              have ha2 := fun k4 k5 w1 (h1 : BitsAt w1 k4 (val (D + 1))) (h2 : BitsAt w1 k5 (2 ^ N - A)) => refAdd_any k4 k5 (val (D + 1)) (2 ^ N - A) w1 h1 h2
              have hi2 : ¬ (9218868437227405312 : Int) ≤ (D : Int) := by omega
              have hwr : IntKind.u64.wrap ((D : Int) + 1) = ((D + 1 : Nat) : Int) := by rw [IntKind.wrap_u64]; omega
              have v1 := V1.out
              have v2 := V2.out
              have e1 : A + (2 ^ N - val D) = A - val D + 2 ^ N := by omega
              have e2 : val (D + 1) + (2 ^ N - A) = val (D + 1) - A + 2 ^ N := by have := HAN.out; omega
              rw [e1] at ha1
              rw [e2] at ha2
              have hdl : A - val D < 2 ^ N := by have := HAN.out; omega
              have hul : val (D + 1) - A < 2 ^ N := by omega
              have hab := fun p q w1 (h1 : BitsAt w1 p (A - val D)) (h2 : BitsAt w1 q (val (D + 1) - A)) => refAbove_any p q _ _ N w1 HN.out hdl hul h1 h2
              have hba := fun p q w1 (h1 : BitsAt w1 p (A - val D)) (h2 : BitsAt w1 q (val (D + 1) - A)) => refAbove_any q p _ _ N w1 HN.out hul hdl h2 h1
              have Ht1 := Lib.hid ht1
              have Ht2 := Lib.hid ht2
              have Ha1 := Lib.hid ha1
              have Ha2 := Lib.hid ha2
              have Hab := Lib.hid hab
              have Hba := Lib.hid hba
              have Hw1 := Lib.hid hw1
              have Hw2 := Lib.hid hw2
              obtain ⟨u1, hu1⟩ : ∃ u1, decide (val (D + 1) - A < A - val D) = u1 := ⟨_, rfl⟩
              obtain ⟨u2, hu2⟩ : ∃ u2, decide (A - val D < val (D + 1) - A) = u2 := ⟨_, rfl⟩
              have hr : R = if u1 = true ∨ (¬ u2 = true ∧ D % 2 = 1) then D + 1 else D := by
                have h1 := HR.out
                have h3 := V3.out
                rw [← hu1, ← hu2]
                simp only [decide_eq_true_eq]
                rw [← h3]
                split at h3 <;> omega
              obtain ⟨pp, hpp⟩ : ∃ pp, decide (D % 2 = 1) = pp := ⟨_, rfl⟩
              have hpar : ((D : Int).tmod 2 == 1) = pp := by rw [← hpp, Int.tmod_eq_emod_of_nonneg (by omega), Bool.eq_iff_iff, beq_iff_eq, decide_eq_true_eq]; omega
              have hrr : ((R : Nat) : Int) = if (u1 || (!u2 && pp)) = true then ((D + 1 : Nat) : Int) else (D : Int) := by
                rw [hr, ← hpp]
                cases u1 <;> cases u2 <;> simp
                split <;> rfl
              clear hpp hr
              rw [hu1] at Hab
              rw [hu2] at Hba
              clear ht1 ht2 ha1 ha2 hab hba hw1 hw2 hu1 hu2 e1 e2 hdl hul v1 v2 v1l v2l hinf V1 V2 V3
              obtain ⟨D1, hD1⟩ : ∃ D1 : Int, ((D + 1 : Nat) : Int) = D1 := ⟨_, rfl⟩
              obtain ⟨DI, hDI⟩ : ∃ DI : Int, (D : Int) = DI := ⟨_, rfl⟩
              rw [hD1] at Hw2 hwr hrr
              rw [hDI] at Hw1 hwr hpar hi2 hrr
              have Hrr := Lib.hid hrr
              have HDI := Lib.hid hDI
              have HD1 := Lib.hid hD1
              have hi3 := Int.lt_of_not_ge hi2
              rw [hDI]
              clear hDI hD1 hi2 hrr
              have hcase : u1 = true ∨ (u1 = false ∧ u2 = true) ∨ (u1 = false ∧ u2 = false ∧ pp = true) ∨ (u1 = false ∧ u2 = false ∧ pp = false) := by
                cases u1 <;> cases u2 <;> cases pp <;> simp
              rcases hcase with rfl | ⟨rfl, rfl⟩ | ⟨rfl, rfl, rfl⟩ | ⟨rfl, rfl, rfl⟩
              all_goals
                go_wp2_with (first
                  | (go_at_call 72; first | ((with_reducible refine (Hw1.out _).mono ?_); rintro e w1 ⟨k1, rfl, hk1, q1, b1⟩; have q1 := Lib.hid q1) | ((with_reducible refine (Hw2.out _).mono ?_); rintro e w4 ⟨k4, rfl, hk4, q4, b4⟩; have q4 := Lib.hid q4; have c4 := below_trans c3 b4))
                  | (go_at_call 70; first | ((with_reducible refine (Ht1.out k1 _ q1.out).mono ?_); rintro e w2 ⟨k2, rfl, hk2, q2, b2⟩; have q2 := Lib.hid q2; have c2 := below_trans b1 b2) | ((with_reducible refine (Ht2.out _ (Hk.out.below c4)).mono ?_); rintro e w5 ⟨k5, rfl, hk5, q5, b5⟩; have q5 := Lib.hid q5; have c5 := below_trans c4 b5))
                  | (go_at_call 71; first | ((with_reducible refine (Ha1.out k2 _ (Hk.out.below c2) q2.out).mono ?_); rintro e w3 ⟨k3, rfl, hk3, q3, b3⟩; have q3 := Lib.hid (q3.round HN.out); have c3 := below_trans c2 b3) | ((with_reducible refine (Ha2.out k4 k5 _ (q4.out.below b5) q5.out).mono ?_); rintro e w6 ⟨k6, rfl, hk6, q6, b6⟩; have q6 := Lib.hid (q6.round HN.out); have c6 := below_trans c5 b6; have q36 := Lib.hid (((q3.out.below b4).below b5).below b6)))
                  | (go_at_call 73; first | ((with_reducible refine (Hab.out k3 k6 _ q36.out q6.out).mono ?_); rintro e w7 ⟨rfl, b7⟩; have c7 := below_trans c6 b7) | ((with_reducible refine (Hba.out k3 k6 _ (q36.out.below b7) (q6.out.below b7)).mono ?_); rintro e w8 ⟨rfl, b8⟩; have c8 := below_trans c7 b8)))
                go_meet
                first
                  | exact ⟨by rw [Hrr.out]; rfl, (c8.block _ (heap_lt H0.out)).trans H0.out, below_trans hb c8⟩
                  | exact ⟨by rw [Hrr.out]; rfl, (c7.block _ (heap_lt H0.out)).trans H0.out, below_trans hb c7⟩
          case rest =>
            obtain ⟨rfl, h0, hb⟩ := hcut
            have hf := run_frombits
            have hRl : R ≤ 9218868437227405312 := by have := HR.out; omega
            have f4 := cell_of_row wc w.heap.size 4 _ _ _ h0
            have f5 := cell_of_row wc w.heap.size 5 _ _ _ h0
            have hor : bits .or .u64 (R : Int) 9223372036854775808 = ((9223372036854775808 + R : Nat) : Int) := by
              have := or64 R 9223372036854775808 (by omega) (by omega)
              rw [Nat.or_comm, show (9223372036854775808 : Nat) ||| R = 9223372036854775808 + R from (Nat.two_pow_add_eq_or_of_lt (i := 63) (b := R) (by omega) 1).symm] at this
              exact this
            have hzero : ((R : Int) == 0) = decide (R = 0) := by rw [Bool.eq_iff_iff, beq_iff_eq, decide_eq_true_eq]; omega
            have hinf : ((R : Int) == 9218868437227405312) = decide (R = 9218868437227405312) := by rw [Bool.eq_iff_iff, beq_iff_eq, decide_eq_true_eq]; omega
            obtain ⟨zb, hzb⟩ : ∃ zb, decide (R = 0) = zb := ⟨_, rfl⟩
            obtain ⟨ib, hib⟩ : ∃ ib, decide (R = 9218868437227405312) = ib := ⟨_, rfl⟩
            rw [hzb] at hzero
            rw [hib] at hinf
            have Hzb := Lib.hid hzb
            have Hib := Lib.hid hib
            obtain ⟨RI, hRI⟩ : ∃ RI : Int, (R : Int) = RI := ⟨_, rfl⟩
            rw [hRI] at hzero hinf hor ⊢
            have HRI := Lib.hid hRI
            obtain ⟨RH, hRH⟩ : ∃ RH : Int, ((9223372036854775808 + R : Nat) : Int) = RH := ⟨_, rfl⟩
            rw [hRH] at hor
            have hf1 : ∀ w, (callFunc 63 #[.int .u64 RI]).run Try.prog w = .ok (.value (.float .f64 R)) w := fun w => by
              rw [← hRI]; have := hf (R : Int) w; rw [Int.toNat_natCast] at this; exact this
            have hf2 : ∀ w, (callFunc 63 #[.int .u64 RH]).run Try.prog w = .ok (.value (.float .f64 (9223372036854775808 + R))) w := fun w => by
              rw [← hRH]; have := hf ((9223372036854775808 + R : Nat) : Int) w; rw [Int.toNat_natCast] at this; exact this
            clear hzb hib hRI hRH hf
            have hcase : sg = true ∨ (sg = false ∧ zb = false) ∨ (sg = false ∧ zb = true ∧ an = false) ∨ (sg = false ∧ zb = true ∧ an = true ∧ ot = false) ∨ (sg = false ∧ zb = true ∧ an = true ∧ ot = true) := by
              cases sg <;> cases zb <;> cases an <;> cases ot <;> simp
            rcases hcase with rfl | ⟨rfl, rfl⟩ | ⟨rfl, rfl, rfl⟩ | ⟨rfl, rfl, rfl, rfl⟩ | ⟨rfl, rfl, rfl, rfl⟩
            all_goals
              go_wp2_with fail
              go_ret2
              exact ⟨by rw [← HV.out, Hzb.out, ← HOV.out, Hib.out]; simp, hb⟩
end Go.Proofs.Ythplelglifnhoaa
/-! Exact sums: the document's answer: what a sum tells. -/
namespace Go.Proofs.Ythplelglifnhoaa
open Go.RowKit
set_option linter.unusedVariables false

def refVal (s : St) : Nat × Bool := if (s.nan || s.pos || s.neg) = true then (refSpec s.nan s.pos s.neg, false) else valOf (sgOf s.w) (absOf s.w) s.any s.other
theorem refVal_canon (s : St) : canon (refVal s).1 = canon (valSt s).1 ∧ (refVal s).2 = (valSt s).2 := by
  unfold refVal valSt
  by_cases h : (s.nan || s.pos || s.neg) = true
  · rw [if_pos h, if_pos h]
    refine ⟨?_, rfl⟩
    show canon (refSpec _ _ _) = canon (specVal _ _ _)
    cases s.nan <;> cases s.pos <;> cases s.neg <;> decide
  · rw [if_neg h, if_neg h]
    exact ⟨rfl, rfl⟩
theorem refVal_lt (s : St) : (refVal s).1 < 18446744073709551616 := by
  unfold refVal
  split
  · show refSpec _ _ _ < _
    cases s.nan <;> cases s.pos <;> cases s.neg <;> decide
  · exact (valOf_low _ _ _ _).2
theorem abs_is (W N : Nat) (hN : N = 2240) : absOf W = if sgOf W = true then 2 ^ N - W % 2 ^ N else W % 2 ^ N := by
  unfold absOf
  rw [hN]
theorem refValue_any (g : Nat) (s : St) (N : Nat) (w : World) (hN : N = 2240) (hg : BitsAt w g s.w) :
    Calls Try.prog 49 #[.agg (refC g s)] w fun e w' => e = .returned (.tuple #[.float .f64 (refVal s).1, .bool (refVal s).2]) ∧ Below w.heap.size w w' := by
  by_cases h : (s.nan || s.pos || s.neg) = true
  · have := refValue_special g s w h
    unfold refVal
    rw [if_pos h]
    exact this
  · have hv : refVal s = valOf (sgOf s.w) (absOf s.w) s.any s.other := by unfold refVal; rw [if_neg h]
    have h3 : s.nan = false ∧ s.pos = false ∧ s.neg = false := by
      cases h1 : s.nan <;> cases h2 : s.pos <;> cases h3 : s.neg <;> simp_all
    obtain ⟨hs1, hs2, hs3, hs4⟩ := sg_bit s.w N hN
    have hm := Nat.mod_lt s.w (Nat.two_pow_pos N)
    have ha := abs_is s.w N hN
    have hp := Nat.two_pow_pos N
    have h0 : absOf s.w = 0 → sgOf s.w = false := fun e => by
      cases hc : sgOf s.w
      · rfl
      · have := hs3 hc; rw [hc, if_pos rfl] at ha; omega
    have hlt : absOf s.w < 2 ^ N := by
      cases hc : sgOf s.w
      · rw [hc, if_neg (by decide)] at ha; omega
      · have := hs3 hc; rw [hc, if_pos rfl] at ha; omega
    have hb : bit (s.w % 2 ^ N) 2239 = bit s.w 2239 := by
      have h1 := (bitsAt_mod hN hg) 2239 (by decide)
      rw [hg 2239 (by decide)] at h1
      injection h1 with h1
      injection h1 with _ h1
      omega
    have hsg : ((bit (s.w % 2 ^ N) 2239 : Int) == 1) = sgOf s.w := by
      rw [hb, Bool.eq_iff_iff, beq_iff_eq, ← hs1]; omega
    have := refValue_walk g (s.w % 2 ^ N) (absOf s.w) N (sgOf s.w) s.any s.other w hN (bitsAt_mod hN hg) hm hsg ha hlt
    rw [hv, valOf_rung _ _ _ _ h0]
    unfold refC
    rw [h3.1, h3.2.1, h3.2.2]
    exact this
end Go.Proofs.Ythplelglifnhoaa
/-! Exact sums: the document's answer: a sum's bytes. -/
namespace Go.Proofs.Ythplelglifnhoaa
open Go.RowKit
set_option linter.unusedVariables false

/-- A byte of a number. -/
def bya (W m : Nat) : Nat := W / 2 ^ (8 * m) % 256
theorem byt_bya (W m : Nat) : byt W m = (bya W m : Int) := rfl
theorem bya_lt (W m : Nat) : bya W m < 256 := Nat.mod_lt _ (by decide)
theorem bya_bit (W m j : Nat) (hj : j < 8) : bya W m / 2 ^ j % 2 = bit W (8 * m + j) := by
  unfold bya bit
  rw [Nat.pow_add, ← Nat.div_div_eq_div_mul]
  generalize W / 2 ^ (8 * m) = V
  match j, hj with
  | 0, _ => omega
  | 1, _ => omega
  | 2, _ => omega
  | 3, _ => omega
  | 4, _ => omega
  | 5, _ => omega
  | 6, _ => omega
  | 7, _ => omega
/-- The first bits of a byte. -/
def lowB (W m j : Nat) : Nat := bya W m % 2 ^ j
theorem lowB_zero (W m : Nat) : lowB W m 0 = 0 := by unfold lowB; simp [Nat.mod_one]
theorem lowB_step (W m j : Nat) (hj : j < 8) : lowB W m (j + 1) = lowB W m j + bit W (8 * m + j) * 2 ^ j := by
  unfold lowB
  rw [Nat.pow_succ, mod_split, bya_bit W m j hj, Nat.add_comm, Nat.mul_comm]
theorem lowB_all (W m : Nat) : lowB W m 8 = bya W m := by
  unfold lowB
  exact Nat.mod_eq_of_lt (bya_lt W m)
theorem lowB_lt (W m j : Nat) : lowB W m j < 2 ^ j := Nat.mod_lt _ (Nat.two_pow_pos _)
/-- The sign's bit; are the first bits of a byte the sign's? -/
def sgN (sg : Bool) : Nat := if sg = true then 1 else 0
def samB (W m j : Nat) (sg : Bool) : Bool := decide (lowB W m j = sgN sg * (2 ^ j - 1))
theorem samB_zero (W m : Nat) (sg : Bool) : samB W m 0 sg = true := by
  unfold samB; rw [lowB_zero]; simp
theorem samB_step (W m j : Nat) (sg : Bool) (hj : j < 8) : samB W m (j + 1) sg = (samB W m j sg && decide (bit W (8 * m + j) = sgN sg)) := by
  have h1 := lowB_step W m j hj
  have h2 := lowB_lt W m j
  have h3 := bit_lt W (8 * m + j)
  unfold samB
  rw [h1, Nat.pow_succ]
  generalize lowB W m j = z at *
  generalize bit W (8 * m + j) = b at *
  have hp := Nat.two_pow_pos j
  generalize 2 ^ j = q at *
  have hb : b = 0 ∨ b = 1 := by omega
  rw [Bool.eq_iff_iff, Bool.and_eq_true, decide_eq_true_eq, decide_eq_true_eq, decide_eq_true_eq]
  cases sg
  · have e : sgN false = 0 := rfl
    rw [e, Nat.zero_mul, Nat.zero_mul]
    rcases hb with rfl | rfl <;> omega
  · have e : sgN true = 1 := rfl
    rw [e, Nat.one_mul, Nat.one_mul]
    rcases hb with rfl | rfl <;> omega
theorem samB_all (W m : Nat) (sg : Bool) : samB W m 8 sg = decide (byt W m = restOf sg) := by
  unfold samB
  rw [lowB_all, byt_bya, Bool.eq_iff_iff, decide_eq_true_eq, decide_eq_true_eq]
  cases sg
  · show bya W m = 0 * (2 ^ 8 - 1) ↔ (bya W m : Int) = 0
    omega
  · show bya W m = 1 * (2 ^ 8 - 1) ↔ (bya W m : Int) = 255
    omega
theorem byt_top (W m : Nat) (sg : Bool) : (byt W m / 128 = restOf sg / 128) ↔ bit W (8 * m + 7) = sgN sg := by
  have h := bya_bit W m 7 (by decide)
  have h2 := bya_lt W m
  rw [byt_bya, ← h]
  cases sg
  · show ((bya W m : Int) / 128 = 0 / 128) ↔ bya W m / 2 ^ 7 % 2 = 0
    omega
  · show ((bya W m : Int) / 128 = 255 / 128) ↔ bya W m / 2 ^ 7 % 2 = 1
    omega
/-- Where the trimming stops, by bits. -/
theorem trim_bits (W m : Nat) (sg : Bool) : trim (byt W) (restOf sg) (m + 1) = if samB W m 8 sg = true ∧ ((m = 0 ∧ sg = false) ∨ (0 < m ∧ bit W (8 * m - 1) = sgN sg)) then trim (byt W) (restOf sg) m else m + 1 := by
  rw [trim]
  have h1 : samB W m 8 sg = true ↔ byt W m = restOf sg := by rw [samB_all, decide_eq_true_eq]
  have h2 : (m = 0 ∧ restOf sg = 0) ↔ (m = 0 ∧ sg = false) := by cases sg <;> simp [restOf]
  have h3 : (0 < m ∧ byt W (m - 1) / 128 = restOf sg / 128) ↔ (0 < m ∧ bit W (8 * m - 1) = sgN sg) := by
    constructor
    · rintro ⟨a, b⟩
      refine ⟨a, ?_⟩
      rw [byt_top] at b
      rw [← b]; congr 1; omega
    · rintro ⟨a, b⟩
      refine ⟨a, ?_⟩
      rw [byt_top, ← b]; congr 1; omega
  simp only [← h1, h2, h3]
theorem wrap_byte (z0 b t z1 : Nat) (h : z1 = z0 + b * 2 ^ t) (hl : z1 < 256) : IntKind.u8.wrap ((z0 : Int) + IntKind.u8.wrap ((b : Int) * 2 ^ t)) = (z1 : Int) := by
  have e : (b : Int) * 2 ^ t = ((b * 2 ^ t : Nat) : Int) := by simp
  rw [e]
  generalize b * 2 ^ t = x at *
  rw [IntKind.wrap_u8, IntKind.wrap_u8]
  omega
theorem flag_step (F : Int) (b : Bool) (k M : Int) (h0 : 0 ≤ F) (h1 : F ≤ M) (hk : 0 ≤ k) (hm : M + k ≤ 255) : IntKind.u8.wrap (F + k) = F + k := by
  rw [IntKind.wrap_u8]; omega

end Go.Proofs.Ythplelglifnhoaa
