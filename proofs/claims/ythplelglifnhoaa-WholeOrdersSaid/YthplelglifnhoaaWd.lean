import Derived.Test.YthplelglifnhoaaBase
import Derived.Test.YthplelglifnhoaaRl
import Derived.Lib.BitFns
/-! A whole number's words: the plain law. -/
namespace Go.Proofs.Ythplelglifnhoaa
open Go.RowKit
set_option linter.unusedVariables false

/-- A number's word. -/
def wdn (A i : Nat) : Nat := A / 2 ^ (64 * i) % 18446744073709551616
def wdv (A i : Nat) : Value := .int .u64 (wdn A i : Nat)
def ws (A : Nat) : Array Value := Array.ofFn (n := 35) fun i => wdv A i
theorem wdn_lt (A i : Nat) : wdn A i < 18446744073709551616 := Nat.mod_lt _ (by omega)
theorem ws_size (A : Nat) : (ws A).size = 35 := by simp [ws]
theorem ws_at (A i : Nat) (h : i < 35) : (ws A)[i]? = some (wdv A i) := by simp [ws, h]
theorem ofFn_one {n : Nat} (f : Fin n → Value) (h : ∀ i, (f i).oneCell' = true) : (Array.ofFn f).all (·.oneCell') = true := by
  rw [Array.all_eq_true_iff_forall_mem]
  intro x hx
  obtain ⟨i, rfl⟩ := Array.mem_ofFn.1 hx
  exact h i
theorem ws_one (A : Nat) : (ws A).all (·.oneCell') = true := ofFn_one _ fun i => rfl
/-- The first i words of R, and behind them those of A. -/
def mixW (R A i : Nat) : Array Value := Array.ofFn (n := 35) fun j => if j.val < i then wdv R j else wdv A j
theorem mixW_size (R A i : Nat) : (mixW R A i).size = 35 := by simp [mixW]
theorem mixW_one (R A i : Nat) : (mixW R A i).all (·.oneCell') = true := ofFn_one _ fun i => by split <;> rfl
theorem mixW_at (R A i : Nat) (h : i < 35) : (mixW R A i)[i]? = some (wdv A i) := by simp [mixW, h]
theorem mixW_zero (R A : Nat) : mixW R A 0 = ws A := by simp [mixW, ws]
theorem mixW_all (R A : Nat) : mixW R A 35 = ws R := by
  unfold mixW ws
  congr 1
  funext j
  rw [if_pos j.isLt]
theorem mixW_set (R A i : Nat) (h : i < 35) : (mixW R A i).setIfInBounds i (wdv R i) = mixW R A (i + 1) := by
  apply Array.ext
  · simp [mixW]
  · intro k h1 h2
    have h3 : k < (mixW R A i).size := by rw [mixW_size]; rw [mixW_size] at h2; exact h2
    rw [Array.getElem_setIfInBounds h3]
    simp only [mixW, Array.getElem_ofFn]
    simp only [mixW, Array.size_ofFn] at h2
    by_cases hk : i = k
    · subst hk; simp
    · rw [if_neg hk]
      by_cases h4 : k < i
      · rw [if_pos h4, if_pos (by omega)]
      · rw [if_neg h4, if_neg (by omega)]

theorem mod_split (A P Q : Nat) : A % (P * Q) = P * (A / P % Q) + A % P := by rw [Nat.mod_mul, Nat.add_comm]
theorem carry_step (a b x y P Q : Nat) (hP : 0 < P) : (P * a + x + (P * b + y)) / (P * Q) = (a + b + (x + y) / P) / Q := by
  rw [← Nat.div_div_eq_div_mul]
  congr 1
  rw [show P * a + x + (P * b + y) = (x + y) + P * (a + b) by rw [Nat.mul_add]; omega, Nat.add_mul_div_left _ _ hP, Nat.add_comm]
def carryA (A B i : Nat) : Nat := (A % 2 ^ (64 * i) + B % 2 ^ (64 * i)) / 2 ^ (64 * i)
theorem carryA_le (A B i : Nat) : carryA A B i ≤ 1 := by
  have hP := Nat.two_pow_pos (64 * i)
  have h1 := Nat.mod_lt A hP
  have h2 := Nat.mod_lt B hP
  have : carryA A B i < 2 := by unfold carryA; rw [Nat.div_lt_iff_lt_mul hP]; omega
  omega
theorem carryA_zero (A B : Nat) : carryA A B 0 = 0 := by unfold carryA; simp [Nat.mod_one]
theorem pow_step (i : Nat) : 2 ^ (64 * (i + 1)) = 2 ^ (64 * i) * 18446744073709551616 := by
  rw [show 64 * (i + 1) = 64 * i + 64 by omega, Nat.pow_add]
theorem carryA_succ (A B i : Nat) : carryA A B (i + 1) = (wdn A i + wdn B i + carryA A B i) / 18446744073709551616 := by
  unfold carryA wdn
  rw [pow_step, mod_split A, mod_split B, carry_step _ _ _ _ _ _ (Nat.two_pow_pos _)]
theorem wdn_add (A B i : Nat) : wdn (A + B) i = (wdn A i + wdn B i + carryA A B i) % 18446744073709551616 := by
  unfold carryA wdn
  have hP := Nat.two_pow_pos (64 * i)
  generalize 2 ^ (64 * i) = P at *
  have e : (A + B) / P = A / P + B / P + (A % P + B % P) / P := by
    have h1 := Nat.div_add_mod A P
    have h2 := Nat.div_add_mod B P
    rw [show A + B = (A % P + B % P) + P * (A / P + B / P) by rw [Nat.mul_add]; omega, Nat.add_mul_div_left _ _ hP]
    omega
  rw [e]
  omega
/-- What is borrowed. -/
def borrowA (A i : Nat) : Nat := if A % 2 ^ (64 * i) = 0 then 0 else 1
theorem borrowA_le (A i : Nat) : borrowA A i ≤ 1 := by unfold borrowA; split <;> omega
theorem borrowA_zero (A : Nat) : borrowA A 0 = 0 := by unfold borrowA; simp [Nat.mod_one]
theorem borrowA_succ (A i : Nat) : borrowA A (i + 1) = if wdn A i + borrowA A i = 0 then 0 else 1 := by
  have hP := Nat.two_pow_pos (64 * i)
  unfold borrowA wdn
  rw [pow_step, mod_split A]
  generalize 2 ^ (64 * i) = P at *
  generalize A / P % 18446744073709551616 = q
  generalize A % P = r
  by_cases hr : r = 0
  · rw [if_pos hr, hr]
    by_cases hq : q = 0
    · rw [hq]; simp
    · rw [if_neg (by rw [Nat.add_zero]; exact Nat.ne_of_gt (Nat.mul_pos hP (by omega))), if_neg (by omega)]
  · rw [if_neg hr, if_neg (by omega), if_neg (by omega)]
theorem wdn_neg (A i : Nat) (hi : i < 35) (hA : A ≤ 2 ^ 2240) : wdn (2 ^ 2240 - A) i = (18446744073709551616 - wdn A i - borrowA A i) % 18446744073709551616 := by
  have hP := Nat.two_pow_pos (64 * i)
  have hM : 2 ^ 2240 = 2 ^ (64 * i) * (2 ^ (2176 - 64 * i) * 18446744073709551616) := by
    rw [show (18446744073709551616 : Nat) = 2 ^ 64 by rfl, ← Nat.pow_add, ← Nat.pow_add]
    congr 1; omega
  have hK := Nat.two_pow_pos (2176 - 64 * i)
  unfold wdn borrowA
  rw [hM] at hA ⊢
  generalize 2 ^ (2176 - 64 * i) = K at *
  generalize 2 ^ (64 * i) = P at *
  have h1 := Nat.div_add_mod A P
  have h2 := Nat.mod_lt A hP
  have hle : A / P ≤ K * 18446744073709551616 := by
    have := Nat.div_le_div_right (c := P) hA
    rwa [Nat.mul_div_cancel_left _ hP] at this
  generalize A / P = q at *
  generalize A % P = r at *
  subst h1
  by_cases hr : r = 0
  · subst hr
    rw [if_pos rfl, Nat.add_zero, ← Nat.mul_sub, Nat.mul_div_cancel_left _ hP]
    omega
  · rw [if_neg hr]
    have hq : q < K * 18446744073709551616 := by
      rcases Nat.lt_or_ge q (K * 18446744073709551616) with h | h
      · exact h
      · have := Nat.mul_le_mul_left P h; omega
    have e : P * (K * 18446744073709551616) - (P * q + r) = P * (K * 18446744073709551616 - q - 1) + (P - r) := by
      rw [Nat.sub_sub, Nat.mul_sub, Nat.mul_add, Nat.mul_one]
      have := Nat.mul_le_mul_left P (show q + 1 ≤ K * 18446744073709551616 by omega)
      rw [Nat.mul_add, Nat.mul_one] at this
      omega
    rw [e, Nat.mul_add_div hP, Nat.div_eq_of_lt (show P - r < P by omega)]
    omega
end Go.Proofs.Ythplelglifnhoaa
/-! Exact sums: the walk of get and below. -/
namespace Go.Proofs.Ythplelglifnhoaa
open Go.RowKit
set_option linter.unusedVariables false

theorem get_bits (X r : Nat) (hr : r < 64) : ((X % 18446744073709551616) / 2 ^ r ||| (X / 18446744073709551616 % 18446744073709551616 * 2 ^ (64 - r)) % 18446744073709551616) % 9007199254740992 = X / 2 ^ r % 9007199254740992 := by
  rw [show (18446744073709551616 : Nat) = 2 ^ 64 from rfl, show (9007199254740992 : Nat) = 2 ^ 53 from rfl]
  apply Nat.eq_of_testBit_eq
  intro i
  simp only [Nat.testBit_mod_two_pow, Nat.testBit_or, Nat.testBit_div_two_pow, Nat.testBit_mul_two_pow]
  by_cases hi : i < 53
  · by_cases h1 : i + r < 64
    · simp [hi, h1]
      intro _ h; omega
    · have e2 : i - (64 - r) + 64 = i + r := by omega
      have e3 : i - (64 - r) < 64 := by omega
      have e4 : i < 64 := by omega
      simp [hi, h1, e2, e3, e4]
      intro _; omega
  · simp [hi]
theorem below_mod (X r : Nat) (hr : r < 64) : decide (X % 2 ^ r ≠ 0) = (decide (X % 18446744073709551616 * 2 ^ (64 - r) % 18446744073709551616 ≠ 0) && decide (0 < r)) := by
  have e : (18446744073709551616 : Nat) = 2 ^ r * 2 ^ (64 - r) := by rw [← Nat.pow_add, show r + (64 - r) = 64 by omega]
  have h1 : X % 18446744073709551616 * 2 ^ (64 - r) % 18446744073709551616 = X % 2 ^ r * 2 ^ (64 - r) := by
    rw [e, Nat.mul_mod_mul_right, Nat.mod_mul_right_mod]
  rw [h1]
  have hp := Nat.two_pow_pos (64 - r)
  by_cases h0 : r = 0
  · subst h0; simp [Nat.mod_one]
  · have : (X % 2 ^ r * 2 ^ (64 - r) ≠ 0) = (X % 2 ^ r ≠ 0) := by
      apply propext
      rw [Nat.mul_ne_zero_iff]
      exact ⟨fun h => h.1, fun h => ⟨h, by omega⟩⟩
    simp only [this]
    rw [show decide (0 < r) = true from decide_eq_true (by omega), Bool.and_true]
theorem mod_words (A q r : Nat) (h : A % 2 ^ (64 * q) = 0) : (A % 2 ^ (64 * q + r) ≠ 0) = (A / 2 ^ (64 * q) % 2 ^ r ≠ 0) := by
  rw [Nat.pow_add, mod_split, h, Nat.add_zero]
  have hp := Nat.two_pow_pos (64 * q)
  apply propext
  rw [Nat.mul_ne_zero_iff]
  exact ⟨fun h => h.2, fun h => ⟨by omega, h⟩⟩
theorem mod_word_step (A i : Nat) (h : A % 2 ^ (64 * i) = 0) : (A % 2 ^ (64 * (i + 1)) = 0) = (wdn A i = 0) := by
  rw [pow_step, mod_split, h, Nat.add_zero]
  have hp := Nat.two_pow_pos (64 * i)
  unfold wdn
  apply propext
  rw [Nat.mul_eq_zero]
  exact ⟨fun h => h.resolve_left (by omega), fun h => .inr h⟩
theorem wdn_next (A q : Nat) : wdn A (q + 1) = A / 2 ^ (64 * q) / 18446744073709551616 % 18446744073709551616 := by unfold wdn; rw [pow_step, Nat.div_div_eq_div_mul]
theorem div_words (A q r : Nat) : A / 2 ^ (64 * q + r) = A / 2 ^ (64 * q) / 2 ^ r := by rw [Nat.pow_add, Nat.div_div_eq_div_mul]
theorem get_val (a b r : Nat) (hr : r < 64) (ha : a < 18446744073709551616) : bits .and .u64 (bits .or .u64 ((a : Int) / 2 ^ r) (IntKind.u64.wrap ((b : Int) * 2 ^ (64 - r)))) 9007199254740991 = ((((a / 2 ^ r ||| (b * 2 ^ (64 - r)) % 18446744073709551616) % 9007199254740992 : Nat)) : Int) := by
  have e1 : (a : Int) / 2 ^ r = ((a / 2 ^ r : Nat) : Int) := by simp
  have e2 : IntKind.u64.wrap ((b : Int) * 2 ^ (64 - r)) = ((b * 2 ^ (64 - r) % 18446744073709551616 : Nat) : Int) := by rw [IntKind.wrap_u64]; simp
  have h1 : a / 2 ^ r < 18446744073709551616 := Nat.lt_of_le_of_lt (Nat.div_le_self _ _) ha
  have h2 : b * 2 ^ (64 - r) % 18446744073709551616 < 18446744073709551616 := Nat.mod_lt _ (by omega)
  rw [e1, e2]
  generalize a / 2 ^ r = x at *
  generalize b * 2 ^ (64 - r) % 18446744073709551616 = y at *
  rw [or64 x y h1 h2, show (9007199254740991 : Int) = ((9007199254740991 : Nat) : Int) from rfl, and64 _ _ (Nat.or_lt_two_pow (n := 64) h1 h2) (by omega)]
  congr 1
  exact Nat.and_two_pow_sub_one_eq_mod _ 53
theorem get_val0 (a r : Nat) (hr : r < 64) (ha : a < 18446744073709551616) : bits .and .u64 ((a : Int) / 2 ^ r) 9007199254740991 = (((a / 2 ^ r % 9007199254740992 : Nat)) : Int) := by
  have e1 : (a : Int) / 2 ^ r = ((a / 2 ^ r : Nat) : Int) := by simp
  have h1 : a / 2 ^ r < 18446744073709551616 := Nat.lt_of_le_of_lt (Nat.div_le_self _ _) ha
  rw [e1, show (9007199254740991 : Int) = ((9007199254740991 : Nat) : Int) from rfl, and64 _ _ h1 (by omega)]
  congr 1
  exact Nat.and_two_pow_sub_one_eq_mod _ 53

end Go.Proofs.Ythplelglifnhoaa
/-! Exact sums: the plain law of the leading bit. -/
namespace Go.Proofs.Ythplelglifnhoaa
set_option linter.unusedVariables false

theorem bitLen_log {x : Nat} (h0 : x ≠ 0) (h : x < 18446744073709551616) : Lib.bitLen x = x.log2 + 1 := by
  have h1 := Nat.log2_self_le h0
  have h2 : x < 2 ^ (x.log2 + 1) := Nat.lt_log2_self
  rw [Lib.bitLen_shift x.log2 x h1 h]
  have : x / 2 ^ x.log2 = 1 := by
    have hp := Nat.two_pow_pos x.log2
    rw [Nat.pow_succ] at h2
    have h3 : x / 2 ^ x.log2 < 2 := by rw [Nat.div_lt_iff_lt_mul hp, Nat.mul_comm]; exact h2
    have h4 : 1 ≤ x / 2 ^ x.log2 := by rw [Nat.le_div_iff_mul_le hp, Nat.one_mul]; exact h1
    omega
  rw [this]
  rfl
/-- The leading bit's place among the first k words. -/
def topI (A k : Nat) : Int := if A % 2 ^ (64 * k) = 0 then -1 else ((A % 2 ^ (64 * k)).log2 : Int)
theorem topI_zero (A : Nat) : topI A 0 = -1 := by unfold topI; simp [Nat.mod_one]
theorem topI_same (A k : Nat) (h : wdn A k = 0) : topI A (k + 1) = topI A k := by
  unfold topI
  rw [pow_step, mod_split, show A / 2 ^ (64 * k) % 18446744073709551616 = 0 from h, Nat.mul_zero, Nat.zero_add]
theorem log2_top (x P y : Nat) (k : Nat) (hP : P = 2 ^ k) (hx : x ≠ 0) (hy : y < P) : (P * x + y).log2 = k + x.log2 := by
  have hp := Nat.two_pow_pos k
  have h1 := Nat.log2_self_le hx
  have h2 : x < 2 ^ (x.log2 + 1) := Nat.lt_log2_self
  have hne : P * x + y ≠ 0 := by
    have : 0 < P * x := Nat.mul_pos (by omega) (by omega)
    omega
  rw [Nat.log2_eq_iff hne]
  subst hP
  constructor
  · rw [Nat.pow_add]
    exact Nat.le_trans (Nat.mul_le_mul_left _ h1) (Nat.le_add_right _ _)
  · have h3 : 2 ^ k * x + y < 2 ^ k * (x + 1) := by rw [Nat.mul_add, Nat.mul_one]; omega
    rw [show k + x.log2 + 1 = k + (x.log2 + 1) by omega, Nat.pow_add]
    exact Nat.lt_of_lt_of_le h3 (Nat.mul_le_mul_left _ h2)
theorem topI_step (A k : Nat) (h : wdn A k ≠ 0) : topI A (k + 1) = 64 * (k : Int) + (Lib.bitLen (wdn A k) : Int) - 1 := by
  unfold topI
  rw [pow_step, mod_split]
  have hp := Nat.two_pow_pos (64 * k)
  have hx : A / 2 ^ (64 * k) % 18446744073709551616 ≠ 0 := h
  have hb := bitLen_log h (wdn_lt A k)
  have hne : 2 ^ (64 * k) * (A / 2 ^ (64 * k) % 18446744073709551616) + A % 2 ^ (64 * k) ≠ 0 := by
    have : 0 < 2 ^ (64 * k) * (A / 2 ^ (64 * k) % 18446744073709551616) := Nat.mul_pos hp (by omega)
    omega
  rw [if_neg hne, log2_top _ _ _ (64 * k) rfl hx (Nat.mod_lt _ hp), hb, show wdn A k = A / 2 ^ (64 * k) % 18446744073709551616 from rfl]
  omega
theorem topI_all (A N : Nat) (hA : A < 2 ^ N) (k : Nat) (hN : N = 64 * k) : topI A k = if A = 0 then -1 else (A.log2 : Int) := by
  subst hN
  unfold topI
  rw [Nat.mod_eq_of_lt hA]
theorem wdn_mod (W i N : Nat) (h : 64 * i + 64 ≤ N) : wdn (W % 2 ^ N) i = wdn W i := by
  unfold wdn
  obtain ⟨d, rfl⟩ : ∃ d, N = 64 * i + (64 + d) := ⟨N - 64 * i - 64, by omega⟩
  rw [Nat.pow_add, Nat.mod_mul_right_div_self, Nat.pow_add]
  exact Nat.mod_mul_right_mod _ _ _
theorem ws_mod (W N : Nat) (h : 2240 ≤ N) : ws (W % 2 ^ N) = ws W := by
  unfold ws
  congr 1
  funext i
  unfold wdv
  rw [wdn_mod W i.val N (by have := i.isLt; omega)]
/-- What is kept behind s bits that are dropped. -/
def upB (A s : Nat) : Bool := decide (A / 2 ^ (s - 1) % 2 = 1) && (decide (A / 2 ^ s % 2 = 1) || decide (A % 2 ^ (s - 1) ≠ 0))
def rungOf (A : Nat) : Nat := if A < 9007199254740992 then A else (A.log2 - 52) * 4503599627370496 + (A / 2 ^ (A.log2 - 52) + (upB A (A.log2 - 52)).toNat)
end Go.Proofs.Ythplelglifnhoaa
/-! Exact sums: what is told is the nearest number; a whole number and its power may be scaled. -/
namespace Go.Proofs.Ythplelglifnhoaa
set_option linter.unusedVariables false
open Ieee

theorem cut_plain (neg : Bool) (n s : Nat) (hs : s ≤ n.log2 + 2) : Toward.even.cut neg n s = n / 2 ^ s + (decide (2 ^ s < 2 * (n % 2 ^ s)) || (decide (2 ^ s = 2 * (n % 2 ^ s)) && decide (n / 2 ^ s % 2 = 1))).toNat := by
  unfold Toward.cut
  have hg : 1 <<< min s (n.log2 + 2) = 2 ^ s := by rw [Nat.min_eq_left hs, Nat.shiftLeft_eq, Nat.one_mul]
  simp only [hg]
  congr 2
theorem up_cut (A s : Nat) (hs : 1 ≤ s) : upB A s = (decide (2 ^ s < 2 * (A % 2 ^ s)) || (decide (2 ^ s = 2 * (A % 2 ^ s)) && decide (A / 2 ^ s % 2 = 1))) := by
  obtain ⟨t, rfl⟩ : ∃ t, s = t + 1 := ⟨s - 1, by omega⟩
  have hp := Nat.two_pow_pos t
  unfold upB
  rw [show t + 1 - 1 = t by omega]
  have e : A % 2 ^ (t + 1) = 2 ^ t * (A / 2 ^ t % 2) + A % 2 ^ t := by rw [Nat.pow_succ, mod_split]
  rw [e, Nat.pow_succ]
  have hr := Nat.mod_lt A hp
  have hh : A / 2 ^ t % 2 = 0 ∨ A / 2 ^ t % 2 = 1 := by omega
  generalize A / (2 ^ t * 2) % 2 = od
  generalize A % 2 ^ t = r at *
  generalize 2 ^ t = P at *
  rw [Bool.eq_iff_iff]
  simp only [Bool.and_eq_true, Bool.or_eq_true, decide_eq_true_eq]
  rcases hh with h | h
  · rw [h]; simp only [Nat.mul_zero, Nat.zero_add]; omega
  · rw [h]; simp only [Nat.mul_one, true_and]; omega
theorem near_rung (sg : Bool) (A : Nat) (h0 : A ≠ 0) : double.nearest sg A (-1074) = double.word sg (min (rungOf A) 9218868437227405312) := by
  unfold Format.nearest
  rw [if_neg h0]
  have hl : double.leastPlace = -1074 := by decide
  have hb : double.binade = 4503599627370496 := by decide
  have hi : double.infRung = 9218868437227405312 := by decide
  have hf : double.fractionBits = 52 := rfl
  simp only [hl, hb, hi, hf]
  unfold rungOf
  by_cases hs : A < 9007199254740992
  · have hlog : A.log2 ≤ 52 := by have := (Nat.log2_lt h0 (k := 53)).2 hs; omega
    have e1 : max ((-1074 : Int) + (A.log2 : Int) - ((52 : Nat) : Int)) (-1074) = -1074 := by omega
    rw [if_pos hs, e1]
    simp only [Int.sub_self, Int.toNat_zero, Nat.shiftLeft_zero]
    have := cut_plain sg A 0 (by omega)
    rw [this]
    simp [Nat.mod_one]
  · have hlog : 53 ≤ A.log2 := (Nat.le_log2 h0).2 (by omega)
    have e1 : max ((-1074 : Int) + (A.log2 : Int) - ((52 : Nat) : Int)) (-1074) = -1074 + ((A.log2 - 52 : Nat) : Int) := by omega
    rw [if_neg hs, e1]
    have e2 : ((-1074 : Int) - (-1074 + ((A.log2 - 52 : Nat) : Int))).toNat = 0 := by omega
    have e3 : ((-1074 : Int) + ((A.log2 - 52 : Nat) : Int) - (-1074)).toNat = A.log2 - 52 := by omega
    rw [e2, e3, Nat.shiftLeft_zero, cut_plain sg A (A.log2 - 52) (by omega), ← up_cut A (A.log2 - 52) (by omega)]
theorem cut_scale (neg : Bool) (n k d : Nat) (hn : 0 < n) (hd : d ≤ n.log2 + 2) : Toward.even.cut neg (n * 2 ^ k) (d + k) = Toward.even.cut neg n d := by
  rw [cut_plain neg n d hd, cut_plain neg (n * 2 ^ k) (d + k) (by rw [log2_mul _ _ hn]; omega)]
  have hp := Nat.two_pow_pos k
  have e1 : n * 2 ^ k / 2 ^ (d + k) = n / 2 ^ d := by rw [Nat.pow_add, Nat.mul_div_mul_right _ _ hp]
  have e2 : n * 2 ^ k % 2 ^ (d + k) = n % 2 ^ d * 2 ^ k := by rw [Nat.pow_add, Nat.mul_mod_mul_right]
  rw [e1, e2, Nat.pow_add]
  have e3 : decide (2 ^ d * 2 ^ k < 2 * (n % 2 ^ d * 2 ^ k)) = decide (2 ^ d < 2 * (n % 2 ^ d)) := by
    rw [Bool.eq_iff_iff]; simp only [decide_eq_true_eq]
    rw [← Nat.mul_assoc]
    exact Nat.mul_lt_mul_right hp
  have e4 : decide (2 ^ d * 2 ^ k = 2 * (n % 2 ^ d * 2 ^ k)) = decide (2 ^ d = 2 * (n % 2 ^ d)) := by
    rw [Bool.eq_iff_iff]; simp only [decide_eq_true_eq]
    rw [← Nat.mul_assoc]
    exact Nat.mul_left_inj (by omega)
  rw [e3, e4]
/-- A whole number and its power may be scaled. -/
theorem near_scale (sg : Bool) (n k : Nat) (hn : 0 < n) : double.nearest sg (n * 2 ^ k) (-1074) = double.nearest sg n (-1074 + (k : Int)) := by
  have h0 : n * 2 ^ k ≠ 0 := Nat.ne_of_gt (Nat.mul_pos hn (Nat.two_pow_pos _))
  unfold Format.nearest
  rw [if_neg h0, if_neg (by omega : n ≠ 0)]
  have hl : double.leastPlace = -1074 := by decide
  have hf : double.fractionBits = 52 := rfl
  simp only [hl, hf, log2_mul _ _ hn]
  have e1 : (-1074 : Int) + ((n.log2 + k : Nat) : Int) - ((52 : Nat) : Int) = -1074 + (k : Int) + (n.log2 : Int) - ((52 : Nat) : Int) := by omega
  rw [e1]
  obtain ⟨d, hd⟩ : ∃ d : Nat, max (-1074 + (k : Int) + (n.log2 : Int) - ((52 : Nat) : Int)) (-1074) = -1074 + (d : Int) := ⟨n.log2 + k - 52, by omega⟩
  have hdl : d ≤ n.log2 + k := by omega
  rw [hd]
  have a1 : ((-1074 : Int) - (-1074 + (d : Int))).toNat = 0 := by omega
  have a2 : ((-1074 : Int) + (d : Int) - (-1074)).toNat = d := by omega
  rw [a1, a2, Nat.shiftLeft_zero]
  by_cases hk : k ≤ d
  · have a3 : ((-1074 : Int) + (k : Int) - (-1074 + (d : Int))).toNat = 0 := by omega
    have a4 : ((-1074 : Int) + (d : Int) - (-1074 + (k : Int))).toNat = d - k := by omega
    rw [a3, a4, Nat.shiftLeft_zero]
    have := cut_scale sg n k (d - k) hn (by omega)
    rw [show d - k + k = d by omega] at this
    rw [this]
  · have a3 : ((-1074 : Int) + (k : Int) - (-1074 + (d : Int))).toNat = k - d := by omega
    have a4 : ((-1074 : Int) + (d : Int) - (-1074 + (k : Int))).toNat = 0 := by omega
    rw [a3, a4, Nat.shiftLeft_eq]
    have b1 : n * 2 ^ k = n * 2 ^ (k - d) * 2 ^ d := by rw [Nat.mul_assoc, ← Nat.pow_add, show k - d + d = k by omega]
    rw [b1, cut_exact sg (n * 2 ^ (k - d)) d (Nat.mul_pos hn (Nat.two_pow_pos _))]
    have := cut_plain sg (n * 2 ^ (k - d)) 0 (by omega)
    rw [this]
    simp [Nat.mod_one]
end Go.Proofs.Ythplelglifnhoaa
