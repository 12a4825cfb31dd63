import Derived.Test.YtejkilgpcbdepaaRealExact
import Derived.Test.YtejkilgpcbdepaaExIm
/-! Exact sums: what is told is the nearest number; a whole number and its power may be scaled. -/
namespace Go.Proofs.Ytejkilgpcbdepaa
set_option linter.unusedVariables false
open Ieee

theorem cut_plain (neg : Bool) (n s : Nat) (hs : s ≤ n.log2 + 2) : Toward.even.cut neg n s = n / 2 ^ s + (decide (2 ^ s < 2 * (n % 2 ^ s)) || (decide (2 ^ s = 2 * (n % 2 ^ s)) && decide (n / 2 ^ s % 2 = 1))).toNat := by
  unfold Toward.cut
  have hg : 1 <<< min s (n.log2 + 2) = 2 ^ s := by rw [Nat.min_eq_left hs, Nat.shiftLeft_eq, Nat.one_mul]
  simp only [hg]
  congr 2
theorem up_cut (A s : Nat) (hs : 1 ≤ s) : upB A s = (decide (2 ^ s < 2 * (A % 2 ^ s)) || (decide (2 ^ s = 2 * (A % 2 ^ s)) && decide (A / 2 ^ s % 2 = 1))) := by
  obtain ⟨t, rfl⟩ : ∃ t, s = t + 1 := ⟨s - 1, by omega⟩
  have hp := Nat.two_pow_pos t
  unfold upB
  rw [show t + 1 - 1 = t by omega]
  have e : A % 2 ^ (t + 1) = 2 ^ t * (A / 2 ^ t % 2) + A % 2 ^ t := by rw [Nat.pow_succ, mod_split]
  rw [e, Nat.pow_succ]
  have hr := Nat.mod_lt A hp
  have hh : A / 2 ^ t % 2 = 0 ∨ A / 2 ^ t % 2 = 1 := by omega
  generalize A / (2 ^ t * 2) % 2 = od
  generalize A % 2 ^ t = r at *
  generalize 2 ^ t = P at *
  rw [Bool.eq_iff_iff]
  simp only [Bool.and_eq_true, Bool.or_eq_true, decide_eq_true_eq]
  rcases hh with h | h
  · rw [h]; simp only [Nat.mul_zero, Nat.zero_add]; omega
  · rw [h]; simp only [Nat.mul_one, true_and]; omega
theorem near_rung (sg : Bool) (A : Nat) (h0 : A ≠ 0) : double.nearest sg A (-1074) = double.word sg (min (rungOf A) 9218868437227405312) := by
  unfold Format.nearest
  rw [if_neg h0]
  have hl : double.leastPlace = -1074 := by decide
  have hb : double.binade = 4503599627370496 := by decide
  have hi : double.infRung = 9218868437227405312 := by decide
  have hf : double.fractionBits = 52 := rfl
  simp only [hl, hb, hi, hf]
  unfold rungOf
  by_cases hs : A < 9007199254740992
  · have hlog : A.log2 ≤ 52 := by have := (Nat.log2_lt h0 (k := 53)).2 hs; omega
    have e1 : max ((-1074 : Int) + (A.log2 : Int) - ((52 : Nat) : Int)) (-1074) = -1074 := by omega
    rw [if_pos hs, e1]
    simp only [Int.sub_self, Int.toNat_zero, Nat.shiftLeft_zero]
    have := cut_plain sg A 0 (by omega)
    rw [this]
    simp [Nat.mod_one]
  · have hlog : 53 ≤ A.log2 := (Nat.le_log2 h0).2 (by omega)
    have e1 : max ((-1074 : Int) + (A.log2 : Int) - ((52 : Nat) : Int)) (-1074) = -1074 + ((A.log2 - 52 : Nat) : Int) := by omega
    rw [if_neg hs, e1]
    have e2 : ((-1074 : Int) - (-1074 + ((A.log2 - 52 : Nat) : Int))).toNat = 0 := by omega
    have e3 : ((-1074 : Int) + ((A.log2 - 52 : Nat) : Int) - (-1074)).toNat = A.log2 - 52 := by omega
    rw [e2, e3, Nat.shiftLeft_zero, cut_plain sg A (A.log2 - 52) (by omega), ← up_cut A (A.log2 - 52) (by omega)]
theorem cut_scale (neg : Bool) (n k d : Nat) (hn : 0 < n) (hd : d ≤ n.log2 + 2) : Toward.even.cut neg (n * 2 ^ k) (d + k) = Toward.even.cut neg n d := by
  rw [cut_plain neg n d hd, cut_plain neg (n * 2 ^ k) (d + k) (by rw [log2_mul _ _ hn]; omega)]
  have hp := Nat.two_pow_pos k
  have e1 : n * 2 ^ k / 2 ^ (d + k) = n / 2 ^ d := by rw [Nat.pow_add, Nat.mul_div_mul_right _ _ hp]
  have e2 : n * 2 ^ k % 2 ^ (d + k) = n % 2 ^ d * 2 ^ k := by rw [Nat.pow_add, Nat.mul_mod_mul_right]
  rw [e1, e2, Nat.pow_add]
  have e3 : decide (2 ^ d * 2 ^ k < 2 * (n % 2 ^ d * 2 ^ k)) = decide (2 ^ d < 2 * (n % 2 ^ d)) := by
    rw [Bool.eq_iff_iff]; simp only [decide_eq_true_eq]
    rw [← Nat.mul_assoc]
    exact Nat.mul_lt_mul_right hp
  have e4 : decide (2 ^ d * 2 ^ k = 2 * (n % 2 ^ d * 2 ^ k)) = decide (2 ^ d = 2 * (n % 2 ^ d)) := by
    rw [Bool.eq_iff_iff]; simp only [decide_eq_true_eq]
    rw [← Nat.mul_assoc]
    exact Nat.mul_left_inj (by omega)
  rw [e3, e4]
/-- A whole number and its power may be scaled. -/
theorem near_scale (sg : Bool) (n k : Nat) (hn : 0 < n) : double.nearest sg (n * 2 ^ k) (-1074) = double.nearest sg n (-1074 + (k : Int)) := by
  have h0 : n * 2 ^ k ≠ 0 := Nat.ne_of_gt (Nat.mul_pos hn (Nat.two_pow_pos _))
  unfold Format.nearest
  rw [if_neg h0, if_neg (by omega : n ≠ 0)]
  have hl : double.leastPlace = -1074 := by decide
  have hf : double.fractionBits = 52 := rfl
  simp only [hl, hf, log2_mul _ _ hn]
  have e1 : (-1074 : Int) + ((n.log2 + k : Nat) : Int) - ((52 : Nat) : Int) = -1074 + (k : Int) + (n.log2 : Int) - ((52 : Nat) : Int) := by omega
  rw [e1]
  obtain ⟨d, hd⟩ : ∃ d : Nat, max (-1074 + (k : Int) + (n.log2 : Int) - ((52 : Nat) : Int)) (-1074) = -1074 + (d : Int) := ⟨n.log2 + k - 52, by omega⟩
  have hdl : d ≤ n.log2 + k := by omega
  rw [hd]
  have a1 : ((-1074 : Int) - (-1074 + (d : Int))).toNat = 0 := by omega
  have a2 : ((-1074 : Int) + (d : Int) - (-1074)).toNat = d := by omega
  rw [a1, a2, Nat.shiftLeft_zero]
  by_cases hk : k ≤ d
  · have a3 : ((-1074 : Int) + (k : Int) - (-1074 + (d : Int))).toNat = 0 := by omega
    have a4 : ((-1074 : Int) + (d : Int) - (-1074 + (k : Int))).toNat = d - k := by omega
    rw [a3, a4, Nat.shiftLeft_zero]
    have := cut_scale sg n k (d - k) hn (by omega)
    rw [show d - k + k = d by omega] at this
    rw [this]
  · have a3 : ((-1074 : Int) + (k : Int) - (-1074 + (d : Int))).toNat = k - d := by omega
    have a4 : ((-1074 : Int) + (d : Int) - (-1074 + (k : Int))).toNat = 0 := by omega
    rw [a3, a4, Nat.shiftLeft_eq]
    have b1 : n * 2 ^ k = n * 2 ^ (k - d) * 2 ^ d := by rw [Nat.mul_assoc, ← Nat.pow_add, show k - d + d = k by omega]
    rw [b1, cut_exact sg (n * 2 ^ (k - d)) d (Nat.mul_pos hn (Nat.two_pow_pos _))]
    have := cut_plain sg (n * 2 ^ (k - d)) 0 (by omega)
    rw [this]
    simp [Nat.mod_one]
end Go.Proofs.Ytejkilgpcbdepaa
