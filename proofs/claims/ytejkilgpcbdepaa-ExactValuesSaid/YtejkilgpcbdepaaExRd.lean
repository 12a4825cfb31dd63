import Derived.Test.YtejkilgpcbdepaaExBb
import Derived.Lib.BitFns
/-! Exact sums: a sum read from bytes, said plainly. -/
namespace Go.Proofs.Ytejkilgpcbdepaa
open Go.RowKit
set_option linter.unusedVariables false

/-- The whole number of some bytes, the lowest first. -/
def lowW (f : Nat → Nat) : Nat → Nat
  | 0 => 0
  | i + 1 => lowW f i + f i * 2 ^ (8 * i)
theorem lowW_lt (f : Nat → Nat) (hf : ∀ i, f i < 256) : ∀ i, lowW f i < 2 ^ (8 * i) := by
  intro i
  induction i with
  | zero => simp [lowW]
  | succ i ih =>
    rw [lowW, show 8 * (i + 1) = 8 + 8 * i by omega, Nat.pow_add]
    have := hf i
    have h1 : f i * 2 ^ (8 * i) ≤ 255 * 2 ^ (8 * i) := Nat.mul_le_mul_right _ (by omega)
    omega
theorem wdn_add_hi (L m k i : Nat) (h : 64 * (i + 1) ≤ k) : wdn (L + m * 2 ^ k) i = wdn L i := by
  unfold wdn
  have e : m * 2 ^ k = 2 ^ (64 * i) * (18446744073709551616 * (m * 2 ^ (k - 64 * (i + 1)))) := by
    have : 2 ^ k = 2 ^ (64 * i) * (18446744073709551616 * 2 ^ (k - 64 * (i + 1))) := by
      rw [show (18446744073709551616 : Nat) = 2 ^ 64 from rfl, ← Nat.pow_add, ← Nat.pow_add]; congr 1; omega
    rw [this]
    generalize 2 ^ (64 * i) = a
    generalize 2 ^ (k - 64 * (i + 1)) = b
    rw [← Nat.mul_assoc, ← Nat.mul_assoc, ← Nat.mul_assoc, Nat.mul_comm m a, Nat.mul_assoc a m, Nat.mul_comm m, ← Nat.mul_assoc a, Nat.mul_assoc]
  rw [e, Nat.add_mul_div_left _ _ (Nat.two_pow_pos _), Nat.add_mul_mod_self_left]
theorem or_join64 (i : Nat) (x y : Int) (hx0 : 0 ≤ x) (hx : x < 2 ^ i) (hy0 : 0 ≤ y) (hy : y % 2 ^ i = 0) (hx1 : x < 18446744073709551616) (hy1 : y < 18446744073709551616) : bits .or .u64 x y = x + y := by
  have h : bits .or .u64 y x = y + x := bits_join .u64 64 (by decide) (fun n h0 h1 => by rw [IntKind.wrap_u64]; omega) i y x hy0 hy hy1 hx0 hx hx1
  have hc : bits .or .u64 x y = bits .or .u64 y x := by simp only [bits, BitVec.or_comm]
  rw [hc, h]; omega
/-- One more byte laid into the words. -/
theorem ws_step (f : Nat → Nat) (hf : ∀ i, f i < 256) (i : Nat) (hi : i < 280) :
    (ws (lowW f i)).setIfInBounds (i / 8) (.int .u64 (bits .or .u64 ((wdn (lowW f i) (i / 8) : Nat) : Int) (IntKind.u64.wrap ((f i : Int) * 2 ^ (8 * (i % 8)))))) = ws (lowW f (i + 1)) := by
  have hL := lowW_lt f hf i
  have hb := hf i
  have hk : i = 8 * (i / 8) + i % 8 := by omega
  have hj : i % 8 < 8 := Nat.mod_lt _ (by decide)
  have hk35 : i / 8 < 35 := by omega
  show _ = ws (lowW f i + f i * 2 ^ (8 * i))
  generalize lowW f i = L at *
  generalize f i = b at *
  generalize i / 8 = k at *
  generalize i % 8 = j at *
  subst hk
  have hp : 2 ^ (8 * (8 * k + j)) = 2 ^ (64 * k) * 2 ^ (8 * j) := by rw [← Nat.pow_add]; congr 1; omega
  have hPk := Nat.two_pow_pos (64 * k)
  have hq : L / 2 ^ (64 * k) < 2 ^ (8 * j) := (Nat.div_lt_iff_lt_mul hPk).2 (by rw [Nat.mul_comm, ← hp]; exact hL)
  have hj56 : 2 ^ (8 * j) ≤ 2 ^ 56 := Nat.pow_le_pow_right (by decide) (by omega)
  have hbj : b * 2 ^ (8 * j) ≤ 255 * 2 ^ 56 := Nat.mul_le_mul (by omega) hj56
  have hdw : wdn L k = L / 2 ^ (64 * k) := Nat.mod_eq_of_lt (by omega)
  have hnew : wdn (L + b * 2 ^ (8 * (8 * k + j))) k = L / 2 ^ (64 * k) + b * 2 ^ (8 * j) := by
    unfold wdn
    rw [hp, show b * (2 ^ (64 * k) * 2 ^ (8 * j)) = 2 ^ (64 * k) * (b * 2 ^ (8 * j)) by rw [← Nat.mul_assoc, Nat.mul_comm b, Nat.mul_assoc], Nat.add_mul_div_left _ _ hPk]
    exact Nat.mod_eq_of_lt (by omega)
  have hval : bits .or .u64 ((wdn L k : Nat) : Int) (IntKind.u64.wrap ((b : Int) * 2 ^ (8 * j))) = ((L / 2 ^ (64 * k) + b * 2 ^ (8 * j) : Nat) : Int) := by
    have hw : IntKind.u64.wrap ((b : Int) * 2 ^ (8 * j)) = ((b * 2 ^ (8 * j) : Nat) : Int) := by
      rw [IntKind.wrap_u64, show ((b : Int) * 2 ^ (8 * j)) = ((b * 2 ^ (8 * j) : Nat) : Int) by simp]
      omega
    rw [hw, hdw, or_join64 (8 * j) _ _ (by omega) (by
      have : ((L / 2 ^ (64 * k) : Nat) : Int) < ((2 ^ (8 * j) : Nat) : Int) := by omega
      simpa using this) (by omega) (by
      simp) (by omega) (by omega)]
    omega
  rw [hval]
  apply Array.ext_getElem?
  intro m
  by_cases hm : m < 35
  · rw [ws_at _ m hm]
    by_cases e : k = m
    · subst e
      rw [Array.getElem?_setIfInBounds_self_of_lt (by rw [ws_size]; omega)]
      unfold wdv
      rw [hnew]
    · rw [Array.getElem?_setIfInBounds_ne e, ws_at _ m hm]
      unfold wdv
      rcases Nat.lt_or_ge m k with h | h
      · rw [wdn_add_hi L b _ m (by omega)]
      · have hlt : L + b * 2 ^ (8 * (8 * k + j)) < 2 ^ (64 * m) := by
          have h1 : b * 2 ^ (8 * (8 * k + j)) ≤ 255 * 2 ^ (8 * (8 * k + j)) := Nat.mul_le_mul_right _ (by omega)
          have h2 : 2 ^ (8 * (8 * k + j) + 8) ≤ 2 ^ (64 * m) := Nat.pow_le_pow_right (by decide) (by omega)
          rw [Nat.pow_add] at h2
          omega
        have z : ∀ X, X < 2 ^ (64 * m) → wdn X m = 0 := fun X hX => by unfold wdn; rw [Nat.div_eq_of_lt hX]
        rw [z _ hlt, z L (by omega)]
  · rw [Array.getElem?_eq_none (by rw [Array.size_setIfInBounds, ws_size]; omega), Array.getElem?_eq_none (by rw [ws_size]; omega)]
/-- The bytes that are read: those behind the first, then what tells the sign. -/
def rdB (p : List Int) (i : Nat) : Nat :=
  if i < p.length - 1 then (rd p (1 + i)).toNat else if 0 < p.length - 1 ∧ 128 ≤ rd p (p.length - 1) then 255 else 0
theorem rdB_lt (p : List Int) (h : Bytes8 p) (i : Nat) : rdB p i < 256 := by
  unfold rdB
  split
  · have := h (1 + i) (by omega); omega
  · split <;> omega
def markR (f : Int) (k : Nat) : Bool := decide (0 < bits .and .u8 f (pw k))
/-- The sum that some bytes tell, before it is asked whether it has just these. -/
def rdSt (p : List Int) : St := mkSt (lowW (rdB p) 280) (markR (rd p 0))
/-- What is read. -/
def readR (p : List Int) : St × Int :=
  if p.length < 1 ∨ 281 < p.length ∨ 31 < rd p 0 then (noSt, 3) else if bytesOf (rdSt p) = p then (rdSt p, 0) else (noSt, 3)
end Go.Proofs.Ytejkilgpcbdepaa
