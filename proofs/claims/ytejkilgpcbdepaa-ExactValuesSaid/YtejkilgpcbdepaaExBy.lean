import Derived.Test.YtejkilgpcbdepaaExBa2
/-! Exact sums: a sum's bytes, said plainly. -/
namespace Go.Proofs.Ytejkilgpcbdepaa
open Go.RowKit
set_option linter.unusedVariables false

/-- A whole number's bytes, the lowest first. -/
def byt (W i : Nat) : Int := ((W / 2 ^ (8 * i) % 256 : Nat) : Int)
def full (W : Nat) : Nat → List Int
  | 0 => []
  | n + 1 => full W n ++ [byt W n]
theorem full_length (W : Nat) : ∀ n, (full W n).length = n := by
  intro n
  induction n with
  | zero => rfl
  | succ n ih => rw [full, List.length_append, ih]; rfl
theorem byt_range (W i : Nat) : 0 ≤ byt W i ∧ byt W i ≤ 255 := by unfold byt; omega
theorem rd_full (W : Nat) (i : Nat) : ∀ n, i < n → rd (full W n) i = byt W i := by
  intro n
  induction n with
  | zero => intro h; omega
  | succ n ih =>
    intro h
    rw [full, rd_append, full_length]
    by_cases e : i < n
    · rw [if_pos e]; exact ih e
    · rw [if_neg e]
      obtain rfl : i = n := by omega
      rw [Nat.sub_self]; rfl
theorem full_bytes (W n : Nat) : Bytes8 (full W n) := fun i hi => by
  rw [full_length] at hi
  rw [rd_full W i n hi]; exact byt_range W i
theorem full_take (W m : Nat) : ∀ n, m ≤ n → (full W n).take m = full W m := by
  intro n
  induction n with
  | zero => intro h; obtain rfl : m = 0 := by omega
            rfl
  | succ n ih =>
    intro h
    by_cases e : m = n + 1
    · subst e; rw [List.take_of_length_le (by rw [full_length]; exact Nat.le_refl _)]
    · rw [full, List.take_append_of_le_length (by rw [full_length]; omega)]
      exact ih (by omega)
/-- How many bytes are left where the last ones tell only the sign. -/
def trim (f : Nat → Int) (r : Int) : Nat → Nat
  | 0 => 0
  | n + 1 => if f n = r ∧ ((n = 0 ∧ r = 0) ∨ (0 < n ∧ f (n - 1) / 128 = r / 128)) then trim f r n else n + 1
theorem trim_le (f : Nat → Int) (r : Int) : ∀ n, trim f r n ≤ n := by
  intro n
  induction n with
  | zero => exact Nat.le_refl _
  | succ n ih => rw [trim]; split <;> omega
def restOf (sg : Bool) : Int := if sg = true then 255 else 0
def pw (k : Nat) : Int := match k with | 0 => 1 | 1 => 2 | 2 => 4 | 3 => 8 | _ => 16
def fbyte (A : Nat → Bool) : Nat → Int
  | 0 => 0
  | k + 1 => if A k = true then bits .or .u8 (fbyte A k) (pw k) else fbyte A k
def bytesOf (s : St) : List Int := fbyte (fl s) 5 :: full s.w (trim (byt s.w) (restOf (sgOf s.w)) 280)
theorem fbyte_eq (A : Nat → Bool) : fbyte A 5 = (A 0).toNat + 2 * (A 1).toNat + 4 * (A 2).toNat + 8 * (A 3).toNat + 16 * (A 4).toNat := by
  unfold fbyte fbyte fbyte fbyte fbyte fbyte
  cases A 0 <;> cases A 1 <;> cases A 2 <;> cases A 3 <;> cases A 4 <;> decide
theorem fbyte_range (A : Nat → Bool) : 0 ≤ fbyte A 5 ∧ fbyte A 5 ≤ 31 := by
  rw [fbyte_eq]
  cases A 0 <;> cases A 1 <;> cases A 2 <;> cases A 3 <;> cases A 4 <;> decide
theorem bytesOf_bytes (s : St) : Bytes8 (bytesOf s) := Bytes8.cons (by have := fbyte_range (fl s); omega) (full_bytes _ _)
/-- A word's bytes. -/
theorem byt_word (W k j : Nat) (hj : j < 8) : ((wdn W k : Nat) : Int) / 2 ^ (8 * j) % 256 = byt W (8 * k + j) := by
  unfold byt wdn
  have e : (W / 2 ^ (64 * k) % 18446744073709551616) / 2 ^ (8 * j) % 256 = W / 2 ^ (8 * (8 * k + j)) % 256 := by
    rw [show (18446744073709551616 : Nat) = 2 ^ (8 * j) * 2 ^ (64 - 8 * j) by rw [← Nat.pow_add, show 8 * j + (64 - 8 * j) = 64 by omega], Nat.mod_mul_right_div_self, Nat.div_div_eq_div_mul, ← Nat.pow_add, show 64 * k + 8 * j = 8 * (8 * k + j) by omega]
    exact Nat.mod_mod_of_dvd _ (by
      rw [show (256 : Nat) = 2 ^ 8 from rfl]
      exact Nat.pow_dvd_pow 2 (by omega))
  rw [← e]
  simp
end Go.Proofs.Ytejkilgpcbdepaa
