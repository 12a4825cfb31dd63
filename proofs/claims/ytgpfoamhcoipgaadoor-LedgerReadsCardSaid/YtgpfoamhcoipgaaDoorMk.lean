import Derived.Test.YtgpfoamhcoipgaaDoorCt
import Derived.Test.YtgpfoamhcoipgaaDoorAr
import Derived.Deep.RegionLaw
/-! Marks read, and laid. -/
namespace Go.Proofs.YtgpfoamhcoipgaaDoor
open Go.RowKit
set_option linter.unusedVariables false
/-- A number with a sign as one without, and back. -/
def zig (x : Int) : Nat := if 0 ≤ x then (2 * x).toNat else (-2 * x - 1).toNat
def zag (n : Nat) : Int := if n % 2 = 0 then ((n / 2 : Nat) : Int) else -((n / 2 : Nat) : Int) - 1
theorem zig_zag (n : Nat) : zig (zag n) = n := by
  unfold zig zag
  split <;> split <;> omega
theorem zig_lt {x : Int} (h : -9223372036854775808 ≤ x ∧ x < 9223372036854775808) : zig x < 18446744073709551616 := by
  unfold zig; split <;> omega
theorem zag_range {n : Nat} (h : n < 18446744073709551616) : -9223372036854775808 ≤ zag n ∧ zag n < 9223372036854775808 := by
  unfold zag; split <;> omega
theorem zig_bits (x : Int) (h : -9223372036854775808 ≤ x ∧ x < 9223372036854775808) :
    bits .xor .u64 (IntKind.u64.wrap (wrap64 (x * 2))) (IntKind.u64.wrap (x / 9223372036854775808)) = (zig x : Int) := by
  unfold zig
  by_cases h0 : 0 ≤ x
  · rw [if_pos h0]
    have e1 : IntKind.u64.wrap (wrap64 (x * 2)) = (((2 * x).toNat : Nat) : Int) := by rw [IntKind.wrap_u64]; unfold wrap64; omega
    have e2 : IntKind.u64.wrap (x / 9223372036854775808) = ((0 : Nat) : Int) := by rw [IntKind.wrap_u64]; omega
    rw [e1, e2, xor64 _ _ (by omega) (by omega), Nat.xor_zero]
  · rw [if_neg h0]
    have e1 : IntKind.u64.wrap (wrap64 (x * 2)) = (((2 * x + 18446744073709551616).toNat : Nat) : Int) := by rw [IntKind.wrap_u64]; unfold wrap64; omega
    have e2 : IntKind.u64.wrap (x / 9223372036854775808) = ((18446744073709551615 : Nat) : Int) := by rw [IntKind.wrap_u64]; omega
    rw [e1, e2, xor64 _ _ (by omega) (by omega), Nat.xor_comm, ← xor64 _ _ (by omega) (by omega)]
    have := not64 (2 * x + 18446744073709551616).toNat (by omega)
    rw [show ((18446744073709551615 : Nat) : Int) = IntKind.u64.max from rfl, this]
    omega
theorem zag_bits (n : Nat) (h : n < 18446744073709551616) :
    bits .xor .i64 (wrap64 ((n : Int) / 2)) (wrap64 (-wrap64 (bits .and .u64 (n : Int) 1))) = zag n := by
  have e0 : bits .and .u64 (n : Int) 1 = ((n % 2 : Nat) : Int) := by
    rw [show (1 : Int) = ((2 ^ 1 - 1 : Nat) : Int) from rfl, and64 _ _ h (by omega), Nat.and_two_pow_sub_one_eq_mod]
  have e1 : wrap64 ((n : Int) / 2) = ((n / 2 : Nat) : Int) := by unfold wrap64; omega
  rw [e0, e1]
  have hx : ∀ y : Int, bits .xor .i64 ((n / 2 : Nat) : Int) y = IntKind.i64.wrap ((BitVec.ofInt 64 ((n / 2 : Nat) : Int) ^^^ BitVec.ofInt 64 y).toNat : Int) := fun y => rfl
  rw [hx]
  unfold zag
  by_cases h0 : n % 2 = 0
  · rw [if_pos h0, h0]
    rw [show BitVec.ofInt 64 (wrap64 (-wrap64 ((0 : Nat) : Int))) = 0#64 by decide +kernel, BitVec.xor_zero, ofInt_nat _ (by omega), IntKind.wrap_i64]
    omega
  · rw [if_neg h0, show n % 2 = 1 by omega]
    rw [show BitVec.ofInt 64 (wrap64 (-wrap64 ((1 : Nat) : Int))) = BitVec.allOnes 64 by decide +kernel, BitVec.xor_allOnes, BitVec.toNat_not, ofInt_nat _ (by omega), IntKind.wrap_i64]
    omega
/-- What is read is what would be laid. -/
theorem uintF_of_rdU (most : Nat) : ∀ (f i acc : Nat) (xs : List Int) (n : Nat) (rest : List Int), Bytes8 xs → i + f = 9 → rdU most (f + 1) i acc xs = some (n, rest) →
    ∃ m : Nat, n = acc + m * 2 ^ (7 * i) ∧ xs = uintF f m ++ rest ∧ (i = 0 ∨ 0 < m) := by
  intro f
  induction f with
  | zero =>
    intro i acc xs n rest h8 hi h
    cases xs with
    | nil => cases h
    | cons b xs =>
      have hb := h8 0 (by simp)
      have hb : 0 ≤ b ∧ b ≤ 255 := hb
      rw [rdU] at h
      split at h
      · split at h
        · split at h
          · rename_i h1 h2 h3
            injection h with h
            injection h with h4 h5
            refine ⟨b.toNat, ?_, ?_, by omega⟩
            · rw [← h4, show b.toNat % 128 = b.toNat from by omega]
            · subst h5
              show b :: xs = [((b.toNat : Nat) : Int)] ++ xs
              rw [show ((b.toNat : Nat) : Int) = b from by omega]
              rfl
          · cases h
        · rw [rdU] at h; cases h
      · cases h
  | succ f ih =>
    intro i acc xs n rest h8 hi h
    cases xs with
    | nil => cases h
    | cons b xs =>
      have hb := h8 0 (by simp)
      have hb : 0 ≤ b ∧ b ≤ 255 := hb
      have h8' : Bytes8 xs := fun j hj => h8 (j + 1) (by simpa using hj)
      rw [rdU] at h
      split at h
      · split at h
        · split at h
          · rename_i h1 h2 h3
            injection h with h
            injection h with h4 h5
            refine ⟨b.toNat, ?_, ?_, by omega⟩
            · rw [← h4, show b.toNat % 128 = b.toNat from by omega]
            · subst h5
              rw [uintF_small _ _ (by omega), show ((b.toNat : Nat) : Int) = b from by omega]
              rfl
          · cases h
        · rename_i h1 h2
          obtain ⟨m, e1, e2, e3⟩ := ih (i + 1) _ xs n rest h8' (by omega) h
          have hm : 0 < m := by omega
          refine ⟨b.toNat % 128 + 128 * m, ?_, ?_, by omega⟩
          · rw [e1, show 7 * (i + 1) = 7 + 7 * i from by omega, Nat.pow_add, show (2 : Nat) ^ 7 = 128 from rfl, Nat.add_assoc]
            congr 1
            rw [Nat.add_mul, ← Nat.mul_assoc, Nat.mul_comm m 128]
          · rw [uintF, if_neg (by omega), show (b.toNat % 128 + 128 * m) % 128 + 128 = b.toNat from by omega, show (b.toNat % 128 + 128 * m) / 128 = m from by omega, show ((b.toNat : Nat) : Int) = b from by omega]
            rw [e2]; rfl
      · cases h
theorem uintL_of_rdU {most : Nat} {xs : List Int} {n : Nat} {rest : List Int} (h8 : Bytes8 xs) (h : rdU most 10 0 0 xs = some (n, rest)) : xs = uintL n ++ rest := by
  obtain ⟨m, e1, e2, _⟩ := uintF_of_rdU most 9 0 0 xs n rest h8 rfl h
  rw [Nat.mul_zero, Nat.pow_zero, Nat.mul_one, Nat.zero_add] at e1
  subst e1
  exact e2
set_option maxRecDepth 100000 in
theorem int_none (g B : Nat) (xs : List Int) (w : World) (h : RdSt w g B xs) (h8 : Bytes8 xs) (hr : rdU 18446744073709551615 10 0 0 xs = none) :
    Calls Tryd.prog 17 #[.pointer (some ⟨g, 0, none⟩)] w fun e w' => e = badP ∧ w.grownBy w' (some g) := by
  have hc := uint_none g B 18446744073709551615 xs w h h8 (by decide) hr
  have hc : Calls Tryd.prog 13 #[.pointer (some ⟨g, 0, none⟩), .int .u64 18446744073709551615] w fun e w' => e = badP ∧ w.grownBy w' (some g) := hc
  clear hr h h8
  go_enter Tryd.func17, Tryd.ntmps17
  go_wp2_with (go_at_call 13; (with_reducible refine hc.mono ?_); rintro e w1 ⟨rfl, hg⟩)
  exact ⟨rfl, rfl, hg⟩
set_option maxRecDepth 100000 in
theorem int_some (g B n : Nat) (xs rest : List Int) (w : World) (h : RdSt w g B xs) (h8 : Bytes8 xs) (hr : rdU 18446744073709551615 10 0 0 xs = some (n, rest)) :
    Calls Tryd.prog 17 #[.pointer (some ⟨g, 0, none⟩)] w fun e w' => e = .returned (.int .i64 (zag n)) ∧ RdSt w' g B rest ∧ w.grownBy w' (some g) := by
  have hc := uint_some g B 18446744073709551615 n xs rest w h h8 (by decide) hr
  have hc : Calls Tryd.prog 13 #[.pointer (some ⟨g, 0, none⟩), .int .u64 18446744073709551615] w fun e w' => e = .returned (.int .u64 (n : Nat)) ∧ RdSt w' g B rest ∧ w.grownBy w' (some g) := hc
  have hm := (rdU_rest _ _ _ _ _ _ _ h8 hr).2
  have hz := Lib.hid (zag_bits n (by omega))
  clear hr h h8 hm
  go_enter Tryd.func17, Tryd.ntmps17
  go_wp2_with (go_at_call 13; (with_reducible refine hc.mono ?_); rintro e w1 ⟨rfl, hs, hg⟩)
  go_ret
  exact ⟨by rw [← hz.out]; rfl, hs, hg⟩
set_option maxRecDepth 100000 in
theorem colInt_any (base : Nat) (v : Value) (xs : List Int) (x : Int) (w : World) (hb : base ≤ w.heap.size) (ho : Own w base 5 .u8 v xs) (hx : -9223372036854775808 ≤ x ∧ x < 9223372036854775808) (hl : xs.length ≤ 1000000) :
    Calls Tryd.prog 20 #[v, .int .i64 x] w fun e w' => ∃ v', e = .returned v' ∧ Own w' base 5 .u8 v' (xs ++ uintL (zig x)) ∧ w.grownBy w' v.ownBlock ∧ ∀ k, v'.ownBlock = some k → v.ownBlock = some k ∨ w.heap.size ≤ k := by
  have hc := colUint_any base v xs (zig x) w hb ho (zig_lt hx) hl
  have hz := zig_bits x hx
  rw [← hz] at hc
  clear hz hx
  go_enter Tryd.func20, Tryd.ntmps20
  go_wp2_with (go_at_call 19; (with_reducible refine hc.mono ?_); rintro e w1 ⟨v', rfl, h2⟩)
  go_ret
  exact ⟨v', rfl, h2⟩
section
variable {w0 w1 w2 : World} {g B g2 r k : Nat} {C Z : Array Value} {ys zs : List Int} {z : Int} {CV vals : Nat → Value} {listed : Array Bool}
end
end Go.Proofs.YtgpfoamhcoipgaaDoor
