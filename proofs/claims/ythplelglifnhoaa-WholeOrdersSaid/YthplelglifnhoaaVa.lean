import Derived.Test.YthplelglifnhoaaRd
import Derived.Deep.CutBlock
import Derived.Deep.DeepCutAuto
import Derived.Test.YthplelglifnhoaaPl
import Derived.Test.YthplelglifnhoaaAd
/-! Exact sums: the document's answer: bits in rows. -/
namespace Go.Proofs.Ythplelglifnhoaa
open Go.RowKit
set_option linter.unusedVariables false

def bit (A i : Nat) : Nat := A / 2 ^ i % 2
theorem bit_lt (A i : Nat) : bit A i < 2 := Nat.mod_lt _ (by decide)
/-- The carry into a place. -/
def carryN (A B c i : Nat) : Nat := (A % 2 ^ i + B % 2 ^ i + c) / 2 ^ i
theorem carryN_zero (A B c : Nat) : carryN A B c 0 = c := by simp [carryN, Nat.mod_one]
theorem carryN_le (A B c i : Nat) (hc : c ≤ 1) : carryN A B c i ≤ 1 := by
  unfold carryN
  have h1 := Nat.mod_lt A (Nat.two_pow_pos i)
  have h2 := Nat.mod_lt B (Nat.two_pow_pos i)
  have h3 : (A % 2 ^ i + B % 2 ^ i + c) / 2 ^ i < 2 := (Nat.div_lt_iff_lt_mul (Nat.two_pow_pos i)).2 (by omega)
  omega
theorem bit_add (A B c i : Nat) : bit (A + B + c) i = (bit A i + bit B i + carryN A B c i) % 2 := by
  have hp := Nat.two_pow_pos i
  have e : (A + B + c) / 2 ^ i = A / 2 ^ i + B / 2 ^ i + carryN A B c i := by
    unfold carryN
    have h1 := Nat.div_add_mod A (2 ^ i)
    have h2 := Nat.div_add_mod B (2 ^ i)
    have h3 : A + B + c = (A % 2 ^ i + B % 2 ^ i + c) + 2 ^ i * (A / 2 ^ i + B / 2 ^ i) := by rw [Nat.mul_add]; omega
    rw [h3, Nat.add_mul_div_left _ _ hp]; omega
  unfold bit
  rw [e]; omega
theorem carryN_succ (A B c i : Nat) : carryN A B c (i + 1) = (bit A i + bit B i + carryN A B c i) / 2 := by
  unfold carryN bit
  rw [Nat.pow_succ, mod_split A (2 ^ i), mod_split B (2 ^ i), ← Nat.div_div_eq_div_mul]
  have hp := Nat.two_pow_pos i
  have e : 2 ^ i * (A / 2 ^ i % 2) + A % 2 ^ i + (2 ^ i * (B / 2 ^ i % 2) + B % 2 ^ i) + c = (A % 2 ^ i + B % 2 ^ i + c) + 2 ^ i * (A / 2 ^ i % 2 + B / 2 ^ i % 2) := by rw [Nat.mul_add]; omega
  rw [e, Nat.add_mul_div_left _ _ hp]
  congr 1; omega
theorem bit_testBit (A i : Nat) : A.testBit i = decide (bit A i = 1) := by unfold bit; exact Nat.testBit_eq_decide_div_mod_eq
/-- The bits turned. -/
theorem bit_compl (A N i : Nat) (hA : A < 2 ^ N) (hi : i < N) : bit (2 ^ N - (A + 1)) i = 1 - bit A i := by
  have h := Nat.testBit_two_pow_sub_succ hA i
  rw [bit_testBit, bit_testBit, decide_eq_true hi, Bool.true_and] at h
  have h1 := bit_lt A i
  have h2 := bit_lt (2 ^ N - (A + 1)) i
  by_cases e : bit A i = 1
  · rw [decide_eq_true e] at h
    have := of_decide_eq_false h
    omega
  · rw [decide_eq_false e] at h
    have := of_decide_eq_true h
    omega
/-- A row of bits. -/
def bC (f : Nat → Nat) : Array Value := (Array.range 2240).map fun i => .int .u8 (f i : Int)
theorem bC_size (f : Nat → Nat) : (bC f).size = 2240 := by simp [bC]
theorem bC_at (f : Nat → Nat) (i : Nat) (h : i < 2240) : (bC f)[i]? = some (.int .u8 (f i : Int)) := by simp [bC, h]
theorem bC_congr {f g : Nat → Nat} (h : ∀ k, k < 2240 → f k = g k) : bC f = bC g := by
  apply Array.ext_getElem?
  intro k
  by_cases hk : k < 2240
  · rw [bC_at _ k hk, bC_at _ k hk, h k hk]
  · rw [Array.getElem?_eq_none (by rw [bC_size]; omega), Array.getElem?_eq_none (by rw [bC_size]; omega)]
theorem bC_set (f : Nat → Nat) (i v : Nat) (h : i < 2240) : (bC f).setIfInBounds i (.int .u8 (v : Int)) = bC (fun k => if k = i then v else f k) := by
  apply Array.ext_getElem?
  intro k
  by_cases hk : k < 2240
  · rw [bC_at _ k hk]
    by_cases e : k = i
    · subst e; rw [Array.getElem?_setIfInBounds_self_of_lt (by rw [bC_size]; omega), if_pos rfl]
    · rw [Array.getElem?_setIfInBounds_ne (Ne.symm e), bC_at _ k hk, if_neg e]
  · rw [Array.getElem?_eq_none (by rw [Array.size_setIfInBounds, bC_size]; omega), Array.getElem?_eq_none (by rw [bC_size]; omega)]
theorem bC_zero : bC (fun _ => 0) = Array.replicate 2240 (.int .u8 0) := by
  apply Array.ext_getElem?
  intro k
  by_cases hk : k < 2240
  · rw [bC_at _ k hk, Array.getElem?_replicate, if_pos hk]; rfl
  · rw [Array.getElem?_eq_none (by rw [bC_size]; omega), Array.getElem?_eq_none (by simp; omega)]
/-- The bits of a number lie in a row. -/
def BitsAt (w : World) (g A : Nat) : Prop := ∀ i, i < 2240 → w.cell? ⟨g, i, none⟩ = some (.int .u8 (bit A i : Int))
theorem BitsAt.below {w w' : World} {g A : Nat} (h : BitsAt w g A) (hb : Below w.heap.size w w') : BitsAt w' g A := fun i hi => cell_below hb (h i hi)
theorem BitsAt.of_row {w : World} {g A : Nat} {t : TypeId} {fr : Nat × Nat} (f : Nat → Nat) (h : w.heap[g]? = some (.cells (bC f) t fr)) (hf : ∀ k, k < 2240 → f k = bit A k) : BitsAt w g A := fun i hi => by
  rw [cell_of_row _ _ _ _ _ _ h, bC_at f i hi, hf i hi]
theorem BitsAt.lt {w : World} {g A : Nat} (h : BitsAt w g A) : g < w.heap.size := cell_lt (h 0 (by decide))
abbrev rowV (g : Nat) : Value := .slice (some ⟨g, 0, none⟩) 2240 2240
def mixB (f : Nat → Nat) (i k : Nat) : Nat := if k < i then f k else 0
theorem mixB_step (f : Nat → Nat) (i : Nat) (hi : i < 2240) : (bC (mixB f i)).setIfInBounds i (.int .u8 (f i : Int)) = bC (mixB f (i + 1)) := by
  rw [bC_set _ i _ hi]
  refine bC_congr fun k _ => ?_
  unfold mixB
  by_cases e : k = i
  · rw [if_pos e, if_pos (by omega), e]
  · rw [if_neg e]
    by_cases h : k < i
    · rw [if_pos h, if_pos (by omega)]
    · rw [if_neg h, if_neg (by omega)]
set_option maxRecDepth 100000 in
theorem run_make2240 (w : World) : (Instr.makeSlice 52 (.int .i64 2240) (.int .i64 2240)).run Try.prog w = .ok (rowV w.heap.size) (w.alloc (.cells (bC fun _ => 0) 5)) := by
  obtain ⟨i, hi, hz, hs, hb⟩ := info_parts infoU8
  have := run_makeSlice (P := Try.prog) (w := w) 52 5 i (.int .u8 0) Try.underlying52 hi hz .i64 .i64 2240 2240 (by decide) (by decide) (by rw [hs]; decide) (by rw [hb]; decide) (by decide)
  rw [hs] at this
  rw [this]
  have e : madeCells (Value.int .u8 0).cells (Int.toNat 2240 * 1) = bC (fun _ => 0) := by
    unfold madeCells bC
    show (Array.range 2240).map _ = (Array.range 2240).map _
    congr 1
    funext x
    rw [show x % (Value.int IntKind.u8 0).cells.size = 0 from Nat.mod_one x]
    rfl
  rw [e]
  rfl
theorem row_read {w : World} {g A : Nat} (h : BitsAt w g A) (i : Nat) (hi : i < 2240) : w.cell? ⟨g, i, none⟩ = some (.int .u8 (bit A i : Int)) := h i hi
set_option maxRecDepth 100000 in
set_option maxHeartbeats 2000000 in
theorem refTurn_any (g A N : Nat) (w : World) (hN : N = 2240) (hA : A < 2 ^ N) (hg : BitsAt w g A) :
    Calls Try.prog 70 #[rowV g] w fun e w' => ∃ k, e = .returned (rowV k) ∧ w.heap.size ≤ k ∧ BitsAt w' k (2 ^ N - A) ∧ Below w.heap.size w w' := by
  have hcp := fun i (hi : i < 2240) => bit_compl A N i hA (by omega)
  have hsum : ∀ i, bit (2 ^ N - (A + 1) + 0 + 1) i = bit (2 ^ N - A) i := fun i => by
    rw [show 2 ^ N - (A + 1) + 0 + 1 = 2 ^ N - A by clear hcp hN; omega]
  have hadd := bit_add (2 ^ N - (A + 1)) 0 1
  have hcs := carryN_succ (2 ^ N - (A + 1)) 0 1
  have hc0 := carryN_zero (2 ^ N - (A + 1)) 0 1
  have hcl := fun i => carryN_le (2 ^ N - (A + 1)) 0 1 i (Nat.le_refl _)
  have hb0 : ∀ i, bit 0 i = 0 := fun i => by simp [bit]
  generalize 2 ^ N - A = C at *
  generalize 2 ^ N - (A + 1) = D at *
  clear hA
  go_enter Try.func70, Try.ntmps70
  have hmk := run_make2240
  go_wp2_with fail
  have hg0 := heap_alloc_new w (.cells (bC fun _ => 0) 5)
  have hb1 := below_alloc (Below.refl w.heap.size w) (.cells (bC fun _ => 0) 5)
  have Hsum := Lib.hid hsum
  have Hadd := Lib.hid hadd
  have Hcs := Lib.hid hcs
  have Hc0 := Lib.hid hc0
  have Hcl := Lib.hid hcl
  have Hb0 := Lib.hid hb0
  have Hcp := Lib.hid hcp
  have Hg := Lib.hid hg
  have hmz : bC (fun _ => 0) = bC (mixB (bit C) 0) := bC_congr fun k _ => by simp [mixB]
  have Hmz := Lib.hid hmz
  clear hsum hadd hcs hc0 hcl hb0 hcp hg hmz hmk hN
  go_loopw [4, 5] (fun c v wr => ∃ i : Nat, i ≤ 2240 ∧ v = .int .i64 i ∧ c = .int .u8 (carryN D 0 1 i : Nat) ∧ wr.heap[w.heap.size]? = some (.cells (bC (mixB (bit C) i)) 5 (0, 0)) ∧ Below w.heap.size w wr) (fun _ v _ => 2240 - (intOf v).toNat)
  case atStart => exact ⟨0, by omega, rfl, by rw [Hc0.out]; rfl, by rw [← Hmz.out]; exact hg0, hb1⟩
  case round =>
    obtain ⟨i, hi, rfl, rfl, hrow, hb⟩ := hrel
    clear hg0 hb1
    by_cases hlt : i < 2240
    · have ca := (Hg.out.below hb) i hlt
      have hcell := (cell_of_row _ _ i _ _ _ hrow).trans (bC_at _ i hlt)
      have hfz := frozen_of_row hrow i
      have e1 := Hcp.out i hlt
      have e2 := Hadd.out i
      have e3 := Hcs.out i
      have e4 := Hsum.out i
      have e5 := Hb0.out i
      have e6 := Hcl.out i
      have e7 := bit_lt A i
      rw [e1, e5] at e2 e3
      rw [e4] at e2
      have hst := mixB_step (bit C) i hlt
      have Hrow := Lib.hid hrow
      have hq : ∃ a c : Nat, bit A i = a ∧ carryN D 0 1 i = c := ⟨_, _, rfl, rfl⟩
      obtain ⟨a, c, ha, hc⟩ := hq
      rw [ha] at ca e2 e3 e7
      rw [hc] at e2 e3 e6
      rw [hc]
      have E2 := Lib.hid e2
      have E3 := Lib.hid e3
      have Hst := Lib.hid hst
      clear e1 e2 e3 e4 e5 ha hc hst hrow
      generalize mixB (bit C) i i = z at *
      have hac : a = 0 ∨ a = 1 := by omega
      have hcc : c = 0 ∨ c = 1 := by omega
      rcases hac with rfl | rfl <;> rcases hcc with rfl | rfl
      all_goals
        go_wp2_with fail
        refine ⟨⟨i + 1, by omega, by go_num, by rw [E3.out]; rfl, ?_, hb.setCell (p := ⟨w.heap.size, i, none⟩) (Nat.le_refl _) _⟩, by simp [intOf]; omega⟩
        rw [← Hst.out, E2.out]
        exact heap_setCell_at (k := i) Hrow.out _
    · obtain rfl : i = 2240 := by omega
      go_wp2_with fail
      go_ret
      exact ⟨w.heap.size, rfl, Nat.le_refl _, BitsAt.of_row _ hrow (fun k hk => by unfold mixB; rw [if_pos hk]), hb⟩
set_option maxRecDepth 100000 in
set_option maxHeartbeats 2000000 in
theorem refAdd_any (g h A B : Nat) (w : World) (hg : BitsAt w g A) (hh : BitsAt w h B) :
    Calls Try.prog 71 #[rowV g, rowV h] w fun e w' => ∃ k, e = .returned (rowV k) ∧ w.heap.size ≤ k ∧ BitsAt w' k (A + B) ∧ Below w.heap.size w w' := by
  have hadd : ∀ i, bit (A + B) i = (bit A i + bit B i + carryN A B 0 i) % 2 := fun i => bit_add A B 0 i
  have hcs := carryN_succ A B 0
  have hc0 := carryN_zero A B 0
  have hcl := fun i => carryN_le A B 0 i (by decide)
  have hmk := run_make2240
  go_enter Try.func71, Try.ntmps71
  go_wp2_with fail
  have hg0 := heap_alloc_new w (.cells (bC fun _ => 0) 5)
  have hb1 := below_alloc (Below.refl w.heap.size w) (.cells (bC fun _ => 0) 5)
  have Hadd := Lib.hid hadd
  have Hcs := Lib.hid hcs
  have Hc0 := Lib.hid hc0
  have Hcl := Lib.hid hcl
  have Hg := Lib.hid hg
  have Hh := Lib.hid hh
  have hmz : bC (fun _ => 0) = bC (mixB (bit (A + B)) 0) := bC_congr fun k _ => by simp [mixB]
  have Hmz := Lib.hid hmz
  clear hadd hcs hc0 hcl hg hh hmz hmk
  go_loopw [6, 7] (fun c v wr => ∃ i : Nat, i ≤ 2240 ∧ v = .int .i64 i ∧ c = .int .u8 (carryN A B 0 i : Nat) ∧ wr.heap[w.heap.size]? = some (.cells (bC (mixB (bit (A + B)) i)) 5 (0, 0)) ∧ Below w.heap.size w wr) (fun _ v _ => 2240 - (intOf v).toNat)
  case atStart => exact ⟨0, by omega, rfl, by rw [Hc0.out]; rfl, by rw [← Hmz.out]; exact hg0, hb1⟩
  case round =>
    obtain ⟨i, hi, rfl, rfl, hrow, hb⟩ := hrel
    clear hg0 hb1
    by_cases hlt : i < 2240
    · have ca : wr.drew.cell? ⟨g, i, none⟩ = some (.int .u8 (bit A i : Int)) := (Hg.out.below hb) i hlt
      have cb : wr.drew.cell? ⟨h, i, none⟩ = some (.int .u8 (bit B i : Int)) := (Hh.out.below hb) i hlt
      have hcell : wr.drew.cell? ⟨w.heap.size, i, none⟩ = _ := (cell_of_row _ _ i _ _ _ hrow).trans (bC_at _ i hlt)
      have hfz : wr.drew.frozen? ⟨w.heap.size, i, none⟩ = false := frozen_of_row hrow i
      have e2 := Hadd.out i
      have e3 := Hcs.out i
      have e6 := Hcl.out i
      have e7 := bit_lt A i
      have e8 := bit_lt B i
      have hst := mixB_step (bit (A + B)) i hlt
      have Hrow := Lib.hid hrow
      obtain ⟨a, ha⟩ : ∃ a, bit A i = a := ⟨_, rfl⟩
      obtain ⟨b, hbb⟩ : ∃ b, bit B i = b := ⟨_, rfl⟩
      obtain ⟨c, hc⟩ : ∃ c, carryN A B 0 i = c := ⟨_, rfl⟩
      rw [ha] at ca e2 e3 e7
      rw [hbb] at cb e2 e3 e8
      rw [hc] at e2 e3 e6
      rw [hc]
      have E2 := Lib.hid e2
      have E3 := Lib.hid e3
      have Hst := Lib.hid hst
      clear e2 e3 ha hbb hc hst hrow
      generalize mixB (bit (A + B)) i i = z at *
      have hac : a = 0 ∨ a = 1 := by omega
      have hbc : b = 0 ∨ b = 1 := by omega
      have hcc : c = 0 ∨ c = 1 := by omega
      rcases hac with rfl | rfl <;> rcases hbc with rfl | rfl <;> rcases hcc with rfl | rfl
      all_goals
        go_upto_region 6 with fail
        go_region_with fail
        all_goals
          go_wp2_with fail
          refine ⟨⟨i + 1, by omega, by go_num, by rw [E3.out]; rfl, ?_, (hb.setCell (p := ⟨w.heap.size, i, none⟩) (Nat.le_refl _) _).drew⟩, by simp [intOf]; omega⟩
          rw [← Hst.out, E2.out]
          exact heap_setCell_at (k := i) Hrow.out _
    · obtain rfl : i = 2240 := by omega
      go_wp2_with fail
      go_ret
      exact ⟨w.heap.size, rfl, Nat.le_refl _, BitsAt.of_row _ hrow (fun k hk => by unfold mixB; rw [if_pos hk]), hb⟩
end Go.Proofs.Ythplelglifnhoaa
/-! Exact sums: the document's answer: a number's bits; which of two numbers is above. -/
namespace Go.Proofs.Ythplelglifnhoaa
open Go.RowKit
set_option linter.unusedVariables false

theorem bit_shift (m E k : Nat) (hm : m < 2 ^ 53) : bit (m * 2 ^ E) k = if E ≤ k ∧ k < E + 53 then bit m (k - E) else 0 := by
  unfold bit
  by_cases h1 : E ≤ k
  · have e : 2 ^ k = 2 ^ E * 2 ^ (k - E) := by rw [← Nat.pow_add]; congr 1; omega
    rw [e, ← Nat.div_div_eq_div_mul, Nat.mul_div_cancel _ (Nat.two_pow_pos _)]
    by_cases h2 : k < E + 53
    · rw [if_pos ⟨h1, h2⟩]
    · rw [if_neg (fun h => h2 h.2)]
      have h3 : 2 ^ 53 ≤ 2 ^ (k - E) := Nat.pow_le_pow_right (by decide) (by omega)
      rw [Nat.div_eq_of_lt (by omega)]
  · rw [if_neg (fun h => h1 h.1)]
    have e : 2 ^ E = 2 ^ k * (2 * 2 ^ (E - k - 1)) := by rw [← Nat.pow_succ', ← Nat.pow_add]; congr 1; omega
    have e2 : m * (2 ^ k * (2 * 2 ^ (E - k - 1))) = 2 * (m * 2 ^ (E - k - 1)) * 2 ^ k := by
      generalize 2 ^ k = a
      generalize 2 ^ (E - k - 1) = b
      rw [Nat.mul_comm a (2 * b), ← Nat.mul_assoc, Nat.mul_left_comm m 2 b]
    rw [e, e2, Nat.mul_div_cancel _ (Nat.two_pow_pos _), Nat.mul_mod_right]
/-- A number's bits, while they are laid. -/
def mixM (m E i k : Nat) : Nat := if E ≤ k ∧ k < E + i then bit m (k - E) else 0
theorem mixM_step (m E i : Nat) (hi : i < 53) (hE : E + 53 ≤ 2240) : (bC (mixM m E i)).setIfInBounds (E + i) (.int .u8 (bit m i : Int)) = bC (mixM m E (i + 1)) := by
  rw [bC_set _ (E + i) _ (by omega)]
  refine bC_congr fun k _ => ?_
  unfold mixM
  by_cases e : k = E + i
  · rw [if_pos e, if_pos (by omega), e, Nat.add_sub_cancel_left]
  · rw [if_neg e]
    by_cases h : E ≤ k ∧ k < E + i
    · rw [if_pos h, if_pos (by omega)]
    · rw [if_neg h, if_neg (by omega)]
theorem val_parts (b : Nat) (hb : b ≤ 9218868437227405312) : val b = (if b / 4503599627370496 = 0 then b % 4503599627370496 else 4503599627370496 + b % 4503599627370496) * 2 ^ (if b / 4503599627370496 = 0 then 0 else b / 4503599627370496 - 1) := by
  unfold val
  by_cases h : b / 4503599627370496 = 0
  · rw [if_pos h, if_pos h, if_pos h, Nat.pow_zero, Nat.mul_one]
  · rw [if_neg h, if_neg h, if_neg h]
theorem bit_int (m i : Nat) : (m : Int) / 2 ^ i % 2 = (bit m i : Int) := by unfold bit; simp
set_option maxRecDepth 100000 in
set_option maxHeartbeats 2000000 in
theorem refWhole_any (b : Nat) (w : World) (hb : b ≤ 9218868437227405312) :
    Calls Try.prog 72 #[.int .u64 (b : Int)] w fun e w' => ∃ k, e = .returned (rowV k) ∧ w.heap.size ≤ k ∧ BitsAt w' k (val b) ∧ Below w.heap.size w w' := by
  have hval := val_parts b hb
  have hmk := run_make2240
  obtain ⟨q, hq⟩ : ∃ q, b / 4503599627370496 = q := ⟨_, rfl⟩
  obtain ⟨r, hr⟩ : ∃ r, b % 4503599627370496 = r := ⟨_, rfl⟩
  have e1 : (b : Int) / 4503599627370496 = (q : Int) := by omega
  have e2 : (b : Int) % 4503599627370496 = (r : Int) := by omega
  have hq2 : q ≤ 2047 := by omega
  have hr2 : r < 4503599627370496 := by omega
  rw [hq, hr] at hval
  have hmz : ∀ m E, bC (fun _ => 0) = bC (mixM m E 0) := fun m E => bC_congr fun k _ => by
    unfold mixM
    rw [if_neg (by omega)]
  clear hq hr hb
  by_cases h0 : q = 0
  · subst h0
    rw [if_pos rfl, if_pos rfl, Nat.pow_zero, Nat.mul_one] at hval
    have Hval := Lib.hid hval
    have Hmz := Lib.hid (hmz r 0)
    clear hval hmz
    go_enter Try.func72, Try.ntmps72
    go_wp2_with fail
    have hg0 := heap_alloc_new w (.cells (bC fun _ => 0) 5)
    have hb1 := below_alloc (Below.refl w.heap.size w) (.cells (bC fun _ => 0) 5)
    clear hmk
    have hrn : (0 : Int) ≤ (r : Int) := by omega
    go_loopw [6] (fun v wr => ∃ i : Nat, i ≤ 53 ∧ v = .int .i64 i ∧ wr.heap[w.heap.size]? = some (.cells (bC (mixM r 0 i)) 5 (0, 0)) ∧ Below w.heap.size w wr) (fun v _ => 53 - (intOf v).toNat)
    case atStart => exact ⟨0, by omega, rfl, by rw [← Hmz.out]; exact hg0, hb1⟩
    case round =>
      obtain ⟨i, hi, rfl, hrow, hb⟩ := hrel
      clear hg0 hb1
      by_cases hlt : i < 53
      · have hst := mixM_step r 0 i hlt (by omega)
        rw [Nat.zero_add] at hst
        have hcell := (cell_of_row _ _ i _ _ _ hrow).trans (bC_at _ i (by omega))
        have hfz := frozen_of_row hrow i
        have hbi := bit_int r i
        have hbj : ((r : Int) / 2 ^ i).tmod 2 = (bit r i : Int) := by rw [Int.tmod_eq_emod_of_nonneg (Int.ediv_nonneg (by omega) (by exact Int.le_of_lt (Int.pow_pos (by decide))))]; exact hbi
        have hbl := bit_lt r i
        have Hrow := Lib.hid hrow
        have Hst := Lib.hid hst
        clear hst hrow
        generalize mixM r 0 i i = z at *
        generalize bit r i = t at *
        go_wp2_with fail
        refine ⟨⟨i + 1, by omega, by go_num, ?_, hb.setCell (p := ⟨w.heap.size, i, none⟩) (Nat.le_refl _) _⟩, by simp [intOf]; omega⟩
        rw [← Hst.out]
        exact heap_setCell_at (k := i) Hrow.out _
      · obtain rfl : i = 53 := by omega
        go_wp2_with fail
        go_ret
        exact ⟨w.heap.size, rfl, Nat.le_refl _, BitsAt.of_row _ hrow (fun k hk => by
          have := bit_shift r 0 k (by omega)
          rw [Nat.pow_zero, Nat.mul_one] at this
          rw [Hval.out, this]; rfl), hb⟩
  · obtain ⟨E, rfl⟩ : ∃ E, q = E + 1 := ⟨q - 1, by omega⟩
    have hq1 : (0 : Int) < ((E + 1 : Nat) : Int) := by omega
    have e3 : ((E + 1 : Nat) : Int) % 2048 = ((E + 1 : Nat) : Int) := by omega
    rw [if_neg h0, if_neg h0, Nat.add_sub_cancel] at hval
    have Hval := Lib.hid hval
    have Hmz := Lib.hid (hmz (4503599627370496 + r) E)
    clear hval hmz h0
    go_enter Try.func72, Try.ntmps72
    go_wp2_with fail
    have hg0 := heap_alloc_new w (.cells (bC fun _ => 0) 5)
    have hb1 := below_alloc (Below.refl w.heap.size w) (.cells (bC fun _ => 0) 5)
    clear hmk
    have e4 : ((E : Int) + 1) % 2048 = (E : Int) + 1 := by omega
    go_loopw [6] (fun v wr => ∃ i : Nat, i ≤ 53 ∧ v = .int .i64 i ∧ wr.heap[w.heap.size]? = some (.cells (bC (mixM (4503599627370496 + r) E i)) 5 (0, 0)) ∧ Below w.heap.size w wr) (fun v _ => 53 - (intOf v).toNat)
    case atStart => exact ⟨0, by omega, rfl, by rw [← Hmz.out]; exact hg0, hb1⟩
    case round =>
      obtain ⟨i, hi, rfl, hrow, hb⟩ := hrel
      clear hg0 hb1
      by_cases hlt : i < 53
      · have hst := mixM_step (4503599627370496 + r) E i hlt (by omega)
        have hcell := (cell_of_row _ _ (E + i) _ _ _ hrow).trans (bC_at _ (E + i) (by omega))
        have hfz := frozen_of_row hrow (E + i)
        have hbi := bit_int (4503599627370496 + r) i
        rw [show ((4503599627370496 + r : Nat) : Int) = (r : Int) + 4503599627370496 by omega] at hbi
        have hbj : (((r : Int) + 4503599627370496) / 2 ^ i).tmod 2 = (bit (4503599627370496 + r) i : Int) := by rw [Int.tmod_eq_emod_of_nonneg (Int.ediv_nonneg (by omega) (by exact Int.le_of_lt (Int.pow_pos (by decide))))]; exact hbi
        have hbl := bit_lt (4503599627370496 + r) i
        have Hrow := Lib.hid hrow
        have Hst := Lib.hid hst
        clear hst hrow
        generalize mixM (4503599627370496 + r) E i (E + i) = z at *
        generalize bit (4503599627370496 + r) i = t at *
        go_wp2_with fail
        refine ⟨⟨i + 1, by omega, by go_num, ?_, hb.setCell (p := ⟨w.heap.size, E + i, none⟩) (Nat.le_refl _) _⟩, by simp [intOf]; omega⟩
        rw [← Hst.out]
        exact heap_setCell_at (k := E + i) Hrow.out _
      · obtain rfl : i = 53 := by omega
        go_wp2_with fail
        go_ret
        exact ⟨w.heap.size, rfl, Nat.le_refl _, BitsAt.of_row _ hrow (fun k hk => by
          rw [Hval.out, bit_shift _ E k (by omega)]; rfl), hb⟩
/-- What the highest place in which two numbers differ tells. -/
theorem above_tell (A B i : Nat) (h : A / 2 ^ (i + 1) = B / 2 ^ (i + 1)) (hb : bit A i ≠ bit B i) : decide (bit B i < bit A i) = decide (B < A) := by
  have hp := Nat.two_pow_pos i
  have ha := Nat.div_add_mod A (2 ^ (i + 1))
  have hbb := Nat.div_add_mod B (2 ^ (i + 1))
  rw [Nat.pow_succ, mod_split A (2 ^ i)] at ha
  rw [Nat.pow_succ, mod_split B (2 ^ i)] at hbb
  rw [Nat.pow_succ] at h
  have h1 := Nat.mod_lt A hp
  have h2 := Nat.mod_lt B hp
  have l1 := bit_lt A i
  have l2 := bit_lt B i
  unfold bit at *
  rw [h] at ha
  generalize B / (2 ^ i * 2) = Q at *
  generalize 2 ^ i = P at *
  generalize A % P = x at *
  generalize B % P = y at *
  generalize A / P % 2 = s at *
  generalize B / P % 2 = t at *
  generalize P * 2 * Q = R at *
  have hs : s = 0 ∨ s = 1 := by omega
  have ht : t = 0 ∨ t = 1 := by omega
  rw [Bool.eq_iff_iff, decide_eq_true_eq, decide_eq_true_eq]
  rcases hs with rfl | rfl <;> rcases ht with rfl | rfl
  · exact absurd rfl hb
  · simp only [Nat.mul_zero, Nat.mul_one] at ha hbb; omega
  · simp only [Nat.mul_zero, Nat.mul_one] at ha hbb; omega
  · exact absurd rfl hb
theorem above_step (A B i : Nat) (h : A / 2 ^ (i + 1) = B / 2 ^ (i + 1)) (hb : bit A i = bit B i) : A / 2 ^ i = B / 2 ^ i := by
  unfold bit at hb
  rw [Nat.pow_succ, ← Nat.div_div_eq_div_mul, ← Nat.div_div_eq_div_mul] at h
  omega
set_option maxRecDepth 100000 in
set_option maxHeartbeats 2000000 in
theorem refAbove_any (g h A B N : Nat) (w : World) (hN : N = 2240) (hA : A < 2 ^ N) (hB : B < 2 ^ N) (hg : BitsAt w g A) (hh : BitsAt w h B) :
    Calls Try.prog 73 #[rowV g, rowV h] w fun e w' => e = .returned (.bool (decide (B < A))) ∧ Below w.heap.size w w' := by
  have htop : A / 2 ^ N = B / 2 ^ N := by rw [Nat.div_eq_of_lt hA, Nat.div_eq_of_lt hB]
  have Htop := Lib.hid htop
  have HN := Lib.hid hN
  have Hg := Lib.hid hg
  have Hh := Lib.hid hh
  obtain ⟨r, hr⟩ : ∃ r, decide (B < A) = r := ⟨_, rfl⟩
  rw [hr]
  have HR := Lib.hid hr
  clear htop hA hB hN hg hh hr
  go_enter Try.func73, Try.ntmps73
  go_wp2_with fail
  go_loopw [5] (fun v wr => ∃ i : Nat, i ≤ 2240 ∧ v = .int .i64 ((i : Int) - 1) ∧ A / 2 ^ i = B / 2 ^ i ∧ Below w.heap.size w wr) (fun v _ => (intOf v + 1).toNat)
  case atStart => exact ⟨2240, by omega, rfl, by have := Htop.out; rw [HN.out] at this; exact this, Below.refl _ _⟩
  case round =>
    obtain ⟨i, hi, rfl, hdv, hb⟩ := hrel
    have Hdv := Lib.hid hdv
    clear hdv
    by_cases h0 : i = 0
    · subst h0
      have hAB := Hdv.out
      rw [Nat.pow_zero, Nat.div_one, Nat.div_one] at hAB
      have hd : false = r := by rw [← HR.out]; exact (decide_eq_false (by omega)).symm
      have Hd := Lib.hid hd
      clear hAB hd
      go_wp2_with fail
      go_ret
      exact ⟨ret_b Hd.out, hb⟩
    · obtain ⟨j, rfl⟩ : ∃ j, i = j + 1 := ⟨i - 1, by omega⟩
      have ca : wr.drew.cell? ⟨g, j, none⟩ = some (.int .u8 (bit A j : Int)) := (Hg.out.below hb) j (by omega)
      have cb : wr.drew.cell? ⟨h, j, none⟩ = some (.int .u8 (bit B j : Int)) := (Hh.out.below hb) j (by omega)
      have ca2 : wr.drew.drew.cell? ⟨g, j, none⟩ = some (.int .u8 (bit A j : Int)) := ca
      have cb2 : wr.drew.drew.cell? ⟨h, j, none⟩ = some (.int .u8 (bit B j : Int)) := cb
      have htell := above_tell A B j Hdv.out
      have hstep := above_step A B j Hdv.out
      have Htell := Lib.hid htell
      have Hstep := Lib.hid hstep
      clear htell hstep
      by_cases hbit : bit A j = bit B j
      · have hne : ((bit A j : Int) != (bit B j : Int)) = false := by rw [hbit]; simp
        have Hbit := Lib.hid hbit
        clear hbit h0 ca2 cb2
        generalize bit A j = s at *
        generalize bit B j = t at *
        go_upto_region 4 with fail
        go_region_with fail
        all_goals
          go_wp2_with fail
          exact ⟨⟨j, by omega, by go_num, Hstep.out Hbit.out, hb.drew⟩, by simp [intOf]⟩
      · have hne : ((bit A j : Int) != (bit B j : Int)) = true := by rw [bne_iff_ne]; omega
        have hd := (Htell.out hbit).trans HR.out
        have Hd := Lib.hid hd
        clear hd hbit h0 Htell Hstep
        generalize bit A j = s at *
        generalize bit B j = t at *
        go_upto_region 4 with fail
        go_region_with fail
        all_goals
          go_upto_region 5 with fail
          go_region_with fail
          all_goals
            go_wp2_with fail
            go_ret
            exact ⟨ret_b (by rw [← Hd.out]), hb.drew.drew⟩
end Go.Proofs.Ythplelglifnhoaa
/-! Exact sums: the document's answer: one number more. -/
namespace Go.Proofs.Ythplelglifnhoaa
open Go.RowKit
set_option linter.unusedVariables false

/-- The document's sum as cells. -/
def refC (g : Nat) (s : St) : Array Value := #[rowV g, .bool s.nan, .bool s.pos, .bool s.neg, .bool s.any, .bool s.other]
theorem bit_round (A N i : Nat) (hi : i < N) : bit (A + 2 ^ N) i = bit A i := by
  unfold bit
  have e : 2 ^ N = 2 ^ i * (2 * 2 ^ (N - i - 1)) := by rw [← Nat.pow_succ', ← Nat.pow_add]; congr 1; omega
  rw [e, Nat.add_mul_div_left _ _ (Nat.two_pow_pos _), Nat.add_mul_mod_self_left]
theorem BitsAt.round {w : World} {g A N : Nat} (hN : N = 2240) (h : BitsAt w g (A + 2 ^ N)) : BitsAt w g A := fun i hi => by
  rw [h i hi, bit_round A N i (by omega)]
theorem BitsAt.setCell {w : World} {g A b k : Nat} {v : Value} (h : BitsAt w g A) (hne : b ≠ g) : BitsAt (w.setCell ⟨b, k, none⟩ v) g A := fun i hi => by
  rw [World.cell?_setCell_other (h := fun e => hne (congrArg Addr.block e))]
  exact h i hi
theorem set6 (Y : Array Value) (hY : Y.size = 6) (a b c d e f : Value) : (((((Y.setIfInBounds 0 a).setIfInBounds 1 b).setIfInBounds 2 c).setIfInBounds 3 d).setIfInBounds 4 e).setIfInBounds 5 f = #[a, b, c, d, e, f] := by
  apply Array.ext_getElem?
  intro i
  match i with
  | 0 => simp [hY]
  | 1 => simp [hY]
  | 2 => simp [hY]
  | 3 => simp [hY]
  | 4 => simp [hY]
  | 5 => simp [hY]
  | i + 6 => rw [Array.getElem?_eq_none (by simp [hY]), Array.getElem?_eq_none (by simp)]
set_option maxRecDepth 100000 in
theorem size49 : (Try.prog.info? 99).map (·.size) = some 6 := by kernel_rfl
set_option maxRecDepth 100000 in
set_option maxHeartbeats 4000000 in
theorem refAdd_special (g : Nat) (s : St) (x b : Nat) (n p m : Bool) (w : World) (hbits : ∀ w, Calls Try.prog 52 #[.float .f64 x] w fun e w' => e = .returned (.int .u64 (b : Int)) ∧ w = w')
    (h1 : (b : Int) / 4503599627370496 % 2048 = 2047) (h2 : ((b : Int) % 4503599627370496 != 0) = n) (h3 : ((b : Int) / 9223372036854775808 == 1) = m) :
    Calls Try.prog 69 #[.agg (refC g s), .float .f64 x] w fun e w' => e = .returned (.agg (refC g { s with nan := s.nan || n, pos := s.pos || (!n && !m), neg := s.neg || (!n && m), any := true, other := true })) ∧ Below w.heap.size w w' := by
  unfold refC
  cases n <;> cases m
  all_goals
    go_enter Try.func69, Try.ntmps69
    go_wp2_with (go_at_call 52; (with_reducible refine (hbits _).mono ?_); rintro e w1 ⟨rfl, rfl⟩)
    exact bodyPost_ret (results_cell_row rfl _ _ (w.heap.size + 1) 99 _ (0, 0) _ rfl (heap_alloc2_new _ _ _) Try.underlying99 rfl size49) rfl ⟨by simp, below_alloc (below_alloc (Below.refl _ _) _) _⟩
set_option maxRecDepth 100000 in
set_option maxHeartbeats 4000000 in
theorem refAdd_fin (g : Nat) (s : St) (x b M E : Nat) (m z : Bool) (w : World) (hbits : ∀ w, Calls Try.prog 52 #[.float .f64 x] w fun e w' => e = .returned (.int .u64 (b : Int)) ∧ w = w')
    (q r : Nat) (e1 : (b : Int) / 4503599627370496 % 2048 = (q : Int)) (e2 : (b : Int) % 4503599627370496 = (r : Int)) (hq : q < 2047) (hr : r < 4503599627370496) (h3 : ((b : Int) / 9223372036854775808 == 1) = m) (h4 : ((b : Int) != 9223372036854775808) = z)
    (hME : (q = 0 ∧ E = 0 ∧ M = r) ∨ (q = E + 1 ∧ M = 4503599627370496 + r)) (N : Nat) (hN : N = 2240) (hlt : M * 2 ^ E < 2 ^ N) (hg : BitsAt w g s.w) :
    Calls Try.prog 69 #[.agg (refC g s), .float .f64 x] w fun e w' => ∃ k, e = .returned (.agg (refC k { s with w := s.w + (if m = true then 2 ^ N - M * 2 ^ E else M * 2 ^ E), any := true, other := s.other || z })) ∧ w.heap.size ≤ k ∧ BitsAt w' k (s.w + (if m = true then 2 ^ N - M * 2 ^ E else M * 2 ^ E)) ∧ Below w.heap.size w w' := by
  unfold refC
  have hmk := run_make2240
  have hq2 : ((b : Int) / 4503599627370496 % 2048 == 2047) = false := by rw [beq_eq_false_iff_ne]; omega
  have hq3 : ((q : Int) == 2047) = false := by rw [beq_eq_false_iff_ne]; omega
  have hH : Hid (((q = 0 ∧ E = 0 ∧ M = r) ∨ (q = E + 1 ∧ M = 4503599627370496 + r))) := Lib.hid hME
  have hMl : M < 2 ^ 53 := by omega
  have hEl : E + 53 ≤ 2240 := by omega
  clear hME
  cases z
  · go_enter Try.func69, Try.ntmps69
    go_upto_if 39 with (go_at_call 52; (with_reducible refine (hbits _).mono ?_); rintro e w1 ⟨rfl, rfl⟩)
    go_cut [6, 7] (fun ve vm wr => ve = .int .i64 ((E : Int) + 1) ∧ vm = .int .u64 (M : Int) ∧ ∃ ot : Bool, ot = (s.other || false) ∧ wr.heap[w.heap.size]? = some (.cells #[rowV g, .bool s.nan, .bool s.pos, .bool s.neg, .bool true, .bool ot] 99 (0, 0)) ∧ (∃ Y : Array Value, Y.size = 6 ∧ wr.heap[w.heap.size + 1]? = some (.cells Y 99 (0, 0))) ∧ wr.heap.size = w.heap.size + 2 ∧ Below w.heap.size w wr)
    case first =>
      rcases hH.out with ⟨hq0, hE, hM⟩ | ⟨hqE, hM⟩
      · subst hq0
        have HE := Lib.hid hE
        have HM := Lib.hid hM
        clear hE hM
        go_wp2_with fail
        go_meet
        exact ⟨by rw [HE.out]; rfl, by rw [HM.out], _, by simp, heap_alloc2_old _ _ _, ⟨_, rfl, heap_alloc2_new _ _ _⟩, by simp, below_alloc (below_alloc (Below.refl _ _) _) _⟩
      · subst hqE
        have HM := Lib.hid hM
        clear hM
        have hEp : (0 : Int) < ((E + 1 : Nat) : Int) := by omega
        go_wp2_with fail
        go_meet
        exact ⟨by simp, by rw [HM.out]; exact congrArg _ (by omega), _, by simp, heap_alloc2_old _ _ _, ⟨_, rfl, heap_alloc2_new _ _ _⟩, by simp, below_alloc (below_alloc (Below.refl _ _) _) _⟩
    case rest =>
      obtain ⟨rfl, rfl, ot, hot, k0, ⟨Y, hY, k1⟩, ksz, hb⟩ := hcut
      have k2 := heap_alloc_new wc (.cells (bC fun _ => 0) 5)
      have hba := below_alloc hb (.cells (bC fun _ => 0) 5)
      have bw := below_alloc (Below.refl wc.heap.size wc) (.cells (bC fun _ => 0) 5)
      have k0a := (bw.block w.heap.size (heap_lt k0)).trans k0
      have k1a := (bw.block (w.heap.size + 1) (heap_lt k1)).trans k1
      go_upto_block 1 with fail
      rw [ksz] at k2
      have Hot := Lib.hid hot
      have K2 := Lib.hid k2
      have K0 := Lib.hid k0a
      have K1 := Lib.hid k1a
      have Hg := Lib.hid (hg.below hb)
      have Hg2 : Hid (BitsAt (wc.alloc (.cells (bC fun _ => 0) 5)) g s.w) := Lib.hid (Hg.out.below bw)
      have HgW := Lib.hid hg
      have Hmz : Hid (bC (fun _ => 0) = bC (mixM M E 0)) := Lib.hid (bC_congr fun k _ => by
        unfold mixM
        rw [if_neg (by omega)])
      have HN := Lib.hid hN
      have Hlt := Lib.hid hlt
      clear hot k2 k0a k1a k0 k1 ksz hmk hg hb bw hN hlt hbits hq2 hq3 e1 e2 hq hr h4
      generalize wc.alloc (.cells (bC fun _ => 0) 5) = wd at *
      go_cut [9] (fun vp wr => vp = rowV (w.heap.size + 2) ∧ BitsAt wr (w.heap.size + 2) (M * 2 ^ E) ∧ wr.heap[w.heap.size]? = some (.cells #[rowV g, .bool s.nan, .bool s.pos, .bool s.neg, .bool true, .bool ot] 99 (0, 0)) ∧ wr.heap[w.heap.size + 1]? = some (.cells Y 99 (0, 0)) ∧ BitsAt wr g s.w ∧ Below w.heap.size w wr)
      case first =>
        go_wp2_with fail
        go_loopw [10] (fun v wr => ∃ i : Nat, i ≤ 53 ∧ v = .int .i64 i ∧ wr.heap[w.heap.size + 2]? = some (.cells (bC (mixM M E i)) 5 (0, 0)) ∧ wr.heap[w.heap.size]? = some (.cells #[rowV g, .bool s.nan, .bool s.pos, .bool s.neg, .bool true, .bool ot] 99 (0, 0)) ∧ wr.heap[w.heap.size + 1]? = some (.cells Y 99 (0, 0)) ∧ BitsAt wr g s.w ∧ Below w.heap.size w wr) (fun v _ => 53 - (intOf v).toNat)
        case atStart => exact ⟨0, by omega, rfl, by rw [← Hmz.out]; exact K2.out, K0.out, K1.out, Hg2.out, hba⟩
        case round =>
          obtain ⟨i, hi, rfl, hrow, j0, j1, jg, hb⟩ := hrel
          by_cases hlt : i < 53
          · have hst := mixM_step M E i hlt (by omega)
            have hcell := (cell_of_row _ _ (E + i) _ _ _ hrow).trans (bC_at _ (E + i) (by omega))
            have hfz := frozen_of_row hrow (E + i)
            have hbi := bit_int M i
            have hbj : ((M : Int) / 2 ^ i).tmod 2 = (bit M i : Int) := by rw [Int.tmod_eq_emod_of_nonneg (Int.ediv_nonneg (by omega) (by exact Int.le_of_lt (Int.pow_pos (by decide))))]; exact hbi
            have hbl := bit_lt M i
            have Hrow := Lib.hid hrow
            have Hst := Lib.hid hst
            have J0 := Lib.hid j0
            have J1 := Lib.hid j1
            have Jg := Lib.hid jg
            clear hst hrow j0 j1 jg
            generalize mixM M E i (E + i) = z9 at *
            generalize bit M i = t9 at *
            go_wp2_with fail
            refine ⟨⟨i + 1, by omega, by go_num, ?_, ?_, ?_, ?_, hb.setCell (p := ⟨w.heap.size + 2, E + i, none⟩) (by simp) _⟩, by simp [intOf]; omega⟩
            · rw [← Hst.out]
              exact heap_setCell_at (k := E + i) Hrow.out _
            · exact (Below.heap_setCell _ _ _ _ (by simp)).trans J0.out
            · exact (Below.heap_setCell _ _ _ _ (by simp)).trans J1.out
            · exact HgW.out.below (hb.setCell (p := ⟨w.heap.size + 2, E + i, none⟩) (by simp) _)
          · obtain rfl : i = 53 := by omega
            have hbits2 := BitsAt.of_row (A := M * 2 ^ E) _ hrow (fun k hk => by rw [bit_shift _ E k hMl]; rfl)
            have Hb2 := Lib.hid hbits2
            have J0 := Lib.hid j0
            have J1 := Lib.hid j1
            have Jg := Lib.hid jg
            clear hbits2 hrow j0 j1 jg
            go_wp2_with fail
            go_meet
            exact ⟨rfl, Hb2.out, J0.out, J1.out, Jg.out, hb⟩
      case rest =>
        obtain ⟨rfl, jb, j0, j1, jg, hb⟩ := hcut
        rw [Hot.out] at j0
        have J0 := Lib.hid j0
        have J1 := Lib.hid j1
        clear j0 j1 Hot
        cases m
        · have hadd := refAdd_any g (w.heap.size + 2) s.w (M * 2 ^ E) wc jg jb
          have l35 := cell_of_row wc w.heap.size 0 _ _ _ J0.out
          go_wp2_with (first
            | (go_at_call 71; (with_reducible refine hadd.mono ?_); rintro e w8 ⟨k, rfl, hk, hbk, b8⟩; have q0 := (b8.block w.heap.size (heap_lt J0.out)).trans J0.out; have q1 := (b8.block (w.heap.size + 1) (heap_lt J1.out)).trans J1.out; have qb := below_trans hb b8; have f80b := frozen_of_row q0 0; have c80 := cell_of_row w8 w.heap.size 0 _ _ _ q0; have d80 : ∃ y, w8.cell? ⟨w.heap.size + 1, 0, none⟩ = some y := ⟨_, (cell_of_row w8 (w.heap.size + 1) 0 _ _ _ q1).trans (Array.getElem?_eq_getElem (by omega))⟩; have f80 := frozen_of_row q1 0; have c81 := cell_of_row w8 w.heap.size 1 _ _ _ q0; have d81 : ∃ y, w8.cell? ⟨w.heap.size + 1, 1, none⟩ = some y := ⟨_, (cell_of_row w8 (w.heap.size + 1) 1 _ _ _ q1).trans (Array.getElem?_eq_getElem (by omega))⟩; have f81 := frozen_of_row q1 1; have c82 := cell_of_row w8 w.heap.size 2 _ _ _ q0; have d82 : ∃ y, w8.cell? ⟨w.heap.size + 1, 2, none⟩ = some y := ⟨_, (cell_of_row w8 (w.heap.size + 1) 2 _ _ _ q1).trans (Array.getElem?_eq_getElem (by omega))⟩; have f82 := frozen_of_row q1 2; have c83 := cell_of_row w8 w.heap.size 3 _ _ _ q0; have d83 : ∃ y, w8.cell? ⟨w.heap.size + 1, 3, none⟩ = some y := ⟨_, (cell_of_row w8 (w.heap.size + 1) 3 _ _ _ q1).trans (Array.getElem?_eq_getElem (by omega))⟩; have f83 := frozen_of_row q1 3; have c84 := cell_of_row w8 w.heap.size 4 _ _ _ q0; have d84 : ∃ y, w8.cell? ⟨w.heap.size + 1, 4, none⟩ = some y := ⟨_, (cell_of_row w8 (w.heap.size + 1) 4 _ _ _ q1).trans (Array.getElem?_eq_getElem (by omega))⟩; have f84 := frozen_of_row q1 4; have c85 := cell_of_row w8 w.heap.size 5 _ _ _ q0; have d85 : ∃ y, w8.cell? ⟨w.heap.size + 1, 5, none⟩ = some y := ⟨_, (cell_of_row w8 (w.heap.size + 1) 5 _ _ _ q1).trans (Array.getElem?_eq_getElem (by omega))⟩; have f85 := frozen_of_row q1 5; have Q0 := Lib.hid q0; have Q1 := Lib.hid q1; clear q0 q1; obtain ⟨y0, d80⟩ := d80; obtain ⟨y1, d81⟩ := d81; obtain ⟨y2, d82⟩ := d82; obtain ⟨y3, d83⟩ := d83; obtain ⟨y4, d84⟩ := d84; obtain ⟨y5, d85⟩ := d85))
          have v0 := (Below.heap_setCell w8 ⟨w.heap.size, 0, none⟩ (rowV k) (w.heap.size + 1) (by simp)).trans Q1.out
          have u0 := heap_setCell_at (k := 0) v0 (rowV k)
          have u1 := heap_setCell_at (k := 1) u0 (.bool s.nan)
          have u2 := heap_setCell_at (k := 2) u1 (.bool s.pos)
          have u3 := heap_setCell_at (k := 3) u2 (.bool s.neg)
          have u4 := heap_setCell_at (k := 4) u3 (.bool true)
          have u5 := heap_setCell_at (k := 5) u4 (.bool s.other)
          rw [set6 Y hY] at u5
          have hkk : w.heap.size + 2 < k := by have := hb.size; have := jb.lt; omega
          have hbf := ((((((hbk.setCell (b := w.heap.size) (k := 0) (v := rowV k) (by omega)).setCell (b := w.heap.size + 1) (k := 0) (v := (rowV k)) (by omega)).setCell (b := w.heap.size + 1) (k := 1) (v := (.bool s.nan)) (by omega)).setCell (b := w.heap.size + 1) (k := 2) (v := (.bool s.pos)) (by omega)).setCell (b := w.heap.size + 1) (k := 3) (v := (.bool s.neg)) (by omega)).setCell (b := w.heap.size + 1) (k := 4) (v := (.bool true)) (by omega)).setCell (b := w.heap.size + 1) (k := 5) (v := (.bool s.other)) (by omega)
          have hbl := ((((((qb.setCell (p := ⟨w.heap.size, 0, none⟩) (Nat.le_refl _) (rowV k)).setCell (p := ⟨w.heap.size + 1, 0, none⟩) (by simp) (rowV k)).setCell (p := ⟨w.heap.size + 1, 1, none⟩) (by simp) (.bool s.nan)).setCell (p := ⟨w.heap.size + 1, 2, none⟩) (by simp) (.bool s.pos)).setCell (p := ⟨w.heap.size + 1, 3, none⟩) (by simp) (.bool s.neg)).setCell (p := ⟨w.heap.size + 1, 4, none⟩) (by simp) (.bool true)).setCell (p := ⟨w.heap.size + 1, 5, none⟩) (by simp) (.bool s.other)
          exact bodyPost_ret (results_cell_row rfl _ _ (w.heap.size + 1) 99 _ (0, 0) _ rfl u5 Try.underlying99 rfl size49) rfl ⟨k, rfl, by omega, hbf, hbl⟩
        · have hturn := refTurn_any (w.heap.size + 2) (M * 2 ^ E) N wc HN.out Hlt.out jb
          have hadd := fun (k1 : Nat) (w1 : World) (b1 : Below wc.heap.size wc w1) (h1 : BitsAt w1 k1 (2 ^ N - M * 2 ^ E)) => refAdd_any g k1 s.w (2 ^ N - M * 2 ^ E) w1 (jg.below b1) h1
          have Hadd := Lib.hid hadd
          clear hadd
          go_wp2_with (first
            | (go_at_call 70; (with_reducible refine hturn.mono ?_); rintro e w7 ⟨k1, rfl, hk1, hbk1, b7⟩; have hadd := Hadd.out k1 w7 b7 hbk1; have p0 := Lib.hid ((b7.block w.heap.size (heap_lt J0.out)).trans J0.out); have p1 := Lib.hid ((b7.block (w.heap.size + 1) (heap_lt J1.out)).trans J1.out); have l7 := cell_of_row w7 w.heap.size 0 _ _ _ p0.out)
            | (go_at_call 71; (with_reducible refine hadd.mono ?_); rintro e w8 ⟨k, rfl, hk, hbk, b8⟩; have q0 := (b8.block w.heap.size (heap_lt p0.out)).trans p0.out; have q1 := (b8.block (w.heap.size + 1) (heap_lt p1.out)).trans p1.out; have qb := below_trans (below_trans hb b7) b8; have f80b := frozen_of_row q0 0; have c80 := cell_of_row w8 w.heap.size 0 _ _ _ q0; have d80 : ∃ y, w8.cell? ⟨w.heap.size + 1, 0, none⟩ = some y := ⟨_, (cell_of_row w8 (w.heap.size + 1) 0 _ _ _ q1).trans (Array.getElem?_eq_getElem (by omega))⟩; have f80 := frozen_of_row q1 0; have c81 := cell_of_row w8 w.heap.size 1 _ _ _ q0; have d81 : ∃ y, w8.cell? ⟨w.heap.size + 1, 1, none⟩ = some y := ⟨_, (cell_of_row w8 (w.heap.size + 1) 1 _ _ _ q1).trans (Array.getElem?_eq_getElem (by omega))⟩; have f81 := frozen_of_row q1 1; have c82 := cell_of_row w8 w.heap.size 2 _ _ _ q0; have d82 : ∃ y, w8.cell? ⟨w.heap.size + 1, 2, none⟩ = some y := ⟨_, (cell_of_row w8 (w.heap.size + 1) 2 _ _ _ q1).trans (Array.getElem?_eq_getElem (by omega))⟩; have f82 := frozen_of_row q1 2; have c83 := cell_of_row w8 w.heap.size 3 _ _ _ q0; have d83 : ∃ y, w8.cell? ⟨w.heap.size + 1, 3, none⟩ = some y := ⟨_, (cell_of_row w8 (w.heap.size + 1) 3 _ _ _ q1).trans (Array.getElem?_eq_getElem (by omega))⟩; have f83 := frozen_of_row q1 3; have c84 := cell_of_row w8 w.heap.size 4 _ _ _ q0; have d84 : ∃ y, w8.cell? ⟨w.heap.size + 1, 4, none⟩ = some y := ⟨_, (cell_of_row w8 (w.heap.size + 1) 4 _ _ _ q1).trans (Array.getElem?_eq_getElem (by omega))⟩; have f84 := frozen_of_row q1 4; have c85 := cell_of_row w8 w.heap.size 5 _ _ _ q0; have d85 : ∃ y, w8.cell? ⟨w.heap.size + 1, 5, none⟩ = some y := ⟨_, (cell_of_row w8 (w.heap.size + 1) 5 _ _ _ q1).trans (Array.getElem?_eq_getElem (by omega))⟩; have f85 := frozen_of_row q1 5; have Q0 := Lib.hid q0; have Q1 := Lib.hid q1; clear q0 q1; obtain ⟨y0, d80⟩ := d80; obtain ⟨y1, d81⟩ := d81; obtain ⟨y2, d82⟩ := d82; obtain ⟨y3, d83⟩ := d83; obtain ⟨y4, d84⟩ := d84; obtain ⟨y5, d85⟩ := d85))
          have v0 := (Below.heap_setCell w8 ⟨w.heap.size, 0, none⟩ (rowV k) (w.heap.size + 1) (by simp)).trans Q1.out
          have u0 := heap_setCell_at (k := 0) v0 (rowV k)
          have u1 := heap_setCell_at (k := 1) u0 (.bool s.nan)
          have u2 := heap_setCell_at (k := 2) u1 (.bool s.pos)
          have u3 := heap_setCell_at (k := 3) u2 (.bool s.neg)
          have u4 := heap_setCell_at (k := 4) u3 (.bool true)
          have u5 := heap_setCell_at (k := 5) u4 (.bool s.other)
          rw [set6 Y hY] at u5
          have hkk : w.heap.size + 2 < k := by have := b7.size; have := jb.lt; omega
          have hbf := ((((((hbk.setCell (b := w.heap.size) (k := 0) (v := rowV k) (by omega)).setCell (b := w.heap.size + 1) (k := 0) (v := (rowV k)) (by omega)).setCell (b := w.heap.size + 1) (k := 1) (v := (.bool s.nan)) (by omega)).setCell (b := w.heap.size + 1) (k := 2) (v := (.bool s.pos)) (by omega)).setCell (b := w.heap.size + 1) (k := 3) (v := (.bool s.neg)) (by omega)).setCell (b := w.heap.size + 1) (k := 4) (v := (.bool true)) (by omega)).setCell (b := w.heap.size + 1) (k := 5) (v := (.bool s.other)) (by omega)
          have hbl := ((((((qb.setCell (p := ⟨w.heap.size, 0, none⟩) (Nat.le_refl _) (rowV k)).setCell (p := ⟨w.heap.size + 1, 0, none⟩) (by simp) (rowV k)).setCell (p := ⟨w.heap.size + 1, 1, none⟩) (by simp) (.bool s.nan)).setCell (p := ⟨w.heap.size + 1, 2, none⟩) (by simp) (.bool s.pos)).setCell (p := ⟨w.heap.size + 1, 3, none⟩) (by simp) (.bool s.neg)).setCell (p := ⟨w.heap.size + 1, 4, none⟩) (by simp) (.bool true)).setCell (p := ⟨w.heap.size + 1, 5, none⟩) (by simp) (.bool s.other)
          exact bodyPost_ret (results_cell_row rfl _ _ (w.heap.size + 1) 99 _ (0, 0) _ rfl u5 Try.underlying99 rfl size49) rfl ⟨k, rfl, by omega, hbf, hbl⟩
  · go_enter Try.func69, Try.ntmps69
    go_upto_if 39 with (go_at_call 52; (with_reducible refine (hbits _).mono ?_); rintro e w1 ⟨rfl, rfl⟩)
    go_cut [6, 7] (fun ve vm wr => ve = .int .i64 ((E : Int) + 1) ∧ vm = .int .u64 (M : Int) ∧ ∃ ot : Bool, ot = (s.other || true) ∧ wr.heap[w.heap.size]? = some (.cells #[rowV g, .bool s.nan, .bool s.pos, .bool s.neg, .bool true, .bool ot] 99 (0, 0)) ∧ (∃ Y : Array Value, Y.size = 6 ∧ wr.heap[w.heap.size + 1]? = some (.cells Y 99 (0, 0))) ∧ wr.heap.size = w.heap.size + 2 ∧ Below w.heap.size w wr)
    case first =>
      rcases hH.out with ⟨hq0, hE, hM⟩ | ⟨hqE, hM⟩
      · subst hq0
        have HE := Lib.hid hE
        have HM := Lib.hid hM
        clear hE hM
        go_wp2_with fail
        go_meet
        exact ⟨by rw [HE.out]; rfl, by rw [HM.out], _, by simp, heap_alloc2_old _ _ _, ⟨_, rfl, heap_alloc2_new _ _ _⟩, by simp, below_alloc (below_alloc (Below.refl _ _) _) _⟩
      · subst hqE
        have HM := Lib.hid hM
        clear hM
        have hEp : (0 : Int) < ((E + 1 : Nat) : Int) := by omega
        go_wp2_with fail
        go_meet
        exact ⟨by simp, by rw [HM.out]; exact congrArg _ (by omega), _, by simp, heap_alloc2_old _ _ _, ⟨_, rfl, heap_alloc2_new _ _ _⟩, by simp, below_alloc (below_alloc (Below.refl _ _) _) _⟩
    case rest =>
      obtain ⟨rfl, rfl, ot, hot, k0, ⟨Y, hY, k1⟩, ksz, hb⟩ := hcut
      have k2 := heap_alloc_new wc (.cells (bC fun _ => 0) 5)
      have hba := below_alloc hb (.cells (bC fun _ => 0) 5)
      have bw := below_alloc (Below.refl wc.heap.size wc) (.cells (bC fun _ => 0) 5)
      have k0a := (bw.block w.heap.size (heap_lt k0)).trans k0
      have k1a := (bw.block (w.heap.size + 1) (heap_lt k1)).trans k1
      go_upto_block 1 with fail
      rw [ksz] at k2
      have Hot := Lib.hid hot
      have K2 := Lib.hid k2
      have K0 := Lib.hid k0a
      have K1 := Lib.hid k1a
      have Hg := Lib.hid (hg.below hb)
      have Hg2 : Hid (BitsAt (wc.alloc (.cells (bC fun _ => 0) 5)) g s.w) := Lib.hid (Hg.out.below bw)
      have HgW := Lib.hid hg
      have Hmz : Hid (bC (fun _ => 0) = bC (mixM M E 0)) := Lib.hid (bC_congr fun k _ => by
        unfold mixM
        rw [if_neg (by omega)])
      have HN := Lib.hid hN
      have Hlt := Lib.hid hlt
      clear hot k2 k0a k1a k0 k1 ksz hmk hg hb bw hN hlt hbits hq2 hq3 e1 e2 hq hr h4
      generalize wc.alloc (.cells (bC fun _ => 0) 5) = wd at *
      go_cut [9] (fun vp wr => vp = rowV (w.heap.size + 2) ∧ BitsAt wr (w.heap.size + 2) (M * 2 ^ E) ∧ wr.heap[w.heap.size]? = some (.cells #[rowV g, .bool s.nan, .bool s.pos, .bool s.neg, .bool true, .bool ot] 99 (0, 0)) ∧ wr.heap[w.heap.size + 1]? = some (.cells Y 99 (0, 0)) ∧ BitsAt wr g s.w ∧ Below w.heap.size w wr)
      case first =>
        go_wp2_with fail
        go_loopw [10] (fun v wr => ∃ i : Nat, i ≤ 53 ∧ v = .int .i64 i ∧ wr.heap[w.heap.size + 2]? = some (.cells (bC (mixM M E i)) 5 (0, 0)) ∧ wr.heap[w.heap.size]? = some (.cells #[rowV g, .bool s.nan, .bool s.pos, .bool s.neg, .bool true, .bool ot] 99 (0, 0)) ∧ wr.heap[w.heap.size + 1]? = some (.cells Y 99 (0, 0)) ∧ BitsAt wr g s.w ∧ Below w.heap.size w wr) (fun v _ => 53 - (intOf v).toNat)
        case atStart => exact ⟨0, by omega, rfl, by rw [← Hmz.out]; exact K2.out, K0.out, K1.out, Hg2.out, hba⟩
        case round =>
          obtain ⟨i, hi, rfl, hrow, j0, j1, jg, hb⟩ := hrel
          by_cases hlt : i < 53
          · have hst := mixM_step M E i hlt (by omega)
            have hcell := (cell_of_row _ _ (E + i) _ _ _ hrow).trans (bC_at _ (E + i) (by omega))
            have hfz := frozen_of_row hrow (E + i)
            have hbi := bit_int M i
            have hbj : ((M : Int) / 2 ^ i).tmod 2 = (bit M i : Int) := by rw [Int.tmod_eq_emod_of_nonneg (Int.ediv_nonneg (by omega) (by exact Int.le_of_lt (Int.pow_pos (by decide))))]; exact hbi
            have hbl := bit_lt M i
            have Hrow := Lib.hid hrow
            have Hst := Lib.hid hst
            have J0 := Lib.hid j0
            have J1 := Lib.hid j1
            have Jg := Lib.hid jg
            clear hst hrow j0 j1 jg
            generalize mixM M E i (E + i) = z9 at *
            generalize bit M i = t9 at *
            go_wp2_with fail
            refine ⟨⟨i + 1, by omega, by go_num, ?_, ?_, ?_, ?_, hb.setCell (p := ⟨w.heap.size + 2, E + i, none⟩) (by simp) _⟩, by simp [intOf]; omega⟩
            · rw [← Hst.out]
              exact heap_setCell_at (k := E + i) Hrow.out _
            · exact (Below.heap_setCell _ _ _ _ (by simp)).trans J0.out
            · exact (Below.heap_setCell _ _ _ _ (by simp)).trans J1.out
            · exact HgW.out.below (hb.setCell (p := ⟨w.heap.size + 2, E + i, none⟩) (by simp) _)
          · obtain rfl : i = 53 := by omega
            have hbits2 := BitsAt.of_row (A := M * 2 ^ E) _ hrow (fun k hk => by rw [bit_shift _ E k hMl]; rfl)
            have Hb2 := Lib.hid hbits2
            have J0 := Lib.hid j0
            have J1 := Lib.hid j1
            have Jg := Lib.hid jg
            clear hbits2 hrow j0 j1 jg
            go_wp2_with fail
            go_meet
            exact ⟨rfl, Hb2.out, J0.out, J1.out, Jg.out, hb⟩
      case rest =>
        obtain ⟨rfl, jb, j0, j1, jg, hb⟩ := hcut
        rw [Hot.out] at j0
        have J0 := Lib.hid j0
        have J1 := Lib.hid j1
        clear j0 j1 Hot
        cases m
        · have hadd := refAdd_any g (w.heap.size + 2) s.w (M * 2 ^ E) wc jg jb
          have l35 := cell_of_row wc w.heap.size 0 _ _ _ J0.out
          go_wp2_with (first
            | (go_at_call 71; (with_reducible refine hadd.mono ?_); rintro e w8 ⟨k, rfl, hk, hbk, b8⟩; have q0 := (b8.block w.heap.size (heap_lt J0.out)).trans J0.out; have q1 := (b8.block (w.heap.size + 1) (heap_lt J1.out)).trans J1.out; have qb := below_trans hb b8; have f80b := frozen_of_row q0 0; have c80 := cell_of_row w8 w.heap.size 0 _ _ _ q0; have d80 : ∃ y, w8.cell? ⟨w.heap.size + 1, 0, none⟩ = some y := ⟨_, (cell_of_row w8 (w.heap.size + 1) 0 _ _ _ q1).trans (Array.getElem?_eq_getElem (by omega))⟩; have f80 := frozen_of_row q1 0; have c81 := cell_of_row w8 w.heap.size 1 _ _ _ q0; have d81 : ∃ y, w8.cell? ⟨w.heap.size + 1, 1, none⟩ = some y := ⟨_, (cell_of_row w8 (w.heap.size + 1) 1 _ _ _ q1).trans (Array.getElem?_eq_getElem (by omega))⟩; have f81 := frozen_of_row q1 1; have c82 := cell_of_row w8 w.heap.size 2 _ _ _ q0; have d82 : ∃ y, w8.cell? ⟨w.heap.size + 1, 2, none⟩ = some y := ⟨_, (cell_of_row w8 (w.heap.size + 1) 2 _ _ _ q1).trans (Array.getElem?_eq_getElem (by omega))⟩; have f82 := frozen_of_row q1 2; have c83 := cell_of_row w8 w.heap.size 3 _ _ _ q0; have d83 : ∃ y, w8.cell? ⟨w.heap.size + 1, 3, none⟩ = some y := ⟨_, (cell_of_row w8 (w.heap.size + 1) 3 _ _ _ q1).trans (Array.getElem?_eq_getElem (by omega))⟩; have f83 := frozen_of_row q1 3; have c84 := cell_of_row w8 w.heap.size 4 _ _ _ q0; have d84 : ∃ y, w8.cell? ⟨w.heap.size + 1, 4, none⟩ = some y := ⟨_, (cell_of_row w8 (w.heap.size + 1) 4 _ _ _ q1).trans (Array.getElem?_eq_getElem (by omega))⟩; have f84 := frozen_of_row q1 4; have c85 := cell_of_row w8 w.heap.size 5 _ _ _ q0; have d85 : ∃ y, w8.cell? ⟨w.heap.size + 1, 5, none⟩ = some y := ⟨_, (cell_of_row w8 (w.heap.size + 1) 5 _ _ _ q1).trans (Array.getElem?_eq_getElem (by omega))⟩; have f85 := frozen_of_row q1 5; have Q0 := Lib.hid q0; have Q1 := Lib.hid q1; clear q0 q1; obtain ⟨y0, d80⟩ := d80; obtain ⟨y1, d81⟩ := d81; obtain ⟨y2, d82⟩ := d82; obtain ⟨y3, d83⟩ := d83; obtain ⟨y4, d84⟩ := d84; obtain ⟨y5, d85⟩ := d85))
          have v0 := (Below.heap_setCell w8 ⟨w.heap.size, 0, none⟩ (rowV k) (w.heap.size + 1) (by simp)).trans Q1.out
          have u0 := heap_setCell_at (k := 0) v0 (rowV k)
          have u1 := heap_setCell_at (k := 1) u0 (.bool s.nan)
          have u2 := heap_setCell_at (k := 2) u1 (.bool s.pos)
          have u3 := heap_setCell_at (k := 3) u2 (.bool s.neg)
          have u4 := heap_setCell_at (k := 4) u3 (.bool true)
          have u5 := heap_setCell_at (k := 5) u4 (.bool true)
          rw [set6 Y hY] at u5
          have hkk : w.heap.size + 2 < k := by have := hb.size; have := jb.lt; omega
          have hbf := ((((((hbk.setCell (b := w.heap.size) (k := 0) (v := rowV k) (by omega)).setCell (b := w.heap.size + 1) (k := 0) (v := (rowV k)) (by omega)).setCell (b := w.heap.size + 1) (k := 1) (v := (.bool s.nan)) (by omega)).setCell (b := w.heap.size + 1) (k := 2) (v := (.bool s.pos)) (by omega)).setCell (b := w.heap.size + 1) (k := 3) (v := (.bool s.neg)) (by omega)).setCell (b := w.heap.size + 1) (k := 4) (v := (.bool true)) (by omega)).setCell (b := w.heap.size + 1) (k := 5) (v := (.bool true)) (by omega)
          have hbl := ((((((qb.setCell (p := ⟨w.heap.size, 0, none⟩) (Nat.le_refl _) (rowV k)).setCell (p := ⟨w.heap.size + 1, 0, none⟩) (by simp) (rowV k)).setCell (p := ⟨w.heap.size + 1, 1, none⟩) (by simp) (.bool s.nan)).setCell (p := ⟨w.heap.size + 1, 2, none⟩) (by simp) (.bool s.pos)).setCell (p := ⟨w.heap.size + 1, 3, none⟩) (by simp) (.bool s.neg)).setCell (p := ⟨w.heap.size + 1, 4, none⟩) (by simp) (.bool true)).setCell (p := ⟨w.heap.size + 1, 5, none⟩) (by simp) (.bool true)
          exact bodyPost_ret (results_cell_row rfl _ _ (w.heap.size + 1) 99 _ (0, 0) _ rfl u5 Try.underlying99 rfl size49) rfl ⟨k, rfl, by omega, hbf, hbl⟩
        · have hturn := refTurn_any (w.heap.size + 2) (M * 2 ^ E) N wc HN.out Hlt.out jb
          have hadd := fun (k1 : Nat) (w1 : World) (b1 : Below wc.heap.size wc w1) (h1 : BitsAt w1 k1 (2 ^ N - M * 2 ^ E)) => refAdd_any g k1 s.w (2 ^ N - M * 2 ^ E) w1 (jg.below b1) h1
          have Hadd := Lib.hid hadd
          clear hadd
          go_wp2_with (first
            | (go_at_call 70; (with_reducible refine hturn.mono ?_); rintro e w7 ⟨k1, rfl, hk1, hbk1, b7⟩; have hadd := Hadd.out k1 w7 b7 hbk1; have p0 := Lib.hid ((b7.block w.heap.size (heap_lt J0.out)).trans J0.out); have p1 := Lib.hid ((b7.block (w.heap.size + 1) (heap_lt J1.out)).trans J1.out); have l7 := cell_of_row w7 w.heap.size 0 _ _ _ p0.out)
            | (go_at_call 71; (with_reducible refine hadd.mono ?_); rintro e w8 ⟨k, rfl, hk, hbk, b8⟩; have q0 := (b8.block w.heap.size (heap_lt p0.out)).trans p0.out; have q1 := (b8.block (w.heap.size + 1) (heap_lt p1.out)).trans p1.out; have qb := below_trans (below_trans hb b7) b8; have f80b := frozen_of_row q0 0; have c80 := cell_of_row w8 w.heap.size 0 _ _ _ q0; have d80 : ∃ y, w8.cell? ⟨w.heap.size + 1, 0, none⟩ = some y := ⟨_, (cell_of_row w8 (w.heap.size + 1) 0 _ _ _ q1).trans (Array.getElem?_eq_getElem (by omega))⟩; have f80 := frozen_of_row q1 0; have c81 := cell_of_row w8 w.heap.size 1 _ _ _ q0; have d81 : ∃ y, w8.cell? ⟨w.heap.size + 1, 1, none⟩ = some y := ⟨_, (cell_of_row w8 (w.heap.size + 1) 1 _ _ _ q1).trans (Array.getElem?_eq_getElem (by omega))⟩; have f81 := frozen_of_row q1 1; have c82 := cell_of_row w8 w.heap.size 2 _ _ _ q0; have d82 : ∃ y, w8.cell? ⟨w.heap.size + 1, 2, none⟩ = some y := ⟨_, (cell_of_row w8 (w.heap.size + 1) 2 _ _ _ q1).trans (Array.getElem?_eq_getElem (by omega))⟩; have f82 := frozen_of_row q1 2; have c83 := cell_of_row w8 w.heap.size 3 _ _ _ q0; have d83 : ∃ y, w8.cell? ⟨w.heap.size + 1, 3, none⟩ = some y := ⟨_, (cell_of_row w8 (w.heap.size + 1) 3 _ _ _ q1).trans (Array.getElem?_eq_getElem (by omega))⟩; have f83 := frozen_of_row q1 3; have c84 := cell_of_row w8 w.heap.size 4 _ _ _ q0; have d84 : ∃ y, w8.cell? ⟨w.heap.size + 1, 4, none⟩ = some y := ⟨_, (cell_of_row w8 (w.heap.size + 1) 4 _ _ _ q1).trans (Array.getElem?_eq_getElem (by omega))⟩; have f84 := frozen_of_row q1 4; have c85 := cell_of_row w8 w.heap.size 5 _ _ _ q0; have d85 : ∃ y, w8.cell? ⟨w.heap.size + 1, 5, none⟩ = some y := ⟨_, (cell_of_row w8 (w.heap.size + 1) 5 _ _ _ q1).trans (Array.getElem?_eq_getElem (by omega))⟩; have f85 := frozen_of_row q1 5; have Q0 := Lib.hid q0; have Q1 := Lib.hid q1; clear q0 q1; obtain ⟨y0, d80⟩ := d80; obtain ⟨y1, d81⟩ := d81; obtain ⟨y2, d82⟩ := d82; obtain ⟨y3, d83⟩ := d83; obtain ⟨y4, d84⟩ := d84; obtain ⟨y5, d85⟩ := d85))
          have v0 := (Below.heap_setCell w8 ⟨w.heap.size, 0, none⟩ (rowV k) (w.heap.size + 1) (by simp)).trans Q1.out
          have u0 := heap_setCell_at (k := 0) v0 (rowV k)
          have u1 := heap_setCell_at (k := 1) u0 (.bool s.nan)
          have u2 := heap_setCell_at (k := 2) u1 (.bool s.pos)
          have u3 := heap_setCell_at (k := 3) u2 (.bool s.neg)
          have u4 := heap_setCell_at (k := 4) u3 (.bool true)
          have u5 := heap_setCell_at (k := 5) u4 (.bool true)
          rw [set6 Y hY] at u5
          have hkk : w.heap.size + 2 < k := by have := b7.size; have := jb.lt; omega
          have hbf := ((((((hbk.setCell (b := w.heap.size) (k := 0) (v := rowV k) (by omega)).setCell (b := w.heap.size + 1) (k := 0) (v := (rowV k)) (by omega)).setCell (b := w.heap.size + 1) (k := 1) (v := (.bool s.nan)) (by omega)).setCell (b := w.heap.size + 1) (k := 2) (v := (.bool s.pos)) (by omega)).setCell (b := w.heap.size + 1) (k := 3) (v := (.bool s.neg)) (by omega)).setCell (b := w.heap.size + 1) (k := 4) (v := (.bool true)) (by omega)).setCell (b := w.heap.size + 1) (k := 5) (v := (.bool true)) (by omega)
          have hbl := ((((((qb.setCell (p := ⟨w.heap.size, 0, none⟩) (Nat.le_refl _) (rowV k)).setCell (p := ⟨w.heap.size + 1, 0, none⟩) (by simp) (rowV k)).setCell (p := ⟨w.heap.size + 1, 1, none⟩) (by simp) (.bool s.nan)).setCell (p := ⟨w.heap.size + 1, 2, none⟩) (by simp) (.bool s.pos)).setCell (p := ⟨w.heap.size + 1, 3, none⟩) (by simp) (.bool s.neg)).setCell (p := ⟨w.heap.size + 1, 4, none⟩) (by simp) (.bool true)).setCell (p := ⟨w.heap.size + 1, 5, none⟩) (by simp) (.bool true)
          exact bodyPost_ret (results_cell_row rfl _ _ (w.heap.size + 1) 99 _ (0, 0) _ rfl u5 Try.underlying99 rfl size49) rfl ⟨k, rfl, by omega, hbf, hbl⟩
end Go.Proofs.Ythplelglifnhoaa
/-! Exact sums: the document's answer: one number more, whatever it is; the sum of some numbers. -/
namespace Go.Proofs.Ythplelglifnhoaa
open Go.RowKit
set_option linter.unusedVariables false
theorem refAddX (g : Nat) (s : St) (x N : Nat) (w : World) (hN : N = 2240) (hx : x < 18446744073709551616) (hg : BitsAt w g s.w) :
    Calls Try.prog 69 #[.agg (refC g s), .float .f64 x] w fun e w' => ∃ k, e = .returned (.agg (refC k (addSt s x))) ∧ BitsAt w' k (addSt s x).w ∧ Below w.heap.size w w' := by
  have hb := fun w => refBits_any x w hx
  by_cases hn : nanB x = true
  · have hc : canon x = 9221120237041090560 := by unfold canon; rw [if_pos hn]
    rw [hc] at hb
    have hn2 := of_decide_eq_true hn
    have h2 : infP x = false := by unfold infP; exact decide_eq_false (by omega)
    have h3 : infM x = false := by unfold infM; exact decide_eq_false (by omega)
    have := refAdd_special g s x 9221120237041090560 true s.pos false w hb (by decide) (by decide) (by decide)
    refine this.mono fun e w' ⟨he, hbl⟩ => ⟨g, ?_, ?_, hbl⟩
    · rw [he]
      unfold addSt
      rw [if_pos (.inl hn), hn, h2, h3]
      simp [refC]
    · unfold addSt
      rw [if_pos (.inl hn)]
      exact hg.below hbl
  · have hn : nanB x = false := by simpa using hn
    have hc : canon x = x := by unfold canon; rw [if_neg (by rw [hn]; decide)]
    rw [hc] at hb
    by_cases hi : infB x = true
    · have hi2 := of_decide_eq_true hi
      have hcase : x = 9218868437227405312 ∨ x = 18442240474082181120 := by omega
      have hsp : ∀ m : Bool, (((x : Int) / 9223372036854775808 == 1) = m) → Calls Try.prog 69 #[.agg (refC g s), .float .f64 x] w fun e w' => e = .returned (.agg (refC g { s with nan := s.nan || false, pos := s.pos || (!false && !m), neg := s.neg || (!false && m), any := true, other := true })) ∧ Below w.heap.size w w' := fun m hm =>
        refAdd_special g s x x false s.pos m w hb (by omega) (by rw [bne_eq_false_iff_eq]; omega) hm
      rcases hcase with rfl | rfl
      · refine (hsp false (by decide)).mono fun e w' ⟨he, hbl⟩ => ⟨g, ?_, ?_, hbl⟩
        · rw [he, end_pos]; simp [refC, endSt]
        · rw [end_pos]; exact hg.below hbl
      · refine (hsp true (by decide)).mono fun e w' ⟨he, hbl⟩ => ⟨g, ?_, ?_, hbl⟩
        · rw [he, end_neg]; simp [refC, endSt]
        · rw [end_neg]; exact hg.below hbl
    · have hi : infB x = false := by simpa using hi
      have hr := fin_rung hx hn hi
      have hrx : rung x = x % 9223372036854775808 := rfl
      have hnb := negB_eq hx
      have hv := val_parts (rung x) (by omega)
      have hvl := val_le_pow (rung x) N hr (by omega)
      obtain ⟨q, hq⟩ : ∃ q, rung x / 4503599627370496 = q := ⟨_, rfl⟩
      obtain ⟨r, hr2⟩ : ∃ r, rung x % 4503599627370496 = r := ⟨_, rfl⟩
      rw [hq, hr2] at hv
      obtain ⟨M, E, hME, hval⟩ : ∃ M E, ((q = 0 ∧ E = 0 ∧ M = r) ∨ (q = E + 1 ∧ M = 4503599627370496 + r)) ∧ val (rung x) = M * 2 ^ E := by
        by_cases h0 : q = 0
        · exact ⟨r, 0, .inl ⟨h0, rfl, rfl⟩, by rw [hv, if_pos h0, if_pos h0]⟩
        · exact ⟨4503599627370496 + r, q - 1, .inr ⟨by omega, rfl⟩, by rw [hv, if_neg h0, if_neg h0]⟩
      have hlt : M * 2 ^ E < 2 ^ N := by
        have := val_lt_pow (rung x) N hr (by omega)
        have hp := Nat.two_pow_pos N
        omega
      have hm : ((x : Int) / 9223372036854775808 == 1) = negB x := by
        rw [hnb, Bool.eq_iff_iff, beq_iff_eq, decide_eq_true_eq]; omega
      obtain ⟨z, hz⟩ : ∃ z, ((x : Int) != 9223372036854775808) = z := ⟨_, rfl⟩
      have hfin := refAdd_fin g s x x M E (negB x) z w hb q r (by omega) (by omega) (by omega) (by omega) hm hz hME N hN hlt hg
      refine hfin.mono fun e w' ⟨k, he, hk, hbk, hbl⟩ => ⟨k, ?_, ?_, hbl⟩
      · rw [he, addSt_w s x N hN hn hi]
        have hz2 : (s.other || z) = (s.other || (!decide (rung x = 0) || !negB x)) := by
          congr 1
          rw [← hz, hnb, Bool.eq_iff_iff, bne_iff_ne]
          simp only [Bool.or_eq_true, Bool.not_eq_true', decide_eq_false_iff_not]
          omega
        unfold refC
        simp only [hz2]
      · rw [addSt_w s x N hN hn hi]
        show BitsAt w' k (s.w + addW x N)
        unfold addW
        by_cases h0 : rung x = 0
        · rw [if_pos h0, Nat.add_zero]
          have hv0 : M * 2 ^ E = 0 := by rw [← hval, h0]; decide
          rw [hv0] at hbk
          cases hnn : negB x
          · rw [hnn] at hbk; simpa using hbk
          · rw [hnn, if_pos rfl, Nat.sub_zero] at hbk
            exact BitsAt.round hN hbk
        · rw [if_neg h0, hval]
          exact hbk
end Go.Proofs.Ythplelglifnhoaa
/-! Exact sums: the document's answer: nothing, and the sum of some numbers. -/
namespace Go.Proofs.Ythplelglifnhoaa
open Go.RowKit
set_option linter.unusedVariables false

theorem bitsAt_nil {w : World} {g : Nat} {t : TypeId} {fr : Nat × Nat} (h : w.heap[g]? = some (.cells (bC fun _ => 0) t fr)) : BitsAt w g 0 := BitsAt.of_row _ h fun k _ => by simp [bit]
set_option maxRecDepth 100000 in
set_option maxHeartbeats 2000000 in
theorem refNew_any (w : World) : Calls Try.prog 68 #[] w fun e w' => ∃ k, e = .returned (.agg (refC k noSt)) ∧ BitsAt w' k 0 ∧ Below w.heap.size w w' := by
  have hmk := run_make2240
  unfold refC
  go_enter Try.func68, Try.ntmps68
  go_wp2_with fail
  have h0 := heap_alloc2_old w (.cells #[rowV (w.heap.size + 1), .bool false, .bool false, .bool false, .bool false, .bool false] 99) (.cells (bC fun _ => 0) 5)
  have h1 := heap_alloc2_new w (.cells #[rowV (w.heap.size + 1), .bool false, .bool false, .bool false, .bool false, .bool false] 99) (.cells (bC fun _ => 0) 5)
  exact bodyPost_ret (results_cell_row rfl _ _ w.heap.size 99 _ (0, 0) _ rfl h0 Try.underlying99 rfl size49) rfl ⟨w.heap.size + 1, rfl, bitsAt_nil h1, below_alloc (below_alloc (Below.refl _ _) _) _⟩
end Go.Proofs.Ythplelglifnhoaa
