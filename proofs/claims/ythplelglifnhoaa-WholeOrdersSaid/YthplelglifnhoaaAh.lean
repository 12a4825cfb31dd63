import Derived.Test.YthplelglifnhoaaAg
import Derived.Test.YthplelglifnhoaaVg
import Derived.Test.YthplelglifnhoaaRl
import Derived.Test.YthplelglifnhoaaBase
/-! Values' states: of a list of values; tellings compared; the document's telling. -/
namespace Go.Proofs.Ythplelglifnhoaa
open Go.RowKit
set_option linter.unusedVariables false
attribute [-simp] Try.isAgg43 Try.sizeOf43 Try.typeInfo43 Try.type43
attribute [-simp] Try.isAgg45 Try.sizeOf45 Try.typeInfo45 Try.type45
attribute [-simp] Try.isAgg61 Try.sizeOf61 Try.typeInfo61 Try.type61
attribute [-simp] Try.isAgg99 Try.sizeOf99 Try.typeInfo99 Try.type99

def asOf (xs : List Nat) : AS := xs.foldl addAS noAS
theorem asOf_snoc (xs : List Nat) (k : Nat) (h : k < xs.length) : asOf (xs.take (k + 1)) = addAS (asOf (xs.take k)) (fd xs k) := by
  rw [take_snocF xs k h]; simp [asOf, List.foldl_append]
theorem asOf_ok (xs : List Nat) (h64 : Words64 xs) : ∀ k, k ≤ xs.length → (asOf (xs.take k)).ok := by
  intro k
  induction k with
  | zero => intro _; exact noAS_ok
  | succ k ih => intro h; rw [asOf_snoc xs k (by omega)]; exact addAS_ok (ih (by omega)) (h64 k (by omega))
/-- Tellings compared. -/
def sameAV (a b : AV) : Bool := decide (a.n = b.n) && (decide (canon a.x = canon b.x) && (decide (a.ov = b.ov) && (decide (canon a.lo = canon b.lo) && decide (canon a.hi = canon b.hi))))
structure AV.ok (a : AV) : Prop where
  n : a.n < 18446744073709551616
  x : a.x < 18446744073709551616
  lo : a.lo < 18446744073709551616
  hi : a.hi < 18446744073709551616
set_option maxRecDepth 100000 in
theorem avC_cells (a : AV) : (avC a)[0]? = some (.int .u64 (a.n : Int)) ∧ (avC a)[1]? = some (.float .f64 a.x) ∧ (avC a)[2]? = some (.bool a.ov) ∧ (avC a)[3]? = some (.float .f64 a.lo) ∧ (avC a)[4]? = some (.float .f64 a.hi) := ⟨rfl, rfl, rfl, rfl, rfl⟩
theorem chain5 (c1 c2 c3 c4 c5 : Bool) : c1 = false ∨ (c1 = true ∧ c2 = false) ∨ (c1 = true ∧ c2 = true ∧ c3 = false) ∨ (c1 = true ∧ c2 = true ∧ c3 = true ∧ c4 = false) ∨ (c1 = true ∧ c2 = true ∧ c3 = true ∧ c4 = true ∧ c5 = false) ∨ (c1 = true ∧ c2 = true ∧ c3 = true ∧ c4 = true ∧ c5 = true) := by
  cases c1 <;> cases c2 <;> cases c3 <;> cases c4 <;> cases c5 <;> simp
theorem canon_int (p q : Nat) : ((p : Int) == (q : Int)) = decide (p = q) := by rw [Bool.eq_iff_iff, beq_iff_eq, decide_eq_true_eq]; omega
theorem bool_eq (p q : Bool) : (p == q) = decide (p = q) := by cases p <;> cases q <;> rfl

set_option maxRecDepth 100000 in
set_option maxHeartbeats 4000000 in
theorem refAggSame_any (a b : AV) (w : World) (ha : a.ok) (hb : b.ok) : Calls Try.prog 26 #[.agg (avC a), .agg (avC b)] w fun e w' => e = .returned (.bool (sameAV a b)) ∧ Below w.heap.size w w' := by
  have Hs := Lib.hid sizeAgg
  obtain ⟨a0, a1, a2, a3, a4⟩ := avC_cells a
  obtain ⟨b0, b1, b2, b3, b4⟩ := avC_cells b
  have hA : (avC a).size = 5 := rfl
  have hB : (avC b).size = 5 := rfl
  have s1 := fun w => refSame_any a.x b.x w ha.x hb.x
  have s2 := fun w => refSame_any a.lo b.lo w ha.lo hb.lo
  have s3 := fun w => refSame_any a.hi b.hi w ha.hi hb.hi
  have hu : sameAV a b = (decide (a.n = b.n) && (decide (canon a.x = canon b.x) && (decide (a.ov = b.ov) && (decide (canon a.lo = canon b.lo) && decide (canon a.hi = canon b.hi))))) := rfl
  rw [hu]
  have k0 := canon_int a.n b.n
  have k2 := bool_eq a.ov b.ov
  generalize decide (a.n = b.n) = c1 at *
  generalize decide (canon a.x = canon b.x) = c2 at *
  generalize decide (a.ov = b.ov) = c3 at *
  generalize decide (canon a.lo = canon b.lo) = c4 at *
  generalize decide (canon a.hi = canon b.hi) = c5 at *
  generalize avC a = A at *
  generalize avC b = B at *
  have hb2 := below_alloc (below_alloc (Below.refl w.heap.size w) (.cells A 61)) (.cells B 61)
  have h2 := heap_alloc2_old w (.cells A 61) (.cells B 61)
  have h3 := heap_alloc2_new w (.cells A 61) (.cells B 61)
  have ca0 := (cell_of_row _ _ 0 _ _ _ h2).trans a0
  have ca1 := (cell_of_row _ _ 1 _ _ _ h2).trans a1
  have ca2 := (cell_of_row _ _ 2 _ _ _ h2).trans a2
  have ca3 := (cell_of_row _ _ 3 _ _ _ h2).trans a3
  have ca4 := (cell_of_row _ _ 4 _ _ _ h2).trans a4
  have cb0 := (cell_of_row _ _ 0 _ _ _ h3).trans b0
  have cb1 := (cell_of_row _ _ 1 _ _ _ h3).trans b1
  have cb2 := (cell_of_row _ _ 2 _ _ _ h3).trans b2
  have cb3 := (cell_of_row _ _ 3 _ _ _ h3).trans b3
  have cb4 := (cell_of_row _ _ 4 _ _ _ h3).trans b4
  clear a0 a1 a2 a3 a4 b0 b1 b2 b3 b4 hA hB h2 h3 hu
  go_enter Try.func26, Try.ntmps26
  go_upto_region 1 with fail
  generalize (w.alloc (.cells A 61)).alloc (.cells B 61) = w2 at *
  rcases chain5 c1 c2 c3 c4 c5 with rfl | ⟨rfl, rfl⟩ | ⟨rfl, rfl, rfl⟩ | ⟨rfl, rfl, rfl, rfl⟩ | ⟨rfl, rfl, rfl, rfl, rfl⟩ | ⟨rfl, rfl, rfl, rfl, rfl⟩
  all_goals
    go_wp2_with (go_at_call 36; first
      | ((with_reducible refine (s1 _).mono ?_); rintro e w3 ⟨rfl, rfl⟩)
      | ((with_reducible refine (s2 _).mono ?_); rintro e w3 ⟨rfl, rfl⟩)
      | ((with_reducible refine (s3 _).mono ?_); rintro e w3 ⟨rfl, rfl⟩))
    go_ret
    exact ⟨rfl, hb2⟩
/-! What is told of a list of values, by the document. -/
def minR (x m : Nat) : Nat := if rank x < rank m then x else m
def maxR (x m : Nat) : Nat := if rank m < rank x then x else m
def loR (xs : List Nat) (k : Nat) : Nat := (xs.take k).foldl (fun m x => minR x m) (fd xs 0)
def hiR (xs : List Nat) (k : Nat) : Nat := (xs.take k).foldl (fun m x => maxR x m) (fd xs 0)
theorem loR_zero (xs : List Nat) : loR xs 0 = fd xs 0 := rfl
theorem hiR_zero (xs : List Nat) : hiR xs 0 = fd xs 0 := rfl
theorem loR_succ (xs : List Nat) (k : Nat) (h : k < xs.length) : loR xs (k + 1) = minR (fd xs k) (loR xs k) := by
  unfold loR; rw [take_snocF xs k h]; simp [List.foldl_append]
theorem hiR_succ (xs : List Nat) (k : Nat) (h : k < xs.length) : hiR xs (k + 1) = maxR (fd xs k) (hiR xs k) := by
  unfold hiR; rw [take_snocF xs k h]; simp [List.foldl_append]
theorem loR_lt (xs : List Nat) (h64 : Words64 xs) (h0 : 0 < xs.length) : ∀ k, k ≤ xs.length → loR xs k < 18446744073709551616 := by
  intro k
  induction k with
  | zero => intro _; exact h64 0 h0
  | succ k ih =>
    intro h
    rw [loR_succ xs k (by omega)]
    unfold minR
    split
    · exact h64 k (by omega)
    · exact ih (by omega)
theorem hiR_lt (xs : List Nat) (h64 : Words64 xs) (h0 : 0 < xs.length) : ∀ k, k ≤ xs.length → hiR xs k < 18446744073709551616 := by
  intro k
  induction k with
  | zero => intro _; exact h64 0 h0
  | succ k ih =>
    intro h
    rw [hiR_succ xs k (by omega)]
    unfold maxR
    split
    · exact h64 k (by omega)
    · exact ih (by omega)
def valueR (xs : List Nat) : AV := if xs.length = 0 then noAV else ⟨xs.length, (refVal (sumOf xs)).1, (refVal (sumOf xs)).2, canon (loR xs xs.length), canon (hiR xs xs.length)⟩
theorem joinSt_noSt (s : St) (x : Nat) : joinSt s (addSt noSt x) = addSt s x := by
  obtain ⟨sw, s1, s2, s3, s4, s5⟩ := s
  unfold addSt
  split
  · simp [joinSt, noSt]
  · split
    · simp [joinSt, noSt]
    · simp only [joinSt, noSt, Nat.zero_add, Bool.or_false, Bool.or_true]
theorem joinSt_no (x : Nat) : joinSt noSt (addSt noSt x) = addSt noSt x := joinSt_noSt noSt x
theorem minOf_canon (m x : Nat) : minOf (canon m) (canon x) = canon (minR x m) := by
  unfold minOf minR
  rw [rank_canon, rank_canon, canon_canon, canon_canon]
  split <;> rfl
theorem maxOf_canon (m x : Nat) : maxOf (canon m) (canon x) = canon (maxR x m) := by
  unfold maxOf maxR
  rw [rank_canon, rank_canon, canon_canon, canon_canon]
  split <;> rfl
theorem minR_self (x : Nat) : minR x x = x := by unfold minR; split <;> rfl
theorem maxR_self (x : Nat) : maxR x x = x := by unfold maxR; split <;> rfl
theorem asOf_eq (xs : List Nat) : ∀ k, 0 < k → k ≤ xs.length → k < 18446744073709551616 → asOf (xs.take k) = ⟨k, sumOf (xs.take k), canon (loR xs k), canon (hiR xs k)⟩ := by
  intro k
  induction k with
  | zero => intro h; omega
  | succ k ih =>
    intro _ hk hk2
    rw [asOf_snoc xs k (by omega), sumOf_snoc xs k (by omega), loR_succ xs k (by omega), hiR_succ xs k (by omega)]
    by_cases h0 : k = 0
    · subst h0
      have e : asOf (xs.take 0) = noAS := rfl
      have e2 : sumOf (xs.take 0) = noSt := rfl
      rw [e, e2, loR_zero, hiR_zero, minR_self, maxR_self]
      rfl
    · rw [ih (by omega) (by omega) (by omega)]
      unfold addAS joinAS oneAS
      simp only
      rw [if_neg h0, if_neg (by decide), joinSt_noSt, minOf_canon, maxOf_canon, Nat.mod_eq_of_lt hk2]
theorem asOf_all (xs : List Nat) (h0 : xs.length ≠ 0) (h : xs.length < 18446744073709551616) : asOf xs = ⟨xs.length, sumOf xs, canon (loR xs xs.length), canon (hiR xs xs.length)⟩ := by
  have := asOf_eq xs xs.length (by omega) (Nat.le_refl _) h
  rwa [List.take_length] at this
theorem asOf_len (xs : List Nat) (h : xs.length < 18446744073709551616) : (asOf xs).n = xs.length := by
  by_cases h0 : xs.length = 0
  · obtain rfl := List.eq_nil_of_length_eq_zero h0; rfl
  · rw [asOf_all xs h0 h]
set_option maxRecDepth 100000 in
/-- What a state tells is what the document tells. -/
theorem tell_value (xs : List Nat) (h : xs.length < 18446744073709551616) : sameAV (tellAS (asOf xs)) (valueR xs) = true := by
  by_cases h0 : xs.length = 0
  · obtain rfl := List.eq_nil_of_length_eq_zero h0
    have e : valSt noSt = (0, false) := by kernel_rfl
    show sameAV ⟨0, canon (valSt noSt).1, (valSt noSt).2, 0, 0⟩ noAV = true
    rw [e]
    decide
  · unfold valueR
    rw [if_neg h0, asOf_all xs h0 h]
    obtain ⟨c1, c2⟩ := refVal_canon (sumOf xs)
    unfold sameAV tellAS
    simp only [canon_canon, c1, c2, decide_true, Bool.and_self]
theorem wrap_len (n : Nat) (h : n < 18446744073709551616) : IntKind.u64.wrap (n : Int) = (n : Int) := by rw [IntKind.wrap_u64]; omega
set_option maxRecDepth 100000 in
theorem refOf01_any (b : Nat) (w : World) (hb : b < 18446744073709551616) : Calls Try.prog 51 #[.int .u64 (b : Int)] w fun e w' => e = .returned (.float .f64 (canon b)) ∧ w = w' := by
  have hf := run_frombits
  have hb := refBits_any b w hb
  go_enter Try.func51, Try.ntmps51
  go_wp2_with (go_at_call 52; (with_reducible refine hb.mono ?_); rintro e w1 ⟨rfl, rfl⟩)
  go_ret
  exact ⟨rfl, rfl⟩
end Go.Proofs.Ythplelglifnhoaa
