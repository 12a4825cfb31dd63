import Derived.Test.YtjmllggjaplldaaAg
import Derived.Test.YtjmllggjaplldaaVg
import Derived.Test.YtjmllggjaplldaaRl
import Derived.Test.YtjmllggjaplldaaBase
/-! Values' states: of a list of values; tellings compared; the document's telling. -/
namespace Go.Proofs.Ytjmllggjaplldaa
open Go.RowKit
set_option linter.unusedVariables false
attribute [-simp] Try.isAgg30 Try.sizeOf30 Try.typeInfo30 Try.type30
attribute [-simp] Try.isAgg32 Try.sizeOf32 Try.typeInfo32 Try.type32
attribute [-simp] Try.isAgg27 Try.sizeOf27 Try.typeInfo27 Try.type27
attribute [-simp] Try.isAgg39 Try.sizeOf39 Try.typeInfo39 Try.type39

def asOf (xs : List Nat) : AS := xs.foldl addAS noAS
theorem asOf_snoc (xs : List Nat) (k : Nat) (h : k < xs.length) : asOf (xs.take (k + 1)) = addAS (asOf (xs.take k)) (fd xs k) := by
  rw [take_snocF xs k h]; simp [asOf, List.foldl_append]
theorem asOf_ok (xs : List Nat) (h64 : Words64 xs) : ∀ k, k ≤ xs.length → (asOf (xs.take k)).ok := by
  intro k
  induction k with
  | zero => intro _; exact noAS_ok
  | succ k ih => intro h; rw [asOf_snoc xs k (by omega)]; exact addAS_ok (ih (by omega)) (h64 k (by omega))
/-- Tellings compared. -/
def sameAV (a b : AV) : Bool := decide (a.n = b.n) && (decide (canon a.x = canon b.x) && (decide (a.ov = b.ov) && (decide (canon a.lo = canon b.lo) && decide (canon a.hi = canon b.hi))))
structure AV.ok (a : AV) : Prop where
  n : a.n < 18446744073709551616
  x : a.x < 18446744073709551616
  lo : a.lo < 18446744073709551616
  hi : a.hi < 18446744073709551616
theorem avC_cells (a : AV) : (avC a)[0]? = some (.int .u64 (a.n : Int)) ∧ (avC a)[1]? = some (.float .f64 a.x) ∧ (avC a)[2]? = some (.bool a.ov) ∧ (avC a)[3]? = some (.float .f64 a.lo) ∧ (avC a)[4]? = some (.float .f64 a.hi) := ⟨rfl, rfl, rfl, rfl, rfl⟩
theorem chain5 (c1 c2 c3 c4 c5 : Bool) : c1 = false ∨ (c1 = true ∧ c2 = false) ∨ (c1 = true ∧ c2 = true ∧ c3 = false) ∨ (c1 = true ∧ c2 = true ∧ c3 = true ∧ c4 = false) ∨ (c1 = true ∧ c2 = true ∧ c3 = true ∧ c4 = true ∧ c5 = false) ∨ (c1 = true ∧ c2 = true ∧ c3 = true ∧ c4 = true ∧ c5 = true) := by
  cases c1 <;> cases c2 <;> cases c3 <;> cases c4 <;> cases c5 <;> simp
theorem canon_int (p q : Nat) : ((p : Int) == (q : Int)) = decide (p = q) := by rw [Bool.eq_iff_iff, beq_iff_eq, decide_eq_true_eq]; omega
theorem bool_eq (p q : Bool) : (p == q) = decide (p = q) := by cases p <;> cases q <;> rfl

set_option maxRecDepth 100000 in
set_option maxHeartbeats 4000000 in
theorem aggSame_any (a b : AV) (w : World) (ha : a.ok) (hb : b.ok) : Calls Try.prog 20 #[.agg (avC a), .agg (avC b)] w fun e w' => e = .returned (.bool (sameAV a b)) ∧ Below w.heap.size w w' := by
  have Hs := Lib.hid sizeAgg
  obtain ⟨a0, a1, a2, a3, a4⟩ := avC_cells a
  obtain ⟨b0, b1, b2, b3, b4⟩ := avC_cells b
  have hA : (avC a).size = 5 := rfl
  have hB : (avC b).size = 5 := rfl
  have s1 := fun w => same_any a.x b.x w
  have s2 := fun w => same_any a.lo b.lo w
  have s3 := fun w => same_any a.hi b.hi w
  have hu : sameAV a b = (decide (a.n = b.n) && (decide (canon a.x = canon b.x) && (decide (a.ov = b.ov) && (decide (canon a.lo = canon b.lo) && decide (canon a.hi = canon b.hi))))) := rfl
  rw [hu]
  have k0 := canon_int a.n b.n
  have k2 := bool_eq a.ov b.ov
  generalize decide (a.n = b.n) = c1 at *
  generalize decide (canon a.x = canon b.x) = c2 at *
  generalize decide (a.ov = b.ov) = c3 at *
  generalize decide (canon a.lo = canon b.lo) = c4 at *
  generalize decide (canon a.hi = canon b.hi) = c5 at *
  generalize avC a = A at *
  generalize avC b = B at *
  have hb2 := below_alloc (below_alloc (Below.refl w.heap.size w) (.cells A 27)) (.cells B 27)
  have h2 := heap_alloc2_old w (.cells A 27) (.cells B 27)
  have h3 := heap_alloc2_new w (.cells A 27) (.cells B 27)
  have ca0 := (cell_of_row _ _ 0 _ _ _ h2).trans a0
  have ca1 := (cell_of_row _ _ 1 _ _ _ h2).trans a1
  have ca2 := (cell_of_row _ _ 2 _ _ _ h2).trans a2
  have ca3 := (cell_of_row _ _ 3 _ _ _ h2).trans a3
  have ca4 := (cell_of_row _ _ 4 _ _ _ h2).trans a4
  have cb0 := (cell_of_row _ _ 0 _ _ _ h3).trans b0
  have cb1 := (cell_of_row _ _ 1 _ _ _ h3).trans b1
  have cb2 := (cell_of_row _ _ 2 _ _ _ h3).trans b2
  have cb3 := (cell_of_row _ _ 3 _ _ _ h3).trans b3
  have cb4 := (cell_of_row _ _ 4 _ _ _ h3).trans b4
  clear a0 a1 a2 a3 a4 b0 b1 b2 b3 b4 hA hB h2 h3 hu
  go_enter Try.func20, Try.ntmps20
  go_upto_region 1 with fail
  generalize (w.alloc (.cells A 27)).alloc (.cells B 27) = w2 at *
  rcases chain5 c1 c2 c3 c4 c5 with rfl | ⟨rfl, rfl⟩ | ⟨rfl, rfl, rfl⟩ | ⟨rfl, rfl, rfl, rfl⟩ | ⟨rfl, rfl, rfl, rfl, rfl⟩ | ⟨rfl, rfl, rfl, rfl, rfl⟩
  all_goals
    go_wp2_with (go_at_call 45; first
      | ((with_reducible refine (s1 _).mono ?_); rintro e w3 ⟨rfl, rfl⟩)
      | ((with_reducible refine (s2 _).mono ?_); rintro e w3 ⟨rfl, rfl⟩)
      | ((with_reducible refine (s3 _).mono ?_); rintro e w3 ⟨rfl, rfl⟩))
    go_ret
    exact ⟨rfl, hb2⟩
set_option maxRecDepth 100000 in
set_option maxHeartbeats 4000000 in
theorem refAggSame_any (a b : AV) (w : World) (ha : a.ok) (hb : b.ok) : Calls Try.prog 17 #[.agg (avC a), .agg (avC b)] w fun e w' => e = .returned (.bool (sameAV a b)) ∧ Below w.heap.size w w' := by
  have Hs := Lib.hid sizeAgg
  obtain ⟨a0, a1, a2, a3, a4⟩ := avC_cells a
  obtain ⟨b0, b1, b2, b3, b4⟩ := avC_cells b
  have hA : (avC a).size = 5 := rfl
  have hB : (avC b).size = 5 := rfl
  have s1 := fun w => refSame_any a.x b.x w ha.x hb.x
  have s2 := fun w => refSame_any a.lo b.lo w ha.lo hb.lo
  have s3 := fun w => refSame_any a.hi b.hi w ha.hi hb.hi
  have hu : sameAV a b = (decide (a.n = b.n) && (decide (canon a.x = canon b.x) && (decide (a.ov = b.ov) && (decide (canon a.lo = canon b.lo) && decide (canon a.hi = canon b.hi))))) := rfl
  rw [hu]
  have k0 := canon_int a.n b.n
  have k2 := bool_eq a.ov b.ov
  generalize decide (a.n = b.n) = c1 at *
  generalize decide (canon a.x = canon b.x) = c2 at *
  generalize decide (a.ov = b.ov) = c3 at *
  generalize decide (canon a.lo = canon b.lo) = c4 at *
  generalize decide (canon a.hi = canon b.hi) = c5 at *
  generalize avC a = A at *
  generalize avC b = B at *
  have hb2 := below_alloc (below_alloc (Below.refl w.heap.size w) (.cells A 27)) (.cells B 27)
  have h2 := heap_alloc2_old w (.cells A 27) (.cells B 27)
  have h3 := heap_alloc2_new w (.cells A 27) (.cells B 27)
  have ca0 := (cell_of_row _ _ 0 _ _ _ h2).trans a0
  have ca1 := (cell_of_row _ _ 1 _ _ _ h2).trans a1
  have ca2 := (cell_of_row _ _ 2 _ _ _ h2).trans a2
  have ca3 := (cell_of_row _ _ 3 _ _ _ h2).trans a3
  have ca4 := (cell_of_row _ _ 4 _ _ _ h2).trans a4
  have cb0 := (cell_of_row _ _ 0 _ _ _ h3).trans b0
  have cb1 := (cell_of_row _ _ 1 _ _ _ h3).trans b1
  have cb2 := (cell_of_row _ _ 2 _ _ _ h3).trans b2
  have cb3 := (cell_of_row _ _ 3 _ _ _ h3).trans b3
  have cb4 := (cell_of_row _ _ 4 _ _ _ h3).trans b4
  clear a0 a1 a2 a3 a4 b0 b1 b2 b3 b4 hA hB h2 h3 hu
  go_enter Try.func17, Try.ntmps17
  go_upto_region 1 with fail
  generalize (w.alloc (.cells A 27)).alloc (.cells B 27) = w2 at *
  rcases chain5 c1 c2 c3 c4 c5 with rfl | ⟨rfl, rfl⟩ | ⟨rfl, rfl, rfl⟩ | ⟨rfl, rfl, rfl, rfl⟩ | ⟨rfl, rfl, rfl, rfl, rfl⟩ | ⟨rfl, rfl, rfl, rfl, rfl⟩
  all_goals
    go_wp2_with (go_at_call 14; first
      | ((with_reducible refine (s1 _).mono ?_); rintro e w3 ⟨rfl, rfl⟩)
      | ((with_reducible refine (s2 _).mono ?_); rintro e w3 ⟨rfl, rfl⟩)
      | ((with_reducible refine (s3 _).mono ?_); rintro e w3 ⟨rfl, rfl⟩))
    go_ret
    exact ⟨rfl, hb2⟩
set_option maxRecDepth 100000 in
set_option maxHeartbeats 4000000 in
theorem of_as (A : Option Addr) (cap : Nat) (xs : List Nat) (w : World) (hr : FReads w A xs) (h64 : Words64 xs) (hlen : xs.length ≤ 1000) :
    Calls Try.prog 11 #[.slice A xs.length cap] w fun e w' => e = .returned (.agg (asC (asOf xs))) ∧ Below w.heap.size w w' := by
  have Hs := Lib.hid sizeState
  have hok := asOf_ok xs h64
  obtain ⟨Z, hZ, zz⟩ : ∃ Z : Array Value, Z = asC noAS ∧ ∀ w, (zeroValue 32).run Try.prog w = .ok (.agg Z) w := ⟨_, rfl, zeroState⟩
  have hZs : Z.size = 43 := by rw [hZ]; exact asC_size _
  have hZ0 : Z = asC (asOf (xs.take 0)) := hZ
  have HZ := Lib.hid hZ0
  clear hZ0 hZ
  go_enter Try.func11, Try.ntmps11
  go_wp2_with (first
    | (refine at_op (.alloc 32) ?_ rfl; first | (refine wpList_alloc_row rfl w 32 rfl (some 2) rfl w.heap.size rfl Z zz ?_) | (refine wpList_alloc_row rfl _ 32 rfl (some 3) rfl (w.heap.size + 1) (by simp) Z zz ?_)))
  have hg0 := heap_alloc2_old w (.cells Z 32) (.cells Z 32)
  have hg1 := heap_alloc2_new w (.cells Z 32) (.cells Z 32)
  have hb2 : Below w.heap.size w ((w.alloc (.cells Z 32)).alloc (.cells Z 32)) := below_alloc (below_alloc (Below.refl _ _) _) _
  go_loopw [4] (fun i wr => ∃ k : Nat, k ≤ xs.length ∧ i = .int .i64 k ∧ wr.heap[w.heap.size]? = some (.cells Z 32 (0, 0)) ∧ wr.heap[w.heap.size + 1]? = some (.cells (asC (asOf (xs.take k))) 32 (0, 0)) ∧ Below w.heap.size w wr) (fun i _ => xs.length - (intOf i).toNat)
  case atStart => exact ⟨0, Nat.zero_le _, rfl, hg0, by rw [← HZ.out]; exact hg1, hb2⟩
  case round =>
    obtain ⟨k, hk, rfl, hz, hs, hb⟩ := hrel
    have Hz := Lib.hid hz
    have Hsu := Lib.hid hs
    have hgl := heap_lt hs
    clear hg0 hg1 hb2 hz hs
    by_cases hlt : k < xs.length
    · obtain ⟨a, rfl, c0⟩ := (hr.below hb) k hlt
      have hadd := fun w => add_as (asOf (xs.take k)) (fd xs k) w (hok k (by omega)) (h64 k hlt)
      rw [← asOf_snoc xs k hlt] at hadd
      obtain ⟨F', hF'⟩ : ∃ F', asOf (xs.take (k + 1)) = F' := ⟨_, rfl⟩
      rw [hF'] at hadd
      clear hok
      generalize asOf (xs.take k) = F at *
      have HL := Lib.hid (run_loadCellsFrom_row (P := Try.prog) wr.drew (w.heap.size + 1) 32 (asC F) (0, 0) Hsu.out 43 (asC_size F))
      have b5d := fun w4 (b4 : Below wr.drew.heap.size wr.drew w4) => (b4.block _ hgl).trans Hsu.out
      have b5z := fun w4 (b4 : Below wr.drew.heap.size wr.drew w4) => (b4.block _ (heap_lt Hz.out)).trans Hz.out
      clear hr
      go_wp2_with fail
      go_region_with (first
        | (rw [Try.isAgg32]; simp only [Result.andThen_ok, if_true, run_sizeOf_info Hs.out, HL.out])
        | (go_at_call 32; (with_reducible refine (hadd _).mono ?_); rintro e w5 ⟨rfl, b4⟩)
        | (rw [run_sizeOf_info Hs.out]; simp only [Result.andThen_ok, if_true, asC_size, run_storeCells_row w5 (w.heap.size + 1) 32 (asC F) (asC F') (b5d w5 b4) (by rw [asC_size]; exact Hs.out) (by rw [asC_size, asC_size]) (asC_one _)]))
      all_goals
        go_wp2
        exact ⟨⟨k + 1, by omega, by go_num, (setRow_other w5 _ _ _ (by omega)).trans (b5z w5 b4), by rw [hF']; exact setRow_heap _ _ _ _ _ _ (b5d w5 b4), below_setRow (below_trans hb.drew b4) (by omega) _⟩, by simp [intOf]; omega⟩
    · obtain rfl : k = xs.length := by omega
      rw [List.take_length] at Hsu
      go_wp2_with (first
        | (refine at_op (.load 32 (.tmp 3)) ?_ rfl; refine wpList_load_row rfl 32 (.tmp 3) rfl (w.heap.size + 1) rfl 32 _ (0, 0) _ Hsu.out Try.underlying32 rfl (by rw [asC_size]; exact Hs.out) ?_)
        | (refine at_op (.store 32 (.tmp 2) (.tmp 17)) ?_ rfl; refine wpList_store_row rfl 32 (.tmp 2) (.tmp 17) rfl w.heap.size (asC (asOf xs)) rfl rfl 32 Z Hz.out (by rw [asC_size]; exact Hs.out) (by rw [hZs, asC_size]) (asC_one _) ?_))
      exact bodyPost_ret (results_cell_row rfl _ _ w.heap.size 32 _ (0, 0) _ rfl (setRow_heap _ _ _ _ _ _ Hz.out) Try.underlying32 rfl (by rw [asC_size]; exact Hs.out)) rfl ⟨rfl, below_setRow hb (by omega) _⟩

/-! What is told of a list of values, by the document. -/
def minR (x m : Nat) : Nat := if rank x < rank m then x else m
def maxR (x m : Nat) : Nat := if rank m < rank x then x else m
def loR (xs : List Nat) (k : Nat) : Nat := (xs.take k).foldl (fun m x => minR x m) (fd xs 0)
def hiR (xs : List Nat) (k : Nat) : Nat := (xs.take k).foldl (fun m x => maxR x m) (fd xs 0)
theorem loR_zero (xs : List Nat) : loR xs 0 = fd xs 0 := rfl
theorem hiR_zero (xs : List Nat) : hiR xs 0 = fd xs 0 := rfl
theorem loR_succ (xs : List Nat) (k : Nat) (h : k < xs.length) : loR xs (k + 1) = minR (fd xs k) (loR xs k) := by
  unfold loR; rw [take_snocF xs k h]; simp [List.foldl_append]
theorem hiR_succ (xs : List Nat) (k : Nat) (h : k < xs.length) : hiR xs (k + 1) = maxR (fd xs k) (hiR xs k) := by
  unfold hiR; rw [take_snocF xs k h]; simp [List.foldl_append]
theorem loR_lt (xs : List Nat) (h64 : Words64 xs) (h0 : 0 < xs.length) : ∀ k, k ≤ xs.length → loR xs k < 18446744073709551616 := by
  intro k
  induction k with
  | zero => intro _; exact h64 0 h0
  | succ k ih =>
    intro h
    rw [loR_succ xs k (by omega)]
    unfold minR
    split
    · exact h64 k (by omega)
    · exact ih (by omega)
theorem hiR_lt (xs : List Nat) (h64 : Words64 xs) (h0 : 0 < xs.length) : ∀ k, k ≤ xs.length → hiR xs k < 18446744073709551616 := by
  intro k
  induction k with
  | zero => intro _; exact h64 0 h0
  | succ k ih =>
    intro h
    rw [hiR_succ xs k (by omega)]
    unfold maxR
    split
    · exact h64 k (by omega)
    · exact ih (by omega)
def valueR (xs : List Nat) : AV := if xs.length = 0 then noAV else ⟨xs.length, (refVal (sumOf xs)).1, (refVal (sumOf xs)).2, canon (loR xs xs.length), canon (hiR xs xs.length)⟩
theorem joinSt_noSt (s : St) (x : Nat) : joinSt s (addSt noSt x) = addSt s x := by
  obtain ⟨sw, s1, s2, s3, s4, s5⟩ := s
  unfold addSt
  split
  · simp [joinSt, noSt]
  · split
    · simp [joinSt, noSt]
    · simp only [joinSt, noSt, Nat.zero_add, Bool.or_false, Bool.or_true]
theorem joinSt_no (x : Nat) : joinSt noSt (addSt noSt x) = addSt noSt x := joinSt_noSt noSt x
theorem minOf_canon (m x : Nat) : minOf (canon m) (canon x) = canon (minR x m) := by
  unfold minOf minR
  rw [rank_canon, rank_canon, canon_canon, canon_canon]
  split <;> rfl
theorem maxOf_canon (m x : Nat) : maxOf (canon m) (canon x) = canon (maxR x m) := by
  unfold maxOf maxR
  rw [rank_canon, rank_canon, canon_canon, canon_canon]
  split <;> rfl
theorem minR_self (x : Nat) : minR x x = x := by unfold minR; split <;> rfl
theorem maxR_self (x : Nat) : maxR x x = x := by unfold maxR; split <;> rfl
theorem asOf_eq (xs : List Nat) : ∀ k, 0 < k → k ≤ xs.length → k < 18446744073709551616 → asOf (xs.take k) = ⟨k, sumOf (xs.take k), canon (loR xs k), canon (hiR xs k)⟩ := by
  intro k
  induction k with
  | zero => intro h; omega
  | succ k ih =>
    intro _ hk hk2
    rw [asOf_snoc xs k (by omega), sumOf_snoc xs k (by omega), loR_succ xs k (by omega), hiR_succ xs k (by omega)]
    by_cases h0 : k = 0
    · subst h0
      have e : asOf (xs.take 0) = noAS := rfl
      have e2 : sumOf (xs.take 0) = noSt := rfl
      rw [e, e2, loR_zero, hiR_zero, minR_self, maxR_self]
      rfl
    · rw [ih (by omega) (by omega) (by omega)]
      unfold addAS joinAS oneAS
      simp only
      rw [if_neg h0, if_neg (by decide), joinSt_noSt, minOf_canon, maxOf_canon, Nat.mod_eq_of_lt hk2]
theorem asOf_all (xs : List Nat) (h0 : xs.length ≠ 0) (h : xs.length < 18446744073709551616) : asOf xs = ⟨xs.length, sumOf xs, canon (loR xs xs.length), canon (hiR xs xs.length)⟩ := by
  have := asOf_eq xs xs.length (by omega) (Nat.le_refl _) h
  rwa [List.take_length] at this
theorem asOf_len (xs : List Nat) (h : xs.length < 18446744073709551616) : (asOf xs).n = xs.length := by
  by_cases h0 : xs.length = 0
  · obtain rfl := List.eq_nil_of_length_eq_zero h0; rfl
  · rw [asOf_all xs h0 h]
set_option maxRecDepth 100000 in
/-- What a state tells is what the document tells. -/
theorem tell_value (xs : List Nat) (h : xs.length < 18446744073709551616) : sameAV (tellAS (asOf xs)) (valueR xs) = true := by
  by_cases h0 : xs.length = 0
  · obtain rfl := List.eq_nil_of_length_eq_zero h0
    have e : valSt noSt = (0, false) := by kernel_rfl
    show sameAV ⟨0, canon (valSt noSt).1, (valSt noSt).2, 0, 0⟩ noAV = true
    rw [e]
    decide
  · unfold valueR
    rw [if_neg h0, asOf_all xs h0 h]
    obtain ⟨c1, c2⟩ := refVal_canon (sumOf xs)
    unfold sameAV tellAS
    simp only [canon_canon, c1, c2, decide_true, Bool.and_self]
theorem wrap_len (n : Nat) (h : n < 18446744073709551616) : IntKind.u64.wrap (n : Int) = (n : Int) := by rw [IntKind.wrap_u64]; omega
set_option maxRecDepth 100000 in
theorem refOf01_any (b : Nat) (w : World) (hb : b < 18446744073709551616) : Calls Try.prog 38 #[.int .u64 (b : Int)] w fun e w' => e = .returned (.float .f64 (canon b)) ∧ w = w' := by
  have hf := run_frombits
  have hb := refBits_any b w hb
  go_enter Try.func38, Try.ntmps38
  go_wp2_with (go_at_call 35; (with_reducible refine hb.mono ?_); rintro e w1 ⟨rfl, rfl⟩)
  go_ret
  exact ⟨rfl, rfl⟩
end Go.Proofs.Ytjmllggjaplldaa
