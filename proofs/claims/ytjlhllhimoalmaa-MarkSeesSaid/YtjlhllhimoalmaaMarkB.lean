import Derived.Test.YtjlhllhimoalmaaMarkA
/-! Marks by what they have seen of each partition. -/
namespace Go.Proofs.Ytjlhllhimoalmaa
open Go.RowKit
set_option linter.unusedVariables false

/-- Marks that have seen f. -/
def mkC (n : Int) (f : Nat → Option Int) : Array Value :=
  #[.int .i64 n, .bool (f 0).isSome, .bool (f 1).isSome, .bool (f 2).isSome, .bool (f 3).isSome, .bool (f 4).isSome, .bool (f 5).isSome, .bool (f 6).isSome, .bool (f 7).isSome,
    .int .i64 ((f 0).getD 0), .int .i64 ((f 1).getD 0), .int .i64 ((f 2).getD 0), .int .i64 ((f 3).getD 0), .int .i64 ((f 4).getD 0), .int .i64 ((f 5).getD 0), .int .i64 ((f 6).getD 0), .int .i64 ((f 7).getD 0)]
theorem mkC_size (n : Int) (f : Nat → Option Int) : (mkC n f).size = 17 := rfl
theorem mkC_one (n : Int) (f : Nat → Option Int) : (mkC n f).all (·.oneCell') = true := by simp [mkC, Value.oneCell']
theorem mkC_n (n : Int) (f : Nat → Option Int) : (mkC n f)[0]? = some (.int .i64 n) := rfl
theorem mkC_has (n : Int) (f : Nat → Option Int) (i : Nat) (h : i < 8) : (mkC n f)[1 + i]? = some (.bool (f i).isSome) := by
  match i, h with
  | 0, _ => rfl
  | 1, _ => rfl
  | 2, _ => rfl
  | 3, _ => rfl
  | 4, _ => rfl
  | 5, _ => rfl
  | 6, _ => rfl
  | 7, _ => rfl
theorem mkC_t (n : Int) (f : Nat → Option Int) (i : Nat) (h : i < 8) : (mkC n f)[9 + i]? = some (.int .i64 ((f i).getD 0)) := by
  match i, h with
  | 0, _ => rfl
  | 1, _ => rfl
  | 2, _ => rfl
  | 3, _ => rfl
  | 4, _ => rfl
  | 5, _ => rfl
  | 6, _ => rfl
  | 7, _ => rfl
def upd (f : Nat → Option Int) (i : Nat) (x : Int) : Nat → Option Int := fun j => if j = i then some x else f j
theorem mkC_set (n : Int) (f : Nat → Option Int) (i : Nat) (h : i < 8) (x : Int) : setC (mkC n f) i x = mkC n (upd f i x) := by
  match i, h with
  | 0, _ => rfl
  | 1, _ => rfl
  | 2, _ => rfl
  | 3, _ => rfl
  | 4, _ => rfl
  | 5, _ => rfl
  | 6, _ => rfl
  | 7, _ => rfl

/-- What is seen behind one more time. -/
def seeF (n : Int) (f : Nat → Option Int) (p x : Int) : Nat → Option Int :=
  if 0 ≤ p ∧ p < n then (match f p.toNat with | some t => if t < x then upd f p.toNat x else f | none => upd f p.toNat x) else f
def ofF (n : Int) (f : Nat → Option Int) (p : Int) : Option Int := if 0 ≤ p ∧ p < n then f p.toNat else none
theorem see_any (n : Int) (f : Nat → Option Int) (p x : Int) (w : World) (h8 : n ≤ 8) :
    Calls Try.prog 10 #[.agg (mkC n f), .int .i64 p, .int .i64 x] w fun e w' => e = .returned (.agg (mkC n (seeF n f p x))) ∧ Below w.heap.size w w' := by
  by_cases hp : 0 ≤ p ∧ p < n
  · obtain ⟨i, rfl⟩ := Int.eq_ofNat_of_zero_le hp.1
    have hi : i < 8 := by omega
    have e : seeF n f (i : Int) x = match f i with | some t => if t < x then upd f i x else f | none => upd f i x := by unfold seeF; rw [if_pos hp]; rfl
    rw [e]
    cases hf : f i with
    | none =>
      have := see_new (mkC n f) (mkC_size n f) (mkC_one n f) n x 0 i w hp.2 hi false (mkC_n n f) (by rw [mkC_has n f i hi, hf]; rfl) (by rw [mkC_t n f i hi, hf]; rfl) (.inl rfl)
      rw [mkC_set n f i hi] at this
      exact this
    | some t =>
      by_cases ht : t < x
      · have := see_new (mkC n f) (mkC_size n f) (mkC_one n f) n x t i w hp.2 hi true (mkC_n n f) (by rw [mkC_has n f i hi, hf]; rfl) (by rw [mkC_t n f i hi, hf]; rfl) (.inr ht)
        rw [mkC_set n f i hi] at this
        simp only [if_pos ht]
        exact this
      · simp only [if_neg ht]
        exact see_old (mkC n f) (mkC_size n f) (mkC_one n f) n x t i w hp.2 hi (mkC_n n f) (by rw [mkC_has n f i hi, hf]; rfl) (by rw [mkC_t n f i hi, hf]; rfl) ht
  · have e : seeF n f p x = f := by unfold seeF; rw [if_neg hp]
    rw [e]
    exact see_out (mkC n f) (mkC_size n f) (mkC_one n f) n x p w (by omega) (mkC_n n f)
theorem of_any (n : Int) (f : Nat → Option Int) (p : Int) (w : World) (h8 : n ≤ 8) :
    Calls Try.prog 11 #[.agg (mkC n f), .int .i64 p] w fun e w' => e = .returned (.tuple #[.int .i64 ((ofF n f p).getD 0), .bool (ofF n f p).isSome]) ∧ Below w.heap.size w w' := by
  by_cases hp : 0 ≤ p ∧ p < n
  · obtain ⟨i, rfl⟩ := Int.eq_ofNat_of_zero_le hp.1
    have hi : i < 8 := by omega
    have e : ofF n f (i : Int) = f i := by unfold ofF; rw [if_pos hp]; rfl
    rw [e]
    have := of_in (mkC n f) n ((f i).getD 0) i w hp.2 hi (f i).isSome (mkC_n n f) (mkC_has n f i hi) (mkC_t n f i hi)
    refine this.mono ?_
    rintro e w' ⟨rfl, hb⟩
    refine ⟨?_, hb⟩
    cases f i <;> rfl
  · have e : ofF n f p = none := by unfold ofF; rw [if_neg hp]
    rw [e]
    exact of_out (mkC n f) n p w (by omega) (mkC_n n f)

set_option maxHeartbeats 2000000 in
theorem new_any (n : Int) (w : World) (h0 : -9223372036854775808 ≤ n ∧ n < 9223372036854775808) :
    Calls Try.prog 7 #[.int .i64 n] w fun e w' => e = .returned (.tuple #[.agg (mkC (if 1 ≤ n ∧ n ≤ 8 then n else 0) fun _ => none), .int .i64 (if 1 ≤ n ∧ n ≤ 8 then 0 else 1)]) ∧ Below w.heap.size w w' := by
  have hb2 : ∀ (o1 : Obj), Below w.heap.size w (w.alloc o1) := fun o1 => below_alloc (Below.refl _ _) _
  have hs : (Try.prog.info? 27).map (·.size) = some 17 := size27
  by_cases h1 : n < 1
  · rw [if_neg (by omega), if_neg (by omega)]
    go_enter Try.func7, Try.ntmps7
    go_wp2
    exact bodyPost_ret (results_row_tmp rfl _ _ w.heap.size 27 (mkC 0 fun _ => none) (0, 0) _ rfl (heap_alloc_new w _) Try.underlying27 rfl hs) rfl ⟨rfl, hb2 _⟩
  · by_cases h8 : 8 < n
    · rw [if_neg (by omega), if_neg (by omega)]
      go_enter Try.func7, Try.ntmps7
      go_wp2
      exact bodyPost_ret (results_row_tmp rfl _ _ w.heap.size 27 (mkC 0 fun _ => none) (0, 0) _ rfl (heap_alloc_new w _) Try.underlying27 rfl hs) rfl ⟨rfl, hb2 _⟩
    · rw [if_pos (by omega), if_pos (by omega)]
      go_enter Try.func7, Try.ntmps7
      go_wp2
      exact bodyPost_ret (results_row_tmp rfl _ _ w.heap.size 27 (mkC n fun _ => none) (0, 0) _ rfl (heap_alloc_new w _) Try.underlying27 rfl hs) rfl ⟨rfl, hb2 _⟩

end Go.Proofs.Ytjlhllhimoalmaa
