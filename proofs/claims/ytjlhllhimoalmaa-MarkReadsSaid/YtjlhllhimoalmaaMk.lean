import Derived.Test.YtjlhllhimoalmaaBase
import Derived.Laws.CopyOwn
/-! Marks: the walk of See, Of, New, whatever the partition. -/
namespace Go.Proofs.Ytjlhllhimoalmaa
open Go.RowKit
set_option linter.unusedVariables false

set_option maxRecDepth 100000 in
theorem size27 : (Try.prog.info? 27).map (·.size) = some 17 := by kernel_rfl
attribute [-simp] Try.isAgg27 Try.sizeOf27 Try.typeInfo27 Try.type27

/-- What a partition's time turns. -/
def setC (C : Array Value) (i : Nat) (x : Int) : Array Value := (C.setIfInBounds (1 + i) (.bool true)).setIfInBounds (9 + i) (.int .i64 x)

set_option maxRecDepth 100000 in
set_option maxHeartbeats 2000000 in
/-- A time of a partition, where it counts. -/
theorem see_new (C : Array Value) (hC : C.size = 17) (h1 : C.all (·.oneCell') = true) (n x tt : Int) (i : Nat) (w : World) (hn : (i : Int) < n) (h8 : i < 8) (b : Bool) (c0 : C[0]? = some (.int .i64 n)) (cb : C[1 + i]? = some (.bool b)) (ct : C[9 + i]? = some (.int .i64 tt))
    (hb : b = false ∨ tt < x) : Calls Try.prog 10 #[.agg C, .int .i64 i, .int .i64 x] w fun e w' => e = .returned (.agg (setC C i x)) ∧ Below w.heap.size w w' := by
  have q0 := fun o => (under_cell w C 27 o 0).trans c0
  have q1 := fun o => (under_cell w C 27 o (1 + i)).trans cb
  have q2 := fun o => (under_cell w C 27 o (9 + i)).trans ct
  have hsz : (setC C i x).size = 17 := by simp [setC, hC]
  have hs : (Try.prog.info? 27).map (·.size) = some (setC C i x).size := by rw [hsz]; exact size27
  have ho : (setC C i x).all (·.oneCell') = true := one_set (one_set h1 _ _ rfl) _ _ rfl
  have hb2 : ∀ (o1 o2 : Obj), Below w.heap.size w ((w.alloc o1).alloc o2) := fun o1 o2 => below_alloc (below_alloc (Below.refl _ _) _) _
  have Hs := Lib.hid hs
  have Hsz := Lib.hid hsz
  have Ho := Lib.hid ho
  clear hs hsz ho h1
  have hx : b = true → tt < x := fun e => by rcases hb with h | h; · rw [e] at h; cases h
                                             exact h
  clear hb
  cases b
  all_goals
    first
      | have hx := hx rfl
      | clear hx
    go_enter Try.func10, Try.ntmps10
    go_wp2_with (first
      | (refine wpList_load_row rfl 27 (.tmp 3) rfl w.heap.size rfl 27 (setC C i x) (0, 0) _ (heap_alloc2_old w _ _) Try.underlying27 rfl Hs.out ?_)
      | (refine wpList_store_row rfl 27 (.tmp 6) (.tmp 36) rfl (w.heap.size + 1) (setC C i x) rfl rfl 27 _ (heap_alloc2_new w _ _) Hs.out Hsz.out.symm Ho.out ?_; rw [setRow2]))
    exact bodyPost_ret (results_cell_row rfl _ _ (w.heap.size + 1) 27 (setC C i x) (0, 0) _ rfl (heap_alloc2_new w _ _) Try.underlying27 rfl Hs.out) rfl ⟨rfl, hb2 _ _⟩

set_option maxRecDepth 100000 in
set_option maxHeartbeats 2000000 in
/-- A time that counts for nothing. -/
theorem see_old (C : Array Value) (hC : C.size = 17) (h1 : C.all (·.oneCell') = true) (n x tt : Int) (i : Nat) (w : World) (hn : (i : Int) < n) (h8 : i < 8) (c0 : C[0]? = some (.int .i64 n)) (cb : C[1 + i]? = some (.bool true)) (ct : C[9 + i]? = some (.int .i64 tt))
    (hb : ¬ tt < x) : Calls Try.prog 10 #[.agg C, .int .i64 i, .int .i64 x] w fun e w' => e = .returned (.agg C) ∧ Below w.heap.size w w' := by
  have q0 := fun o => (under_cell w C 27 o 0).trans c0
  have q1 := fun o => (under_cell w C 27 o (1 + i)).trans cb
  have q2 := fun o => (under_cell w C 27 o (9 + i)).trans ct
  have Hs := Lib.hid (show (Try.prog.info? 27).map (·.size) = some C.size by rw [hC]; exact size27)
  have hb2 : ∀ (o1 o2 : Obj), Below w.heap.size w ((w.alloc o1).alloc o2) := fun o1 o2 => below_alloc (below_alloc (Below.refl _ _) _) _
  have Ho := Lib.hid h1
  clear h1
  go_enter Try.func10, Try.ntmps10
  go_wp2_with (first
    | (refine wpList_load_row rfl 27 (.tmp 3) rfl w.heap.size rfl 27 C (0, 0) _ (heap_alloc2_old w _ _) Try.underlying27 rfl Hs.out ?_)
    | (refine wpList_store_row rfl 27 (.tmp 6) (.tmp 36) rfl (w.heap.size + 1) C rfl rfl 27 _ (heap_alloc2_new w _ _) Hs.out hC.symm Ho.out ?_; rw [setRow2]))
  exact bodyPost_ret (results_cell_row rfl _ _ (w.heap.size + 1) 27 C (0, 0) _ rfl (heap_alloc2_new w _ _) Try.underlying27 rfl Hs.out) rfl ⟨rfl, hb2 _ _⟩

set_option maxRecDepth 100000 in
set_option maxHeartbeats 2000000 in
/-- What is no partition is passed over. -/
theorem see_out (C : Array Value) (hC : C.size = 17) (h1 : C.all (·.oneCell') = true) (n x p : Int) (w : World) (hp : p < 0 ∨ n ≤ p) (c0 : C[0]? = some (.int .i64 n)) : Calls Try.prog 10 #[.agg C, .int .i64 p, .int .i64 x] w fun e w' => e = .returned (.agg C) ∧ Below w.heap.size w w' := by
  have q0 := fun o => (under_cell w C 27 o 0).trans c0
  have Hs := Lib.hid (show (Try.prog.info? 27).map (·.size) = some C.size by rw [hC]; exact size27)
  have hb2 : ∀ (o1 o2 : Obj), Below w.heap.size w ((w.alloc o1).alloc o2) := fun o1 o2 => below_alloc (below_alloc (Below.refl _ _) _) _
  have Ho := Lib.hid h1
  clear h1
  by_cases hp0 : p < 0
  all_goals
    first
      | have hp := hp.resolve_left hp0
      | clear hp
    go_enter Try.func10, Try.ntmps10
    go_wp2_with (first
      | (refine wpList_load_row rfl 27 (.tmp 3) rfl w.heap.size rfl 27 C (0, 0) _ (heap_alloc2_old w _ _) Try.underlying27 rfl Hs.out ?_)
      | (refine wpList_store_row rfl 27 (.tmp 6) (.tmp 15) rfl (w.heap.size + 1) C rfl rfl 27 _ (heap_alloc2_new w _ _) Hs.out hC.symm Ho.out ?_; rw [setRow2]))
    exact bodyPost_ret (results_cell_row rfl _ _ (w.heap.size + 1) 27 C (0, 0) _ rfl (heap_alloc2_new w _ _) Try.underlying27 rfl Hs.out) rfl ⟨rfl, hb2 _ _⟩

set_option maxRecDepth 100000 in
/-- The greatest time of a partition. -/
theorem of_in (C : Array Value) (n tt : Int) (i : Nat) (w : World) (hn : (i : Int) < n) (h8 : i < 8) (b : Bool) (c0 : C[0]? = some (.int .i64 n)) (cb : C[1 + i]? = some (.bool b)) (ct : C[9 + i]? = some (.int .i64 tt)) :
    Calls Try.prog 11 #[.agg C, .int .i64 i] w fun e w' => e = .returned (.tuple #[.int .i64 (if b then tt else 0), .bool b]) ∧ Below w.heap.size w w' := by
  have q0 := (top_cell w C 27 0).trans c0
  have q1 := (top_cell w C 27 (1 + i)).trans cb
  have q2 := (top_cell w C 27 (9 + i)).trans ct
  have hb2 : ∀ (o1 : Obj), Below w.heap.size w (w.alloc o1) := fun o1 => below_alloc (Below.refl _ _) _
  cases b
  all_goals
    go_enter Try.func11, Try.ntmps11
    go_wp2
    go_ret2
    exact ⟨rfl, hb2 _⟩
set_option maxRecDepth 100000 in
theorem of_out (C : Array Value) (n p : Int) (w : World) (hp : p < 0 ∨ n ≤ p) (c0 : C[0]? = some (.int .i64 n)) :
    Calls Try.prog 11 #[.agg C, .int .i64 p] w fun e w' => e = .returned (.tuple #[.int .i64 0, .bool false]) ∧ Below w.heap.size w w' := by
  have q0 := (top_cell w C 27 0).trans c0
  have hb2 : ∀ (o1 : Obj), Below w.heap.size w (w.alloc o1) := fun o1 => below_alloc (Below.refl _ _) _
  by_cases hp0 : p < 0
  all_goals
    first
      | have hp := hp.resolve_left hp0
      | clear hp
    go_enter Try.func11, Try.ntmps11
    go_wp2
    go_ret2
    exact ⟨rfl, hb2 _⟩
end Go.Proofs.Ytjlhllhimoalmaa
/-! Marks by what they have seen of each partition. -/
namespace Go.Proofs.Ytjlhllhimoalmaa
open Go.RowKit
set_option linter.unusedVariables false

/-- Marks that have seen f. -/
def mkC (n : Int) (f : Nat → Option Int) : Array Value :=
  #[.int .i64 n, .bool (f 0).isSome, .bool (f 1).isSome, .bool (f 2).isSome, .bool (f 3).isSome, .bool (f 4).isSome, .bool (f 5).isSome, .bool (f 6).isSome, .bool (f 7).isSome,
    .int .i64 ((f 0).getD 0), .int .i64 ((f 1).getD 0), .int .i64 ((f 2).getD 0), .int .i64 ((f 3).getD 0), .int .i64 ((f 4).getD 0), .int .i64 ((f 5).getD 0), .int .i64 ((f 6).getD 0), .int .i64 ((f 7).getD 0)]
theorem mkC_size (n : Int) (f : Nat → Option Int) : (mkC n f).size = 17 := rfl
theorem mkC_one (n : Int) (f : Nat → Option Int) : (mkC n f).all (·.oneCell') = true := by simp [mkC, Value.oneCell']
theorem mkC_n (n : Int) (f : Nat → Option Int) : (mkC n f)[0]? = some (.int .i64 n) := rfl
theorem mkC_has (n : Int) (f : Nat → Option Int) (i : Nat) (h : i < 8) : (mkC n f)[1 + i]? = some (.bool (f i).isSome) := by
  match i, h with
  | 0, _ => rfl
  | 1, _ => rfl
  | 2, _ => rfl
  | 3, _ => rfl
  | 4, _ => rfl
  | 5, _ => rfl
  | 6, _ => rfl
  | 7, _ => rfl
theorem mkC_t (n : Int) (f : Nat → Option Int) (i : Nat) (h : i < 8) : (mkC n f)[9 + i]? = some (.int .i64 ((f i).getD 0)) := by
  match i, h with
  | 0, _ => rfl
  | 1, _ => rfl
  | 2, _ => rfl
  | 3, _ => rfl
  | 4, _ => rfl
  | 5, _ => rfl
  | 6, _ => rfl
  | 7, _ => rfl
def updM (f : Nat → Option Int) (i : Nat) (x : Int) : Nat → Option Int := fun j => if j = i then some x else f j
theorem mkC_set (n : Int) (f : Nat → Option Int) (i : Nat) (h : i < 8) (x : Int) : setC (mkC n f) i x = mkC n (updM f i x) := by
  match i, h with
  | 0, _ => rfl
  | 1, _ => rfl
  | 2, _ => rfl
  | 3, _ => rfl
  | 4, _ => rfl
  | 5, _ => rfl
  | 6, _ => rfl
  | 7, _ => rfl

/-- What is seen behind one more time. -/
def seeF (n : Int) (f : Nat → Option Int) (p x : Int) : Nat → Option Int :=
  if 0 ≤ p ∧ p < n then (match f p.toNat with | some t => if t < x then updM f p.toNat x else f | none => updM f p.toNat x) else f
def ofF (n : Int) (f : Nat → Option Int) (p : Int) : Option Int := if 0 ≤ p ∧ p < n then f p.toNat else none
theorem see_any (n : Int) (f : Nat → Option Int) (p x : Int) (w : World) (h8 : n ≤ 8) :
    Calls Try.prog 10 #[.agg (mkC n f), .int .i64 p, .int .i64 x] w fun e w' => e = .returned (.agg (mkC n (seeF n f p x))) ∧ Below w.heap.size w w' := by
  by_cases hp : 0 ≤ p ∧ p < n
  · obtain ⟨i, rfl⟩ := Int.eq_ofNat_of_zero_le hp.1
    have hi : i < 8 := by omega
    have e : seeF n f (i : Int) x = match f i with | some t => if t < x then updM f i x else f | none => updM f i x := by unfold seeF; rw [if_pos hp]; rfl
    rw [e]
    cases hf : f i with
    | none =>
      have := see_new (mkC n f) (mkC_size n f) (mkC_one n f) n x 0 i w hp.2 hi false (mkC_n n f) (by rw [mkC_has n f i hi, hf]; rfl) (by rw [mkC_t n f i hi, hf]; rfl) (.inl rfl)
      rw [mkC_set n f i hi] at this
      exact this
    | some t =>
      by_cases ht : t < x
      · have := see_new (mkC n f) (mkC_size n f) (mkC_one n f) n x t i w hp.2 hi true (mkC_n n f) (by rw [mkC_has n f i hi, hf]; rfl) (by rw [mkC_t n f i hi, hf]; rfl) (.inr ht)
        rw [mkC_set n f i hi] at this
        simp only [if_pos ht]
        exact this
      · simp only [if_neg ht]
        exact see_old (mkC n f) (mkC_size n f) (mkC_one n f) n x t i w hp.2 hi (mkC_n n f) (by rw [mkC_has n f i hi, hf]; rfl) (by rw [mkC_t n f i hi, hf]; rfl) ht
  · have e : seeF n f p x = f := by unfold seeF; rw [if_neg hp]
    rw [e]
    exact see_out (mkC n f) (mkC_size n f) (mkC_one n f) n x p w (by omega) (mkC_n n f)
theorem of_any (n : Int) (f : Nat → Option Int) (p : Int) (w : World) (h8 : n ≤ 8) :
    Calls Try.prog 11 #[.agg (mkC n f), .int .i64 p] w fun e w' => e = .returned (.tuple #[.int .i64 ((ofF n f p).getD 0), .bool (ofF n f p).isSome]) ∧ Below w.heap.size w w' := by
  by_cases hp : 0 ≤ p ∧ p < n
  · obtain ⟨i, rfl⟩ := Int.eq_ofNat_of_zero_le hp.1
    have hi : i < 8 := by omega
    have e : ofF n f (i : Int) = f i := by unfold ofF; rw [if_pos hp]; rfl
    rw [e]
    have := of_in (mkC n f) n ((f i).getD 0) i w hp.2 hi (f i).isSome (mkC_n n f) (mkC_has n f i hi) (mkC_t n f i hi)
    refine this.mono ?_
    rintro e w' ⟨rfl, hb⟩
    refine ⟨?_, hb⟩
    cases f i <;> rfl
  · have e : ofF n f p = none := by unfold ofF; rw [if_neg hp]
    rw [e]
    exact of_out (mkC n f) n p w (by omega) (mkC_n n f)

set_option maxRecDepth 100000 in
set_option maxHeartbeats 2000000 in
theorem new_any (n : Int) (w : World) (h0 : -9223372036854775808 ≤ n ∧ n < 9223372036854775808) :
    Calls Try.prog 7 #[.int .i64 n] w fun e w' => e = .returned (.tuple #[.agg (mkC (if 1 ≤ n ∧ n ≤ 8 then n else 0) fun _ => none), .int .i64 (if 1 ≤ n ∧ n ≤ 8 then 0 else 1)]) ∧ Below w.heap.size w w' := by
  have hb2 : ∀ (o1 : Obj), Below w.heap.size w (w.alloc o1) := fun o1 => below_alloc (Below.refl _ _) _
  have hs : (Try.prog.info? 27).map (·.size) = some 17 := size27
  by_cases h1 : n < 1
  · rw [if_neg (by omega), if_neg (by omega)]
    go_enter Try.func7, Try.ntmps7
    go_wp2
    exact bodyPost_ret (results_row_tmp rfl _ _ w.heap.size 27 (mkC 0 fun _ => none) (0, 0) _ rfl (heap_alloc_new w _) Try.underlying27 rfl hs) rfl ⟨rfl, hb2 _⟩
  · by_cases h8 : 8 < n
    · rw [if_neg (by omega), if_neg (by omega)]
      go_enter Try.func7, Try.ntmps7
      go_wp2
      exact bodyPost_ret (results_row_tmp rfl _ _ w.heap.size 27 (mkC 0 fun _ => none) (0, 0) _ rfl (heap_alloc_new w _) Try.underlying27 rfl hs) rfl ⟨rfl, hb2 _⟩
    · rw [if_pos (by omega), if_pos (by omega)]
      go_enter Try.func7, Try.ntmps7
      go_wp2
      exact bodyPost_ret (results_row_tmp rfl _ _ w.heap.size 27 (mkC n fun _ => none) (0, 0) _ rfl (heap_alloc_new w _) Try.underlying27 rfl hs) rfl ⟨rfl, hb2 _⟩

end Go.Proofs.Ytjlhllhimoalmaa
/-! Marks: the least of all. -/
namespace Go.Proofs.Ytjlhllhimoalmaa
open Go.RowKit
set_option linter.unusedVariables false
attribute [-simp] Try.isAgg27 Try.sizeOf27 Try.typeInfo27 Try.type27

/-- The least of the first k. -/
def lowV (f : Nat → Option Int) : Nat → Int
  | 0 => 0
  | k + 1 => if k = 0 ∨ (f k).getD 0 < lowV f k then (f k).getD 0 else lowV f k
def allSeen (f : Nat → Option Int) (n : Nat) : Bool := (List.range n).all fun i => (f i).isSome
theorem allSeen_iff (f : Nat → Option Int) (n : Nat) : allSeen f n = true ↔ ∀ i, i < n → (f i).isSome = true := by
  simp [allSeen]
def lowF (n : Nat) (f : Nat → Option Int) : Option Int := if allSeen f n = true ∧ 0 < n then some (lowV f n) else none
theorem ofF_in (n : Nat) (f : Nat → Option Int) (k : Nat) (h : k < n) : ofF (n : Int) f (k : Int) = f k := by unfold ofF; rw [if_pos (by omega)]; rfl
theorem lowV_none (f : Nat → Option Int) : lowV f 0 = 0 := rfl
theorem lowF_zero (f : Nat → Option Int) : lowF 0 f = none := by unfold lowF; rw [if_neg (by omega)]
theorem lowF_none {f : Nat → Option Int} {n k : Nat} (hk : k < n) (h : f k = none) : lowF n f = none := by
  unfold lowF
  rw [if_neg]
  rintro ⟨a, _⟩
  have := (allSeen_iff f n).1 a k hk
  rw [h] at this; cases this
theorem lowF_all {f : Nat → Option Int} {n : Nat} (h : ∀ i, i < n → (f i).isSome = true) (h0 : 0 < n) : lowF n f = some (lowV f n) := by
  unfold lowF; rw [if_pos ⟨(allSeen_iff f n).2 h, h0⟩]

set_option maxRecDepth 100000 in
set_option maxHeartbeats 2000000 in
theorem low_any (n : Nat) (f : Nat → Option Int) (w : World) (h8 : n ≤ 8) :
    Calls Try.prog 8 #[.agg (mkC n f)] w fun e w' => e = .returned (.tuple #[.int .i64 ((lowF n f).getD 0), .bool (lowF n f).isSome]) ∧ Below w.heap.size w w' := by
  have q0 := fun w1 (h : w1.heap[w.heap.size]? = some (.cells (mkC n f) 27 (0, 0))) => (cell_of_row w1 w.heap.size 0 _ _ _ h).trans (mkC_n n f)
  have hb1 : ∀ (o1 : Obj), Below w.heap.size w (w.alloc o1) := fun o1 => below_alloc (Below.refl _ _) _
  have hof := of_any (n : Int) f
  have Hs := Lib.hid size27
  have hg := heap_alloc_new w (.cells (mkC n f) 27)
  have hq := q0 _ hg
  go_enter Try.func8, Try.ntmps8
  go_wp2
  have hsz1 : ∀ wr : World, wr.heap[w.heap.size]? = some (.cells (mkC n f) 27 (0, 0)) → w.heap.size < wr.heap.size := fun wr h => by
    rcases Nat.lt_or_ge w.heap.size wr.heap.size with g | g
    · exact g
    · rw [Array.getElem?_eq_none g] at h; cases h
  go_loopw [4, 10] (fun l i wr => ∃ k : Nat, k ≤ n ∧ i = .int .i64 k ∧ l = .int .i64 (lowV f k) ∧ (∀ j, j < k → (f j).isSome = true) ∧ wr.heap[w.heap.size]? = some (.cells (mkC n f) 27 (0, 0)) ∧ Below w.heap.size w wr) (fun _ i _ => n - (intOf i).toNat)
  case atStart => exact ⟨0, Nat.zero_le _, rfl, rfl, fun j hj => absurd hj (by omega), hg, hb1 _⟩
  case round =>
    obtain ⟨k, hk, rfl, rfl, hal, hgr, hbr⟩ := hrel
    have hqr := q0 _ hgr
    have Hgr := Lib.hid hgr
    have Hal := Lib.hid hal
    clear hgr hal hg hq q0
    by_cases hlt : k < n
    · have hof1 := hof (k : Int) wr (by omega)
      rw [ofF_in n f k hlt] at hof1
      have Hn := Lib.hid (lowF_none (f := f) hlt)
      have Hstep := Lib.hid (show lowV f (k + 1) = if k = 0 ∨ (f k).getD 0 < lowV f k then (f k).getD 0 else lowV f k from rfl)
      cases hfk : f k with
      | none =>
        rw [hfk] at hof1
        go_wp2_with (first
          | (refine wpList_load_row rfl 27 (.tmp 1) rfl w.heap.size rfl 27 (mkC n f) (0, 0) _ Hgr.out Try.underlying27 rfl Hs.out ?_)
          | (go_at_call 11; (with_reducible refine hof1.mono ?_); rintro e w1 ⟨rfl, hb⟩))
        go_ret2
        exact ⟨by rw [Hn.out hfk]; rfl, below_trans hbr hb⟩
      | some t =>
        rw [hfk] at hof1
        go_wp2_with (first
          | (refine wpList_load_row rfl 27 (.tmp 1) rfl w.heap.size rfl 27 (mkC n f) (0, 0) _ Hgr.out Try.underlying27 rfl Hs.out ?_)
          | (go_at_call 11; (with_reducible refine hof1.mono ?_); rintro e w1 ⟨rfl, hb⟩))
        all_goals
          have hk3 := Hgr.out
          have hk4 := Hal.out
          have hk5 := Hstep.out
          rw [hfk] at hk5
          simp only [Option.getD_some] at hk5
          refine ⟨⟨k + 1, by omega, (by first | go_num | (congr 1; omega)), ?_, ?_, ?_, below_trans hbr hb⟩, by simp [intOf]; omega⟩
          · rw [hk5]
            split <;> first | rfl | (exfalso; simp_all; done) | (exfalso; simp_all; omega)
          · intro j hj
            by_cases hjk : j = k
            · rw [hjk, hfk]; rfl
            · exact hk4 j (by omega)
          · exact (hb.block _ (hsz1 _ hk3)).trans hk3
    · obtain rfl : k = n := by omega
      go_wp2
      have hal := Hal.out
      clear hof
      by_cases h0 : 0 < k
      · have hk0 := Lib.hid (lowF_all hal h0)
        go_region
        go_wp2
        go_ret2
        exact ⟨by rw [hk0.out]; rfl, hbr.drew⟩
      · obtain rfl : k = 0 := by omega
        have hk0 := Lib.hid (lowF_zero f)
        go_region
        go_wp2
        go_ret2
        exact ⟨by rw [hk0.out]; rfl, hbr.drew⟩
end Go.Proofs.Ytjlhllhimoalmaa
/-! Marks: the example; the law of what is not seen. -/
namespace Go.Proofs.Ytjlhllhimoalmaa
open Go.RowKit
set_option linter.unusedVariables false
attribute [-simp] Try.isAgg27 Try.sizeOf27 Try.typeInfo27 Try.type27

/-- Nothing is seen. -/
def f0 : Nat → Option Int := fun _ => none

set_option maxRecDepth 100000 in
set_option maxHeartbeats 2000000 in
theorem awake_any (w : World) : Calls Try.prog 6 #[] w fun e w' => e = .returned (.bool true) ∧ Below w.heap.size w w' := by
  have hnew : Calls Try.prog 7 #[.int .i64 2] w fun e w' => e = .returned (.tuple #[.agg (mkC 2 f0), .int .i64 0]) ∧ Below w.heap.size w w' := new_any 2 w (by omega)
  have s1 := fun w => see_any 2 f0 0 5 w (by omega)
  have s2 := fun w => see_any 2 (seeF 2 f0 0 5) 1 3 w (by omega)
  have hl : lowF 2 (seeF 2 (seeF 2 f0 0 5) 1 3) = some 3 := by rfl
  have l1 : ∀ w, Calls Try.prog 8 #[.agg (mkC 2 (seeF 2 (seeF 2 f0 0 5) 1 3))] w fun e w' => e = .returned (.tuple #[.int .i64 3, .bool true]) ∧ Below w.heap.size w w' := fun w => by
    have := low_any 2 (seeF 2 (seeF 2 f0 0 5) 1 3) w (by omega)
    rw [hl] at this
    exact this
  have Hs := Lib.hid size27
  generalize seeF 2 (seeF 2 f0 0 5) 1 3 = F2 at *
  generalize seeF 2 f0 0 5 = F1 at *
  clear hl
  go_enter Try.func6, Try.ntmps6
  go_wp2_with (first
    | (go_at_call 7; (with_reducible refine hnew.mono ?_); rintro e w1 ⟨rfl, b1⟩)
    | (go_at_call 10; (first | ((with_reducible refine (s1 _).mono ?_); rintro e w2 ⟨rfl, b2⟩) | ((with_reducible refine (s2 _).mono ?_); rintro e w3 ⟨rfl, b3⟩)))
    | (go_at_call 8; (with_reducible refine (l1 _).mono ?_); rintro e w4 ⟨rfl, b4⟩)
    | (refine wpList_store_row rfl 27 (.tmp 1) (.tmp 7) rfl w1.heap.size (mkC 2 f0) rfl rfl 27 _ (heap_alloc_new w1 _) Hs.out rfl (mkC_one 2 f0) ?_; rw [World.setRow_alloc_new])
    | (refine wpList_load_row rfl 27 (.tmp 1) rfl w1.heap.size rfl 27 (mkC 2 f0) (0, 0) _ (heap_alloc_new w1 _) Try.underlying27 rfl Hs.out ?_))
  go_ret
  exact ⟨rfl, below_trans (below_trans (below_trans (below_alloc b1 _) b2) b3) b4⟩

/-- A slice of pairs of numbers that reads as two rows. -/
def Pairs (w : World) (A : Option Addr) (len : Nat) (V0 V1 : Nat → Int) : Prop :=
  ∀ i, i < len → ∃ a, A = some a ∧ w.cell? (a.add (i * 2)) = some (.int .i64 (V0 i)) ∧ w.cell? (a.add (i * 2 + 1)) = some (.int .i64 (V1 i))
theorem Pairs.below {w w' : World} {A : Option Addr} {len : Nat} {V0 V1 : Nat → Int} (h : Pairs w A len V0 V1) (hb : Below w.heap.size w w') : Pairs w' A len V0 V1 := fun i hi => by
  obtain ⟨a, e, h0, h1⟩ := h i hi
  exact ⟨a, e, cell_below hb h0, cell_below hb h1⟩
theorem seeF_other {n : Int} {f : Nat → Option Int} {p x : Int} {k : Nat} (h : f k = none) (hp : p ≠ k) : seeF n f p x k = none := by
  unfold seeF
  split
  · rename_i h1
    have : ∀ g : Nat → Option Int, g = f ∨ g = updM f p.toNat x → g k = none := by
      rintro g (rfl | rfl)
      · exact h
      · unfold updM; rw [if_neg (by omega)]; exact h
    cases hf : f p.toNat with
    | none => exact this _ (.inr rfl)
    | some t =>
      by_cases ht : t < x
      · simp only [if_pos ht]; exact this _ (.inr rfl)
      · simp only [if_neg ht]; exact h
  · exact h

set_option maxRecDepth 100000 in
set_option maxHeartbeats 4000000 in
theorem markNone_any (pa bu : Int) (A : Option Addr) (len cap : Nat) (V0 V1 : Nat → Int) (w : World) (hpa : 0 ≤ pa ∧ pa ≤ 255) (hbu : 0 ≤ bu ∧ bu ≤ 255) (hr : Pairs w A len V0 V1)
    (v0 : ∀ i, i < len → -9223372036854775808 ≤ V0 i ∧ V0 i ≤ 9223372036854775807) :
    Calls Try.prog 4 #[.int .u8 pa, .slice A len cap, .int .u8 bu] w fun e w' => e = .returned (.bool true) ∧ Below w.heap.size w w' := by
  obtain ⟨n, hn⟩ : ∃ n : Nat, (n : Int) = 1 + pa % 8 := ⟨(1 + pa % 8).toNat, by omega⟩
  obtain ⟨k, hk⟩ : ∃ k : Nat, (k : Int) = bu % (1 + pa % 8) := ⟨(bu % (1 + pa % 8)).toNat, by have := Int.emod_nonneg bu (b := 1 + pa % 8) (by omega); omega⟩
  have hkn : k < n := by have := Int.emod_lt_of_pos bu (b := 1 + pa % 8) (by omega); omega
  have hn8 : n ≤ 8 := by omega
  have aw := awake_any
  have hnew : ∀ w, Calls Try.prog 7 #[.int .i64 (1 + pa % 8)] w fun e w' => e = .returned (.tuple #[.agg (mkC n f0), .int .i64 0]) ∧ Below w.heap.size w w' := fun w => by
    have := new_any n w (by omega)
    rw [if_pos (by omega), if_pos (by omega), hn] at this
    rw [hn]
    exact this
  have Hs := Lib.hid size27
  by_cases h60 : 60 < len
  · go_enter Try.func4, Try.ntmps4
    go_wp2_with (first
      | (go_at_call 6; (with_reducible refine (aw _).mono ?_); rintro e w1 ⟨rfl, b1⟩))
    go_ret
    exact ⟨rfl, below_trans (by assumption) b1⟩
  · have hlaw : ∀ (F : Nat → Option Int) (p x : Int), F k = none → p ≠ k → seeF n F p x k = none := fun F p x h hp => seeF_other h hp
    have hlow : ∀ F : Nat → Option Int, F k = none → lowF n F = none := fun F h => lowF_none hkn h
    have hof : ∀ F : Nat → Option Int, F k = none → ofF n F k = none := fun F h => by rw [ofF_in n F k hkn]; exact h
    have hof2 : ∀ F : Nat → Option Int, F k = none → ofF n (seeF n F k (-7)) k = some (-7) := fun F h => by
      rw [ofF_in n _ k hkn]
      unfold seeF
      rw [if_pos (by omega)]
      simp only [Int.toNat_natCast, h, updM, if_pos]
    go_enter Try.func4, Try.ntmps4
    go_wp2_with (first
      | (go_at_call 6; (with_reducible refine (aw _).mono ?_); rintro e w1 ⟨rfl, b1⟩)
      | (go_at_call 7; (with_reducible refine (hnew _).mono ?_); rintro e w2 ⟨rfl, b2⟩)
      | (refine wpList_store_row rfl 27 (.tmp 9) (.tmp 38) rfl w2.heap.size (mkC (1 + pa % 8) f0) rfl rfl 27 _ (heap_alloc_new w2 _) Hs.out rfl (mkC_one _ f0) ?_; rw [World.setRow_alloc_new]))
    rw [← hk, ← hn]
    have b3 : Below w.heap.size w (w2.alloc (.cells (mkC n f0) 27)) := below_alloc (below_trans b1 b2) _
    have hg := heap_alloc_new w2 (.cells (mkC n f0) 27)
    have hge := Nat.le_trans b1.size b2.size
    generalize w2.heap.size = g at *
    generalize w2.alloc (.cells (mkC n f0) 27) = w3 at *
    clear b1 b2 hnew aw hn hk hpa hbu
    go_loopw [11] (fun i wr => ∃ j : Nat, j ≤ len ∧ i = .int .i64 j ∧ ∃ F : Nat → Option Int, F k = none ∧ wr.heap[g]? = some (.cells (mkC n F) 27 (0, 0)) ∧ Below w.heap.size w wr) (fun i _ => len - (intOf i).toNat)
    case atStart => exact ⟨0, Nat.zero_le _, rfl, f0, rfl, hg, b3⟩
    case round =>
      obtain ⟨j, hj, rfl, F, hF, hgr, hbr⟩ := hrel
      have Hgr := Lib.hid hgr
      have hgl : g < wr.heap.size := by
        rcases Nat.lt_or_ge g wr.heap.size with h | h
        · exact h
        · rw [Array.getElem?_eq_none h] at hgr; cases hgr
      have b5 := fun w4 (b4 : Below wr.heap.size wr w4) => (b4.block g hgl).trans Hgr.out
      clear hgr hg
      by_cases hlt : j < len
      · obtain ⟨a, rfl, c0, c1⟩ := (hr.below hbr) j hlt
        have hs := see_any n F
        have vb := v0 j hlt
        clear hr
        go_wp2_with fail
        · rename_i hne
          generalize (bits BinOp.and IntKind.i64 (V0 j) 255).tmod (n : Int) = q at *
          generalize V1 j = x at *
          have c2 : wr.cell? ((a.add (j * 2)).add 1) = some (.int .i64 x) := by rw [add_add]; exact c1
          have c3 : wr.cell? ⟨(a.add (j * 2)).block, (a.add (j * 2)).off + 1, none⟩ = some (.int .i64 x) := c2
          have c4 : wr.cell? ⟨a.block, a.off + j * 2 + 1, none⟩ = some (.int .i64 x) := by rw [← c1]; rfl
          have hne' : q ≠ k := by simpa using hne
          have HL := Lib.hid (run_loadCellsFrom_row (P := Try.prog) wr.drew g 27 (mkC n F) (0, 0) Hgr.out 17 rfl)
          have b5d := fun w4 (b4 : Below wr.drew.heap.size wr.drew w4) => (b4.block g hgl).trans Hgr.out
          go_region_with (first
            | (rw [Try.isAgg27]; simp only [Result.andThen_ok, if_true, run_sizeOf_info Hs.out, HL.out])
            | (go_at_call 10; (with_reducible refine (hs _ _ _ (by omega)).mono ?_); rintro e w4 ⟨rfl, b4⟩)
            | (rw [run_sizeOf_info Hs.out]; simp only [Result.andThen_ok, if_true, mkC_size, run_storeCells_row w4 g 27 (mkC n F) (mkC n (seeF n F q x)) (b5d w4 b4) Hs.out rfl (mkC_one _ _)]))
          all_goals
            go_wp2
            refine ⟨⟨j + 1, by omega, by go_num, _, hlaw F q x hF hne', setRow_heap _ _ _ _ _ _ (b5d w4 b4), below_setRow (below_trans hbr.drew b4) hge _⟩, by simp [intOf]; omega⟩
        · exact ⟨⟨j + 1, by omega, by go_num, F, hF, Hgr.out, hbr⟩, by simp [intOf]; omega⟩
      · obtain rfl : j = len := by omega
        have hl := low_any n F
        have h1 := of_any n F
        have h2 := fun x => of_any n (seeF n F k x)
        have hs := see_any n F
        have e1 := hof F hF
        have e2 := hof2 F hF
        have e3 := hlow F hF
        go_wp2_with (first
          | (refine wpList_load_row rfl 27 (.tmp 9) rfl g rfl 27 (mkC n F) (0, 0) _ (by first | exact Hgr.out | exact (b5 _ b4) | exact (b5 _ (below_trans b4 b55))) Try.underlying27 rfl Hs.out ?_)
          | (go_at_call 11; first | ((with_reducible refine (h1 _ _ (by omega)).mono ?_); rw [e1]; rintro e w4 ⟨rfl, b4⟩) | ((with_reducible refine (h2 _ _ _ (by omega)).mono ?_); rw [e2]; rintro e w7 ⟨rfl, b7⟩))
          | (go_at_call 8; (with_reducible refine (hl _ (by omega)).mono ?_); rw [e3]; rintro e w5 ⟨rfl, b55⟩)
          | (go_at_call 10; (with_reducible refine (hs _ _ _ (by omega)).mono ?_); rintro e w6 ⟨rfl, b6⟩))
        go_ret
        exact ⟨rfl, below_trans (below_trans (below_trans (below_trans hbr b4) b55) b6) b7⟩
end Go.Proofs.Ytjlhllhimoalmaa
