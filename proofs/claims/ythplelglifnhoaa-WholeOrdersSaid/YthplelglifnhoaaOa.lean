import Derived.Test.YthplelglifnhoaaJb
import Derived.Test.YthplelglifnhoaaBase
/-! Exact sums: the order of what is added; a slice of numbers that is the call's own. -/
namespace Go.Proofs.Ythplelglifnhoaa
open Go.RowKit
set_option linter.unusedVariables false

theorem add_comm_st (s : St) (x y : Nat) : addSt (addSt s x) y = addSt (addSt s y) x := by
  unfold addSt
  generalize (if negB x = true then 2 ^ 2240 - val (rung x) else val (rung x)) = X
  generalize (if negB y = true then 2 ^ 2240 - val (rung y) else val (rung y)) = Y
  by_cases hx : nanB x = true ∨ infB x = true
  · rw [if_pos hx]
    by_cases hy : nanB y = true ∨ infB y = true
    · rw [if_pos hy, if_pos hy, if_pos hx]
      simp only [St.mk.injEq, true_and, and_true]
      refine ⟨?_, ?_, ?_⟩ <;> (rw [Bool.or_assoc, Bool.or_assoc]; congr 1; exact Bool.or_comm _ _)
    · rw [if_neg hy, if_neg hy]
      by_cases hr : rung y = 0
      · rw [if_pos hr, if_pos hr, if_pos hx]; simp
      · rw [if_neg hr, if_neg hr, if_pos hx]
  · rw [if_neg hx]
    by_cases hrx : rung x = 0
    · rw [if_pos hrx]
      by_cases hy : nanB y = true ∨ infB y = true
      · rw [if_pos hy, if_pos hy, if_neg hx, if_pos hrx]; simp
      · rw [if_neg hy, if_neg hy]
        by_cases hr : rung y = 0
        · rw [if_pos hr, if_pos hr, if_neg hx, if_pos hrx]
          simp only [St.mk.injEq, true_and]
          rw [Bool.or_assoc, Bool.or_assoc]; congr 1; exact Bool.or_comm _ _
        · rw [if_neg hr, if_neg hr, if_neg hx, if_pos hrx]; simp
    · rw [if_neg hrx]
      by_cases hy : nanB y = true ∨ infB y = true
      · rw [if_pos hy, if_pos hy, if_neg hx, if_neg hrx]
      · rw [if_neg hy, if_neg hy]
        by_cases hr : rung y = 0
        · rw [if_pos hr, if_pos hr, if_neg hx, if_neg hrx]; simp
        · rw [if_neg hr, if_neg hr, if_neg hx, if_neg hrx]
          simp only [St.mk.injEq, and_true]
          exact Nat.add_right_comm _ _ _
theorem sumOf_perm {xs ys : List Nat} (h : xs.Perm ys) : sumOf xs = sumOf ys := by
  unfold sumOf
  exact h.foldl_eq' (fun x _ y _ s => add_comm_st s x y) noSt
theorem join_add (s o : St) (x : Nat) : joinSt s (addSt o x) = addSt (joinSt s o) x := by
  unfold addSt joinSt
  by_cases hx : nanB x = true ∨ infB x = true
  · rw [if_pos hx, if_pos hx]; simp [Bool.or_assoc]
  · rw [if_neg hx, if_neg hx]
    by_cases hr : rung x = 0
    · rw [if_pos hr, if_pos hr]; simp [Bool.or_assoc]
    · rw [if_neg hr, if_neg hr]
      simp only [St.mk.injEq, Bool.or_true, and_true]
      exact (Nat.add_assoc _ _ _).symm
theorem join_nil (s : St) : joinSt s noSt = s := by unfold joinSt noSt; simp
theorem join_foldl (s : St) (ys : List Nat) : ∀ o, joinSt s (ys.foldl addSt o) = ys.foldl addSt (joinSt s o) := by
  induction ys with
  | nil => intro o; rfl
  | cons y ys ih => intro o; rw [List.foldl_cons, List.foldl_cons, ih, join_add]
/-- Two sums joined are the sum of both lists. -/
theorem sumOf_append (xs ys : List Nat) : joinSt (sumOf xs) (sumOf ys) = sumOf (xs ++ ys) := by
  unfold sumOf
  rw [join_foldl, join_nil, List.foldl_append]
theorem sumOf_cut (xs ys : List Nat) (h : ys.Perm xs) (k : Nat) : joinSt (sumOf (ys.take k)) (sumOf (ys.drop k)) = sumOf xs := by
  rw [sumOf_append, List.take_append_drop, sumOf_perm h]
/-- Two elements exchanged. -/
theorem swap_perm (xs : List Nat) (i j : Nat) (hi : i < xs.length) (hj : j < xs.length) : ((xs.set i (fd xs j)).set j (fd xs i)).Perm xs := by
  have h := Array.swap_perm (xs := xs.toArray) (i := i) (j := j) (by simpa using hi) (by simpa using hj)
  have h2 := Array.perm_iff_toList_perm.1 h
  rw [Array.toList_swap] at h2
  simpa [fd_eq xs i hi, fd_eq xs j hj] using h2
theorem Words64.perm {xs ys : List Nat} (h : Words64 xs) (p : ys.Perm xs) : Words64 ys := fun i hi => by
  rw [fd_eq ys i hi]
  obtain ⟨j, hj, e⟩ := List.getElem_of_mem (p.mem_iff.1 (List.getElem_mem hi))
  have := h j hj
  rw [fd_eq xs j hj, e] at this
  exact this
theorem fd_take (xs : List Nat) (k i : Nat) (h : i < k) : fd (xs.take k) i = fd xs i := by
  simp [fd, List.getD_eq_getElem?_getD, h]
theorem fd_drop (xs : List Nat) (k i : Nat) : fd (xs.drop k) i = fd xs (k + i) := by
  simp [fd, List.getD_eq_getElem?_getD, List.getElem?_drop]
theorem Words64.take {xs : List Nat} (h : Words64 xs) (k : Nat) : Words64 (xs.take k) := fun i hi => by
  rw [List.length_take] at hi; rw [fd_take xs k i (by omega)]; exact h i (by omega)
theorem Words64.drop {xs : List Nat} (h : Words64 xs) (k : Nat) : Words64 (xs.drop k) := fun i hi => by
  rw [List.length_drop] at hi; rw [fd_drop]; exact h _ (by omega)
theorem FReads.take {w : World} {A : Option Addr} {xs : List Nat} (h : FReads w A xs) (k : Nat) : FReads w A (xs.take k) := fun i hi => by
  rw [List.length_take] at hi; rw [fd_take xs k i (by omega)]; exact h i (by omega)
theorem FReads.drop {w : World} {A : Option Addr} {xs : List Nat} (h : FReads w A xs) (k : Nat) : FReads w (A.map (·.add k)) (xs.drop k) := fun i hi => by
  rw [List.length_drop] at hi
  obtain ⟨a, rfl, hc⟩ := h (k + i) (by omega)
  exact ⟨a.add k, rfl, by rw [fd_drop, add_add]; exact hc⟩

/-- A slice of numbers that is the call's own. -/
def FOwn (w : World) (base : Nat) (v : Value) (xs : List Nat) : Prop := w.ownsRow base 34 1 v xs.length (xs.map (Value.float .f64))
theorem FOwn.nil (w : World) (base : Nat) : FOwn w base (.slice none 0 0) [] := World.ownsRow_nil w base 34 1
theorem FOwn.form {w : World} {base : Nat} {v : Value} {xs : List Nat} (h : FOwn w base v xs) (hp : 0 < xs.length) :
    ∃ g cap, v = .slice (some ⟨g, 0, none⟩) xs.length cap ∧ xs.length ≤ cap ∧ base ≤ g ∧ g < w.heap.size := by
  rcases h.2 with ⟨rfl, h0⟩ | ⟨g, cap, cur, rfl, hb, hg, hn, hm, hs, ht⟩
  · omega
  · exact ⟨g, cap, rfl, hn, hb, heap_lt hg⟩
theorem FOwn.cell {w : World} {base : Nat} {g n c : Nat} {xs : List Nat} (h : FOwn w base (.slice (some ⟨g, 0, none⟩) n c) xs) (i : Nat) (hi : i < xs.length) : w.cell? ⟨g, i, none⟩ = some (.float .f64 (fd xs i)) := by
  have := World.ownsRow.cells h (g := g) rfl i (.float .f64 (fd xs i)) (by rw [List.getElem?_map, List.getElem?_eq_getElem hi, fd_eq xs i hi]; rfl)
  rwa [add_plain] at this
theorem FOwn.reads {w : World} {base : Nat} {g n c : Nat} {xs : List Nat} (h : FOwn w base (.slice (some ⟨g, 0, none⟩) n c) xs) : FReads w (some ⟨g, 0, none⟩) xs := fun i hi => ⟨_, rfl, by rw [add_plain]; exact h.cell i hi⟩
theorem FOwn.frozen {w : World} {base : Nat} {g n c : Nat} {xs : List Nat} (h : FOwn w base (.slice (some ⟨g, 0, none⟩) n c) xs) (i : Nat) : w.frozen? ⟨g, i, none⟩ = false := by
  rcases h.2 with ⟨h1, _⟩ | ⟨g', cap, cur, h1, hb, hg, _⟩
  · cases h1
  · cases h1; exact frozen_of_row hg i
theorem FOwn.store {w : World} {base : Nat} {g n c : Nat} {xs : List Nat} (h : FOwn w base (.slice (some ⟨g, 0, none⟩) n c) xs) (i : Nat) (hi : i < xs.length) (x : Nat) :
    FOwn (w.setCell ⟨g, i, none⟩ (.float .f64 x)) base (.slice (some ⟨g, 0, none⟩) n c) (xs.set i x) := by
  rcases h.2 with ⟨h1, _⟩ | ⟨g', cap, cur, h1, hb, hg, hn, hm, hs, ht⟩
  · cases h1
  · cases h1
    refine ⟨by simp, .inr ⟨g, c, cur.setIfInBounds i (.float .f64 x), by simp, hb, heap_setCell_at hg _, by simpa using hn, hm, by rw [Array.size_setIfInBounds]; exact hs, ?_⟩⟩
    rw [Array.toList_setIfInBounds, List.length_set, List.take_set, ht, List.map_set]
theorem FOwn.below {w w' : World} {base : Nat} {v : Value} {xs : List Nat} (h : FOwn w base v xs) (hb : Below w.heap.size w w') : FOwn w' base v xs :=
  World.ownsRow.kept (row := none) h ⟨hb.os, hb.tape, hb.output, hb.size, fun i hi _ => hb.block i hi⟩ (by cases hv : v.ownBlock <;> simp)
theorem fd_set (xs : List Nat) (i j x : Nat) (hi : i < xs.length) : fd (xs.set i x) j = if j = i then x else fd xs j := by
  simp only [fd, List.getD_eq_getElem?_getD, List.getElem?_set]
  by_cases h : i = j
  · subst h; simp [hi]
  · rw [if_neg h, if_neg (fun e => h e.symm)]
set_option maxRecDepth 100000 in
theorem floatInfo : ∃ i, Try.prog.info? 34 = some i ∧ i.zero = some (.float .f64 0) ∧ i.size = 1 ∧ i.bytes = 8 := ⟨_, rfl, rfl, rfl, rfl⟩
end Go.Proofs.Ythplelglifnhoaa
