import Derived.Test.YthplelglifnhoaaAi
import Derived.Laws.FloatArith
import Derived.Deep.DeepCutAuto
import Derived.Deep.CutBlock
import Derived.StillTailTactics
import Derived.Test.YthplelglifnhoaaOa
import Derived.Test.YthplelglifnhoaaAg
/-! What is told of values: the example; the law. -/
namespace Go.Proofs.Ythplelglifnhoaa
open Go.RowKit
set_option linter.unusedVariables false
theorem asOf_okA (xs : List Nat) (h64 : Words64 xs) : (asOf xs).ok := by have := asOf_ok xs h64 xs.length (Nat.le_refl _); rwa [List.take_length] at this
end Go.Proofs.Ythplelglifnhoaa
/-! The least and the greatest; what is too great: the law. -/
namespace Go.Proofs.Ythplelglifnhoaa
open Go.RowKit
set_option linter.unusedVariables false
theorem loR_le (xs : List Nat) : ∀ k, k ≤ xs.length → ∀ i, i < k → ¬ rank (fd xs i) < rank (loR xs k) := by
  intro k
  induction k with
  | zero => intro _ i h; omega
  | succ k ih =>
    intro hk i hi
    rw [loR_succ xs k (by omega)]
    unfold minR
    by_cases e : i = k
    · subst e
      split <;> omega
    · have := ih (by omega) i (by omega)
      split <;> omega
theorem hiR_le (xs : List Nat) : ∀ k, k ≤ xs.length → ∀ i, i < k → ¬ rank (hiR xs k) < rank (fd xs i) := by
  intro k
  induction k with
  | zero => intro _ i h; omega
  | succ k ih =>
    intro hk i hi
    rw [hiR_succ xs k (by omega)]
    unfold maxR
    by_cases e : i = k
    · subst e
      split <;> omega
    · have := ih (by omega) i (by omega)
      split <;> omega
theorem loR_mem (xs : List Nat) (h0 : 0 < xs.length) : ∀ k, k ≤ xs.length → ∃ i, i < xs.length ∧ loR xs k = fd xs i := by
  intro k
  induction k with
  | zero => intro _; exact ⟨0, h0, rfl⟩
  | succ k ih =>
    intro hk
    rw [loR_succ xs k (by omega)]
    unfold minR
    split
    · exact ⟨k, by omega, rfl⟩
    · exact ih (by omega)
theorem hiR_mem (xs : List Nat) (h0 : 0 < xs.length) : ∀ k, k ≤ xs.length → ∃ i, i < xs.length ∧ hiR xs k = fd xs i := by
  intro k
  induction k with
  | zero => intro _; exact ⟨0, h0, rfl⟩
  | succ k ih =>
    intro hk
    rw [hiR_succ xs k (by omega)]
    unfold maxR
    split
    · exact ⟨k, by omega, rfl⟩
    · exact ih (by omega)
end Go.Proofs.Ythplelglifnhoaa
/-! No values: the law. -/
namespace Go.Proofs.Ythplelglifnhoaa
open Go.RowKit
set_option linter.unusedVariables false
theorem join_no (xs : List Nat) (h : xs.length < 18446744073709551616) : joinAS (asOf xs) noAS = asOf xs := by
  by_cases h0 : xs.length = 0
  · obtain rfl := List.eq_nil_of_length_eq_zero h0
    rfl
  · have := asOf_len xs h
    unfold joinAS
    rw [if_neg (by omega), if_pos (show noAS.n = 0 from rfl)]
theorem no_join (a : AS) : joinAS noAS a = a := by unfold joinAS; rw [if_pos (show noAS.n = 0 from rfl)]
end Go.Proofs.Ythplelglifnhoaa
/-! In whichever order values come, and however they are grouped: the law. -/
namespace Go.Proofs.Ythplelglifnhoaa
open Go.RowKit
set_option linter.unusedVariables false
/-- The one that stands ahead of all, of those that there are. -/
def isLo (xs : List Nat) (c : Nat) : Prop := (∃ x ∈ xs, c = canon x) ∧ ∀ x ∈ xs, ¬ rank x < rank c
def isHi (xs : List Nat) (c : Nat) : Prop := (∃ x ∈ xs, c = canon x) ∧ ∀ x ∈ xs, ¬ rank c < rank x
theorem mem_fd (xs : List Nat) (i : Nat) (h : i < xs.length) : fd xs i ∈ xs := by rw [fd_eq xs i h]; exact List.getElem_mem h
theorem fd_mem {xs : List Nat} {x : Nat} (h : x ∈ xs) : ∃ i, i < xs.length ∧ fd xs i = x := by
  obtain ⟨i, hi, e⟩ := List.getElem_of_mem h
  exact ⟨i, hi, by rw [fd_eq xs i hi]; exact e⟩
theorem lo_is (xs : List Nat) (h0 : 0 < xs.length) : isLo xs (canon (loR xs xs.length)) := by
  obtain ⟨i, hi, e⟩ := loR_mem xs h0 xs.length (Nat.le_refl _)
  refine ⟨⟨_, mem_fd xs i hi, by rw [e]⟩, fun x hx => ?_⟩
  obtain ⟨j, hj, rfl⟩ := fd_mem hx
  rw [rank_canon]
  exact loR_le xs _ (Nat.le_refl _) j hj
theorem hi_is (xs : List Nat) (h0 : 0 < xs.length) : isHi xs (canon (hiR xs xs.length)) := by
  obtain ⟨i, hi, e⟩ := hiR_mem xs h0 xs.length (Nat.le_refl _)
  refine ⟨⟨_, mem_fd xs i hi, by rw [e]⟩, fun x hx => ?_⟩
  obtain ⟨j, hj, rfl⟩ := fd_mem hx
  rw [rank_canon]
  exact hiR_le xs _ (Nat.le_refl _) j hj
theorem lo_unique {xs ys : List Nat} {c d : Nat} (hxs : ∀ x ∈ xs, x < 18446744073709551616) (hm : ∀ x, x ∈ xs ↔ x ∈ ys) (hc : isLo xs c) (hd : isLo ys d) : c = d := by
  obtain ⟨⟨x, hx, rfl⟩, h1⟩ := hc
  obtain ⟨⟨y, hy, rfl⟩, h2⟩ := hd
  have a := h1 y ((hm y).2 hy)
  have b := h2 x ((hm x).1 hx)
  rw [rank_canon] at a b
  exact rank_inj (hxs x hx) (hxs y ((hm y).2 hy)) (by omega)
theorem hi_unique {xs ys : List Nat} {c d : Nat} (hxs : ∀ x ∈ xs, x < 18446744073709551616) (hm : ∀ x, x ∈ xs ↔ x ∈ ys) (hc : isHi xs c) (hd : isHi ys d) : c = d := by
  obtain ⟨⟨x, hx, rfl⟩, h1⟩ := hc
  obtain ⟨⟨y, hy, rfl⟩, h2⟩ := hd
  have a := h1 y ((hm y).2 hy)
  have b := h2 x ((hm x).1 hx)
  rw [rank_canon] at a b
  exact rank_inj (hxs x hx) (hxs y ((hm y).2 hy)) (by omega)
theorem lo_join {xs ys : List Nat} {c d : Nat} (hc : isLo xs c) (hd : isLo ys d) : isLo (xs ++ ys) (minOf c d) := by
  obtain ⟨⟨x, hx, rfl⟩, h1⟩ := hc
  obtain ⟨⟨y, hy, rfl⟩, h2⟩ := hd
  unfold minOf
  rw [canon_canon, canon_canon]
  split
  · rename_i h
    refine ⟨⟨y, List.mem_append_right _ hy, rfl⟩, fun z hz => ?_⟩
    rcases List.mem_append.1 hz with hz | hz
    · have := h1 z hz; omega
    · exact h2 z hz
  · rename_i h
    refine ⟨⟨x, List.mem_append_left _ hx, rfl⟩, fun z hz => ?_⟩
    rcases List.mem_append.1 hz with hz | hz
    · exact h1 z hz
    · have := h2 z hz; omega
theorem hi_join {xs ys : List Nat} {c d : Nat} (hc : isHi xs c) (hd : isHi ys d) : isHi (xs ++ ys) (maxOf c d) := by
  obtain ⟨⟨x, hx, rfl⟩, h1⟩ := hc
  obtain ⟨⟨y, hy, rfl⟩, h2⟩ := hd
  unfold maxOf
  rw [canon_canon, canon_canon]
  split
  · rename_i h
    refine ⟨⟨y, List.mem_append_right _ hy, rfl⟩, fun z hz => ?_⟩
    rcases List.mem_append.1 hz with hz | hz
    · have := h1 z hz; omega
    · exact h2 z hz
  · rename_i h
    refine ⟨⟨x, List.mem_append_left _ hx, rfl⟩, fun z hz => ?_⟩
    rcases List.mem_append.1 hz with hz | hz
    · exact h1 z hz
    · have := h2 z hz; omega
theorem words_mem {xs : List Nat} (h : Words64 xs) : ∀ x ∈ xs, x < 18446744073709551616 := fun x hx => by
  obtain ⟨i, hi, rfl⟩ := fd_mem hx
  exact h i hi
theorem asOf_join (xs ys : List Nat) (h64 : Words64 (xs ++ ys)) (hl : (xs ++ ys).length < 18446744073709551616) : joinAS (asOf xs) (asOf ys) = asOf (xs ++ ys) := by
  have hl2 := hl
  rw [List.length_append] at hl2
  by_cases hx : xs.length = 0
  · obtain rfl := List.eq_nil_of_length_eq_zero hx
    exact no_join _
  by_cases hy : ys.length = 0
  · obtain rfl := List.eq_nil_of_length_eq_zero hy
    rw [List.append_nil]
    exact join_no xs (by omega)
  · rw [asOf_all xs hx (by omega), asOf_all ys hy (by omega), asOf_all (xs ++ ys) (by rw [List.length_append]; omega) hl]
    unfold joinAS
    simp only
    rw [if_neg hx, if_neg hy, sumOf_append, lo_unique (words_mem h64) (fun _ => Iff.rfl) (lo_join (lo_is xs (by omega)) (lo_is ys (by omega))) (lo_is (xs ++ ys) (by rw [List.length_append]; omega)),
      hi_unique (words_mem h64) (fun _ => Iff.rfl) (hi_join (hi_is xs (by omega)) (hi_is ys (by omega))) (hi_is (xs ++ ys) (by rw [List.length_append]; omega)), List.length_append, Nat.mod_eq_of_lt (by omega)]
theorem asOf_perm {xs ys : List Nat} (h : ys.Perm xs) (h64 : Words64 xs) (hl : xs.length < 18446744073709551616) : asOf ys = asOf xs := by
  have hle := h.length_eq
  by_cases hx : xs.length = 0
  · obtain rfl := List.eq_nil_of_length_eq_zero hx
    obtain rfl := List.eq_nil_of_length_eq_zero (hle.trans hx)
    rfl
  · have hm : ∀ x, x ∈ xs ↔ x ∈ ys := fun x => h.symm.mem_iff
    rw [asOf_all xs hx hl, asOf_all ys (by omega) (by omega), sumOf_perm h, hle, lo_unique (words_mem h64) hm (lo_is xs (by omega)) (lo_is ys (by omega)), hi_unique (words_mem h64) hm (hi_is xs (by omega)) (hi_is ys (by omega)), hle]
end Go.Proofs.Ythplelglifnhoaa
