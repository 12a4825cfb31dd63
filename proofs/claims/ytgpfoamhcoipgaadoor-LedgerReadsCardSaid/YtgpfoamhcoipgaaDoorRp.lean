import Derived.Test.YtgpfoamhcoipgaaDoorRc
import Derived.Test.YtgpfoamhcoipgaaDoorPg
/-! A page that reads is a page that was laid. -/
namespace Go.Proofs.YtgpfoamhcoipgaaDoor
open Go.RowKit Go.Sort Go.ChangeMaps
set_option linter.unusedVariables false
theorem pgRead_ok {xs : List Int} {k : Int} (h8 : Bytes8 xs) (h0 : (pgRead xs 0).2.2.2 = 0) (h1 : (pgRead xs 0).1 = k) (h2 : (pgRead xs 0).2.2.1 = xs.length) :
    xs = pageOf k (pgRead xs 0).2.1 ∧ Bytes8 (pgRead xs 0).2.1 ∧ (pgRead xs 0).2.1.length + 9 = xs.length := by
  unfold pgRead at h0 h1 h2 ⊢
  have hp : ¬ ((0 : Int) < 0 ∨ (xs.length : Int) < 0) := by omega
  rw [if_neg hp] at h0 h1 h2 ⊢
  have z : (0 : Int).toNat = 0 := rfl
  simp only [z, List.drop_zero, Nat.zero_add] at h0 h1 h2 ⊢
  by_cases c1 : xs.length < 9
  · rw [if_pos c1] at h0; exact absurd h0 (by decide)
  rw [if_neg c1] at h0 h1 h2 ⊢
  have hq := num4_eq xs h8 (by omega)
  have hn0 : (0 : Int) ≤ num4 xs := by
    rw [hq]
    have b0 := h8 0 (by omega); have b1 := h8 1 (by omega); have b2 := h8 2 (by omega); have b3 := h8 3 (by omega)
    omega
  obtain ⟨n, hn⟩ : ∃ n : Nat, num4 xs = n := ⟨(num4 xs).toNat, by omega⟩
  rw [hn, Int.toNat_natCast] at h0 h1 h2 ⊢
  by_cases c2 : 1048576 < n ∨ xs.length < 9 + n
  · rw [if_pos c2] at h0; exact absurd h0 (by decide)
  rw [if_neg c2] at h0 h1 h2 ⊢
  by_cases c3 : crc32 (xs.take (5 + n)) ≠ num4 (xs.drop (5 + n))
  · rw [if_pos c3] at h0; exact absurd h0 (by decide)
  rw [if_neg c3] at h0 h1 h2 ⊢
  simp only at h1 h2 ⊢
  have hlen : xs.length = 9 + n := by omega
  have hb : ((xs.drop 5).take n).length = n := by rw [List.length_take, List.length_drop]; omega
  have e1 : le4 (n : Int) = xs.take 4 := num4_le4 _ xs h8 (by omega) hn.symm
  have e2 : xs.take (5 + n) = head k ((xs.drop 5).take n) := by
    unfold head
    rw [hb, e1, ← h1]
    have : xs.take (5 + n) = xs.take 5 ++ (xs.drop 5).take n := by rw [List.take_add]
    rw [this, take_snoc xs 4 (by omega)]
  have e3 : le4 (crc32 (xs.take (5 + n))) = (xs.drop (5 + n)).take 4 := num4_le4 _ _ (h8.drop _) (by rw [List.length_drop]; omega) (by simpa using c3)
  have e4 : (xs.drop (5 + n)).take 4 = xs.drop (5 + n) := List.take_of_length_le (by rw [List.length_drop]; omega)
  refine ⟨?_, (h8.drop 5).take n, by rw [hb]; omega⟩
  unfold pageOf
  rw [← e2, e3, e4, List.take_append_drop]
theorem pgOne_inv {xs : List Int} {k : Int} (h8 : Bytes8 xs) (h : (pgOne xs k).2 = 0) :
    xs = pageOf k (pgOne xs k).1 ∧ Bytes8 (pgOne xs k).1 ∧ (pgOne xs k).1.length + 9 = xs.length := by
  have hh : (pgRead xs 0).2.2.2 = 0 ∧ (pgRead xs 0).1 = k ∧ (pgRead xs 0).2.2.1 = xs.length := by
    unfold pgOne at h
    split at h
    · rename_i h0
      split at h
      · rename_i h1; exact ⟨h0, h1⟩
      · exact absurd h (by decide)
    · rename_i h0; exact absurd h h0
  have e1 : (pgOne xs k).1 = (pgRead xs 0).2.1 := by unfold pgOne; rw [if_pos hh.1, if_pos hh.2]
  rw [e1]
  exact pgRead_ok h8 hh.1 hh.2.1 hh.2.2
end Go.Proofs.YtgpfoamhcoipgaaDoor
