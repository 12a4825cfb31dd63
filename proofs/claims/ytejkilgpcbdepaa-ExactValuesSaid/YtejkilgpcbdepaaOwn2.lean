import Derived.Test.YtejkilgpcbdepaaOwn
namespace Go.Proofs.Ytejkilgpcbdepaa
open Go.RowKit
set_option linter.unusedVariables false
theorem Own.form1 {w : World} {base : Nat} {e : TypeId} {k : IntKind} {v : Value} {xs : List Int} (h : Own w base e k v xs) (hp : 0 < xs.length) :
    ∃ g cap, v = .slice (some ⟨g, 0, none⟩) xs.length cap ∧ xs.length ≤ cap ∧ base ≤ g ∧ g < w.heap.size := by
  rcases h.2 with ⟨rfl, h0⟩ | ⟨g, cap, cur, rfl, hb, hg, hn, hm, hs, ht⟩
  · omega
  · exact ⟨g, cap, rfl, hn, hb, (Array.getElem?_eq_some_iff.1 hg).1⟩
theorem Own.cell {w : World} {base : Nat} {e : TypeId} {k : IntKind} {g n c : Nat} {xs : List Int} (h : Own w base e k (.slice (some ⟨g, 0, none⟩) n c) xs) (i : Nat) (hi : i < xs.length) : w.cell? ⟨g, i, none⟩ = some (.int k (rd xs i)) := by
  have := World.ownsRow.cells h (g := g) rfl i (.int k (rd xs i)) (by rw [List.getElem?_map, List.getElem?_eq_getElem hi, rd_eq xs i hi]; rfl)
  rwa [add_plain] at this
theorem Own.frozen {w : World} {base : Nat} {e : TypeId} {k : IntKind} {g n c : Nat} {xs : List Int} (h : Own w base e k (.slice (some ⟨g, 0, none⟩) n c) xs) (i : Nat) : w.frozen? ⟨g, i, none⟩ = false := by
  rcases h.2 with ⟨h1, _⟩ | ⟨g', cap, cur, h1, hb, hg, _⟩
  · cases h1
  · cases h1
    simp [World.frozen?, hg]
theorem Own.store {w : World} {base : Nat} {e : TypeId} {k : IntKind} {g n c : Nat} {xs : List Int} (h : Own w base e k (.slice (some ⟨g, 0, none⟩) n c) xs) (i : Nat) (hi : i < xs.length) (x : Int) :
    Own (w.setCell ⟨g, i, none⟩ (.int k x)) base e k (.slice (some ⟨g, 0, none⟩) n c) (xs.set i x) := by
  rcases h.2 with ⟨h1, _⟩ | ⟨g', cap, cur, h1, hb, hg, hn, hm, hs, ht⟩
  · cases h1
  · cases h1
    refine ⟨by simp, .inr ⟨g, c, cur.setIfInBounds i (.int k x), by simp, hb, ?_, by simpa using hn, hm, by simpa using hs, ?_⟩⟩
    · simp [World.setCell, Array.getElem?_modify, hg]
    · rw [Array.toList_setIfInBounds, List.take_set, List.length_set, ht, List.map_set]
theorem rd_set (xs : List Int) (i j : Nat) (x : Int) (hi : i < xs.length) : rd (xs.set i x) j = if j = i then x else rd xs j := by
  simp only [rd, List.getD_eq_getElem?_getD, List.getElem?_set]
  by_cases h : i = j
  · subst h; simp [hi]
  · rw [if_neg h, if_neg (fun e => h e.symm)]
theorem Bytes8.set {l : List Int} (h : Bytes8 l) (i : Nat) (x : Int) (hx : 0 ≤ x ∧ x ≤ 255) : Bytes8 (l.set i x) := fun j hj => by
  rw [List.length_set] at hj
  by_cases hi : i < l.length
  · rw [rd_set l i j x hi]
    split
    · exact hx
    · exact h j hj
  · rw [List.set_eq_of_length_le (by omega)]; exact h j hj
theorem calls_lenv {P : Program} {f : FuncId} {A : Option Addr} {m n c : Nat} {v : Value} {w : World} {R : Ending → World → Prop} (h : m = n) (k : Calls P f #[.slice A m c, v] w R) : Calls P f #[.slice A n c, v] w R := h ▸ k
end Go.Proofs.Ytejkilgpcbdepaa
