import Derived.Laws.StructEq
import Derived.Test.YthplelglifnhoaaLo
import Derived.Test.YthplelglifnhoaaAh
import Derived.Deep.MidRow
import Derived.Shelf.SlSortCmp.InsertionK
/-! The ledger's map: keys and windows; how panes stand. -/
namespace Go.Proofs.Ythplelglifnhoaa
open Go.RowKit Go.Sort
set_option linter.unusedVariables false

theorem toList_inj {a b : ByteArray} : a.toList = b.toList ↔ a = b := by
  constructor
  · intro h
    rw [ByteArray.toList_eq, ByteArray.toList_eq] at h
    obtain ⟨⟨x⟩⟩ := a
    obtain ⟨⟨y⟩⟩ := b
    simp only at h
    rw [h]
  · intro h; rw [h]
end Go.Proofs.Ythplelglifnhoaa
/-! Panes: the closure by which they are put. -/
namespace Go.Proofs.Ythplelglifnhoaa
open Go.RowKit Go.Sort
set_option linter.unusedVariables false
/-- A pane: its key and window, what is told. -/
structure Pn where
  nm : Nm
  a : AV
instance : Inhabited Pn := ⟨⟨⟨⟨#[]⟩, 0, 0⟩, noAV⟩⟩
def paneL (p : Pn) : List Value := [.string p.nm.key, .int .i64 p.nm.s, .int .i64 p.nm.e, .int .u64 (p.a.n : Int), .float .f64 p.a.x, .bool p.a.ov, .float .f64 p.a.lo, .float .f64 p.a.hi]
theorem paneL_len (p : Pn) : (paneL p).length = 8 := rfl
theorem paneL_one (p : Pn) : ∀ v ∈ paneL p, v.oneCell' = true := fun v hv => by
  simp only [paneL, List.mem_cons, List.mem_nil_iff, or_false] at hv
  rcases hv with rfl | rfl | rfl | rfl | rfl | rfl | rfl | rfl <;> rfl
set_option maxRecDepth 100000 in
theorem sizePane : (Try.prog.info? 63).map (·.size) = some 8 := by kernel_rfl
theorem Grew.trans {w w1 w2 : World} (h : Grew w w1) (k : Grew w1 w2) : Grew w w2 := by
  obtain ⟨q, os, rfl⟩ := h
  obtain ⟨q2, os2, rfl⟩ := k
  exact ⟨q + q2, os ++ os2, by rw [← grow_grow]; unfold World.drewN grow; simp [Nat.add_assoc]⟩
theorem Grew.size {w w' : World} (h : Grew w w') : w.heap.size ≤ w'.heap.size := by
  obtain ⟨q, os, rfl⟩ := h
  show _ ≤ (w.heap ++ os).size
  rw [Array.size_append]; omega
end Go.Proofs.Ythplelglifnhoaa
