import Derived.Test.YtgpfoamhcoipgaaDoorLo
import Derived.Test.YtgpfoamhcoipgaaDoorSm
import Derived.Deep.MidRow
import Derived.Shelf.SlSortCmp.InsertionK
/-! Panes: the closure by which they are put. -/
namespace Go.Proofs.YtgpfoamhcoipgaaDoor
open Go.RowKit Go.Sort
set_option linter.unusedVariables false
attribute [-simp] Tryd.isAgg34 Tryd.sizeOf34 Tryd.typeInfo34 Tryd.type34
attribute [-simp] Tryd.isAgg40 Tryd.sizeOf40 Tryd.typeInfo40 Tryd.type40

/-- A pane: its key and window, what is told. -/
structure Pn where
  nm : Nm
  a : AV
instance : Inhabited Pn := ⟨⟨⟨⟨#[]⟩, 0, 0⟩, noAV⟩⟩
def paneL (p : Pn) : List Value := [.string p.nm.key, .int .i64 p.nm.s, .int .i64 p.nm.e, .int .u64 (p.a.n : Int), .float .f64 p.a.x, .bool p.a.ov, .float .f64 p.a.lo, .float .f64 p.a.hi]
theorem paneL_len (p : Pn) : (paneL p).length = 8 := rfl
theorem paneL_one (p : Pn) : ∀ v ∈ paneL p, v.oneCell' = true := fun v hv => by
  simp only [paneL, List.mem_cons, List.mem_nil_iff, or_false] at hv
  rcases hv with rfl | rfl | rfl | rfl | rfl | rfl | rfl | rfl <;> rfl
set_option maxRecDepth 100000 in
theorem sizePane : (Tryd.prog.info? 40).map (·.size) = some 8 := by kernel_rfl
theorem Grew.trans {w w1 w2 : World} (h : Grew w w1) (k : Grew w1 w2) : Grew w w2 := by
  obtain ⟨q, os, rfl⟩ := h
  obtain ⟨q2, os2, rfl⟩ := k
  exact ⟨q + q2, os ++ os2, by rw [← grow_grow]; unfold World.drewN grow; simp [Nat.add_assoc]⟩
theorem Grew.size {w w' : World} (h : Grew w w') : w.heap.size ≤ w'.heap.size := by
  obtain ⟨q, os, rfl⟩ := h
  show _ ≤ (w.heap ++ os).size
  rw [Array.size_append]; omega
set_option maxRecDepth 100000 in
set_option maxHeartbeats 4000000 in
theorem cmpPane_any (x y : Pn) (w : World) :
    Calls Tryd.prog 26 #[.agg (paneL x).toArray, .agg (paneL y).toArray] w fun e w' => e = .returned (.int .i64 (nmOrd x.nm y.nm)) ∧ Grew w w' := by
  obtain ⟨⟨k1, a, b⟩, av1⟩ := x
  obtain ⟨⟨k2, c, d⟩, av2⟩ := y
  have Hs := Lib.hid sizeWin
  have ho := fun w => order_any ⟨k1, a, b⟩ ⟨k2, c, d⟩ w
  obtain ⟨C, hC⟩ : ∃ C, C = (paneL ⟨⟨k1, a, b⟩, av1⟩).toArray := ⟨_, rfl⟩
  obtain ⟨D, hD⟩ : ∃ D, D = (paneL ⟨⟨k2, c, d⟩, av2⟩).toArray := ⟨_, rfl⟩
  have c0 : C[0]? = some (.string k1) := by rw [hC]; rfl
  have d0 : D[0]? = some (.string k2) := by rw [hD]; rfl
  have cw : (C.extract 1 (1 + 2)).toList = [.int .i64 a, .int .i64 b] := by rw [hC]; rfl
  have dw : (D.extract 1 (1 + 2)).toList = [.int .i64 c, .int .i64 d] := by rw [hD]; rfl
  rw [← hC, ← hD]
  generalize nmOrd (Pn.mk ⟨k1, a, b⟩ av1).nm (Pn.mk ⟨k2, c, d⟩ av2).nm = z at *
  clear hC hD
  have h1 := heap_alloc2_old w (.cells C 40) (.cells D 40)
  have h2 := heap_alloc2_new w (.cells C 40) (.cells D 40)
  have a0 := (cell_of_row _ _ 0 _ _ _ h1).trans c0
  have b0 := (cell_of_row _ _ 0 _ _ _ h2).trans d0
  have r1 := World.rangeAt_of_block h1 1 2
  have r2 := World.rangeAt_of_block h2 1 2
  rw [cw] at r1
  rw [dw] at r2
  have Hg := Lib.hid (((Grew.refl w).alloc (.cells C 40)).alloc (.cells D 40))
  have hag : ∀ w, (isAgg 40).run Tryd.prog w = .ok true w := fun w => by rw [Tryd.isAgg40]
  have hz : ∀ w, (sizeOf 40).run Tryd.prog w = .ok 8 w := run_sizeOf_info sizePane
  have hz2 : ∀ w, (sizeOf 34).run Tryd.prog w = .ok 2 w := run_sizeOf_info sizeWin
  clear c0 d0 cw dw
  go_enter Tryd.func26, Tryd.ntmps26
  go_wp2_with (first
    | (refine at_op (.load 34 (.tmp 7)) ?_ rfl; refine wpList_load_mid rfl 34 (.tmp 7) rfl w.heap.size 1 rfl _ _ r1 Tryd.underlying34 rfl Hs.out ?_)
    | (refine at_op (.load 34 (.tmp 11)) ?_ rfl; refine wpList_load_mid rfl 34 (.tmp 11) rfl (w.heap.size + 1) 1 rfl _ _ r2 Tryd.underlying34 rfl Hs.out ?_)
    | (go_at_call 27; (with_reducible refine (ho _).mono ?_); rintro e w1 ⟨rfl, hg1⟩))
  go_ret
  exact ⟨rfl, Hg.out.trans hg1⟩
end Go.Proofs.YtgpfoamhcoipgaaDoor
