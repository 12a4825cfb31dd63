import Derived.Test.YtjlhllhimoalmaaOwn3
/-! Marks: the walk of See, Of, New, whatever the partition. -/
namespace Go.Proofs.Ytjlhllhimoalmaa
open Go.RowKit
set_option linter.unusedVariables false

theorem size27 : (Try.prog.info? 27).map (·.size) = some 17 := by kernel_rfl
attribute [-simp] Try.isAgg27 Try.sizeOf27 Try.typeInfo27 Try.type27

/-- What a partition's time turns. -/
def setC (C : Array Value) (i : Nat) (x : Int) : Array Value := (C.setIfInBounds (1 + i) (.bool true)).setIfInBounds (9 + i) (.int .i64 x)

set_option maxHeartbeats 2000000 in
/-- A time of a partition, where it counts. -/
theorem see_new (C : Array Value) (hC : C.size = 17) (h1 : C.all (·.oneCell') = true) (n x tt : Int) (i : Nat) (w : World) (hn : (i : Int) < n) (h8 : i < 8) (b : Bool) (c0 : C[0]? = some (.int .i64 n)) (cb : C[1 + i]? = some (.bool b)) (ct : C[9 + i]? = some (.int .i64 tt))
    (hb : b = false ∨ tt < x) : Calls Try.prog 10 #[.agg C, .int .i64 i, .int .i64 x] w fun e w' => e = .returned (.agg (setC C i x)) ∧ Below w.heap.size w w' := by
  have q0 := fun o => (under_cell w C 27 o 0).trans c0
  have q1 := fun o => (under_cell w C 27 o (1 + i)).trans cb
  have q2 := fun o => (under_cell w C 27 o (9 + i)).trans ct
  have hsz : (setC C i x).size = 17 := by simp [setC, hC]
  have hs : (Try.prog.info? 27).map (·.size) = some (setC C i x).size := by rw [hsz]; exact size27
  have ho : (setC C i x).all (·.oneCell') = true := one_set (one_set h1 _ _ rfl) _ _ rfl
  have hb2 : ∀ (o1 o2 : Obj), Below w.heap.size w ((w.alloc o1).alloc o2) := fun o1 o2 => below_alloc (below_alloc (Below.refl _ _) _) _
  have Hs := Lib.hid hs
  have Hsz := Lib.hid hsz
  have Ho := Lib.hid ho
  clear hs hsz ho h1
  have hx : b = true → tt < x := fun e => by rcases hb with h | h; · rw [e] at h; cases h
                                             exact h
  clear hb
  cases b
  all_goals
    first
      | have hx := hx rfl
      | clear hx
    go_enter Try.func10, Try.ntmps10
    go_wp2_with (first
      | (refine wpList_load_row rfl 27 (.tmp 3) rfl w.heap.size rfl 27 (setC C i x) (0, 0) _ (heap_alloc2_old w _ _) Try.underlying27 rfl Hs.out ?_)
      | (refine wpList_store_row rfl 27 (.tmp 6) (.tmp 36) rfl (w.heap.size + 1) (setC C i x) rfl rfl 27 _ (heap_alloc2_new w _ _) Hs.out Hsz.out.symm Ho.out ?_; rw [setRow2]))
    exact bodyPost_ret (results_cell_row rfl _ _ (w.heap.size + 1) 27 (setC C i x) (0, 0) _ rfl (heap_alloc2_new w _ _) Try.underlying27 rfl Hs.out) rfl ⟨rfl, hb2 _ _⟩

set_option maxHeartbeats 2000000 in
/-- A time that counts for nothing. -/
theorem see_old (C : Array Value) (hC : C.size = 17) (h1 : C.all (·.oneCell') = true) (n x tt : Int) (i : Nat) (w : World) (hn : (i : Int) < n) (h8 : i < 8) (c0 : C[0]? = some (.int .i64 n)) (cb : C[1 + i]? = some (.bool true)) (ct : C[9 + i]? = some (.int .i64 tt))
    (hb : ¬ tt < x) : Calls Try.prog 10 #[.agg C, .int .i64 i, .int .i64 x] w fun e w' => e = .returned (.agg C) ∧ Below w.heap.size w w' := by
  have q0 := fun o => (under_cell w C 27 o 0).trans c0
  have q1 := fun o => (under_cell w C 27 o (1 + i)).trans cb
  have q2 := fun o => (under_cell w C 27 o (9 + i)).trans ct
  have Hs := Lib.hid (show (Try.prog.info? 27).map (·.size) = some C.size by rw [hC]; exact size27)
  have hb2 : ∀ (o1 o2 : Obj), Below w.heap.size w ((w.alloc o1).alloc o2) := fun o1 o2 => below_alloc (below_alloc (Below.refl _ _) _) _
  have Ho := Lib.hid h1
  clear h1
  go_enter Try.func10, Try.ntmps10
  go_wp2_with (first
    | (refine wpList_load_row rfl 27 (.tmp 3) rfl w.heap.size rfl 27 C (0, 0) _ (heap_alloc2_old w _ _) Try.underlying27 rfl Hs.out ?_)
    | (refine wpList_store_row rfl 27 (.tmp 6) (.tmp 36) rfl (w.heap.size + 1) C rfl rfl 27 _ (heap_alloc2_new w _ _) Hs.out hC.symm Ho.out ?_; rw [setRow2]))
  exact bodyPost_ret (results_cell_row rfl _ _ (w.heap.size + 1) 27 C (0, 0) _ rfl (heap_alloc2_new w _ _) Try.underlying27 rfl Hs.out) rfl ⟨rfl, hb2 _ _⟩

set_option maxHeartbeats 2000000 in
/-- What is no partition is passed over. -/
theorem see_out (C : Array Value) (hC : C.size = 17) (h1 : C.all (·.oneCell') = true) (n x p : Int) (w : World) (hp : p < 0 ∨ n ≤ p) (c0 : C[0]? = some (.int .i64 n)) : Calls Try.prog 10 #[.agg C, .int .i64 p, .int .i64 x] w fun e w' => e = .returned (.agg C) ∧ Below w.heap.size w w' := by
  have q0 := fun o => (under_cell w C 27 o 0).trans c0
  have Hs := Lib.hid (show (Try.prog.info? 27).map (·.size) = some C.size by rw [hC]; exact size27)
  have hb2 : ∀ (o1 o2 : Obj), Below w.heap.size w ((w.alloc o1).alloc o2) := fun o1 o2 => below_alloc (below_alloc (Below.refl _ _) _) _
  have Ho := Lib.hid h1
  clear h1
  by_cases hp0 : p < 0
  all_goals
    first
      | have hp := hp.resolve_left hp0
      | clear hp
    go_enter Try.func10, Try.ntmps10
    go_wp2_with (first
      | (refine wpList_load_row rfl 27 (.tmp 3) rfl w.heap.size rfl 27 C (0, 0) _ (heap_alloc2_old w _ _) Try.underlying27 rfl Hs.out ?_)
      | (refine wpList_store_row rfl 27 (.tmp 6) (.tmp 15) rfl (w.heap.size + 1) C rfl rfl 27 _ (heap_alloc2_new w _ _) Hs.out hC.symm Ho.out ?_; rw [setRow2]))
    exact bodyPost_ret (results_cell_row rfl _ _ (w.heap.size + 1) 27 C (0, 0) _ rfl (heap_alloc2_new w _ _) Try.underlying27 rfl Hs.out) rfl ⟨rfl, hb2 _ _⟩

/-- The greatest time of a partition. -/
theorem of_in (C : Array Value) (n tt : Int) (i : Nat) (w : World) (hn : (i : Int) < n) (h8 : i < 8) (b : Bool) (c0 : C[0]? = some (.int .i64 n)) (cb : C[1 + i]? = some (.bool b)) (ct : C[9 + i]? = some (.int .i64 tt)) :
    Calls Try.prog 11 #[.agg C, .int .i64 i] w fun e w' => e = .returned (.tuple #[.int .i64 (if b then tt else 0), .bool b]) ∧ Below w.heap.size w w' := by
  have q0 := (top_cell w C 27 0).trans c0
  have q1 := (top_cell w C 27 (1 + i)).trans cb
  have q2 := (top_cell w C 27 (9 + i)).trans ct
  have hb2 : ∀ (o1 : Obj), Below w.heap.size w (w.alloc o1) := fun o1 => below_alloc (Below.refl _ _) _
  cases b
  all_goals
    go_enter Try.func11, Try.ntmps11
    go_wp2
    go_ret2
    exact ⟨rfl, hb2 _⟩
theorem of_out (C : Array Value) (n p : Int) (w : World) (hp : p < 0 ∨ n ≤ p) (c0 : C[0]? = some (.int .i64 n)) :
    Calls Try.prog 11 #[.agg C, .int .i64 p] w fun e w' => e = .returned (.tuple #[.int .i64 0, .bool false]) ∧ Below w.heap.size w w' := by
  have q0 := (top_cell w C 27 0).trans c0
  have hb2 : ∀ (o1 : Obj), Below w.heap.size w (w.alloc o1) := fun o1 => below_alloc (Below.refl _ _) _
  by_cases hp0 : p < 0
  all_goals
    first
      | have hp := hp.resolve_left hp0
      | clear hp
    go_enter Try.func11, Try.ntmps11
    go_wp2
    go_ret2
    exact ⟨rfl, hb2 _⟩
end Go.Proofs.Ytjlhllhimoalmaa
