import Derived.Test.YtejkilgpcbdepaaExB
/-! Exact sums: the walk of Add of what is no finite number. -/
namespace Go.Proofs.Ytejkilgpcbdepaa
open Go.RowKit
set_option linter.unusedVariables false
attribute [-simp] Try.isAgg28 Try.sizeOf28 Try.typeInfo28 Try.type28
attribute [-simp] Try.isAgg30 Try.sizeOf30 Try.typeInfo30 Try.type30

theorem at_of {C : Array Value} {i : Nat} {v : Value} (h : i < C.size) (c : C[i]? = some v) : C[i] = v := by
  rw [Array.getElem?_eq_getElem h] at c; exact Option.some.inj c

set_option maxHeartbeats 8000000 in
theorem add_special (C : Array Value) (hC : C.size = 40) (h1 : C.all (·.oneCell') = true) (a b c : Bool) (c35 : C[35]? = some (.bool a)) (c36 : C[36]? = some (.bool b)) (c37 : C[37]? = some (.bool c)) (x : Nat) (bn bp bm : Bool) (w : World)
    (hsp : ∀ w, Calls Try.prog 41 #[.float .f64 x] w fun e w' => e = .returned (.tuple #[.bool false, .int .u64 0, .int .i64 0, .bool false]) ∧ w = w')
    (hn : ∀ w, Calls Try.prog 14 #[.float .f64 x] w fun e w' => e = .returned (.bool bn) ∧ w = w')
    (hp : ∀ w, Calls Try.prog 15 #[.float .f64 x, .int .i64 1] w fun e w' => e = .returned (.bool bp) ∧ w = w')
    (hm : ∀ w, Calls Try.prog 15 #[.float .f64 x, .int .i64 (-1)] w fun e w' => e = .returned (.bool bm) ∧ w = w') :
    Calls Try.prog 20 #[.agg C, .float .f64 x] w fun e w' => e = .returned (.agg (((((C.setIfInBounds 38 (.bool true)).setIfInBounds 39 (.bool true)).setIfInBounds 35 (.bool (a || bn))).setIfInBounds 36 (.bool (b || bp))).setIfInBounds 37 (.bool (c || bm)))) ∧ Below w.heap.size w w' := by
  have Hs := Lib.hid size30
  have hb2 : ∀ (o1 o2 : Obj), Below w.heap.size w ((w.alloc o1).alloc o2) := fun o1 o2 => below_alloc (below_alloc (Below.refl _ _) _) _
  have h35 := at_of (by omega) c35
  have h36 := at_of (by omega) c36
  have h37 := at_of (by omega) c37
  have HD := Lib.hid (show (((((C.setIfInBounds 38 (.bool true)).setIfInBounds 39 (.bool true)).setIfInBounds 35 (.bool (a || bn))).setIfInBounds 36 (.bool (b || bp))).setIfInBounds 37 (.bool (c || bm))).size = 40 by simp [hC])
  have HD1 := Lib.hid (one_set (one_set (one_set (one_set (one_set h1 38 (.bool true) rfl) 39 (.bool true) rfl) 35 (.bool (a || bn)) rfl) 36 (.bool (b || bp)) rfl) 37 (.bool (c || bm)) rfl)
  clear c35 c36 c37 h1
  cases a <;> cases b <;> cases c
  all_goals
    simp only [Bool.true_or, Bool.false_or] at HD HD1 ⊢
    go_enter Try.func20, Try.ntmps20
    go_wp2_with (first
      | (go_at_call 41; (with_reducible refine (hsp _).mono ?_); rintro e w1 ⟨rfl, rfl⟩)
      | (go_at_call 14; (with_reducible refine (hn _).mono ?_); rintro e w1 ⟨rfl, rfl⟩)
      | (go_at_call 15; (first | ((with_reducible refine (hp _).mono ?_); rintro e w1 ⟨rfl, rfl⟩) | ((with_reducible refine (hm _).mono ?_); rintro e w1 ⟨rfl, rfl⟩)))
      | (refine wpList_load_row rfl 30 (.tmp 2) rfl w.heap.size rfl 30 _ (0, 0) _ (heap_alloc2_old w _ _) Try.underlying30 rfl (by rw [HD.out]; exact Hs.out) ?_)
      | (refine wpList_store_row rfl 30 (.tmp 4) (.tmp 57) rfl (w.heap.size + 1) _ rfl rfl 30 _ (heap_alloc2_new w _ _) (by rw [HD.out]; exact Hs.out) (by rw [HD.out]; rfl) HD1.out ?_; rw [setRow2]))
    exact bodyPost_ret (results_cell_row rfl _ _ (w.heap.size + 1) 30 _ (0, 0) _ rfl (heap_alloc2_new w _ _) Try.underlying30 rfl (by rw [HD.out]; exact Hs.out)) rfl ⟨rfl, hb2 _ _⟩
end Go.Proofs.Ytejkilgpcbdepaa
