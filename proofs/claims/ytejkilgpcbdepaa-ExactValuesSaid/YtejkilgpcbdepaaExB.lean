import Derived.Test.YtejkilgpcbdepaaExA
import Derived.Test.YtejkilgpcbdepaaExSplit
import Derived.Test.YtejkilgpcbdepaaRealKey
/-! Exact sums: the walk of Add where it adds no words. -/
namespace Go.Proofs.Ytejkilgpcbdepaa
open Go.RowKit
set_option linter.unusedVariables false

/-- What a sum has: its whole number (its words are its low bits), and what else was there. -/
structure St where
  w : Nat
  nan : Bool
  pos : Bool
  neg : Bool
  any : Bool
  other : Bool
def sumC (s : St) : Array Value := ws s.w ++ #[.bool s.nan, .bool s.pos, .bool s.neg, .bool s.any, .bool s.other]
theorem sumC_size (s : St) : (sumC s).size = 40 := by simp [sumC, ws_size]
theorem sumC_one (s : St) : (sumC s).all (·.oneCell') = true := by
  unfold sumC
  rw [Array.all_append, ws_one]; simp [Value.oneCell']
theorem sumC_w (s : St) (i : Nat) (h : i < 35) : (sumC s)[i]? = some (wdv s.w i) := by
  unfold sumC; rw [Array.getElem?_append_left (by rw [ws_size]; exact h), ws_at _ _ h]
theorem sumC_f (s : St) (i : Nat) : (sumC s)[35 + i]? = #[Value.bool s.nan, .bool s.pos, .bool s.neg, .bool s.any, .bool s.other][i]? := by
  unfold sumC; rw [Array.getElem?_append_right (by rw [ws_size]; omega), ws_size, Nat.add_sub_cancel_left]
theorem set_f (s : St) (i : Nat) (v : Value) : (sumC s).setIfInBounds (35 + i) v = ws s.w ++ #[Value.bool s.nan, .bool s.pos, .bool s.neg, .bool s.any, .bool s.other].setIfInBounds i v := by
  unfold sumC
  rw [Array.setIfInBounds_append_right (by rw [ws_size]; omega), ws_size, Nat.add_sub_cancel_left]
theorem set_nan (s : St) (b : Bool) : (sumC s).setIfInBounds 35 (.bool b) = sumC { s with nan := b } := set_f s 0 _
theorem set_pos (s : St) (b : Bool) : (sumC s).setIfInBounds 36 (.bool b) = sumC { s with pos := b } := set_f s 1 _
theorem set_neg (s : St) (b : Bool) : (sumC s).setIfInBounds 37 (.bool b) = sumC { s with neg := b } := set_f s 2 _
theorem set_any (s : St) (b : Bool) : (sumC s).setIfInBounds 38 (.bool b) = sumC { s with any := b } := set_f s 3 _
theorem set_other (s : St) (b : Bool) : (sumC s).setIfInBounds 39 (.bool b) = sumC { s with other := b } := set_f s 4 _
attribute [-simp] Try.isAgg28 Try.sizeOf28 Try.typeInfo28 Try.type28
attribute [-simp] Try.isAgg30 Try.sizeOf30 Try.typeInfo30 Try.type30

set_option maxHeartbeats 4000000 in
theorem add_nought (C : Array Value) (hC : C.size = 40) (h1 : C.all (·.oneCell') = true) (o : Bool) (c39 : C[39]? = some (.bool o)) (x : Nat) (neg : Bool) (s : Int) (w : World)
    (hsp : ∀ w, Calls Try.prog 41 #[.float .f64 x] w fun e w' => e = .returned (.tuple #[.bool neg, .int .u64 0, .int .i64 s, .bool true]) ∧ w = w') :
    Calls Try.prog 20 #[.agg C, .float .f64 x] w fun e w' => e = .returned (.agg ((C.setIfInBounds 38 (.bool true)).setIfInBounds 39 (.bool (o || !neg)))) ∧ Below w.heap.size w w' := by
  have Hs := Lib.hid size30
  have hb2 : ∀ (o1 o2 : Obj), Below w.heap.size w ((w.alloc o1).alloc o2) := fun o1 o2 => below_alloc (below_alloc (Below.refl _ _) _) _
  have h39 : C[39]'(by omega) = .bool o := by
    rw [Array.getElem?_eq_getElem (by omega)] at c39; exact Option.some.inj c39
  have hD : ((C.setIfInBounds 38 (.bool true)).setIfInBounds 39 (.bool (o || !neg))).size = 40 := by simp [hC]
  have hD1 : ((C.setIfInBounds 38 (.bool true)).setIfInBounds 39 (.bool (o || !neg))).all (·.oneCell') = true := one_set (one_set h1 _ _ rfl) _ _ rfl
  have HD := Lib.hid hD
  have HD1 := Lib.hid hD1
  clear hD hD1 c39 h1
  cases o <;> cases neg
  all_goals
    simp only [Bool.or_true, Bool.or_false, Bool.not_true, Bool.not_false] at HD HD1 ⊢
    go_enter Try.func20, Try.ntmps20
    go_wp2_with (first
      | (go_at_call 41; (with_reducible refine (hsp _).mono ?_); rintro e w1 ⟨rfl, rfl⟩)
      | (refine wpList_load_row rfl 30 (.tmp 2) rfl w.heap.size rfl 30 _ (0, 0) _ (heap_alloc2_old w _ _) Try.underlying30 rfl (by rw [HD.out]; exact Hs.out) ?_)
      | (refine wpList_store_row rfl 30 (.tmp 4) (.tmp 31) rfl (w.heap.size + 1) _ rfl rfl 30 _ (heap_alloc2_new w _ _) (by rw [HD.out]; exact Hs.out) (by rw [HD.out]; rfl) HD1.out ?_; rw [setRow2]))
    exact bodyPost_ret (results_cell_row rfl _ _ (w.heap.size + 1) 30 _ (0, 0) _ rfl (heap_alloc2_new w _ _) Try.underlying30 rfl (by rw [HD.out]; exact Hs.out)) rfl ⟨rfl, hb2 _ _⟩
end Go.Proofs.Ytejkilgpcbdepaa
