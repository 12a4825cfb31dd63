import Derived.Test.YtejkilgpcbdepaaExJ
/-! Exact sums: the example. -/
namespace Go.Proofs.Ytejkilgpcbdepaa
open Go.RowKit
set_option linter.unusedVariables false
attribute [-simp] Try.isAgg30 Try.sizeOf30 Try.typeInfo30 Try.type30

set_option maxRecDepth 100000 in
theorem awake_val : valSt (sumOf [9094988921128908188, 4607182418800017408, 18318360957983683996]) = (4607182418800017408, false) := by kernel_rfl
theorem freads_new (w : World) (xs : List Nat) (e : TypeId) : FReads (w.alloc (.cells (xs.map (Value.float .f64)).toArray e)) (some ⟨w.heap.size, 0, none⟩) xs := fun i hi => ⟨_, rfl, by
  rw [cell_new]
  simp [fd, hi]⟩
set_option maxHeartbeats 2000000 in
theorem awake_any (w : World) : Calls Try.prog 13 #[] w fun e w' => e = .returned (.bool true) ∧ Below w.heap.size w w' := by
  have hof : Calls Try.prog 16 #[.slice (some ⟨w.heap.size, 0, none⟩) 3 3] (w.alloc (.cells #[.float .f64 9094988921128908188, .float .f64 4607182418800017408, .float .f64 18318360957983683996] 22)) fun e w' => e = .returned (.agg (sumC (sumOf [9094988921128908188, 4607182418800017408, 18318360957983683996]))) ∧ Below (w.alloc (.cells #[.float .f64 9094988921128908188, .float .f64 4607182418800017408, .float .f64 18318360957983683996] 22)).heap.size (w.alloc (.cells #[.float .f64 9094988921128908188, .float .f64 4607182418800017408, .float .f64 18318360957983683996] 22)) w' :=
    of_list _ 3 [9094988921128908188, 4607182418800017408, 18318360957983683996] _ (freads_new w _ _) (fun i hi => by
      match i, hi with
      | 0, _ => decide
      | 1, _ => decide
      | 2, _ => decide) (by decide)
  have hv := fun w => value_any (sumOf [9094988921128908188, 4607182418800017408, 18318360957983683996]) w
  rw [awake_val] at hv
  generalize sumOf [9094988921128908188, 4607182418800017408, 18318360957983683996] = S at *
  have heq : (FloatKind.f64.format.order 4607182418800017408 4607182418800017408 == some .eq) = true := by decide
  go_enter Try.func13, Try.ntmps13
  go_wp2_with (first
    | (go_at_call 16; (with_reducible refine hof.mono ?_); rintro e w1 ⟨rfl, b1⟩)
    | (go_at_call 17; (with_reducible refine (hv _).mono ?_); rintro e w2 ⟨rfl, b2⟩))
  go_ret
  exact ⟨rfl, below_trans (below_trans (below_alloc (Below.refl _ _) _) b1) b2⟩
end Go.Proofs.Ytejkilgpcbdepaa
