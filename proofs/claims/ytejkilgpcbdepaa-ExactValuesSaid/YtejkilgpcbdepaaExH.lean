import Derived.Test.YtejkilgpcbdepaaExG
/-! Exact sums: the walk of Value where something was no finite number. -/
namespace Go.Proofs.Ytejkilgpcbdepaa
open Go.RowKit
set_option linter.unusedVariables false
attribute [-simp] Try.isAgg28
attribute [-simp] Try.isAgg30 Try.sizeOf30 Try.typeInfo30 Try.type30

theorem nan_any (w : World) : Calls Try.prog 19 #[] w fun e w' => e = .returned (.float .f64 9221120237041090561) ∧ w = w' := by
  have hf := run_frombits
  go_enter Try.func19, Try.ntmps19
  go_wp2
  go_ret
  exact ⟨rfl, rfl⟩
theorem infP_any (w : World) (i : Int) (h : 0 ≤ i) : Calls Try.prog 21 #[.int .i64 i] w fun e w' => e = .returned (.float .f64 9218868437227405312) ∧ w = w' := by
  have hf := run_frombits
  go_enter Try.func21, Try.ntmps21
  go_wp2
  go_ret
  exact ⟨rfl, rfl⟩
theorem infM_any (w : World) (i : Int) (h : i < 0) : Calls Try.prog 21 #[.int .i64 i] w fun e w' => e = .returned (.float .f64 18442240474082181120) ∧ w = w' := by
  have hf := run_frombits
  go_enter Try.func21, Try.ntmps21
  go_wp2
  go_ret
  exact ⟨rfl, rfl⟩

/-- What a sum with what is no finite number tells. -/
def specVal (a b c : Bool) : Nat := if a || (b && c) then 9221120237041090561 else if b then 9218868437227405312 else 18442240474082181120
set_option maxHeartbeats 4000000 in
theorem value_special (C : Array Value) (hC : C.size = 40) (a b c : Bool) (c35 : C[35]? = some (.bool a)) (c36 : C[36]? = some (.bool b)) (c37 : C[37]? = some (.bool c)) (w : World) (h : (a || b || c) = true) :
    Calls Try.prog 17 #[.agg C] w fun e w' => e = .returned (.tuple #[.float .f64 (specVal a b c), .bool false]) ∧ Below w.heap.size w w' := by
  have hb1 : ∀ (o1 : Obj), Below w.heap.size w (w.alloc o1) := fun o1 => below_alloc (Below.refl _ _) _
  have h35 := at_of (by omega) c35
  have h36 := at_of (by omega) c36
  have h37 := at_of (by omega) c37
  have hn := nan_any
  have hp := fun w => infP_any w 1 (by omega)
  have hm := fun w => infM_any w (-1) (by omega)
  clear c35 c36 c37
  cases a <;> cases b <;> cases c
  · cases h
  all_goals
    clear h
    go_enter Try.func17, Try.ntmps17
    go_wp2_with (first
      | (go_at_call 19; (with_reducible refine (hn _).mono ?_); rintro e w1 ⟨rfl, rfl⟩)
      | (go_at_call 21; (first | ((with_reducible refine (hp _).mono ?_); rintro e w1 ⟨rfl, rfl⟩) | ((with_reducible refine (hm _).mono ?_); rintro e w1 ⟨rfl, rfl⟩))))
    go_ret2
    exact ⟨rfl, hb1 _⟩
end Go.Proofs.Ytejkilgpcbdepaa
