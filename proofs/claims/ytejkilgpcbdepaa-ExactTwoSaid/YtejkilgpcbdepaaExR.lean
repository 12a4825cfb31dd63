import Derived.Test.YtejkilgpcbdepaaExQ
import Derived.Test.YtejkilgpcbdepaaExRef
import Derived.Laws.FloatArith
/-! Exact sums: the walk of the law of two numbers. -/
namespace Go.Proofs.Ytejkilgpcbdepaa
open Go.RowKit
set_option linter.unusedVariables false

set_option maxHeartbeats 8000000 in
theorem two_any (x y : Nat) (w : World) (hx : x < 18446744073709551616) (hy : y < 18446744073709551616) :
    Calls Try.prog 3 #[.float .f64 x, .float .f64 y] w fun e w' => e = .returned (.bool true) ∧ Below w.heap.size w w' := by
  have aw := awake_any
  have n1 := fun w => isNaN_any x w
  have n2 := fun w => isInf_any x w hx
  have n3 := fun w => isNaN_any y w
  have n4 := fun w => isInf_any y w hy
  have hmain := fun (h1 : nanB x = false) (h2 : infB x = false) (h3 : nanB y = false) (h4 : infB y = false) => two_val x y 2240 2239 rfl rfl hx hy h1 h3 h2 h4 (fun W => rfl)
  by_cases hsp : (nanB x || infB x || nanB y || infB y) = true
  · clear hmain
    generalize nanB x = p at *
    generalize infB x = q at *
    generalize nanB y = p2 at *
    generalize infB y = q2 at *
    cases p
    · cases q
      · cases p2
        · cases q2
          · cases hsp
          all_goals
            clear hsp
            go_enter Try.func3, Try.ntmps3
            go_wp2_with (first
              | (go_at_call 13; (with_reducible refine (aw _).mono ?_); rintro e w1 ⟨rfl, b1⟩)
              | (go_at_call 14; (first | (with_reducible refine (n1 _).mono ?_) | (with_reducible refine (n3 _).mono ?_)); rintro e w0 ⟨rfl, rfl⟩)
              | (go_at_call 15; (first | (with_reducible refine (n2 _).mono ?_) | (with_reducible refine (n4 _).mono ?_)); rintro e w0 ⟨rfl, rfl⟩))
            go_ret
            exact ⟨rfl, below_trans (by assumption) b1⟩
        · clear hsp
          go_enter Try.func3, Try.ntmps3
          go_wp2_with (first
            | (go_at_call 13; (with_reducible refine (aw _).mono ?_); rintro e w1 ⟨rfl, b1⟩)
            | (go_at_call 14; (first | (with_reducible refine (n1 _).mono ?_) | (with_reducible refine (n3 _).mono ?_)); rintro e w0 ⟨rfl, rfl⟩)
            | (go_at_call 15; (first | (with_reducible refine (n2 _).mono ?_) | (with_reducible refine (n4 _).mono ?_)); rintro e w0 ⟨rfl, rfl⟩))
          go_ret
          exact ⟨rfl, below_trans (by assumption) b1⟩
      · clear hsp
        go_enter Try.func3, Try.ntmps3
        go_wp2_with (first
          | (go_at_call 13; (with_reducible refine (aw _).mono ?_); rintro e w1 ⟨rfl, b1⟩)
          | (go_at_call 14; (first | (with_reducible refine (n1 _).mono ?_) | (with_reducible refine (n3 _).mono ?_)); rintro e w0 ⟨rfl, rfl⟩)
          | (go_at_call 15; (first | (with_reducible refine (n2 _).mono ?_) | (with_reducible refine (n4 _).mono ?_)); rintro e w0 ⟨rfl, rfl⟩))
        go_ret
        exact ⟨rfl, below_trans (by assumption) b1⟩
    · clear hsp
      go_enter Try.func3, Try.ntmps3
      go_wp2_with (first
        | (go_at_call 13; (with_reducible refine (aw _).mono ?_); rintro e w1 ⟨rfl, b1⟩)
        | (go_at_call 14; (first | (with_reducible refine (n1 _).mono ?_) | (with_reducible refine (n3 _).mono ?_)); rintro e w0 ⟨rfl, rfl⟩)
        | (go_at_call 15; (first | (with_reducible refine (n2 _).mono ?_) | (with_reducible refine (n4 _).mono ?_)); rintro e w0 ⟨rfl, rfl⟩))
      go_ret
      exact ⟨rfl, below_trans (by assumption) b1⟩
  · have hall : nanB x = false ∧ infB x = false ∧ nanB y = false ∧ infB y = false := by
      cases h1 : nanB x <;> cases h2 : infB x <;> cases h3 : nanB y <;> cases h4 : infB y <;> simp_all
    obtain ⟨h1, h2, h3, h4⟩ := hall
    obtain ⟨r, hadd, hrl, hval⟩ := hmain h1 h2 h3 h4
    have hrun : ∀ w, (binOp .add 22 (.float .f64 x) (.float .f64 y)).run Try.prog w = .ok (.float .f64 r) w := fun w => run_float_arith w .add _ .f64 x y r hadd
    have hof : ∀ w1 : World, Calls Try.prog 16 #[.slice (some ⟨w1.heap.size, 0, none⟩) 2 2] (w1.alloc (.cells #[.float .f64 x, .float .f64 y] 22)) fun e w' => e = .returned (.agg (sumC (sumOf [x, y]))) ∧ Below (w1.alloc (.cells #[.float .f64 x, .float .f64 y] 22)).heap.size (w1.alloc (.cells #[.float .f64 x, .float .f64 y] 22)) w' := fun w1 =>
      of_list _ 2 [x, y] _ (freads_new w1 [x, y] _) (fun i hi => by
        match i, hi with
        | 0, _ => exact hx
        | 1, _ => exact hy) (by simp)
    have hv := fun w => value_any (sumOf [x, y]) w
    rw [hval] at hv
    have hs : ∀ w, Calls Try.prog 18 #[.float .f64 r, .float .f64 r] w fun e w' => e = .returned (.bool true) ∧ w = w' := fun w => by
      have := refSame_any r r w hrl hrl
      rw [show decide (canon r = canon r) = true by simp] at this
      exact this
    have hi5 := fun w => isInf_any r w hrl
    rw [h1] at n1
    rw [h2] at n2
    rw [h3] at n3
    rw [h4] at n4
    generalize infB r = ob at *
    generalize sumOf [x, y] = S at *
    clear hmain hsp h1 h2 h3 h4 hval hadd
    cases ob
    all_goals
      go_enter Try.func3, Try.ntmps3
      go_wp2_with (first
        | (go_at_call 13; (with_reducible refine (aw _).mono ?_); rintro e w1 ⟨rfl, b1⟩)
        | (go_at_call 14; (first | (with_reducible refine (n1 _).mono ?_) | (with_reducible refine (n3 _).mono ?_)); rintro e w0 ⟨rfl, rfl⟩)
        | (go_at_call 15; (first | (with_reducible refine (n2 _).mono ?_) | (with_reducible refine (n4 _).mono ?_) | (with_reducible refine (hi5 _).mono ?_)); rintro e w0 ⟨rfl, rfl⟩)
        | (go_at_call 16; (with_reducible refine (hof _).mono ?_); rintro e w2 ⟨rfl, b2⟩)
        | (go_at_call 17; (with_reducible refine (hv _).mono ?_); rintro e w3 ⟨rfl, b3⟩)
        | (go_at_call 18; (with_reducible refine (hs _).mono ?_); rintro e w4 ⟨rfl, rfl⟩))
      go_ret
      exact ⟨rfl, below_trans (below_trans (below_alloc b1 _) b2) b3⟩
theorem two_walk (W : World) (a0 : Nat) (wa0 : (Lit.float .f64 a0).wf = true) (a1 : Nat) (wa1 : (Lit.float .f64 a1).wf = true) :
    Calls Try.prog 3 #[.float .f64 a0, .float .f64 a1] W fun e w' => e = .returned (.bool true) ∧ Below W.heap.size W w' :=
  two_any a0 a1 W (of_decide_eq_true wa0) (of_decide_eq_true wa1)
end Go.Proofs.Ytejkilgpcbdepaa
