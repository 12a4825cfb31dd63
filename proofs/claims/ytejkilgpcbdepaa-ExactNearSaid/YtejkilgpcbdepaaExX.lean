import Derived.Test.YtejkilgpcbdepaaExW
/-! Exact sums: the value is the nearest number: the walk of the law. -/
namespace Go.Proofs.Ytejkilgpcbdepaa
open Go.RowKit
set_option linter.unusedVariables false
attribute [-simp] Try.isAgg30 Try.sizeOf30 Try.typeInfo30 Try.type30

set_option maxHeartbeats 8000000 in
theorem near_any (A : Option Addr) (cap : Nat) (xs : List Nat) (w : World) (hr : FReads w A xs) (h64 : Words64 xs) (hxl : xs.length ≤ 9223372036854775807) :
    Calls Try.prog 8 #[.slice A xs.length cap] w fun e w' => e = .returned (.bool true) ∧ Below w.heap.size w w' := by
  have Hs := Lib.hid size30
  have aw := awake_any
  by_cases h30 : 30 < xs.length ∨ xs.length = 0
  · by_cases h0 : xs.length = 0
    · have Hx := Lib.hid h0
      go_enter Try.func8, Try.ntmps8
      rw [h0]
      clear h30 h0
      go_wp2_with (go_at_call 13; (with_reducible refine (aw _).mono ?_); rintro e w1 ⟨rfl, b1⟩)
      go_ret
      exact ⟨rfl, below_trans (by assumption) b1⟩
    · have h31 : 30 < xs.length := by omega
      clear h30
      go_enter Try.func8, Try.ntmps8
      go_wp2_with (go_at_call 13; (with_reducible refine (aw _).mono ?_); rintro e w1 ⟨rfl, b1⟩)
      go_ret
      exact ⟨rfl, below_trans (by assumption) b1⟩
  have h31 : ¬ 30 < xs.length := fun h => h30 (.inl h)
  have h32 : ¬ xs.length = 0 := fun h => h30 (.inr h)
  have q1 : ((xs.length : Int) == 0) = false := by rw [beq_eq_false_iff_ne]; omega
  have q2 : decide ((30 : Int) < (xs.length : Int)) = false := decide_eq_false (by omega)
  clear h30
  have hof := fun w1 (b : Below w.heap.size w w1) => of_list A cap xs w1 (hr.below b) h64 (by omega)
  have hva := fun w => value_any (sumOf xs) w
  have hlaw := near_law xs 2240 2239 2100 rfl rfl rfl (fun W => rfl) h64 (by omega)
  have hxv : (valSt (sumOf xs)).1 < 18446744073709551616 := by
    unfold valSt
    split
    · cases (sumOf xs).nan <;> cases (sumOf xs).pos <;> cases (sumOf xs).neg <;> decide
    · exact (valOf_low _ _ _ _).2
  obtain ⟨x, ov, hv⟩ : ∃ x ov, valSt (sumOf xs) = (x, ov) := ⟨_, _, rfl⟩
  rw [hv] at hva hxv
  obtain ⟨Z, hZ, zz⟩ : ∃ Z : Array Value, Z.size = 40 ∧ ∀ w, (zeroValue 30).run Try.prog w = .ok (.agg Z) w := ⟨_, sumC_size _, zero30⟩
  have n1 := fun w => isNaN_any x w
  have n2 := fun w => isInf_any x w hxv
  have hlaw2 := hlaw x
  rw [hv] at hlaw2
  by_cases hsp : (ov || nanB x || infB x) = true
  · clear hlaw hlaw2 hv
    generalize sumOf xs = S at *
    generalize nanB x = p at *
    generalize infB x = q at *
    cases ov
    · cases p
      · cases q
        · exact absurd hsp (by decide)
        · clear hsp
          go_enter Try.func8, Try.ntmps8
          go_wp2_with (first
            | (go_at_call 13; (with_reducible refine (aw _).mono ?_); rintro e w1 ⟨rfl, b1⟩)
            | (go_at_call 16; (with_reducible refine (hof _ b1).mono ?_); rintro e w2 ⟨rfl, b2⟩)
            | (refine at_op (.alloc 30) ?_ rfl; refine wpList_alloc_row rfl _ 30 rfl (some 3) rfl w2.heap.size rfl Z zz ?_)
            | (refine at_op (.store 30 (.tmp 3) (.tmp 27)) ?_ rfl; refine wpList_store_row rfl 30 (.tmp 3) (.tmp 27) rfl w2.heap.size (sumC S) rfl rfl 30 Z (heap_alloc_new w2 _) (by rw [sumC_size]; exact Hs.out) (by rw [hZ, sumC_size]) (sumC_one _) ?_; rw [World.setRow_alloc_new]; have hg5 := Lib.hid (heap_alloc_new w2 (.cells (sumC S) 30)); have bb5 := below_alloc (below_trans b1 b2) (.cells (sumC S) 30); generalize w2.heap.size = g5 at *; generalize w2.alloc (.cells (sumC S) 30) = w4 at *)
            | (refine at_op0 (.load 30 (.tmp 3)) ?_ rfl rfl; refine wpList_load_row rfl 30 (.tmp 3) rfl g5 rfl 30 _ (0, 0) _ hg5.out Try.underlying30 rfl (by rw [sumC_size]; exact Hs.out) ?_)
            | (go_at_call 17; (with_reducible refine (hva _).mono ?_); rintro e w5 ⟨rfl, b5⟩)
            | (go_at_call 14; (with_reducible refine (n1 _).mono ?_); rintro e w0 ⟨rfl, rfl⟩)
            | (go_at_call 15; (with_reducible refine (n2 _).mono ?_); rintro e w0 ⟨rfl, rfl⟩))
          go_ret
          exact ⟨rfl, below_trans bb5 b5⟩
      · clear hsp
        go_enter Try.func8, Try.ntmps8
        go_wp2_with (first
          | (go_at_call 13; (with_reducible refine (aw _).mono ?_); rintro e w1 ⟨rfl, b1⟩)
          | (go_at_call 16; (with_reducible refine (hof _ b1).mono ?_); rintro e w2 ⟨rfl, b2⟩)
          | (refine at_op (.alloc 30) ?_ rfl; refine wpList_alloc_row rfl _ 30 rfl (some 3) rfl w2.heap.size rfl Z zz ?_)
          | (refine at_op (.store 30 (.tmp 3) (.tmp 27)) ?_ rfl; refine wpList_store_row rfl 30 (.tmp 3) (.tmp 27) rfl w2.heap.size (sumC S) rfl rfl 30 Z (heap_alloc_new w2 _) (by rw [sumC_size]; exact Hs.out) (by rw [hZ, sumC_size]) (sumC_one _) ?_; rw [World.setRow_alloc_new]; have hg5 := Lib.hid (heap_alloc_new w2 (.cells (sumC S) 30)); have bb5 := below_alloc (below_trans b1 b2) (.cells (sumC S) 30); generalize w2.heap.size = g5 at *; generalize w2.alloc (.cells (sumC S) 30) = w4 at *)
          | (refine at_op0 (.load 30 (.tmp 3)) ?_ rfl rfl; refine wpList_load_row rfl 30 (.tmp 3) rfl g5 rfl 30 _ (0, 0) _ hg5.out Try.underlying30 rfl (by rw [sumC_size]; exact Hs.out) ?_)
          | (go_at_call 17; (with_reducible refine (hva _).mono ?_); rintro e w5 ⟨rfl, b5⟩)
          | (go_at_call 14; (with_reducible refine (n1 _).mono ?_); rintro e w0 ⟨rfl, rfl⟩)
          | (go_at_call 15; (with_reducible refine (n2 _).mono ?_); rintro e w0 ⟨rfl, rfl⟩))
        go_ret
        exact ⟨rfl, below_trans bb5 b5⟩
    · clear hsp
      go_enter Try.func8, Try.ntmps8
      go_wp2_with (first
        | (go_at_call 13; (with_reducible refine (aw _).mono ?_); rintro e w1 ⟨rfl, b1⟩)
        | (go_at_call 16; (with_reducible refine (hof _ b1).mono ?_); rintro e w2 ⟨rfl, b2⟩)
        | (refine at_op (.alloc 30) ?_ rfl; refine wpList_alloc_row rfl _ 30 rfl (some 3) rfl w2.heap.size rfl Z zz ?_)
        | (refine at_op (.store 30 (.tmp 3) (.tmp 27)) ?_ rfl; refine wpList_store_row rfl 30 (.tmp 3) (.tmp 27) rfl w2.heap.size (sumC S) rfl rfl 30 Z (heap_alloc_new w2 _) (by rw [sumC_size]; exact Hs.out) (by rw [hZ, sumC_size]) (sumC_one _) ?_; rw [World.setRow_alloc_new]; have hg5 := Lib.hid (heap_alloc_new w2 (.cells (sumC S) 30)); have bb5 := below_alloc (below_trans b1 b2) (.cells (sumC S) 30); generalize w2.heap.size = g5 at *; generalize w2.alloc (.cells (sumC S) 30) = w4 at *)
        | (refine at_op0 (.load 30 (.tmp 3)) ?_ rfl rfl; refine wpList_load_row rfl 30 (.tmp 3) rfl g5 rfl 30 _ (0, 0) _ hg5.out Try.underlying30 rfl (by rw [sumC_size]; exact Hs.out) ?_)
        | (go_at_call 17; (with_reducible refine (hva _).mono ?_); rintro e w5 ⟨rfl, b5⟩))
      go_ret
      exact ⟨rfl, below_trans bb5 b5⟩
  · have hsp := Bool.eq_false_iff.2 hsp
    rw [Bool.or_eq_false_iff, Bool.or_eq_false_iff] at hsp
    obtain ⟨⟨rfl, hn⟩, hi⟩ := hsp
    obtain ⟨l1, l2, hfin, l3, l4⟩ := hlaw2 rfl hn hi
    clear hlaw hlaw2
    rw [hn] at n1
    rw [hi] at n2
    have k1 := nextX_lt x true l1 l2
    have k2 := nextX_lt x false l1 l2
    have y0 := neg_rung x l1
    have y1 := neg_rung (nextX x true) k1.1
    have y2 := neg_rung (nextX x false) k2.1
    obtain ⟨u1, u2, u3⟩ := l4 true
    obtain ⟨v1, v2, v3⟩ := l4 false
    have nU := fun w => nextafter_any x true w l1 l2
    have nD := fun w => nextafter_any x false w l1 l2
    rw [show infOf true = 9218868437227405312 from rfl] at nU
    rw [show infOf false = 18442240474082181120 from rfl] at nD
    have iP := fun w => infP_any w 1 (by omega)
    have iM := fun w => infM_any w (-1) (by omega)
    generalize nextX x true = X1 at *
    generalize nextX x false = X2 at *
    obtain ⟨Y0, hY0⟩ : ∃ Y, Op.negFloat .f64 x = Y := ⟨_, rfl⟩
    obtain ⟨Y1, hY1⟩ : ∃ Y, Op.negFloat .f64 X1 = Y := ⟨_, rfl⟩
    obtain ⟨Y2, hY2⟩ : ∃ Y, Op.negFloat .f64 X2 = Y := ⟨_, rfl⟩
    have g0 : ∀ w, (Op.unary .neg (.float .f64 x)).run Try.prog w = .ok (.float .f64 Y0) w := fun w => by rw [← hY0]; rfl
    have g1 : ∀ w, (Op.unary .neg (.float .f64 X1)).run Try.prog w = .ok (.float .f64 Y1) w := fun w => by rw [← hY1]; rfl
    have g2 : ∀ w, (Op.unary .neg (.float .f64 X2)).run Try.prog w = .ok (.float .f64 Y2) w := fun w => by rw [← hY2]; rfl
    rw [hY0] at y0 l3 u2 v2
    rw [hY1] at y1 u1 u2 u3
    rw [hY2] at y2 v1 v2 v3
    have a0 := fun w => add_any (sumOf xs) Y0 w y0.1
    have a1 := fun w => add_any (sumOf xs) Y1 w y1.1
    have a2 := fun w => add_any (sumOf xs) Y2 w y2.1
    generalize sumOf xs = S at *
    have t0 := fun w => value_any (addSt S Y0) w
    have t1 := fun w => value_any (addSt S Y1) w
    have t2 := fun w => value_any (addSt S Y2) w
    have f0 := fun w => abs_any _ w l3
    have f1 := fun w => abs_any _ w u1
    have f2 := fun w => abs_any _ w v1
    have o1 := order_le_of u2 u3
    have o2 := order_le_of v2 v3
    clear y0 y1 y2 u1 u2 u3 v1 v2 v3 l3 l4 hY0 hY1 hY2 hv k1 k2
    generalize addSt S Y0 = S0 at *
    generalize addSt S Y1 = S1 at *
    generalize addSt S Y2 = S2 at *
    generalize (valSt S0).2 = q0 at *
    generalize (valSt S1).2 = q1 at *
    generalize (valSt S2).2 = q2 at *
    generalize (valSt S0).1 = d0 at *
    generalize (valSt S1).1 = d1 at *
    generalize (valSt S2).1 = d2 at *
    generalize d0 % 9223372036854775808 = r0 at *
    generalize d1 % 9223372036854775808 = r1 at *
    generalize d2 % 9223372036854775808 = r2 at *
    go_enter Try.func8, Try.ntmps8
    go_wp2_with (first
      | (go_at_call 13; (with_reducible refine (aw _).mono ?_); rintro e w1 ⟨rfl, b1⟩)
      | (go_at_call 16; (with_reducible refine (hof _ b1).mono ?_); rintro e w2 ⟨rfl, b2⟩)
      | (refine at_op (.alloc 30) ?_ rfl; refine wpList_alloc_row rfl _ 30 rfl (some 3) rfl w2.heap.size rfl Z zz ?_)
      | (refine at_op (.store 30 (.tmp 3) (.tmp 27)) ?_ rfl; refine wpList_store_row rfl 30 (.tmp 3) (.tmp 27) rfl w2.heap.size (sumC S) rfl rfl 30 Z (heap_alloc_new w2 _) (by rw [sumC_size]; exact Hs.out) (by rw [hZ, sumC_size]) (sumC_one _) ?_; rw [World.setRow_alloc_new]; have hg5 := Lib.hid (heap_alloc_new w2 (.cells (sumC S) 30)); have bb5 := below_alloc (below_trans b1 b2) (.cells (sumC S) 30); generalize w2.heap.size = g5 at *; generalize w2.alloc (.cells (sumC S) 30) = w4 at *)
      | (refine at_op0 (.load 30 (.tmp 3)) ?_ rfl rfl; refine wpList_load_row rfl 30 (.tmp 3) rfl g5 rfl 30 _ (0, 0) _ hg5.out Try.underlying30 rfl (by rw [sumC_size]; exact Hs.out) ?_)
      | (go_at_call 17; (with_reducible refine (hva _).mono ?_); rintro e w5 ⟨rfl, b5⟩)
      | (go_at_call 14; (with_reducible refine (n1 _).mono ?_); rintro e w0 ⟨rfl, rfl⟩)
      | (go_at_call 15; (with_reducible refine (n2 _).mono ?_); rintro e w0 ⟨rfl, rfl⟩))
    have hr5 := hr.below (below_trans bb5 b5)
    have hg6 := Lib.hid ((b5.block g5 (heap_lt hg5.out)).trans hg5.out)
    have bb6 := below_trans bb5 b5
    clear hr hof b1 b2 b5 bb5 hg5 n1 n2 hn hi
    go_loop [6] (fun i => ∃ k : Nat, k ≤ xs.length ∧ i = .int .i64 k) (fun i => xs.length - (intOf i).toNat)
    case atStart => exact ⟨0, Nat.zero_le _, rfl⟩
    case round =>
      obtain ⟨k, hk, rfl⟩ := hrel
      by_cases hlt : k < xs.length
      · obtain ⟨a, rfl, c0⟩ := hr5 k hlt
        obtain ⟨p1, p2⟩ := hfin k hlt
        have n1 := fun w => isNaN_any (fd xs k) w
        have n2 := fun w => isInf_any (fd xs k) w (h64 k hlt)
        rw [p1] at n1
        rw [p2] at n2
        generalize fd xs k = z at c0 n1 n2
        clear hfin p1 p2 h64 hr5 g0 g1 g2 a0 a1 a2 t0 t1 t2
        go_wp2_with (first
          | (go_at_call 14; (with_reducible refine (n1 _).mono ?_); rintro e w7 ⟨rfl, rfl⟩)
          | (go_at_call 15; (with_reducible refine (n2 _).mono ?_); rintro e w7 ⟨rfl, rfl⟩))
        exact ⟨⟨k + 1, by omega, by go_num⟩, by simp [intOf]; omega⟩
      · obtain rfl : k = xs.length := by omega
        clear hfin h64 hr5
        have hgl := heap_lt hg6.out
        go_wp2_with (first
          | (refine at_op0 (.load 30 (.tmp 3)) ?_ rfl rfl; refine wpList_load_row rfl 30 (.tmp 3) rfl g5 rfl 30 _ (0, 0) _ hg6.out Try.underlying30 rfl (by rw [sumC_size]; exact Hs.out) ?_)
          | (go_at_call 20; (with_reducible refine (a0 _).mono ?_); rintro e w7 ⟨rfl, b7⟩)
          | (go_at_call 17; (with_reducible refine (t0 _).mono ?_); rintro e w8 ⟨rfl, b8⟩))
        have h8 := Lib.hid (((below_trans b7 b8).block g5 hgl).trans hg6.out)
        have bb8 := below_trans (below_trans bb6 b7) b8
        clear b7 b8 g0 a0 t0 hva
        have HL := Lib.hid (run_loadCellsFrom_row (P := Try.prog) w8.drew g5 30 (sumC S) (0, 0) h8.out 40 (sumC_size _))
        go_region_with (first
          | (rw [Try.isAgg30]; simp only [Result.andThen_ok, if_true, run_sizeOf_info Hs.out, HL.out])
          | (go_at_call 21; (with_reducible refine (iP _).mono ?_); rintro e w9 ⟨rfl, rfl⟩)
          | (go_at_call 26; (with_reducible refine (nU _).mono ?_); rintro e w10 ⟨rfl, rfl⟩)
          | (go_at_call 20; (with_reducible refine (a1 _).mono ?_); rintro e w11 ⟨rfl, b11⟩)
          | (go_at_call 17; (with_reducible refine (t1 _).mono ?_); rintro e w12 ⟨rfl, b12⟩))
        all_goals
          have h12 := Lib.hid (((below_trans b11 b12).block g5 (heap_lt h8.out)).trans h8.out)
          have bb12 := below_trans (below_trans bb8.drew b11) b12
          clear HL b11 b12 h8 bb8 hg6 bb6
          go_wp2_with fail
          have HL := Lib.hid (run_loadCellsFrom_row (P := Try.prog) w12.drew g5 30 (sumC S) (0, 0) h12.out 40 (sumC_size _))
          go_region_with (first
            | (rw [Try.isAgg30]; simp only [Result.andThen_ok, if_true, run_sizeOf_info Hs.out, HL.out])
            | (go_at_call 21; (with_reducible refine (iM _).mono ?_); rintro e w9 ⟨rfl, rfl⟩)
            | (go_at_call 26; (with_reducible refine (nD _).mono ?_); rintro e w10 ⟨rfl, rfl⟩)
            | (go_at_call 20; (with_reducible refine (a2 _).mono ?_); rintro e w13 ⟨rfl, b13⟩)
            | (go_at_call 17; (with_reducible refine (t2 _).mono ?_); rintro e w14 ⟨rfl, b14⟩))
          all_goals
            have bb14 := below_trans (below_trans bb12.drew b13) b14
            clear HL b13 b14 bb12 h12
            go_wp2_with (first
              | (go_at_call 27; (first | (with_reducible refine (f0 _).mono ?_) | (with_reducible refine (f1 _).mono ?_) | (with_reducible refine (f2 _).mono ?_)); rintro e w15 ⟨rfl, rfl⟩))
            go_ret
            exact ⟨rfl, bb14⟩
theorem near_walk (W : World) (A : Option Addr) (cap : Nat) (xs : List Nat) (hc : xs.length ≤ cap) (hl : cap ≤ maxLen) (hr : FReads W A xs) (hw : Words64 xs) :
    Calls Try.prog 8 #[.slice A xs.length cap] W fun e w' => e = .returned (.bool true) ∧ Below W.heap.size W w' := by
  unfold maxLen at hl
  exact near_any A cap xs W hr hw (by omega)
end Go.Proofs.Ytejkilgpcbdepaa
