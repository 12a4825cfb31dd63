import Derived.Test.YtejkilgpcbdepaaExL
import Derived.Test.YtejkilgpcbdepaaExRef
import Derived.Test.YtejkilgpcbdepaaExInf
/-! Exact sums: what is no finite number. -/
namespace Go.Proofs.Ytejkilgpcbdepaa
open Go.RowKit
set_option linter.unusedVariables false
attribute [-simp] Try.isAgg30 Try.sizeOf30 Try.typeInfo30 Try.type30

theorem sum_flags (xs : List Nat) (h : ∀ i, i < xs.length → nanB (fd xs i) = false ∧ infB (fd xs i) = false) : ∀ k, k ≤ xs.length → (sumOf (xs.take k)).nan = false ∧ (sumOf (xs.take k)).pos = false ∧ (sumOf (xs.take k)).neg = false := by
  intro k
  induction k with
  | zero => intro _; exact ⟨rfl, rfl, rfl⟩
  | succ k ih =>
    intro hk
    obtain ⟨h1, h2, h3⟩ := ih (by omega)
    obtain ⟨n1, n2⟩ := h k (by omega)
    rw [sumOf_snoc xs k (by omega)]
    unfold addSt
    rw [if_neg (by rw [n1, n2]; simp)]
    split <;> exact ⟨h1, h2, h3⟩
/-- A sum of finite numbers, and one that is none. -/
def endSt (s : St) (a b c : Bool) : St := { s with nan := a, pos := b, neg := c, any := true, other := true }
theorem end_nan (s : St) : addSt s 9221120237041090561 = endSt s true s.pos s.neg := by
  unfold addSt
  rw [if_pos (.inl (by decide))]
  have h1 : nanB 9221120237041090561 = true := by decide
  have h2 : infP 9221120237041090561 = false := by decide
  have h3 : infM 9221120237041090561 = false := by decide
  simp [h1, h2, h3, endSt]
theorem end_pos (s : St) : addSt s 9218868437227405312 = endSt s s.nan true s.neg := by
  unfold addSt
  rw [if_pos (.inr (by decide))]
  have h1 : nanB 9218868437227405312 = false := by decide
  have h2 : infP 9218868437227405312 = true := by decide
  have h3 : infM 9218868437227405312 = false := by decide
  simp [h1, h2, h3, endSt]
theorem end_neg (s : St) : addSt s 18442240474082181120 = endSt s s.nan s.pos true := by
  unfold addSt
  rw [if_pos (.inr (by decide))]
  have h1 : nanB 18442240474082181120 = false := by decide
  have h2 : infP 18442240474082181120 = false := by decide
  have h3 : infM 18442240474082181120 = true := by decide
  simp [h1, h2, h3, endSt]
theorem end_end (s : St) (a b c a' b' c' : Bool) : endSt (endSt s a b c) a' b' c' = endSt s a' b' c' := rfl
theorem end_val (s : St) (a b c : Bool) (h : (a || b || c) = true) : valSt (endSt s a b c) = (specVal a b c, false) := by
  unfold valSt
  exact if_pos h

set_option maxHeartbeats 8000000 in
theorem ends_any (A : Option Addr) (cap : Nat) (xs : List Nat) (wh : Int) (w : World) (hr : FReads w A xs) (h64 : Words64 xs) (hxl : xs.length ≤ 9223372036854775807) (hwh : 0 ≤ wh ∧ wh ≤ 255) :
    Calls Try.prog 4 #[.slice A xs.length cap, .int .u8 wh] w fun e w' => e = .returned (.bool true) ∧ Below w.heap.size w w' := by
  have Hs := Lib.hid size30
  have aw := awake_any
  by_cases h20 : 20 < xs.length
  · go_enter Try.func4, Try.ntmps4
    go_wp2_with (go_at_call 13; (with_reducible refine (aw _).mono ?_); rintro e w1 ⟨rfl, b1⟩)
    go_ret
    exact ⟨rfl, below_trans (by assumption) b1⟩
  · have hof := fun w1 (b : Below w.heap.size w w1) => of_list A cap xs w1 (hr.below b) h64 (by omega)
    go_enter Try.func4, Try.ntmps4
    go_wp2_with (go_at_call 13; (with_reducible refine (aw _).mono ?_); rintro e w1 ⟨rfl, b1⟩)
    go_loop [5] (fun i => ∃ k : Nat, k ≤ xs.length ∧ i = .int .i64 k ∧ ∀ j, j < k → nanB (fd xs j) = false ∧ infB (fd xs j) = false) (fun i => xs.length - (intOf i).toNat)
    case atStart => exact ⟨0, Nat.zero_le _, rfl, fun j hj => absurd hj (by omega)⟩
    case round =>
      obtain ⟨k, hk, rfl, hfin⟩ := hrel
      have Hfin := Lib.hid hfin
      clear hfin
      by_cases hlt : k < xs.length
      · obtain ⟨a, rfl, c0⟩ := (hr.below b1) k hlt
        have n1 := fun w => isNaN_any (fd xs k) w
        have n2 := fun w => isInf_any (fd xs k) w (h64 k hlt)
        cases hn : nanB (fd xs k) <;> cases hi : infB (fd xs k)
        all_goals
          rw [hn] at n1
          rw [hi] at n2
          have Hn := Lib.hid hn
          have Hi := Lib.hid hi
          generalize fd xs k = x at c0 n1 n2
          clear hn hi
          go_wp2_with (first
            | (go_at_call 14; (with_reducible refine (n1 _).mono ?_); rintro e w5 ⟨rfl, rfl⟩)
            | (go_at_call 15; (with_reducible refine (n2 _).mono ?_); rintro e w5 ⟨rfl, rfl⟩))
          first
            | (go_ret; exact ⟨rfl, b1⟩)
            | (exact ⟨⟨k + 1, by omega, by go_num, fun j hj => by
                by_cases hjk : j = k
                · rw [hjk]; exact ⟨Hn.out, Hi.out⟩
                · exact Hfin.out j (by omega)⟩, by simp [intOf]; omega⟩)
      · obtain rfl : k = xs.length := by omega
        obtain ⟨f1, f2, f3⟩ := sum_flags xs Hfin.out xs.length (Nat.le_refl _)
        rw [List.take_length] at f1 f2 f3
        have hof1 := hof w1 b1
        generalize sumOf xs = S at *
        clear hof Hfin hr
        have hnan := nan_any
        have hinfP := fun w => infP_any w 1 (by omega)
        have hinfM := fun w => infM_any w (-1) (by omega)
        have aN := fun s w => add_any s 9221120237041090561 w (by decide)
        have aP := fun s w => add_any s 9218868437227405312 w (by decide)
        have aM := fun s w => add_any s 18442240474082181120 w (by decide)
        have hsm := fun (x y : Nat) w (hx : x < 18446744073709551616) (hy : y < 18446744073709551616) => refSame_any x y w hx hy
        have hcase : wh % 5 = 0 ∨ wh % 5 = 1 ∨ wh % 5 = 2 ∨ wh % 5 = 3 ∨ wh % 5 = 4 := by omega
        have hZ : ∃ Z : Array Value, Z.size = 40 ∧ ∀ w, (zeroValue 30).run Try.prog w = .ok (.agg Z) w := ⟨_, sumC_size _, zero30⟩
        obtain ⟨Z, hZ, zz⟩ := hZ
        rcases hcase with hc | hc | hc | hc | hc
        · have a1 : ∀ w, Calls Try.prog 20 #[.agg (sumC S), .float .f64 9221120237041090561] w fun e w' => e = .returned (.agg (sumC (endSt S true false false))) ∧ Below w.heap.size w w' := fun w => by
            have := aN S w
            rw [end_nan, f2, f3] at this
            exact this
          have hv : ∀ w, Calls Try.prog 17 #[.agg (sumC (endSt S true false false))] w fun e w' => e = .returned (.tuple #[.float .f64 9221120237041090561, .bool false]) ∧ Below w.heap.size w w' := fun w => by
            have := value_any (endSt S true false false) w
            rw [end_val _ _ _ _ rfl] at this
            exact this
          have hs : ∀ w, Calls Try.prog 18 #[.float .f64 9221120237041090561, .float .f64 9221120237041090561] w fun e w' => e = .returned (.bool true) ∧ w = w' := fun w => by
            have := refSame_any 9221120237041090561 9221120237041090561 w (by decide) (by decide)
            rw [show decide (canon 9221120237041090561 = canon 9221120237041090561) = true by simp] at this
            exact this
          go_wp2_with (first
            | (go_at_call 16; (with_reducible refine hof1.mono ?_); rintro e w2 ⟨rfl, b2⟩)
            | (refine at_op (.alloc 30) ?_ rfl; refine wpList_alloc_row rfl _ 30 rfl (some 6) rfl w2.heap.size rfl Z zz ?_)
            | (refine at_op (.store 30 (.tmp 6) (.tmp 37)) ?_ rfl; refine wpList_store_row rfl 30 (.tmp 6) (.tmp 37) rfl w2.heap.size (sumC S) rfl rfl 30 Z (heap_alloc_new w2 _) (by rw [sumC_size]; exact Hs.out) (by rw [hZ, sumC_size]) (sumC_one _) ?_; rw [World.setRow_alloc_new])
            | (go_at_call 19; (with_reducible refine (hnan _).mono ?_); rintro e w3 ⟨rfl, rfl⟩))
          have hg := heap_alloc_new w2 (.cells (sumC S) 30)
          have bb := below_alloc (below_trans b1 b2) (.cells (sumC S) 30)
          have hge := (below_trans b1 b2).size
          generalize w2.heap.size = g at *
          generalize w2.alloc (.cells (sumC S) 30) = w4 at *
          have HL := Lib.hid (run_loadCellsFrom_row (P := Try.prog) w4.drew g 30 (sumC S) (0, 0) hg 40 (sumC_size _))
          have hgl := heap_lt hg
          have Hg := Lib.hid hg
          clear hg b1 b2 hof1
          go_region_with (first
            | (rw [Try.isAgg30]; simp only [Result.andThen_ok, if_true, run_sizeOf_info Hs.out, HL.out])
            | (go_at_call 19; (with_reducible refine (hnan _).mono ?_); rintro e w3 ⟨rfl, rfl⟩)
            | (go_at_call 21; (first | ((with_reducible refine (hinfP _).mono ?_); rintro e w3 ⟨rfl, rfl⟩) | ((with_reducible refine (hinfM _).mono ?_); rintro e w3 ⟨rfl, rfl⟩)))
            | (go_at_call 20; (with_reducible refine (a1 _).mono ?_); rintro e w5 ⟨rfl, b5⟩)
            | (rw [run_sizeOf_info Hs.out]; simp only [Result.andThen_ok, if_true, sumC_size, run_storeCells_row w5 g 30 (sumC S) (sumC (endSt S true false false)) ((b5.block _ hgl).trans Hg.out) (by rw [sumC_size]; exact Hs.out) (by rw [sumC_size, sumC_size]) (sumC_one _)]))
          all_goals
            have hg2 := Lib.hid (setRow_heap _ _ _ (sumC (endSt S true false false)) _ _ ((b5.block _ hgl).trans Hg.out))
            have bb2 := below_setRow (below_trans bb.drew b5) hge (sumC (endSt S true false false))
            generalize w5.setRow g (sumC (endSt S true false false)) = w7 at *
            go_wp2_with (first
            | (refine at_op0 (.load 30 (.tmp 6)) ?_ rfl rfl; refine wpList_load_row rfl 30 (.tmp 6) rfl g rfl 30 _ (0, 0) _ hg2.out Try.underlying30 rfl (by rw [sumC_size]; exact Hs.out) ?_)
            | (go_at_call 17; (with_reducible refine (hv _).mono ?_); rintro e w8 ⟨rfl, b8⟩)
            | (go_at_call 18; (with_reducible refine (hs _).mono ?_); rintro e w9 ⟨rfl, rfl⟩)
            | (go_at_call 19; (with_reducible refine (hnan _).mono ?_); rintro e w3 ⟨rfl, rfl⟩)
            | (go_at_call 21; (first | ((with_reducible refine (hinfP _).mono ?_); rintro e w3 ⟨rfl, rfl⟩) | ((with_reducible refine (hinfM _).mono ?_); rintro e w3 ⟨rfl, rfl⟩))))
            go_ret
            exact ⟨rfl, below_trans bb2 b8⟩
        · have a1 : ∀ w, Calls Try.prog 20 #[.agg (sumC S), .float .f64 9218868437227405312] w fun e w' => e = .returned (.agg (sumC (endSt S false true false))) ∧ Below w.heap.size w w' := fun w => by
            have := aP S w
            rw [end_pos, f1, f3] at this
            exact this
          have hv : ∀ w, Calls Try.prog 17 #[.agg (sumC (endSt S false true false))] w fun e w' => e = .returned (.tuple #[.float .f64 9218868437227405312, .bool false]) ∧ Below w.heap.size w w' := fun w => by
            have := value_any (endSt S false true false) w
            rw [end_val _ _ _ _ rfl] at this
            exact this
          have hs : ∀ w, Calls Try.prog 18 #[.float .f64 9218868437227405312, .float .f64 9218868437227405312] w fun e w' => e = .returned (.bool true) ∧ w = w' := fun w => by
            have := refSame_any 9218868437227405312 9218868437227405312 w (by decide) (by decide)
            rw [show decide (canon 9218868437227405312 = canon 9218868437227405312) = true by simp] at this
            exact this
          go_wp2_with (first
            | (go_at_call 16; (with_reducible refine hof1.mono ?_); rintro e w2 ⟨rfl, b2⟩)
            | (refine at_op (.alloc 30) ?_ rfl; refine wpList_alloc_row rfl _ 30 rfl (some 6) rfl w2.heap.size rfl Z zz ?_)
            | (refine at_op (.store 30 (.tmp 6) (.tmp 37)) ?_ rfl; refine wpList_store_row rfl 30 (.tmp 6) (.tmp 37) rfl w2.heap.size (sumC S) rfl rfl 30 Z (heap_alloc_new w2 _) (by rw [sumC_size]; exact Hs.out) (by rw [hZ, sumC_size]) (sumC_one _) ?_; rw [World.setRow_alloc_new])
            | (go_at_call 19; (with_reducible refine (hnan _).mono ?_); rintro e w3 ⟨rfl, rfl⟩))
          have hg := heap_alloc_new w2 (.cells (sumC S) 30)
          have bb := below_alloc (below_trans b1 b2) (.cells (sumC S) 30)
          have hge := (below_trans b1 b2).size
          generalize w2.heap.size = g at *
          generalize w2.alloc (.cells (sumC S) 30) = w4 at *
          have HL := Lib.hid (run_loadCellsFrom_row (P := Try.prog) w4.drew g 30 (sumC S) (0, 0) hg 40 (sumC_size _))
          have hgl := heap_lt hg
          have Hg := Lib.hid hg
          clear hg b1 b2 hof1
          go_region_with (first
            | (rw [Try.isAgg30]; simp only [Result.andThen_ok, if_true, run_sizeOf_info Hs.out, HL.out])
            | (go_at_call 19; (with_reducible refine (hnan _).mono ?_); rintro e w3 ⟨rfl, rfl⟩)
            | (go_at_call 21; (first | ((with_reducible refine (hinfP _).mono ?_); rintro e w3 ⟨rfl, rfl⟩) | ((with_reducible refine (hinfM _).mono ?_); rintro e w3 ⟨rfl, rfl⟩)))
            | (go_at_call 20; (with_reducible refine (a1 _).mono ?_); rintro e w5 ⟨rfl, b5⟩)
            | (rw [run_sizeOf_info Hs.out]; simp only [Result.andThen_ok, if_true, sumC_size, run_storeCells_row w5 g 30 (sumC S) (sumC (endSt S false true false)) ((b5.block _ hgl).trans Hg.out) (by rw [sumC_size]; exact Hs.out) (by rw [sumC_size, sumC_size]) (sumC_one _)]))
          all_goals
            have hg2 := Lib.hid (setRow_heap _ _ _ (sumC (endSt S false true false)) _ _ ((b5.block _ hgl).trans Hg.out))
            have bb2 := below_setRow (below_trans bb.drew b5) hge (sumC (endSt S false true false))
            generalize w5.setRow g (sumC (endSt S false true false)) = w7 at *
            go_wp2_with (first
            | (refine at_op0 (.load 30 (.tmp 6)) ?_ rfl rfl; refine wpList_load_row rfl 30 (.tmp 6) rfl g rfl 30 _ (0, 0) _ hg2.out Try.underlying30 rfl (by rw [sumC_size]; exact Hs.out) ?_)
            | (go_at_call 17; (with_reducible refine (hv _).mono ?_); rintro e w8 ⟨rfl, b8⟩)
            | (go_at_call 18; (with_reducible refine (hs _).mono ?_); rintro e w9 ⟨rfl, rfl⟩)
            | (go_at_call 19; (with_reducible refine (hnan _).mono ?_); rintro e w3 ⟨rfl, rfl⟩)
            | (go_at_call 21; (first | ((with_reducible refine (hinfP _).mono ?_); rintro e w3 ⟨rfl, rfl⟩) | ((with_reducible refine (hinfM _).mono ?_); rintro e w3 ⟨rfl, rfl⟩))))
            go_ret
            exact ⟨rfl, below_trans bb2 b8⟩
        · have a1 : ∀ w, Calls Try.prog 20 #[.agg (sumC S), .float .f64 18442240474082181120] w fun e w' => e = .returned (.agg (sumC (endSt S false false true))) ∧ Below w.heap.size w w' := fun w => by
            have := aM S w
            rw [end_neg, f1, f2] at this
            exact this
          have hv : ∀ w, Calls Try.prog 17 #[.agg (sumC (endSt S false false true))] w fun e w' => e = .returned (.tuple #[.float .f64 18442240474082181120, .bool false]) ∧ Below w.heap.size w w' := fun w => by
            have := value_any (endSt S false false true) w
            rw [end_val _ _ _ _ rfl] at this
            exact this
          have hs : ∀ w, Calls Try.prog 18 #[.float .f64 18442240474082181120, .float .f64 18442240474082181120] w fun e w' => e = .returned (.bool true) ∧ w = w' := fun w => by
            have := refSame_any 18442240474082181120 18442240474082181120 w (by decide) (by decide)
            rw [show decide (canon 18442240474082181120 = canon 18442240474082181120) = true by simp] at this
            exact this
          go_wp2_with (first
            | (go_at_call 16; (with_reducible refine hof1.mono ?_); rintro e w2 ⟨rfl, b2⟩)
            | (refine at_op (.alloc 30) ?_ rfl; refine wpList_alloc_row rfl _ 30 rfl (some 6) rfl w2.heap.size rfl Z zz ?_)
            | (refine at_op (.store 30 (.tmp 6) (.tmp 37)) ?_ rfl; refine wpList_store_row rfl 30 (.tmp 6) (.tmp 37) rfl w2.heap.size (sumC S) rfl rfl 30 Z (heap_alloc_new w2 _) (by rw [sumC_size]; exact Hs.out) (by rw [hZ, sumC_size]) (sumC_one _) ?_; rw [World.setRow_alloc_new])
            | (go_at_call 19; (with_reducible refine (hnan _).mono ?_); rintro e w3 ⟨rfl, rfl⟩))
          have hg := heap_alloc_new w2 (.cells (sumC S) 30)
          have bb := below_alloc (below_trans b1 b2) (.cells (sumC S) 30)
          have hge := (below_trans b1 b2).size
          generalize w2.heap.size = g at *
          generalize w2.alloc (.cells (sumC S) 30) = w4 at *
          have HL := Lib.hid (run_loadCellsFrom_row (P := Try.prog) w4.drew g 30 (sumC S) (0, 0) hg 40 (sumC_size _))
          have hgl := heap_lt hg
          have Hg := Lib.hid hg
          clear hg b1 b2 hof1
          go_region_with (first
            | (rw [Try.isAgg30]; simp only [Result.andThen_ok, if_true, run_sizeOf_info Hs.out, HL.out])
            | (go_at_call 19; (with_reducible refine (hnan _).mono ?_); rintro e w3 ⟨rfl, rfl⟩)
            | (go_at_call 21; (first | ((with_reducible refine (hinfP _).mono ?_); rintro e w3 ⟨rfl, rfl⟩) | ((with_reducible refine (hinfM _).mono ?_); rintro e w3 ⟨rfl, rfl⟩)))
            | (go_at_call 20; (with_reducible refine (a1 _).mono ?_); rintro e w5 ⟨rfl, b5⟩)
            | (rw [run_sizeOf_info Hs.out]; simp only [Result.andThen_ok, if_true, sumC_size, run_storeCells_row w5 g 30 (sumC S) (sumC (endSt S false false true)) ((b5.block _ hgl).trans Hg.out) (by rw [sumC_size]; exact Hs.out) (by rw [sumC_size, sumC_size]) (sumC_one _)]))
          all_goals
            have hg2 := Lib.hid (setRow_heap _ _ _ (sumC (endSt S false false true)) _ _ ((b5.block _ hgl).trans Hg.out))
            have bb2 := below_setRow (below_trans bb.drew b5) hge (sumC (endSt S false false true))
            generalize w5.setRow g (sumC (endSt S false false true)) = w7 at *
            go_wp2_with (first
            | (refine at_op0 (.load 30 (.tmp 6)) ?_ rfl rfl; refine wpList_load_row rfl 30 (.tmp 6) rfl g rfl 30 _ (0, 0) _ hg2.out Try.underlying30 rfl (by rw [sumC_size]; exact Hs.out) ?_)
            | (go_at_call 17; (with_reducible refine (hv _).mono ?_); rintro e w8 ⟨rfl, b8⟩)
            | (go_at_call 18; (with_reducible refine (hs _).mono ?_); rintro e w9 ⟨rfl, rfl⟩)
            | (go_at_call 19; (with_reducible refine (hnan _).mono ?_); rintro e w3 ⟨rfl, rfl⟩)
            | (go_at_call 21; (first | ((with_reducible refine (hinfP _).mono ?_); rintro e w3 ⟨rfl, rfl⟩) | ((with_reducible refine (hinfM _).mono ?_); rintro e w3 ⟨rfl, rfl⟩))))
            go_ret
            exact ⟨rfl, below_trans bb2 b8⟩
        · have a1 : ∀ w, Calls Try.prog 20 #[.agg (sumC S), .float .f64 9218868437227405312] w fun e w' => e = .returned (.agg (sumC (endSt S false true false))) ∧ Below w.heap.size w w' := fun w => by
            have := aP S w
            rw [end_pos, f1, f3] at this
            exact this
          have a2 : ∀ w, Calls Try.prog 20 #[.agg (sumC (endSt S false true false)), .float .f64 18442240474082181120] w fun e w' => e = .returned (.agg (sumC (endSt S false true true))) ∧ Below w.heap.size w w' := fun w => by
            have := aM (endSt S false true false) w
            rw [end_neg] at this
            exact this
          have hv : ∀ w, Calls Try.prog 17 #[.agg (sumC (endSt S false true true))] w fun e w' => e = .returned (.tuple #[.float .f64 9221120237041090561, .bool false]) ∧ Below w.heap.size w w' := fun w => by
            have := value_any (endSt S false true true) w
            rw [end_val _ _ _ _ rfl] at this
            exact this
          have hs : ∀ w, Calls Try.prog 18 #[.float .f64 9221120237041090561, .float .f64 9221120237041090561] w fun e w' => e = .returned (.bool true) ∧ w = w' := fun w => by
            have := refSame_any 9221120237041090561 9221120237041090561 w (by decide) (by decide)
            rw [show decide (canon 9221120237041090561 = canon 9221120237041090561) = true by simp] at this
            exact this
          go_wp2_with (first
            | (go_at_call 16; (with_reducible refine hof1.mono ?_); rintro e w2 ⟨rfl, b2⟩)
            | (refine at_op (.alloc 30) ?_ rfl; refine wpList_alloc_row rfl _ 30 rfl (some 6) rfl w2.heap.size rfl Z zz ?_)
            | (refine at_op (.store 30 (.tmp 6) (.tmp 37)) ?_ rfl; refine wpList_store_row rfl 30 (.tmp 6) (.tmp 37) rfl w2.heap.size (sumC S) rfl rfl 30 Z (heap_alloc_new w2 _) (by rw [sumC_size]; exact Hs.out) (by rw [hZ, sumC_size]) (sumC_one _) ?_; rw [World.setRow_alloc_new])
            | (go_at_call 19; (with_reducible refine (hnan _).mono ?_); rintro e w3 ⟨rfl, rfl⟩))
          have hg := heap_alloc_new w2 (.cells (sumC S) 30)
          have bb := below_alloc (below_trans b1 b2) (.cells (sumC S) 30)
          have hge := (below_trans b1 b2).size
          generalize w2.heap.size = g at *
          generalize w2.alloc (.cells (sumC S) 30) = w4 at *
          have HL := Lib.hid (run_loadCellsFrom_row (P := Try.prog) w4.drew g 30 (sumC S) (0, 0) hg 40 (sumC_size _))
          have hgl := heap_lt hg
          have Hg := Lib.hid hg
          clear hg b1 b2 hof1
          go_region_with (first
            | (rw [Try.isAgg30]; simp only [Result.andThen_ok, if_true, run_sizeOf_info Hs.out, HL.out])
            | (go_at_call 19; (with_reducible refine (hnan _).mono ?_); rintro e w3 ⟨rfl, rfl⟩)
            | (go_at_call 21; (first | ((with_reducible refine (hinfP _).mono ?_); rintro e w3 ⟨rfl, rfl⟩) | ((with_reducible refine (hinfM _).mono ?_); rintro e w3 ⟨rfl, rfl⟩)))
            | (go_at_call 20; (first | ((with_reducible refine (a1 _).mono ?_); rintro e w5 ⟨rfl, b5⟩) | ((with_reducible refine (a2 _).mono ?_); rintro e w6 ⟨rfl, b6⟩)))
            | (rw [run_sizeOf_info Hs.out]; simp only [Result.andThen_ok, if_true, sumC_size, run_storeCells_row w6 g 30 (sumC S) (sumC (endSt S false true true)) ((b6.block _ (Nat.lt_of_lt_of_le hgl b5.size)).trans ((b5.block _ hgl).trans Hg.out)) (by rw [sumC_size]; exact Hs.out) (by rw [sumC_size, sumC_size]) (sumC_one _)]))
          all_goals
            have hg2 := Lib.hid (setRow_heap _ _ _ (sumC (endSt S false true true)) _ _ ((b6.block _ (Nat.lt_of_lt_of_le hgl b5.size)).trans ((b5.block _ hgl).trans Hg.out)))
            have bb2 := below_setRow (below_trans (below_trans bb.drew b5) b6) hge (sumC (endSt S false true true))
            generalize w6.setRow g (sumC (endSt S false true true)) = w7 at *
            go_wp2_with (first
            | (refine at_op0 (.load 30 (.tmp 6)) ?_ rfl rfl; refine wpList_load_row rfl 30 (.tmp 6) rfl g rfl 30 _ (0, 0) _ hg2.out Try.underlying30 rfl (by rw [sumC_size]; exact Hs.out) ?_)
            | (go_at_call 17; (with_reducible refine (hv _).mono ?_); rintro e w8 ⟨rfl, b8⟩)
            | (go_at_call 18; (with_reducible refine (hs _).mono ?_); rintro e w9 ⟨rfl, rfl⟩)
            | (go_at_call 19; (with_reducible refine (hnan _).mono ?_); rintro e w3 ⟨rfl, rfl⟩)
            | (go_at_call 21; (first | ((with_reducible refine (hinfP _).mono ?_); rintro e w3 ⟨rfl, rfl⟩) | ((with_reducible refine (hinfM _).mono ?_); rintro e w3 ⟨rfl, rfl⟩))))
            go_ret
            exact ⟨rfl, below_trans bb2 b8⟩
        · have a1 : ∀ w, Calls Try.prog 20 #[.agg (sumC S), .float .f64 18442240474082181120] w fun e w' => e = .returned (.agg (sumC (endSt S false false true))) ∧ Below w.heap.size w w' := fun w => by
            have := aM S w
            rw [end_neg, f1, f2] at this
            exact this
          have a2 : ∀ w, Calls Try.prog 20 #[.agg (sumC (endSt S false false true)), .float .f64 9221120237041090561] w fun e w' => e = .returned (.agg (sumC (endSt S true false true))) ∧ Below w.heap.size w w' := fun w => by
            have := aN (endSt S false false true) w
            rw [end_nan] at this
            exact this
          have hv : ∀ w, Calls Try.prog 17 #[.agg (sumC (endSt S true false true))] w fun e w' => e = .returned (.tuple #[.float .f64 9221120237041090561, .bool false]) ∧ Below w.heap.size w w' := fun w => by
            have := value_any (endSt S true false true) w
            rw [end_val _ _ _ _ rfl] at this
            exact this
          have hs : ∀ w, Calls Try.prog 18 #[.float .f64 9221120237041090561, .float .f64 9221120237041090561] w fun e w' => e = .returned (.bool true) ∧ w = w' := fun w => by
            have := refSame_any 9221120237041090561 9221120237041090561 w (by decide) (by decide)
            rw [show decide (canon 9221120237041090561 = canon 9221120237041090561) = true by simp] at this
            exact this
          go_wp2_with (first
            | (go_at_call 16; (with_reducible refine hof1.mono ?_); rintro e w2 ⟨rfl, b2⟩)
            | (refine at_op (.alloc 30) ?_ rfl; refine wpList_alloc_row rfl _ 30 rfl (some 6) rfl w2.heap.size rfl Z zz ?_)
            | (refine at_op (.store 30 (.tmp 6) (.tmp 37)) ?_ rfl; refine wpList_store_row rfl 30 (.tmp 6) (.tmp 37) rfl w2.heap.size (sumC S) rfl rfl 30 Z (heap_alloc_new w2 _) (by rw [sumC_size]; exact Hs.out) (by rw [hZ, sumC_size]) (sumC_one _) ?_; rw [World.setRow_alloc_new])
            | (go_at_call 19; (with_reducible refine (hnan _).mono ?_); rintro e w3 ⟨rfl, rfl⟩))
          have hg := heap_alloc_new w2 (.cells (sumC S) 30)
          have bb := below_alloc (below_trans b1 b2) (.cells (sumC S) 30)
          have hge := (below_trans b1 b2).size
          generalize w2.heap.size = g at *
          generalize w2.alloc (.cells (sumC S) 30) = w4 at *
          have HL := Lib.hid (run_loadCellsFrom_row (P := Try.prog) w4.drew g 30 (sumC S) (0, 0) hg 40 (sumC_size _))
          have hgl := heap_lt hg
          have Hg := Lib.hid hg
          clear hg b1 b2 hof1
          go_region_with (first
            | (rw [Try.isAgg30]; simp only [Result.andThen_ok, if_true, run_sizeOf_info Hs.out, HL.out])
            | (go_at_call 19; (with_reducible refine (hnan _).mono ?_); rintro e w3 ⟨rfl, rfl⟩)
            | (go_at_call 21; (first | ((with_reducible refine (hinfP _).mono ?_); rintro e w3 ⟨rfl, rfl⟩) | ((with_reducible refine (hinfM _).mono ?_); rintro e w3 ⟨rfl, rfl⟩)))
            | (go_at_call 20; (first | ((with_reducible refine (a1 _).mono ?_); rintro e w5 ⟨rfl, b5⟩) | ((with_reducible refine (a2 _).mono ?_); rintro e w6 ⟨rfl, b6⟩)))
            | (rw [run_sizeOf_info Hs.out]; simp only [Result.andThen_ok, if_true, sumC_size, run_storeCells_row w6 g 30 (sumC S) (sumC (endSt S true false true)) ((b6.block _ (Nat.lt_of_lt_of_le hgl b5.size)).trans ((b5.block _ hgl).trans Hg.out)) (by rw [sumC_size]; exact Hs.out) (by rw [sumC_size, sumC_size]) (sumC_one _)]))
          all_goals
            have hg2 := Lib.hid (setRow_heap _ _ _ (sumC (endSt S true false true)) _ _ ((b6.block _ (Nat.lt_of_lt_of_le hgl b5.size)).trans ((b5.block _ hgl).trans Hg.out)))
            have bb2 := below_setRow (below_trans (below_trans bb.drew b5) b6) hge (sumC (endSt S true false true))
            generalize w6.setRow g (sumC (endSt S true false true)) = w7 at *
            go_wp2_with (first
            | (refine at_op0 (.load 30 (.tmp 6)) ?_ rfl rfl; refine wpList_load_row rfl 30 (.tmp 6) rfl g rfl 30 _ (0, 0) _ hg2.out Try.underlying30 rfl (by rw [sumC_size]; exact Hs.out) ?_)
            | (go_at_call 17; (with_reducible refine (hv _).mono ?_); rintro e w8 ⟨rfl, b8⟩)
            | (go_at_call 18; (with_reducible refine (hs _).mono ?_); rintro e w9 ⟨rfl, rfl⟩)
            | (go_at_call 19; (with_reducible refine (hnan _).mono ?_); rintro e w3 ⟨rfl, rfl⟩)
            | (go_at_call 21; (first | ((with_reducible refine (hinfP _).mono ?_); rintro e w3 ⟨rfl, rfl⟩) | ((with_reducible refine (hinfM _).mono ?_); rintro e w3 ⟨rfl, rfl⟩))))
            go_ret
            exact ⟨rfl, below_trans bb2 b8⟩
theorem ends_walk (W : World) (A : Option Addr) (cap : Nat) (xs : List Nat) (hc : xs.length ≤ cap) (hl : cap ≤ maxLen) (hr : FReads W A xs) (hw : Words64 xs) (a1 : Int) (wa1 : (Lit.int .u8 a1).wf = true) :
    Calls Try.prog 4 #[.slice A xs.length cap, .int .u8 a1] W fun e w' => e = .returned (.bool true) ∧ Below W.heap.size W w' := by
  simp [Lit.wf, IntKind.min, IntKind.max, IntKind.bits, IntKind.signed] at wa1
  unfold maxLen at hl
  exact ends_any A cap xs a1 W hr hw (by omega) (by omega)
end Go.Proofs.Ytejkilgpcbdepaa
