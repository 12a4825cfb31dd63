import Derived.Test.YtejkilgpcbdepaaExK
/-! Exact sums: noughts. -/
namespace Go.Proofs.Ytejkilgpcbdepaa
open Go.RowKit
set_option linter.unusedVariables false

theorem signbit_any (x : Nat) (w : World) (hx : x < 18446744073709551616) : Calls Try.prog 24 #[.float .f64 x] w fun e w' => e = .returned (.bool (decide (9223372036854775808 ≤ x))) ∧ w = w' := by
  have hg := run_bits
  have hw : IntKind.i64.wrap (x : Int) = if 9223372036854775808 ≤ x then (x : Int) - 18446744073709551616 else (x : Int) := by
    rw [IntKind.wrap_i64]; split <;> omega
  by_cases h : 9223372036854775808 ≤ x
  · rw [if_pos h] at hw
    have ho : ¬ (0 : Int) ≤ (x : Int) - 18446744073709551616 := by omega
    rw [decide_eq_true h]
    clear h
    go_enter Try.func24, Try.ntmps24
    go_wp2
    go_ret
    exact ⟨ret_b (by simp; try omega), rfl⟩
  · rw [if_neg h] at hw
    rw [decide_eq_false h]
    clear h
    go_enter Try.func24, Try.ntmps24
    go_wp2
    go_ret
    exact ⟨ret_b (by simp; try omega), rfl⟩


attribute [-simp] Try.isAgg30 Try.sizeOf30 Try.typeInfo30 Try.type30

theorem any_walk (C : Array Value) (hC : C.size = 40) (a : Bool) (c38 : C[38]? = some (.bool a)) (w : World) : Calls Try.prog 25 #[.agg C] w fun e w' => e = .returned (.bool a) ∧ Below w.heap.size w w' := by
  have h38 := at_of (by omega) c38
  have hb1 : ∀ (o1 : Obj), Below w.heap.size w (w.alloc o1) := fun o1 => below_alloc (Below.refl _ _) _
  clear c38
  go_enter Try.func25, Try.ntmps25
  go_wp2
  go_ret
  exact ⟨rfl, hb1 _⟩
theorem any_any (s : St) (w : World) : Calls Try.prog 25 #[.agg (sumC s)] w fun e w' => e = .returned (.bool s.any) ∧ Below w.heap.size w w' :=
  any_walk (sumC s) (sumC_size s) s.any (sumC_f s 3) w
/-- Noughts with a sign. -/
def zs (k : Nat) : St := ⟨0, false, false, false, decide (0 < k), false⟩
theorem zs_step (k : Nat) : addSt (zs k) 9223372036854775808 = zs (k + 1) := by
  unfold addSt
  rw [if_neg (by decide), if_pos (by decide)]
  unfold zs
  have : negB 9223372036854775808 = true := by decide
  simp [this]
theorem zs_plain (k : Nat) : addSt (zs k) 0 = ⟨0, false, false, false, true, true⟩ := by
  unfold addSt
  rw [if_neg (by decide), if_pos (by decide)]
  unfold zs
  have : negB 0 = false := by decide
  simp [this]
theorem val_zero_of (a o : Bool) : valSt ⟨0, false, false, false, a, o⟩ = (if (a && !o) = true then 9223372036854775808 else 0, false) := by
  unfold valSt valOf
  have h : absOf 0 = 0 := by
    have h' : ¬ sgOf 0 = true := by unfold sgOf; rw [wdn_nil]; decide
    unfold absOf
    rw [if_neg h']
    generalize 2 ^ 2240 = M
    exact Nat.zero_mod M
  simp only [h]
  rfl

set_option maxHeartbeats 4000000 in
theorem zeros_any (n : Int) (pl : Bool) (w : World) (hn : 0 ≤ n ∧ n ≤ 255) : Calls Try.prog 7 #[.int .u8 n, .bool pl] w fun e w' => e = .returned (.bool true) ∧ Below w.heap.size w w' := by
  obtain ⟨N, rfl⟩ := Int.eq_ofNat_of_zero_le hn.1
  have Hs := Lib.hid size30
  have aw := awake_any
  have z30 := zero30
  have hcp := copysign_any
  obtain ⟨Z, hZ, zz⟩ : ∃ Z : Array Value, Z = sumC (zs 0) ∧ ∀ w, (zeroValue 30).run Try.prog w = .ok (.agg Z) w := ⟨_, rfl, z30⟩
  have HZ := Lib.hid hZ
  clear hZ z30
  go_enter Try.func7, Try.ntmps7
  go_wp2_with (first
    | (go_at_call 13; (with_reducible refine (aw _).mono ?_); rintro e w1 ⟨rfl, b1⟩)
    | (refine at_op (.alloc 30) ?_ rfl; refine wpList_alloc_row rfl _ 30 rfl (some 5) rfl w1.heap.size rfl Z zz ?_))
  have hg := heap_alloc_new w1 (.cells Z 30)
  have bb := below_alloc b1 (.cells Z 30)
  have hge := b1.size
  rw [HZ.out] at *
  generalize w1.heap.size = g at *
  generalize w1.alloc (.cells (sumC (zs 0)) 30) = w2 at *
  clear b1 aw zz
  go_loopw [6] (fun i wr => ∃ k : Nat, k ≤ N ∧ i = .int .i64 k ∧ wr.heap[g]? = some (.cells (sumC (zs k)) 30 (0, 0)) ∧ Below w.heap.size w wr) (fun i _ => N - (intOf i).toNat)
  case atStart => exact ⟨0, Nat.zero_le _, rfl, hg, bb⟩
  case round =>
    obtain ⟨k, hk, rfl, hs, hb⟩ := hrel
    have Hsu := Lib.hid hs
    have hgl := heap_lt hs
    clear hg bb hs
    by_cases hlt : k < N
    · have hadd := fun w => add_any (zs k) 9223372036854775808 w (by decide)
      rw [zs_step] at hadd
      have HL := Lib.hid (run_loadCellsFrom_row (P := Try.prog) wr.drew g 30 (sumC (zs k)) (0, 0) Hsu.out 40 (sumC_size _))
      have b5d := fun w4 (b4 : Below wr.drew.heap.size wr.drew w4) => (b4.block _ hgl).trans Hsu.out
      go_wp2_with fail
      go_region_with (first
        | (rw [Try.isAgg30]; simp only [Result.andThen_ok, if_true, run_sizeOf_info Hs.out, HL.out])
        | (go_at_call 23; (with_reducible refine (hcp _).mono ?_); rintro e w5 ⟨rfl, rfl⟩)
        | (go_at_call 20; (with_reducible refine (hadd _).mono ?_); rintro e w5 ⟨rfl, b4⟩)
        | (rw [run_sizeOf_info Hs.out]; simp only [Result.andThen_ok, if_true, sumC_size, run_storeCells_row w5 g 30 (sumC (zs k)) (sumC (zs (k + 1))) (b5d w5 b4) (by rw [sumC_size]; exact Hs.out) (by rw [sumC_size, sumC_size]) (sumC_one _)]))
      all_goals
        go_wp2
        exact ⟨⟨k + 1, by omega, by go_num, setRow_heap _ _ _ _ _ _ (b5d w5 b4), below_setRow (below_trans hb.drew b4) hge _⟩, by simp [intOf]; omega⟩
    · obtain rfl : k = N := by omega
      have hsw : (if pl = true then addSt (zs k) 0 else zs k) = ⟨0, false, false, false, decide (0 < k) || pl, pl⟩ := by
        cases pl
        · simp [zs]
        · rw [if_pos rfl, zs_plain]; simp
      have hadd := fun w => add_any (zs k) 0 w (by decide)
      rw [zs_plain] at hadd
      have hz := zs_plain k
      have Hzs : Hid (sumC (zs k) = sumC ⟨0, false, false, false, decide (0 < k), false⟩) := Lib.hid rfl
      have hv1 := fun w => value_any ⟨0, false, false, false, true, true⟩ w
      have hv2 := fun w => value_any ⟨0, false, false, false, decide (0 < k), false⟩ w
      have ha1 := fun w => any_any ⟨0, false, false, false, true, true⟩ w
      have ha2 := fun w => any_any ⟨0, false, false, false, decide (0 < k), false⟩ w
      rw [val_zero_of] at hv1 hv2
      have hsb0 := fun w => signbit_any 0 w (by decide)
      have hsb1 := fun w => signbit_any 9223372036854775808 w (by decide)
      have q0 : (FloatKind.f64.format.order 0 0 == some .eq) = true := by decide
      have q1 : (FloatKind.f64.format.order 9223372036854775808 0 == some .eq) = true := by decide
      have hk0 : ((0 : Int) < (k : Int)) = (0 < k) := by apply propext; omega
      rw [Hzs.out] at Hsu hadd
      clear hsw hz Hzs
      cases pl
      · by_cases h0 : 0 < k
        · have hd0 : decide (0 < k) = true := decide_eq_true h0
          rw [hd0] at Hsu hv2 ha2
          simp only [Bool.not_false, Bool.and_true, if_true] at hv2
          go_wp2_with (first
            | (refine at_op0 (.load 30 (.tmp 5)) ?_ rfl rfl; refine wpList_load_row rfl 30 (.tmp 5) rfl g rfl 30 _ (0, 0) _ Hsu.out Try.underlying30 rfl (by rw [sumC_size]; exact Hs.out) ?_)
            | (refine at_opG (.load 30 (.tmp 5)) (some (17, true)) ?_ rfl rfl; refine wpList_load_rowG rfl 30 (.tmp 5) rfl g rfl 30 _ (0, 0) _ g3h.out Try.underlying30 rfl (by rw [sumC_size]; exact Hs.out) ?_)
            | (go_at_call 17; (with_reducible refine (hv2 _).mono ?_); rintro e w5 ⟨rfl, b5⟩; have g3h := Lib.hid ((b5.block _ hgl).trans Hsu.out))
            | (go_at_call 24; (with_reducible refine (hsb1 _).mono ?_); rintro e w6 ⟨rfl, rfl⟩)
            | (go_at_call 25; (with_reducible refine (ha2 _).mono ?_); rintro e w7 ⟨rfl, b7⟩))
          all_goals first
            | (exfalso; omega)
            | (go_ret; exact ⟨rfl, below_trans (below_trans hb b5) b7⟩)
        · have hd0 : decide (0 < k) = false := decide_eq_false h0
          rw [hd0] at Hsu hv2 ha2
          simp only [Bool.not_false, Bool.and_true, Bool.false_eq_true, if_false] at hv2
          go_wp2_with (first
            | (refine at_op0 (.load 30 (.tmp 5)) ?_ rfl rfl; refine wpList_load_row rfl 30 (.tmp 5) rfl g rfl 30 _ (0, 0) _ Hsu.out Try.underlying30 rfl (by rw [sumC_size]; exact Hs.out) ?_)
            | (refine at_opG (.load 30 (.tmp 5)) (some (17, true)) ?_ rfl rfl; refine wpList_load_rowG rfl 30 (.tmp 5) rfl g rfl 30 _ (0, 0) _ g3h.out Try.underlying30 rfl (by rw [sumC_size]; exact Hs.out) ?_)
            | (go_at_call 17; (with_reducible refine (hv2 _).mono ?_); rintro e w5 ⟨rfl, b5⟩; have g3h := Lib.hid ((b5.block _ hgl).trans Hsu.out))
            | (go_at_call 24; (with_reducible refine (hsb0 _).mono ?_); rintro e w6 ⟨rfl, rfl⟩)
            | (go_at_call 25; (with_reducible refine (ha2 _).mono ?_); rintro e w7 ⟨rfl, b7⟩))
          all_goals first
            | (exfalso; omega)
            | (go_ret; exact ⟨rfl, below_trans (below_trans hb b5) b7⟩)
      · simp only [Bool.not_true, Bool.and_false, Bool.false_eq_true, if_false] at hv1
        go_wp2_with (first
          | (go_at_call 20; (with_reducible refine (hadd _).mono ?_); rintro e w4 ⟨rfl, b4⟩; have gg := Lib.hid ((b4.block _ hgl).trans Hsu.out))
          | (refine at_op (.store 30 (.tmp 5) (.tmp 22)) ?_ rfl; refine wpList_store_row rfl 30 (.tmp 5) (.tmp 22) rfl g (sumC ⟨0, false, false, false, true, true⟩) rfl rfl 30 _ gg.out (by rw [sumC_size]; exact Hs.out) (by rw [sumC_size, sumC_size]) (sumC_one _) ?_; have g3h := Lib.hid (setRow_heap _ _ _ (sumC ⟨0, false, false, false, true, true⟩) _ _ gg.out); have bb3 := below_setRow (below_trans hb b4) hge (sumC ⟨0, false, false, false, true, true⟩); generalize w4.setRow g (sumC ⟨0, false, false, false, true, true⟩) = w8 at *)
          | (refine at_op0 (.load 30 (.tmp 5)) ?_ rfl rfl; refine wpList_load_row rfl 30 (.tmp 5) rfl g rfl 30 _ (0, 0) _ (by first | exact g3h.out | exact Hsu.out) Try.underlying30 rfl (by rw [sumC_size]; exact Hs.out) ?_)
          | (refine at_opG (.load 30 (.tmp 5)) (some (17, true)) ?_ rfl rfl; refine wpList_load_rowG rfl 30 (.tmp 5) rfl g rfl 30 _ (0, 0) _ g4h.out Try.underlying30 rfl (by rw [sumC_size]; exact Hs.out) ?_)
          | (go_at_call 17; (with_reducible refine (hv1 _).mono ?_); rintro e w5 ⟨rfl, b5⟩; have g4h := Lib.hid ((b5.block _ (heap_lt g3h.out)).trans g3h.out))
          | (go_at_call 24; (with_reducible refine (hsb0 _).mono ?_); rintro e w6 ⟨rfl, rfl⟩)
          | (go_at_call 25; (with_reducible refine (ha1 _).mono ?_); rintro e w7 ⟨rfl, b7⟩))
        all_goals first
          | (exfalso; omega)
          | (go_ret; exact ⟨rfl, below_trans (below_trans bb3 b5) b7⟩)
theorem zeros_walk (W : World) (a0 : Int) (wa0 : (Lit.int .u8 a0).wf = true) (a1 : Bool) : Calls Try.prog 7 #[.int .u8 a0, .bool a1] W fun e w' => e = .returned (.bool true) ∧ Below W.heap.size W w' := by
  simp [Lit.wf, IntKind.min, IntKind.max, IntKind.bits, IntKind.signed] at wa0
  exact zeros_any a0 a1 W (by omega)
end Go.Proofs.Ytejkilgpcbdepaa
