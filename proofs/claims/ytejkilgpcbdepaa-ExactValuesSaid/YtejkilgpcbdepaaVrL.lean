import Derived.Test.YtejkilgpcbdepaaVrGK
import Derived.Test.YtejkilgpcbdepaaExReg
/-! Exact sums: the sum has no error: the walk of the law. -/
namespace Go.Proofs.Ytejkilgpcbdepaa
open Go.RowKit
set_option linter.unusedVariables false
attribute [-simp] Try.isAgg30 Try.sizeOf30 Try.typeInfo30 Try.type30
attribute [-simp] Try.isAgg49 Try.sizeOf49 Try.typeInfo49 Try.type49

theorem valSt_low (s : St) : (valSt s).1 < 18446744073709551616 := by
  unfold valSt
  split
  · cases s.nan <;> cases s.pos <;> cases s.neg <;> decide
  · exact (valOf_low _ _ _ _).2
theorem lawSame_two (x y : Nat) (ov : Bool) (w : World) (hx : x < 18446744073709551616) (hy : y < 18446744073709551616) (hc : canon y = canon x) : Calls Try.prog 30 #[.float .f64 x, .bool ov, .float .f64 y, .bool ov] w fun e w' => e = .returned (.bool true) ∧ w = w' := by
  have hs := refSame_any x y w hx hy
  rw [show decide (canon x = canon y) = true by rw [hc]; simp] at hs
  cases ov
  all_goals
    go_enter Try.func30, Try.ntmps30
    go_wp2_with (go_at_call 18; (with_reducible refine hs.mono ?_); rintro e w1 ⟨rfl, rfl⟩)
    go_ret
    exact ⟨rfl, rfl⟩
theorem addSt_any (s : St) (x : Nat) : (addSt s x).any = true := by
  unfold addSt
  split
  · rfl
  · split <;> rfl
theorem sumOf_any (xs : List Nat) : (sumOf xs).any = decide (0 < xs.length) := by
  rcases Nat.eq_zero_or_pos xs.length with h | h
  · obtain rfl := List.eq_nil_of_length_eq_zero h
    rfl
  · obtain ⟨k, hk⟩ : ∃ k, xs.length = k + 1 := ⟨xs.length - 1, by omega⟩
    have := sumOf_snoc xs k (by omega)
    rw [← hk, List.take_length] at this
    rw [this, addSt_any, decide_eq_true h]
set_option maxRecDepth 100000 in
set_option maxHeartbeats 8000000 in
theorem values_any (A : Option Addr) (cap : Nat) (xs : List Nat) (w : World) (hr : FReads w A xs) (h64 : Words64 xs) (hxl : xs.length ≤ 9223372036854775807) :
    Calls Try.prog 9 #[.slice A xs.length cap] w fun e w' => e = .returned (.bool true) ∧ Below w.heap.size w w' := by
  have Hs := Lib.hid size30
  have Hs2 := Lib.hid size49
  have aw := awake_any
  by_cases h30 : 30 < xs.length
  · go_enter Try.func9, Try.ntmps9
    have hi : (30 : Int) < (xs.length : Int) := by omega
    go_wp2_with (go_at_call 13; (with_reducible refine (aw _).mono ?_); rintro e w1 ⟨rfl, b1⟩)
    go_ret
    exact ⟨rfl, below_trans (by assumption) b1⟩
  · have zz : ∀ w, (zeroValue 30).run Try.prog w = .ok (.agg (sumC noSt)) w := zero30
    have zy := zero49
    obtain ⟨N, hN⟩ : ∃ N : Nat, N = 2240 := ⟨_, rfl⟩
    have hof := fun w1 (b : Below w.heap.size w w1) => of_list A cap xs w1 (hr.below b) h64 (by omega)
    have hrof := fun w1 (b : Below w.heap.size w w1) => refOf_any A cap xs N w1 hN (hr.below b) h64 (by omega)
    have han := sumOf_any xs
    generalize sumOf xs = S at *
    have hval := fun w => value_any S w
    have hrval := fun g w h => refValue_any g S N w hN h
    have hbyt := fun w => bytes_any S w
    have hrbyt := fun g w h => refBytes_any g S N w hN h
    have hany := fun w => any_any S w
    have hlaw := fun w => lawSame_two (valSt S).1 (refVal S).1 (valSt S).2 w (valSt_low S) (refVal_lt S) (refVal_canon S).1
    rw [(refVal_canon S).2] at hrval
    generalize (valSt S).1 = x at *
    generalize (valSt S).2 = ov at *
    generalize (refVal S).1 = y at *
    generalize hAN : S.any = an at *
    have hi : (xs.length : Int) ≤ 30 := by omega
    clear hN hr h64 hxl h30 hAN
    go_enter Try.func9, Try.ntmps9
    go_upto_region 7 with (first
      | (go_at_call 13; (with_reducible refine (aw _).mono ?_); rintro e w1 ⟨rfl, b1⟩)
      | (go_at_call 16; (with_reducible refine (hof _ b1).mono ?_); rintro e w2 ⟨rfl, b2⟩)
      | (refine at_op (.alloc 30) ?_ rfl; refine wpList_alloc_row rfl _ 30 rfl (some 3) rfl w2.heap.size rfl _ zz ?_)
      | (refine at_op (.store 30 (.tmp 3) (.tmp 18)) ?_ rfl; refine wpList_store_row rfl 30 (.tmp 3) (.tmp 18) rfl w2.heap.size (sumC S) rfl rfl 30 _ (heap_alloc_new w2 _) (by rw [sumC_size]; exact Hs.out) (by simp only [sumC_size]) (sumC_one _) ?_; rw [World.setRow_alloc_new]; have k3 := Lib.hid (heap_alloc_new w2 (.cells (sumC S) 30)); have bb3 := below_alloc (below_trans b1 b2) (.cells (sumC S) 30); generalize w2.heap.size = g3 at *; generalize w2.alloc (.cells (sumC S) 30) = w3 at *)
      | (go_at_call 28; (with_reducible refine (hrof _ bb3).mono ?_); rintro e w4 ⟨k, rfl, hk, b4⟩; have bb4 := below_trans bb3 b4; have m3 := Lib.hid ((b4.block g3 (heap_lt k3.out)).trans k3.out))
      | (refine at_op (.alloc 49) ?_ rfl; refine wpList_alloc_row rfl _ 49 rfl (some 4) rfl w4.heap.size rfl _ zy ?_)
      | (refine at_op (.store 49 (.tmp 4) (.tmp 20)) ?_ rfl; refine wpList_store_row rfl 49 (.tmp 4) (.tmp 20) rfl w4.heap.size (refC k S) rfl rfl 49 _ (heap_alloc_new w4 _) (by rw [refC_size]; exact Hs2.out) (by rw [refC_size, refZ_size]) (refC_one _ _) ?_; rw [World.setRow_alloc_new]; have k4 := Lib.hid (heap_alloc_new w4 (.cells (refC k S) 49)); have bb5 := below_alloc bb4 (.cells (refC k S) 49); have n3 := Lib.hid (((below_alloc (Below.refl w4.heap.size w4) (.cells (refC k S) 49)).block g3 (heap_lt m3.out)).trans m3.out); have hkb := Lib.hid (hk.below (below_alloc (Below.refl w4.heap.size w4) (.cells (refC k S) 49))); generalize w4.heap.size = g4 at *; generalize w4.alloc (.cells (refC k S) 49) = w5 at *)
      | (refine at_op0 (.load 30 (.tmp 3)) ?_ rfl rfl; refine wpList_load_row rfl 30 (.tmp 3) rfl g3 rfl 30 _ (0, 0) _ n3.out Try.underlying30 rfl (by rw [sumC_size]; exact Hs.out) ?_)
      | (go_at_call 17; (with_reducible refine (hval _).mono ?_); rintro e w6 ⟨rfl, b6⟩; have bb6 := below_trans bb5 b6; have q3 := Lib.hid ((b6.block g3 (heap_lt n3.out)).trans n3.out); have q4 := Lib.hid ((b6.block g4 (heap_lt k4.out)).trans k4.out); have hkc := Lib.hid (hkb.out.below b6))
      | (refine at_op0 (.load 49 (.tmp 4)) ?_ rfl rfl; refine wpList_load_row rfl 49 (.tmp 4) rfl g4 rfl 49 _ (0, 0) _ q4.out Try.underlying49 rfl (by rw [refC_size]; exact Hs2.out) ?_)
      | (go_at_call 29; (with_reducible refine (hrval _ _ hkc.out).mono ?_); rintro e w8 ⟨rfl, b8⟩; have bb8 := below_trans bb6 b8; have K3' := ((b8.block g3 (heap_lt q3.out)).trans q3.out); have K4' := ((b8.block g4 (heap_lt q4.out)).trans q4.out); have hbits := hkc.out.below b8))
    have Hbits := Lib.hid fun (w9 : World) (b : Below w8.heap.size w8 w9) => hbits.below b
    obtain ⟨C, hC⟩ : ∃ C, C = sumC S := ⟨_, rfl⟩
    obtain ⟨D, hD⟩ : ∃ D, D = refC k S := ⟨_, rfl⟩
    have hC1 : C.size = 40 := by rw [hC]; exact sumC_size _
    have hD1 : D.size = 6 := by rw [hD]; rfl
    have hrbyt := fun w h => hrbyt k w h
    obtain ⟨ss, hss⟩ : ∃ ss, ss = strOfNums (bytesOf S) := ⟨_, rfl⟩
    rw [← hC] at hbyt hany K3'
    rw [← hD] at hrbyt K4'
    have K3 := Lib.hid K3'
    have K4 := Lib.hid K4'
    have Hss := Lib.hid hss
    have hgt : ((0 : Int) < (xs.length : Int)) = (0 < xs.length) := by simp
    clear hss hC hD K3' K4' hbits zz zy aw hof hrof hval hrval k3 m3 n3 q3 k4 q4 hkb hkc hk b1 b2 b4 b6 b8 bb3 bb4 bb5 bb6
    obtain ⟨CV, hCV⟩ : ∃ CV : Nat → Value, CV = fun j => match j with
      | 0 => .float .f64 x
      | 1 => .bool ov
      | 2 => .float .f64 y
      | 3 => .bool ov
      | 4 => .bool true
      | 5 => .bool true
      | 6 => .agg C
      | 8 => .string ss
      | 9 => .agg D
      | 11 => .string ss
      | 12 => .bool true
      | 13 => .bool true
      | 14 => .bool true
      | 15 => .agg C
      | 16 => .bool an
      | 17 => .slice A xs.length cap
      | 18 => .int .i64 (xs.length : Int)
      | 19 => .bool an
      | 20 => .bool true
      | 21 => .bool true
      | 22 => .bool true
      | _ => undef := ⟨_, rfl⟩
    obtain ⟨isO, hO⟩ : ∃ isO : Nat → Bool, isO = fun j => match j with
      | 7 => true
      | 10 => true
      | _ => false := ⟨_, rfl⟩
    obtain ⟨BL, hBL⟩ : ∃ BL : Nat → List Int, BL = fun j => match j with
      | 7 => bytesOf S
      | 10 => bytesOf S
      | _ => [] := ⟨_, rfl⟩
    have v0 : CV 0 = .float .f64 x := congrFun hCV 0
    have o0 : isO 0 = false := congrFun hO 0
    have v1 : CV 1 = .bool ov := congrFun hCV 1
    have o1 : isO 1 = false := congrFun hO 1
    have v2 : CV 2 = .float .f64 y := congrFun hCV 2
    have o2 : isO 2 = false := congrFun hO 2
    have v3 : CV 3 = .bool ov := congrFun hCV 3
    have o3 : isO 3 = false := congrFun hO 3
    have v4 : CV 4 = .bool true := congrFun hCV 4
    have o4 : isO 4 = false := congrFun hO 4
    have v5 : CV 5 = .bool true := congrFun hCV 5
    have o5 : isO 5 = false := congrFun hO 5
    have v6 : CV 6 = .agg C := congrFun hCV 6
    have o6 : isO 6 = false := congrFun hO 6
    have o7 : isO 7 = true := congrFun hO 7
    have l7 : BL 7 = bytesOf S := congrFun hBL 7
    have v8 : CV 8 = .string ss := congrFun hCV 8
    have o8 : isO 8 = false := congrFun hO 8
    have v9 : CV 9 = .agg D := congrFun hCV 9
    have o9 : isO 9 = false := congrFun hO 9
    have o10 : isO 10 = true := congrFun hO 10
    have l10 : BL 10 = bytesOf S := congrFun hBL 10
    have v11 : CV 11 = .string ss := congrFun hCV 11
    have o11 : isO 11 = false := congrFun hO 11
    have v12 : CV 12 = .bool true := congrFun hCV 12
    have o12 : isO 12 = false := congrFun hO 12
    have v13 : CV 13 = .bool true := congrFun hCV 13
    have o13 : isO 13 = false := congrFun hO 13
    have v14 : CV 14 = .bool true := congrFun hCV 14
    have o14 : isO 14 = false := congrFun hO 14
    have v15 : CV 15 = .agg C := congrFun hCV 15
    have o15 : isO 15 = false := congrFun hO 15
    have v16 : CV 16 = .bool an := congrFun hCV 16
    have o16 : isO 16 = false := congrFun hO 16
    have v17 : CV 17 = .slice A xs.length cap := congrFun hCV 17
    have o17 : isO 17 = false := congrFun hO 17
    have v18 : CV 18 = .int .i64 (xs.length : Int) := congrFun hCV 18
    have o18 : isO 18 = false := congrFun hO 18
    have v19 : CV 19 = .bool an := congrFun hCV 19
    have o19 : isO 19 = false := congrFun hO 19
    have v20 : CV 20 = .bool true := congrFun hCV 20
    have o20 : isO 20 = false := congrFun hO 20
    have v21 : CV 21 = .bool true := congrFun hCV 21
    have o21 : isO 21 = false := congrFun hO 21
    have v22 : CV 22 = .bool true := congrFun hCV 22
    have o22 : isO 22 = false := congrFun hO 22
    clear hCV hO hBL
    have V0 := Lib.hid v0
    have V1 := Lib.hid v1
    have V2 := Lib.hid v2
    have V3 := Lib.hid v3
    have V4 := Lib.hid v4
    have V5 := Lib.hid v5
    have V6 := Lib.hid v6
    have LL7 := Lib.hid l7
    have V8 := Lib.hid v8
    have V9 := Lib.hid v9
    have LL10 := Lib.hid l10
    have V11 := Lib.hid v11
    have V12 := Lib.hid v12
    have V13 := Lib.hid v13
    have V14 := Lib.hid v14
    have V15 := Lib.hid v15
    have V16 := Lib.hid v16
    have V17 := Lib.hid v17
    have V18 := Lib.hid v18
    have V19 := Lib.hid v19
    have V20 := Lib.hid v20
    have V21 := Lib.hid v21
    have V22 := Lib.hid v22
    clear v0 v1 v2 v3 v4 v5 v6 l7 v8 v9 l10 v11 v12 v13 v14 v15 v16 v17 v18 v19 v20 v21 v22
    refine region_run (RegI w8 isO BL CV) (by kernel_rfl) (by kernel_rfl) (by kernel_rfl) (by kernel_rfl) (RegI.start w8 23) ?_ ?_
    · intro listed vals a1 wq i hs hcl hI hR hi hu hr1
      replace hi : i < 23 := hi
      obtain rfl | hi1 : i = 0 ∨ 1 ≤ i := by omega
      · have t5 := hR.fixed 5 (by kernel_rfl) rfl
        clear hlaw hbyt hrbyt hany
        exact wpOp_val rfl rfl (by rw [V0.out]; go_simp) ⟨_, rfl, hI.keep (Below.refl _ _) 0 o0⟩
      obtain rfl | hi1 : i = 1 ∨ 2 ≤ i := by omega
      · have t6 := hR.fixed 6 (by kernel_rfl) rfl
        clear hlaw hbyt hrbyt hany
        exact wpOp_val rfl rfl (by rw [V1.out]; go_simp) ⟨_, rfl, hI.keep (Below.refl _ _) 1 o1⟩
      obtain rfl | hi1 : i = 2 ∨ 3 ≤ i := by omega
      · have t7 := hR.fixed 7 (by kernel_rfl) rfl
        clear hlaw hbyt hrbyt hany
        exact wpOp_val rfl rfl (by rw [V2.out]; go_simp) ⟨_, rfl, hI.keep (Below.refl _ _) 2 o2⟩
      obtain rfl | hi1 : i = 3 ∨ 4 ≤ i := by omega
      · have t8 := hR.fixed 8 (by kernel_rfl) rfl
        clear hlaw hbyt hrbyt hany
        exact wpOp_val rfl rfl (by rw [V3.out]; go_simp) ⟨_, rfl, hI.keep (Below.refl _ _) 3 o3⟩
      obtain rfl | hi1 : i = 4 ∨ 5 ≤ i := by omega
      · have t31 : a1.tmps[31]? = some (.float .f64 x) := hI.get hR hr1 0 o0 (by kernel_rfl) (by decide) rfl V0.out
        have t32 : a1.tmps[32]? = some (.bool ov) := hI.get hR hr1 1 o1 (by kernel_rfl) (by decide) rfl V1.out
        have t33 : a1.tmps[33]? = some (.float .f64 y) := hI.get hR hr1 2 o2 (by kernel_rfl) (by decide) rfl V2.out
        have t34 : a1.tmps[34]? = some (.bool ov) := hI.get hR hr1 3 o3 (by kernel_rfl) (by decide) rfl V3.out
        have hc1 := hlaw wq
        clear hlaw hbyt hrbyt hany
        refine wpOp_calls (f := 30) (args := #[.float .f64 x, .bool ov, .float .f64 y, .bool ov]) rfl rfl (by go_simp) (hc1.mono ?_)
        rintro e wz ⟨rfl, rfl⟩
        exact ⟨_, rfl, _, rfl, hI.keepV (Below.refl _ _) 4 o4 V4.out⟩
      obtain rfl | hi1 : i = 5 ∨ 6 ≤ i := by omega
      · have t35 : a1.tmps[35]? = some (.bool true) := hI.get hR hr1 4 o4 (by kernel_rfl) (by decide) rfl V4.out
        clear hlaw hbyt hrbyt hany
        exact wpOp_val rfl rfl (by rw [V5.out]; go_simp) ⟨_, rfl, hI.keep (Below.refl _ _) 5 o5⟩
      obtain rfl | hi1 : i = 6 ∨ 7 ≤ i := by omega
      · have t36 : a1.tmps[36]? = some (.bool true) := hI.get hR hr1 5 o5 (by kernel_rfl) (by decide) rfl V5.out
        have t3 := hR.fixed 3 (by kernel_rfl) rfl
        have kk := (hI.b.block _ (heap_lt K3.out)).trans K3.out
        exact wpOp_of_wp rfl (wanted_yes rfl rfl t36) (wp_load_row 30 (.tmp 3) rfl g3 (getD_is t3) 30 C (0, 0) _ kk Try.underlying30 rfl (by rw [hC1]; exact Hs.out) ⟨_, rfl, hI.keepV (Below.refl _ _) 6 o6 V6.out⟩)
      obtain rfl | hi1 : i = 7 ∨ 8 ≤ i := by omega
      · have t36 : a1.tmps[36]? = some (.bool true) := hI.get hR hr1 5 o5 (by kernel_rfl) (by decide) rfl V5.out
        have t37 : a1.tmps[37]? = some (.agg C) := hI.get hR hr1 6 o6 (by kernel_rfl) (by decide) rfl V6.out
        have hc1 := hbyt wq
        clear hlaw hbyt hrbyt hany
        refine wpOp_calls (f := 31) (args := #[.agg C]) rfl (wanted_yes rfl rfl t36) (by go_simp) (hc1.mono ?_)
        rintro e wz ⟨v, rfl, ho, b⟩
        exact ⟨_, rfl, _, rfl, hI.keepB b 7 o7 v (by rw [LL7.out]; exact ho)⟩
      obtain rfl | hi1 : i = 8 ∨ 9 ≤ i := by omega
      · have t36 : a1.tmps[36]? = some (.bool true) := hI.get hR hr1 5 o5 (by kernel_rfl) (by decide) rfl V5.out
        have tv : a1.tmps[38]? = some (vals 7) := hR.dep hr1 7 (by kernel_rfl) (by decide) rfl
        have ho := hI.own 7 o7 (dep_of hr1 (by kernel_rfl))
        rw [LL7.out] at ho
        obtain ⟨A9, c9, e9, _, r9⟩ := ho.form
        rw [e9] at tv
        have hcv := run_string_reads (P := Try.prog) wq 47 9 5 Try.underlying47 Try.underlying5 Try.underlying9 A9 c9 _ r9
        rw [← Hss.out] at hcv
        generalize List.length (bytesOf S) = n9 at *
        clear e9 ho r9
        clear hlaw hbyt hrbyt hany
        exact wpOp_val rfl (wanted_yes rfl rfl t36) (by rw [V8.out]; go_simp) ⟨_, rfl, hI.keep (Below.refl _ _) 8 o8⟩
      obtain rfl | hi1 : i = 9 ∨ 10 ≤ i := by omega
      · have t36 : a1.tmps[36]? = some (.bool true) := hI.get hR hr1 5 o5 (by kernel_rfl) (by decide) rfl V5.out
        have t4 := hR.fixed 4 (by kernel_rfl) rfl
        have kk := (hI.b.block _ (heap_lt K4.out)).trans K4.out
        exact wpOp_of_wp rfl (wanted_yes rfl rfl t36) (wp_load_row 49 (.tmp 4) rfl g4 (getD_is t4) 49 D (0, 0) _ kk Try.underlying49 rfl (by rw [hD1]; exact Hs2.out) ⟨_, rfl, hI.keepV (Below.refl _ _) 9 o9 V9.out⟩)
      obtain rfl | hi1 : i = 10 ∨ 11 ≤ i := by omega
      · have t36 : a1.tmps[36]? = some (.bool true) := hI.get hR hr1 5 o5 (by kernel_rfl) (by decide) rfl V5.out
        have t40 : a1.tmps[40]? = some (.agg D) := hI.get hR hr1 9 o9 (by kernel_rfl) (by decide) rfl V9.out
        have hc1 := hrbyt wq (Hbits.out wq hI.b)
        clear hlaw hbyt hrbyt hany
        refine wpOp_calls (f := 32) (args := #[.agg D]) rfl (wanted_yes rfl rfl t36) (by go_simp) (hc1.mono ?_)
        rintro e wz ⟨v, rfl, ho, b⟩
        exact ⟨_, rfl, _, rfl, hI.keepB b 10 o10 v (by rw [LL10.out]; exact ho)⟩
      obtain rfl | hi1 : i = 11 ∨ 12 ≤ i := by omega
      · have t36 : a1.tmps[36]? = some (.bool true) := hI.get hR hr1 5 o5 (by kernel_rfl) (by decide) rfl V5.out
        have tv : a1.tmps[41]? = some (vals 10) := hR.dep hr1 10 (by kernel_rfl) (by decide) rfl
        have ho := hI.own 10 o10 (dep_of hr1 (by kernel_rfl))
        rw [LL10.out] at ho
        obtain ⟨A9, c9, e9, _, r9⟩ := ho.form
        rw [e9] at tv
        have hcv := run_string_reads (P := Try.prog) wq 47 9 5 Try.underlying47 Try.underlying5 Try.underlying9 A9 c9 _ r9
        rw [← Hss.out] at hcv
        generalize List.length (bytesOf S) = n9 at *
        clear e9 ho r9
        clear hlaw hbyt hrbyt hany
        exact wpOp_val rfl (wanted_yes rfl rfl t36) (by rw [V11.out]; go_simp) ⟨_, rfl, hI.keep (Below.refl _ _) 11 o11⟩
      obtain rfl | hi1 : i = 12 ∨ 13 ≤ i := by omega
      · have t36 : a1.tmps[36]? = some (.bool true) := hI.get hR hr1 5 o5 (by kernel_rfl) (by decide) rfl V5.out
        have t39 : a1.tmps[39]? = some (.string ss) := hI.get hR hr1 8 o8 (by kernel_rfl) (by decide) rfl V8.out
        have t42 : a1.tmps[42]? = some (.string ss) := hI.get hR hr1 11 o11 (by kernel_rfl) (by decide) rfl V11.out
        have hse : (ss.toList == ss.toList) = true := beq_self_eq_true _
        clear hlaw hbyt hrbyt hany
        exact wpOp_val rfl (wanted_yes rfl rfl t36) (by rw [V12.out]; go_simp) ⟨_, rfl, hI.keep (Below.refl _ _) 12 o12⟩
      obtain rfl | hi1 : i = 13 ∨ 14 ≤ i := by omega
      · have t36 : a1.tmps[36]? = some (.bool true) := hI.get hR hr1 5 o5 (by kernel_rfl) (by decide) rfl V5.out
        have t43 : a1.tmps[43]? = some (.bool true) := hI.get hR hr1 12 o12 (by kernel_rfl) (by decide) rfl V12.out
        clear hlaw hbyt hrbyt hany
        exact wpOp_val rfl rfl (by rw [V13.out]; go_simp) ⟨_, rfl, hI.keep (Below.refl _ _) 13 o13⟩
      obtain rfl | hi1 : i = 14 ∨ 15 ≤ i := by omega
      · have t44 : a1.tmps[44]? = some (.bool true) := hI.get hR hr1 13 o13 (by kernel_rfl) (by decide) rfl V13.out
        clear hlaw hbyt hrbyt hany
        exact wpOp_val rfl rfl (by rw [V14.out]; go_simp) ⟨_, rfl, hI.keep (Below.refl _ _) 14 o14⟩
      obtain rfl | hi1 : i = 15 ∨ 16 ≤ i := by omega
      · have t45 : a1.tmps[45]? = some (.bool true) := hI.get hR hr1 14 o14 (by kernel_rfl) (by decide) rfl V14.out
        have t3 := hR.fixed 3 (by kernel_rfl) rfl
        have kk := (hI.b.block _ (heap_lt K3.out)).trans K3.out
        exact wpOp_of_wp rfl (wanted_yes rfl rfl t45) (wp_load_row 30 (.tmp 3) rfl g3 (getD_is t3) 30 C (0, 0) _ kk Try.underlying30 rfl (by rw [hC1]; exact Hs.out) ⟨_, rfl, hI.keepV (Below.refl _ _) 15 o15 V15.out⟩)
      obtain rfl | hi1 : i = 16 ∨ 17 ≤ i := by omega
      · have t45 : a1.tmps[45]? = some (.bool true) := hI.get hR hr1 14 o14 (by kernel_rfl) (by decide) rfl V14.out
        have t46 : a1.tmps[46]? = some (.agg C) := hI.get hR hr1 15 o15 (by kernel_rfl) (by decide) rfl V15.out
        have hc1 := hany wq
        clear hlaw hbyt hrbyt hany
        refine wpOp_calls (f := 25) (args := #[.agg C]) rfl (wanted_yes rfl rfl t45) (by go_simp) (hc1.mono ?_)
        rintro e wz ⟨rfl, b⟩
        exact ⟨_, rfl, _, rfl, hI.keepV b 16 o16 V16.out⟩
      obtain rfl | hi1 : i = 17 ∨ 18 ≤ i := by omega
      · have t45 : a1.tmps[45]? = some (.bool true) := hI.get hR hr1 14 o14 (by kernel_rfl) (by decide) rfl V14.out
        have t0 := hR.fixed 0 (by kernel_rfl) rfl
        clear hlaw hbyt hrbyt hany
        exact wpOp_val rfl (wanted_yes rfl rfl t45) (by rw [V17.out]; go_simp) ⟨_, rfl, hI.keep (Below.refl _ _) 17 o17⟩
      obtain rfl | hi1 : i = 18 ∨ 19 ≤ i := by omega
      · have t45 : a1.tmps[45]? = some (.bool true) := hI.get hR hr1 14 o14 (by kernel_rfl) (by decide) rfl V14.out
        have t48 : a1.tmps[48]? = some (.slice A xs.length cap) := hI.get hR hr1 17 o17 (by kernel_rfl) (by decide) rfl V17.out
        clear hlaw hbyt hrbyt hany
        exact wpOp_val rfl (wanted_yes rfl rfl t45) (by rw [V18.out]; go_simp) ⟨_, rfl, hI.keep (Below.refl _ _) 18 o18⟩
      obtain rfl | hi1 : i = 19 ∨ 20 ≤ i := by omega
      · have t45 : a1.tmps[45]? = some (.bool true) := hI.get hR hr1 14 o14 (by kernel_rfl) (by decide) rfl V14.out
        have t49 : a1.tmps[49]? = some (.int .i64 (xs.length : Int)) := hI.get hR hr1 18 o18 (by kernel_rfl) (by decide) rfl V18.out
        clear hlaw hbyt hrbyt hany
        exact wpOp_val rfl (wanted_yes rfl rfl t45) (by rw [V19.out]; go_simp) ⟨_, rfl, hI.keep (Below.refl _ _) 19 o19⟩
      obtain rfl | hi1 : i = 20 ∨ 21 ≤ i := by omega
      · have t45 : a1.tmps[45]? = some (.bool true) := hI.get hR hr1 14 o14 (by kernel_rfl) (by decide) rfl V14.out
        have t47 : a1.tmps[47]? = some (.bool an) := hI.get hR hr1 16 o16 (by kernel_rfl) (by decide) rfl V16.out
        have t50 : a1.tmps[50]? = some (.bool an) := hI.get hR hr1 19 o19 (by kernel_rfl) (by decide) rfl V19.out
        clear hlaw hbyt hrbyt hany
        exact wpOp_val rfl (wanted_yes rfl rfl t45) (by rw [V20.out]; go_simp) ⟨_, rfl, hI.keep (Below.refl _ _) 20 o20⟩
      obtain rfl | hi1 : i = 21 ∨ 22 ≤ i := by omega
      · have t45 : a1.tmps[45]? = some (.bool true) := hI.get hR hr1 14 o14 (by kernel_rfl) (by decide) rfl V14.out
        have t51 : a1.tmps[51]? = some (.bool true) := hI.get hR hr1 20 o20 (by kernel_rfl) (by decide) rfl V20.out
        clear hlaw hbyt hrbyt hany
        exact wpOp_val rfl rfl (by rw [V21.out]; go_simp) ⟨_, rfl, hI.keep (Below.refl _ _) 21 o21⟩
      obtain rfl : i = 22 := by omega
      have t52 : a1.tmps[52]? = some (.bool true) := hI.get hR hr1 21 o21 (by kernel_rfl) (by decide) rfl V21.out
      clear hlaw hbyt hrbyt hany
      exact wpOp_val rfl rfl (by rw [V22.out]; go_simp) ⟨_, rfl, hI.keep (Below.refl _ _) 22 o22⟩
    · intro listed vals wq FF hI hall hFF
      have hF2 : FF = ((((((((((((((((((((((Act.put _ (some 31) (vals 0)).put (some 32) (vals 1)).put (some 33) (vals 2)).put (some 34) (vals 3)).put (some 35) (vals 4)).put (some 36) (vals 5)).put (some 37) (vals 6)).put (some 38) (vals 7)).put (some 39) (vals 8)).put (some 40) (vals 9)).put (some 41) (vals 10)).put (some 42) (vals 11)).put (some 43) (vals 12)).put (some 44) (vals 13)).put (some 45) (vals 14)).put (some 46) (vals 15)).put (some 47) (vals 16)).put (some 48) (vals 17)).put (some 49) (vals 18)).put (some 50) (vals 19)).put (some 51) (vals 20)).put (some 52) (vals 21)).put (some 2) (vals 22) := hFF
      simp only [putAll] at hF2
      rw [hF2]
      have e22 := hI.val 22 o22 (hall 22 (by decide))
      rw [V22.out] at e22
      have bfin := hI.b
      clear hF2 hFF hI hall
      rw [e22]
      go_frame

      go_wp2_with fail
      go_ret
      exact ⟨rfl, below_trans bb8 bfin⟩
theorem values_walk (W : World) (A : Option Addr) (cap : Nat) (xs : List Nat) (hc : xs.length ≤ cap) (hl : cap ≤ maxLen) (hr : FReads W A xs) (hw : Words64 xs) :
    Calls Try.prog 9 #[.slice A xs.length cap] W fun e w' => e = .returned (.bool true) ∧ Below W.heap.size W w' :=
  values_any A cap xs W hr hw (by unfold maxLen at hl; omega)
end Go.Proofs.Ytejkilgpcbdepaa
