import Derived.Test.YtjmllggjaplldaaAn
import Derived.Test.YtjmllggjaplldaaAk
/-! No values: the law. -/
namespace Go.Proofs.Ytjmllggjaplldaa
open Go.RowKit
set_option linter.unusedVariables false
attribute [-simp] Try.isAgg30 Try.sizeOf30 Try.typeInfo30 Try.type30
attribute [-simp] Try.isAgg32 Try.sizeOf32 Try.typeInfo32 Try.type32
attribute [-simp] Try.isAgg27 Try.sizeOf27 Try.typeInfo27 Try.type27

theorem join_no (xs : List Nat) (h : xs.length < 18446744073709551616) : joinAS (asOf xs) noAS = asOf xs := by
  by_cases h0 : xs.length = 0
  · obtain rfl := List.eq_nil_of_length_eq_zero h0
    rfl
  · have := asOf_len xs h
    unfold joinAS
    rw [if_neg (by omega), if_pos (show noAS.n = 0 from rfl)]
theorem no_join (a : AS) : joinAS noAS a = a := by unfold joinAS; rw [if_pos (show noAS.n = 0 from rfl)]
set_option maxRecDepth 100000 in
theorem layAS_no : layAS noAS = [0, 1, 0, 0, 0] := by kernel_rfl
set_option maxRecDepth 100000 in
theorem tellAS_no : sameAV (tellAS noAS) noAV = true := tell_value [] (by decide)
theorem noAV_ok : noAV.ok := ⟨show 0 < 18446744073709551616 by decide, show 0 < 18446744073709551616 by decide, show 0 < 18446744073709551616 by decide, show 0 < 18446744073709551616 by decide⟩
set_option maxRecDepth 100000 in
set_option maxHeartbeats 16000000 in
theorem aggNone_any (A : Option Addr) (cap : Nat) (xs : List Nat) (w : World) (hr : FReads w A xs) (h64 : Words64 xs) (hxl : xs.length ≤ 9223372036854775807) :
    Calls Try.prog 7 #[.slice A xs.length cap] w fun e w' => e = .returned (.bool true) ∧ Below w.heap.size w w' := by
  have Hs := Lib.hid sizeState
  have aw := awake12_any
  by_cases h40 : 40 < xs.length
  · go_enter Try.func7, Try.ntmps7
    have hi : (40 : Int) < (xs.length : Int) := by omega
    go_wp2_with (go_at_call 10; (with_reducible refine (aw _).mono ?_); rintro e w1 ⟨rfl, b1⟩)
    go_ret
    exact ⟨rfl, below_trans (by assumption) b1⟩
  · have hof := fun w1 (b : Below w.heap.size w w1) => of_as A cap xs w1 (hr.below b) h64 (by omega)
    have hok := asOf_okA xs h64
    have hj1 := fun w => join_as (asOf xs) noAS w hok noAS_ok
    rw [join_no xs (by omega)] at hj1
    have hj2 := fun w => join_as noAS (asOf xs) w noAS_ok hok
    rw [no_join] at hj2
    have hla := fun w => lay_new (asOf xs) w hok
    have hlz := fun w => lay_new noAS w noAS_ok
    rw [layAS_no] at hlz
    have hln := fun w => len_as noAS w
    have htz := fun w => tell_as noAS w noAS_ok
    have hsm := fun w => refAggSame_any (tellAS noAS) noAV w (tellAS_ok noAS_ok) noAV_ok
    rw [tellAS_no] at hsm
    have hru := fun w => refUint_any 0 w (by decide)
    have hbd := built_noAgg
    have hi : (xs.length : Int) ≤ 40 := by omega
    generalize asOf xs = S at *
    generalize layAS S = L at *
    obtain ⟨ss, hss⟩ : ∃ ss, ss = strOfNums L := ⟨_, rfl⟩
    obtain ⟨sz, hsz⟩ : ∃ sz, sz = strOfNums [0, 1, 0, 0, 0] := ⟨_, rfl⟩
    obtain ⟨s0, hs0⟩ : ∃ s0, s0 = strOfNums (uintL 0) := ⟨_, rfl⟩
    have hs1 : ∀ w, (Op.stringOp .add s0 ⟨#[1, 0]⟩).run Try.prog w = .ok (.string (s0 ++ ⟨#[1, 0]⟩)) w := fun w => run_string_add w _ _ (by rw [hs0]; decide) (by decide)
    have hs2 : ∀ w, (Op.stringOp .add (s0 ++ ⟨#[1, 0]⟩) ⟨#[0, 0]⟩).run Try.prog w = .ok (.string (s0 ++ ⟨#[1, 0]⟩ ++ ⟨#[0, 0]⟩)) w := fun w => run_string_add w _ _ (by rw [hs0]; decide) (by decide)
    have hseq : (sz.toList == (s0 ++ ⟨#[1, 0]⟩ ++ ⟨#[0, 0]⟩).toList) = true := by rw [hsz, hs0]; decide +kernel
    generalize hq1 : s0 ++ (⟨#[1, 0]⟩ : ByteArray) = s1 at *
    generalize hq2 : s1 ++ (⟨#[0, 0]⟩ : ByteArray) = s2 at *
    have HS1 := Lib.hid hs1
    have HS2 := Lib.hid hs2
    have HSQ := Lib.hid hseq
    have Hss := Lib.hid hss
    have Hsz := Lib.hid hsz
    have Hs0 := Lib.hid hs0
    obtain ⟨C, hC⟩ : ∃ C, C = asC S := ⟨_, rfl⟩
    obtain ⟨Cz, hCz⟩ : ∃ Cz, Cz = asC noAS := ⟨_, rfl⟩
    have zz : ∀ w, (zeroValue 32).run Try.prog w = .ok (.agg Cz) w := by rw [hCz]; exact zeroState
    have hC1 : C.size = 43 := by rw [hC]; exact asC_size _
    have hC2 : C.all (·.oneCell') = true := by rw [hC]; exact asC_one _
    have hZ1 : Cz.size = 43 := by rw [hCz]; exact asC_size _
    rw [← hC] at hof
    rw [← hC, ← hCz] at hj1 hj2
    rw [← hC] at hla
    rw [← hCz] at hlz hln htz
    have hln : ∀ w, Calls Try.prog 19 #[.agg Cz] w fun e w' => e = .returned (.int .u64 0) ∧ Below w.heap.size w w' := hln
    obtain ⟨D, hD⟩ : ∃ D, D = avC (tellAS noAS) := ⟨_, rfl⟩
    obtain ⟨E, hE⟩ : ∃ E, E = avC noAV := ⟨_, rfl⟩
    rw [← hD] at htz hsm
    rw [← hE] at hsm hbd
    have Hbd := Lib.hid hbd
    clear hr h64 hxl h40 hok hC hCz hD hE hss hsz hs0 hs1 hs2 hseq hq1 hq2 hbd
    go_enter Try.func7, Try.ntmps7
    go_upto_region 5 with (first
      | (go_at_call 10; (with_reducible refine (aw _).mono ?_); rintro e w1 ⟨rfl, b1⟩)
      | (refine at_op (.alloc 32) ?_ rfl; first
          | (refine wpList_alloc_row rfl _ 32 rfl (some 3) rfl w1.heap.size rfl _ zz ?_; have k3 := Lib.hid (heap_alloc_new w1 (.cells Cz 32)); have bb2 := below_alloc b1 (.cells Cz 32); generalize w1.heap.size = g3 at *; generalize w1.alloc (.cells Cz 32) = w2 at *)
          | (refine wpList_alloc_row rfl _ 32 rfl (some 4) rfl w3.heap.size rfl _ zz ?_))
      | (go_at_call 11; (with_reducible refine (hof _ bb2).mono ?_); rintro e w3 ⟨rfl, b3⟩; have bb3 := below_trans bb2 b3; have m3 := Lib.hid ((b3.block g3 (heap_lt k3.out)).trans k3.out))
      | (refine at_op (.store 32 (.tmp 4) (.tmp 14)) ?_ rfl; refine wpList_store_row rfl 32 (.tmp 4) (.tmp 14) rfl w3.heap.size C rfl rfl 32 _ (heap_alloc_new w3 _) (by rw [hC1]; exact Hs.out) (by rw [hZ1, hC1]) hC2 ?_; rw [World.setRow_alloc_new]; have K4 := Lib.hid (heap_alloc_new w3 (.cells C 32)); have bb4 := below_alloc bb3 (.cells C 32); have K3 := Lib.hid (((below_alloc (Below.refl w3.heap.size w3) (.cells C 32)).block g3 (heap_lt m3.out)).trans m3.out); generalize w3.heap.size = g4 at *; generalize w3.alloc (.cells C 32) = w8 at *))
    clear k3 m3 b1 bb2 b3 bb3 zz aw hof
    obtain ⟨CV, hCV⟩ : ∃ CV : Nat → Value, CV = fun j => match j with
      | 0 => .agg Cz
      | 1 => .int .u64 0
      | 2 => .bool true
      | 3 => .bool true
      | 4 => .agg Cz
      | 5 => .agg D
      | 6 => .agg E
      | 7 => .bool true
      | 8 => .bool true
      | 9 => .bool true
      | 10 => .agg C
      | 11 => .agg Cz
      | 12 => .agg C
      | 14 => .string ss
      | 15 => .agg C
      | 17 => .string ss
      | 18 => .bool true
      | 19 => .bool true
      | 20 => .bool true
      | 21 => .agg Cz
      | 22 => .agg C
      | 23 => .agg C
      | 25 => .string ss
      | 26 => .agg C
      | 28 => .string ss
      | 29 => .bool true
      | 30 => .bool true
      | 31 => .bool true
      | 32 => .agg Cz
      | 34 => .string sz
      | 36 => .string s0
      | 37 => .string s1
      | 38 => .string s2
      | 39 => .bool true
      | 40 => .bool true
      | 41 => .bool true
      | _ => undef := ⟨_, rfl⟩
    obtain ⟨isO, hO⟩ : ∃ isO : Nat → Bool, isO = fun j => match j with
      | 13 => true
      | 16 => true
      | 24 => true
      | 27 => true
      | 33 => true
      | 35 => true
      | _ => false := ⟨_, rfl⟩
    obtain ⟨BL, hBL⟩ : ∃ BL : Nat → List Int, BL = fun j => match j with
      | 13 => L
      | 16 => L
      | 24 => L
      | 27 => L
      | 33 => [0, 1, 0, 0, 0]
      | 35 => uintL 0
      | _ => [] := ⟨_, rfl⟩
    have v0 : CV 0 = .agg Cz := congrFun hCV 0
    have o0 : isO 0 = false := congrFun hO 0
    have v1 : CV 1 = .int .u64 0 := congrFun hCV 1
    have o1 : isO 1 = false := congrFun hO 1
    have v2 : CV 2 = .bool true := congrFun hCV 2
    have o2 : isO 2 = false := congrFun hO 2
    have v3 : CV 3 = .bool true := congrFun hCV 3
    have o3 : isO 3 = false := congrFun hO 3
    have v4 : CV 4 = .agg Cz := congrFun hCV 4
    have o4 : isO 4 = false := congrFun hO 4
    have v5 : CV 5 = .agg D := congrFun hCV 5
    have o5 : isO 5 = false := congrFun hO 5
    have v6 : CV 6 = .agg E := congrFun hCV 6
    have o6 : isO 6 = false := congrFun hO 6
    have v7 : CV 7 = .bool true := congrFun hCV 7
    have o7 : isO 7 = false := congrFun hO 7
    have v8 : CV 8 = .bool true := congrFun hCV 8
    have o8 : isO 8 = false := congrFun hO 8
    have v9 : CV 9 = .bool true := congrFun hCV 9
    have o9 : isO 9 = false := congrFun hO 9
    have v10 : CV 10 = .agg C := congrFun hCV 10
    have o10 : isO 10 = false := congrFun hO 10
    have v11 : CV 11 = .agg Cz := congrFun hCV 11
    have o11 : isO 11 = false := congrFun hO 11
    have v12 : CV 12 = .agg C := congrFun hCV 12
    have o12 : isO 12 = false := congrFun hO 12
    have o13 : isO 13 = true := congrFun hO 13
    have l13 : BL 13 = L := congrFun hBL 13
    have v14 : CV 14 = .string ss := congrFun hCV 14
    have o14 : isO 14 = false := congrFun hO 14
    have v15 : CV 15 = .agg C := congrFun hCV 15
    have o15 : isO 15 = false := congrFun hO 15
    have o16 : isO 16 = true := congrFun hO 16
    have l16 : BL 16 = L := congrFun hBL 16
    have v17 : CV 17 = .string ss := congrFun hCV 17
    have o17 : isO 17 = false := congrFun hO 17
    have v18 : CV 18 = .bool true := congrFun hCV 18
    have o18 : isO 18 = false := congrFun hO 18
    have v19 : CV 19 = .bool true := congrFun hCV 19
    have o19 : isO 19 = false := congrFun hO 19
    have v20 : CV 20 = .bool true := congrFun hCV 20
    have o20 : isO 20 = false := congrFun hO 20
    have v21 : CV 21 = .agg Cz := congrFun hCV 21
    have o21 : isO 21 = false := congrFun hO 21
    have v22 : CV 22 = .agg C := congrFun hCV 22
    have o22 : isO 22 = false := congrFun hO 22
    have v23 : CV 23 = .agg C := congrFun hCV 23
    have o23 : isO 23 = false := congrFun hO 23
    have o24 : isO 24 = true := congrFun hO 24
    have l24 : BL 24 = L := congrFun hBL 24
    have v25 : CV 25 = .string ss := congrFun hCV 25
    have o25 : isO 25 = false := congrFun hO 25
    have v26 : CV 26 = .agg C := congrFun hCV 26
    have o26 : isO 26 = false := congrFun hO 26
    have o27 : isO 27 = true := congrFun hO 27
    have l27 : BL 27 = L := congrFun hBL 27
    have v28 : CV 28 = .string ss := congrFun hCV 28
    have o28 : isO 28 = false := congrFun hO 28
    have v29 : CV 29 = .bool true := congrFun hCV 29
    have o29 : isO 29 = false := congrFun hO 29
    have v30 : CV 30 = .bool true := congrFun hCV 30
    have o30 : isO 30 = false := congrFun hO 30
    have v31 : CV 31 = .bool true := congrFun hCV 31
    have o31 : isO 31 = false := congrFun hO 31
    have v32 : CV 32 = .agg Cz := congrFun hCV 32
    have o32 : isO 32 = false := congrFun hO 32
    have o33 : isO 33 = true := congrFun hO 33
    have l33 : BL 33 = [0, 1, 0, 0, 0] := congrFun hBL 33
    have v34 : CV 34 = .string sz := congrFun hCV 34
    have o34 : isO 34 = false := congrFun hO 34
    have o35 : isO 35 = true := congrFun hO 35
    have l35 : BL 35 = uintL 0 := congrFun hBL 35
    have v36 : CV 36 = .string s0 := congrFun hCV 36
    have o36 : isO 36 = false := congrFun hO 36
    have v37 : CV 37 = .string s1 := congrFun hCV 37
    have o37 : isO 37 = false := congrFun hO 37
    have v38 : CV 38 = .string s2 := congrFun hCV 38
    have o38 : isO 38 = false := congrFun hO 38
    have v39 : CV 39 = .bool true := congrFun hCV 39
    have o39 : isO 39 = false := congrFun hO 39
    have v40 : CV 40 = .bool true := congrFun hCV 40
    have o40 : isO 40 = false := congrFun hO 40
    have v41 : CV 41 = .bool true := congrFun hCV 41
    have o41 : isO 41 = false := congrFun hO 41
    clear hCV hO hBL
    have V0 := Lib.hid v0
    have V1 := Lib.hid v1
    have V2 := Lib.hid v2
    have V3 := Lib.hid v3
    have V4 := Lib.hid v4
    have V5 := Lib.hid v5
    have V6 := Lib.hid v6
    have V7 := Lib.hid v7
    have V8 := Lib.hid v8
    have V9 := Lib.hid v9
    have V10 := Lib.hid v10
    have V11 := Lib.hid v11
    have V12 := Lib.hid v12
    have LL13 := Lib.hid l13
    have V14 := Lib.hid v14
    have V15 := Lib.hid v15
    have LL16 := Lib.hid l16
    have V17 := Lib.hid v17
    have V18 := Lib.hid v18
    have V19 := Lib.hid v19
    have V20 := Lib.hid v20
    have V21 := Lib.hid v21
    have V22 := Lib.hid v22
    have V23 := Lib.hid v23
    have LL24 := Lib.hid l24
    have V25 := Lib.hid v25
    have V26 := Lib.hid v26
    have LL27 := Lib.hid l27
    have V28 := Lib.hid v28
    have V29 := Lib.hid v29
    have V30 := Lib.hid v30
    have V31 := Lib.hid v31
    have V32 := Lib.hid v32
    have LL33 := Lib.hid l33
    have V34 := Lib.hid v34
    have LL35 := Lib.hid l35
    have V36 := Lib.hid v36
    have V37 := Lib.hid v37
    have V38 := Lib.hid v38
    have V39 := Lib.hid v39
    have V40 := Lib.hid v40
    have V41 := Lib.hid v41
    clear v0 v1 v2 v3 v4 v5 v6 v7 v8 v9 v10 v11 v12 l13 v14 v15 l16 v17 v18 v19 v20 v21 v22 v23 l24 v25 v26 l27 v28 v29 v30 v31 v32 l33 v34 l35 v36 v37 v38 v39 v40 v41
    refine region_run (RegI w8 isO BL CV) (by kernel_rfl) (by kernel_rfl) (by kernel_rfl) (by kernel_rfl) (RegI.start w8 42) ?_ ?_
    · intro listed vals a1 wq i hs hcl hI hR hi hu hr1
      replace hi : i < 42 := hi
      obtain rfl | hi1 : i = 0 ∨ 1 ≤ i := by omega
      · have t3 := hR.fixed 3 (by kernel_rfl) rfl
        have kk := (hI.b.block _ (heap_lt K3.out)).trans K3.out
        exact wpOp_of_wp rfl rfl (wp_load_row 32 (.tmp 3) rfl g3 (getD_is t3) 32 Cz (0, 0) _ kk Try.underlying32 rfl (by rw [hZ1]; exact Hs.out) ⟨_, rfl, hI.keepV (Below.refl _ _) 0 o0 V0.out⟩)
      obtain rfl | hi1 : i = 1 ∨ 2 ≤ i := by omega
      · have t15 : a1.tmps[15]? = some (.agg Cz) := hI.get hR hr1 0 o0 (by kernel_rfl) (by decide) rfl V0.out
        have hc1 := hln wq
        clear hln htz hsm hj1 hj2 hla hlz hru
        refine wpOp_calls (f := 19) (args := #[.agg Cz]) rfl rfl (by go_simp) (hc1.mono ?_)
        rintro e wz ⟨rfl, b⟩
        exact ⟨_, rfl, _, rfl, hI.keepV b 1 o1 V1.out⟩
      obtain rfl | hi1 : i = 2 ∨ 3 ≤ i := by omega
      · have t16 : a1.tmps[16]? = some (.int .u64 0) := hI.get hR hr1 1 o1 (by kernel_rfl) (by decide) rfl V1.out
        clear hln htz hsm hj1 hj2 hla hlz hru
        exact wpOp_val rfl rfl (by rw [V2.out]; go_simp) ⟨_, rfl, hI.keep (Below.refl _ _) 2 o2⟩
      obtain rfl | hi1 : i = 3 ∨ 4 ≤ i := by omega
      · have t17 : a1.tmps[17]? = some (.bool true) := hI.get hR hr1 2 o2 (by kernel_rfl) (by decide) rfl V2.out
        clear hln htz hsm hj1 hj2 hla hlz hru
        exact wpOp_val rfl rfl (by rw [V3.out]; go_simp) ⟨_, rfl, hI.keep (Below.refl _ _) 3 o3⟩
      obtain rfl | hi1 : i = 4 ∨ 5 ≤ i := by omega
      · have t18 : a1.tmps[18]? = some (.bool true) := hI.get hR hr1 3 o3 (by kernel_rfl) (by decide) rfl V3.out
        have t3 := hR.fixed 3 (by kernel_rfl) rfl
        have kk := (hI.b.block _ (heap_lt K3.out)).trans K3.out
        exact wpOp_of_wp rfl (wanted_yes rfl rfl t18) (wp_load_row 32 (.tmp 3) rfl g3 (getD_is t3) 32 Cz (0, 0) _ kk Try.underlying32 rfl (by rw [hZ1]; exact Hs.out) ⟨_, rfl, hI.keepV (Below.refl _ _) 4 o4 V4.out⟩)
      obtain rfl | hi1 : i = 5 ∨ 6 ≤ i := by omega
      · have t18 : a1.tmps[18]? = some (.bool true) := hI.get hR hr1 3 o3 (by kernel_rfl) (by decide) rfl V3.out
        have t19 : a1.tmps[19]? = some (.agg Cz) := hI.get hR hr1 4 o4 (by kernel_rfl) (by decide) rfl V4.out
        have hc1 := htz wq
        clear hln htz hsm hj1 hj2 hla hlz hru
        refine wpOp_calls (f := 12) (args := #[.agg Cz]) rfl (wanted_yes rfl rfl t18) (by go_simp) (hc1.mono ?_)
        rintro e wz ⟨rfl, b⟩
        exact ⟨_, rfl, _, rfl, hI.keepV b 5 o5 V5.out⟩
      obtain rfl | hi1 : i = 6 ∨ 7 ≤ i := by omega
      · have t18 : a1.tmps[18]? = some (.bool true) := hI.get hR hr1 3 o3 (by kernel_rfl) (by decide) rfl V3.out
        clear hln htz hsm hj1 hj2 hla hlz hru
        have hbd := Hbd.out
        refine wpOp_build rfl (wanted_yes rfl rfl t18) 27 _ rfl (E) ?_ ⟨_, rfl, hI.keepV (Below.refl _ _) 6 o6 V6.out⟩
        simp only [List.map_toArray, List.map_nil]; exact hbd
      obtain rfl | hi1 : i = 7 ∨ 8 ≤ i := by omega
      · have t18 : a1.tmps[18]? = some (.bool true) := hI.get hR hr1 3 o3 (by kernel_rfl) (by decide) rfl V3.out
        have t20 : a1.tmps[20]? = some (.agg D) := hI.get hR hr1 5 o5 (by kernel_rfl) (by decide) rfl V5.out
        have t21 : a1.tmps[21]? = some (.agg E) := hI.get hR hr1 6 o6 (by kernel_rfl) (by decide) rfl V6.out
        have hc1 := hsm wq
        clear hln htz hsm hj1 hj2 hla hlz hru
        refine wpOp_calls (f := 17) (args := #[.agg D, .agg E]) rfl (wanted_yes rfl rfl t18) (by go_simp) (hc1.mono ?_)
        rintro e wz ⟨rfl, b⟩
        exact ⟨_, rfl, _, rfl, hI.keepV b 7 o7 V7.out⟩
      obtain rfl | hi1 : i = 8 ∨ 9 ≤ i := by omega
      · have t18 : a1.tmps[18]? = some (.bool true) := hI.get hR hr1 3 o3 (by kernel_rfl) (by decide) rfl V3.out
        have t22 : a1.tmps[22]? = some (.bool true) := hI.get hR hr1 7 o7 (by kernel_rfl) (by decide) rfl V7.out
        clear hln htz hsm hj1 hj2 hla hlz hru
        exact wpOp_val rfl rfl (by rw [V8.out]; go_simp) ⟨_, rfl, hI.keep (Below.refl _ _) 8 o8⟩
      obtain rfl | hi1 : i = 9 ∨ 10 ≤ i := by omega
      · have t23 : a1.tmps[23]? = some (.bool true) := hI.get hR hr1 8 o8 (by kernel_rfl) (by decide) rfl V8.out
        clear hln htz hsm hj1 hj2 hla hlz hru
        exact wpOp_val rfl rfl (by rw [V9.out]; go_simp) ⟨_, rfl, hI.keep (Below.refl _ _) 9 o9⟩
      obtain rfl | hi1 : i = 10 ∨ 11 ≤ i := by omega
      · have t24 : a1.tmps[24]? = some (.bool true) := hI.get hR hr1 9 o9 (by kernel_rfl) (by decide) rfl V9.out
        have t4 := hR.fixed 4 (by kernel_rfl) rfl
        have kk := (hI.b.block _ (heap_lt K4.out)).trans K4.out
        exact wpOp_of_wp rfl (wanted_yes rfl rfl t24) (wp_load_row 32 (.tmp 4) rfl g4 (getD_is t4) 32 C (0, 0) _ kk Try.underlying32 rfl (by rw [hC1]; exact Hs.out) ⟨_, rfl, hI.keepV (Below.refl _ _) 10 o10 V10.out⟩)
      obtain rfl | hi1 : i = 11 ∨ 12 ≤ i := by omega
      · have t24 : a1.tmps[24]? = some (.bool true) := hI.get hR hr1 9 o9 (by kernel_rfl) (by decide) rfl V9.out
        have t3 := hR.fixed 3 (by kernel_rfl) rfl
        have kk := (hI.b.block _ (heap_lt K3.out)).trans K3.out
        exact wpOp_of_wp rfl (wanted_yes rfl rfl t24) (wp_load_row 32 (.tmp 3) rfl g3 (getD_is t3) 32 Cz (0, 0) _ kk Try.underlying32 rfl (by rw [hZ1]; exact Hs.out) ⟨_, rfl, hI.keepV (Below.refl _ _) 11 o11 V11.out⟩)
      obtain rfl | hi1 : i = 12 ∨ 13 ≤ i := by omega
      · have t24 : a1.tmps[24]? = some (.bool true) := hI.get hR hr1 9 o9 (by kernel_rfl) (by decide) rfl V9.out
        have t25 : a1.tmps[25]? = some (.agg C) := hI.get hR hr1 10 o10 (by kernel_rfl) (by decide) rfl V10.out
        have t26 : a1.tmps[26]? = some (.agg Cz) := hI.get hR hr1 11 o11 (by kernel_rfl) (by decide) rfl V11.out
        have hc1 := hj1 wq
        clear hln htz hsm hj1 hj2 hla hlz hru
        refine wpOp_calls (f := 22) (args := #[.agg C, .agg Cz]) rfl (wanted_yes rfl rfl t24) (by go_simp) (hc1.mono ?_)
        rintro e wz ⟨rfl, b⟩
        exact ⟨_, rfl, _, rfl, hI.keepV b 12 o12 V12.out⟩
      obtain rfl | hi1 : i = 13 ∨ 14 ≤ i := by omega
      · have t24 : a1.tmps[24]? = some (.bool true) := hI.get hR hr1 9 o9 (by kernel_rfl) (by decide) rfl V9.out
        have t27 : a1.tmps[27]? = some (.agg C) := hI.get hR hr1 12 o12 (by kernel_rfl) (by decide) rfl V12.out
        have hc1 := hla wq
        clear hln htz hsm hj1 hj2 hla hlz hru
        refine wpOp_calls (f := 23) (args := #[.slice none 0 0, .agg C]) rfl (wanted_yes rfl rfl t24) (by go_simp) (hc1.mono ?_)
        rintro e wz ⟨v, rfl, ho, b⟩
        exact ⟨_, rfl, _, rfl, hI.keepB b 13 o13 v (by rw [LL13.out]; exact ho)⟩
      obtain rfl | hi1 : i = 14 ∨ 15 ≤ i := by omega
      · have t24 : a1.tmps[24]? = some (.bool true) := hI.get hR hr1 9 o9 (by kernel_rfl) (by decide) rfl V9.out
        have tv : a1.tmps[28]? = some (vals 13) := hR.dep hr1 13 (by kernel_rfl) (by decide) rfl
        have ho := hI.own 13 o13 (dep_of hr1 (by kernel_rfl))
        rw [LL13.out] at ho
        obtain ⟨A9, c9, e9, _, r9⟩ := ho.form
        rw [e9] at tv
        have hcv := run_string_reads (P := Try.prog) wq 37 9 5 Try.underlying37 Try.underlying5 Try.underlying9 A9 c9 _ r9
        rw [← Hss.out] at hcv
        generalize List.length (L) = n9 at *
        clear e9 ho r9
        clear hln htz hsm hj1 hj2 hla hlz hru
        exact wpOp_val rfl (wanted_yes rfl rfl t24) (by rw [V14.out]; go_simp) ⟨_, rfl, hI.keep (Below.refl _ _) 14 o14⟩
      obtain rfl | hi1 : i = 15 ∨ 16 ≤ i := by omega
      · have t24 : a1.tmps[24]? = some (.bool true) := hI.get hR hr1 9 o9 (by kernel_rfl) (by decide) rfl V9.out
        have t4 := hR.fixed 4 (by kernel_rfl) rfl
        have kk := (hI.b.block _ (heap_lt K4.out)).trans K4.out
        exact wpOp_of_wp rfl (wanted_yes rfl rfl t24) (wp_load_row 32 (.tmp 4) rfl g4 (getD_is t4) 32 C (0, 0) _ kk Try.underlying32 rfl (by rw [hC1]; exact Hs.out) ⟨_, rfl, hI.keepV (Below.refl _ _) 15 o15 V15.out⟩)
      obtain rfl | hi1 : i = 16 ∨ 17 ≤ i := by omega
      · have t24 : a1.tmps[24]? = some (.bool true) := hI.get hR hr1 9 o9 (by kernel_rfl) (by decide) rfl V9.out
        have t30 : a1.tmps[30]? = some (.agg C) := hI.get hR hr1 15 o15 (by kernel_rfl) (by decide) rfl V15.out
        have hc1 := hla wq
        clear hln htz hsm hj1 hj2 hla hlz hru
        refine wpOp_calls (f := 23) (args := #[.slice none 0 0, .agg C]) rfl (wanted_yes rfl rfl t24) (by go_simp) (hc1.mono ?_)
        rintro e wz ⟨v, rfl, ho, b⟩
        exact ⟨_, rfl, _, rfl, hI.keepB b 16 o16 v (by rw [LL16.out]; exact ho)⟩
      obtain rfl | hi1 : i = 17 ∨ 18 ≤ i := by omega
      · have t24 : a1.tmps[24]? = some (.bool true) := hI.get hR hr1 9 o9 (by kernel_rfl) (by decide) rfl V9.out
        have tv : a1.tmps[31]? = some (vals 16) := hR.dep hr1 16 (by kernel_rfl) (by decide) rfl
        have ho := hI.own 16 o16 (dep_of hr1 (by kernel_rfl))
        rw [LL16.out] at ho
        obtain ⟨A9, c9, e9, _, r9⟩ := ho.form
        rw [e9] at tv
        have hcv := run_string_reads (P := Try.prog) wq 37 9 5 Try.underlying37 Try.underlying5 Try.underlying9 A9 c9 _ r9
        rw [← Hss.out] at hcv
        generalize List.length (L) = n9 at *
        clear e9 ho r9
        clear hln htz hsm hj1 hj2 hla hlz hru
        exact wpOp_val rfl (wanted_yes rfl rfl t24) (by rw [V17.out]; go_simp) ⟨_, rfl, hI.keep (Below.refl _ _) 17 o17⟩
      obtain rfl | hi1 : i = 18 ∨ 19 ≤ i := by omega
      · have t24 : a1.tmps[24]? = some (.bool true) := hI.get hR hr1 9 o9 (by kernel_rfl) (by decide) rfl V9.out
        have t29 : a1.tmps[29]? = some (.string ss) := hI.get hR hr1 14 o14 (by kernel_rfl) (by decide) rfl V14.out
        have t32 : a1.tmps[32]? = some (.string ss) := hI.get hR hr1 17 o17 (by kernel_rfl) (by decide) rfl V17.out
        have hse : (ss.toList == ss.toList) = true := beq_self_eq_true _
        clear hln htz hsm hj1 hj2 hla hlz hru
        exact wpOp_val rfl (wanted_yes rfl rfl t24) (by rw [V18.out]; go_simp) ⟨_, rfl, hI.keep (Below.refl _ _) 18 o18⟩
      obtain rfl | hi1 : i = 19 ∨ 20 ≤ i := by omega
      · have t24 : a1.tmps[24]? = some (.bool true) := hI.get hR hr1 9 o9 (by kernel_rfl) (by decide) rfl V9.out
        have t33 : a1.tmps[33]? = some (.bool true) := hI.get hR hr1 18 o18 (by kernel_rfl) (by decide) rfl V18.out
        clear hln htz hsm hj1 hj2 hla hlz hru
        exact wpOp_val rfl rfl (by rw [V19.out]; go_simp) ⟨_, rfl, hI.keep (Below.refl _ _) 19 o19⟩
      obtain rfl | hi1 : i = 20 ∨ 21 ≤ i := by omega
      · have t34 : a1.tmps[34]? = some (.bool true) := hI.get hR hr1 19 o19 (by kernel_rfl) (by decide) rfl V19.out
        clear hln htz hsm hj1 hj2 hla hlz hru
        exact wpOp_val rfl rfl (by rw [V20.out]; go_simp) ⟨_, rfl, hI.keep (Below.refl _ _) 20 o20⟩
      obtain rfl | hi1 : i = 21 ∨ 22 ≤ i := by omega
      · have t35 : a1.tmps[35]? = some (.bool true) := hI.get hR hr1 20 o20 (by kernel_rfl) (by decide) rfl V20.out
        have t3 := hR.fixed 3 (by kernel_rfl) rfl
        have kk := (hI.b.block _ (heap_lt K3.out)).trans K3.out
        exact wpOp_of_wp rfl (wanted_yes rfl rfl t35) (wp_load_row 32 (.tmp 3) rfl g3 (getD_is t3) 32 Cz (0, 0) _ kk Try.underlying32 rfl (by rw [hZ1]; exact Hs.out) ⟨_, rfl, hI.keepV (Below.refl _ _) 21 o21 V21.out⟩)
      obtain rfl | hi1 : i = 22 ∨ 23 ≤ i := by omega
      · have t35 : a1.tmps[35]? = some (.bool true) := hI.get hR hr1 20 o20 (by kernel_rfl) (by decide) rfl V20.out
        have t4 := hR.fixed 4 (by kernel_rfl) rfl
        have kk := (hI.b.block _ (heap_lt K4.out)).trans K4.out
        exact wpOp_of_wp rfl (wanted_yes rfl rfl t35) (wp_load_row 32 (.tmp 4) rfl g4 (getD_is t4) 32 C (0, 0) _ kk Try.underlying32 rfl (by rw [hC1]; exact Hs.out) ⟨_, rfl, hI.keepV (Below.refl _ _) 22 o22 V22.out⟩)
      obtain rfl | hi1 : i = 23 ∨ 24 ≤ i := by omega
      · have t35 : a1.tmps[35]? = some (.bool true) := hI.get hR hr1 20 o20 (by kernel_rfl) (by decide) rfl V20.out
        have t36 : a1.tmps[36]? = some (.agg Cz) := hI.get hR hr1 21 o21 (by kernel_rfl) (by decide) rfl V21.out
        have t37 : a1.tmps[37]? = some (.agg C) := hI.get hR hr1 22 o22 (by kernel_rfl) (by decide) rfl V22.out
        have hc1 := hj2 wq
        clear hln htz hsm hj1 hj2 hla hlz hru
        refine wpOp_calls (f := 22) (args := #[.agg Cz, .agg C]) rfl (wanted_yes rfl rfl t35) (by go_simp) (hc1.mono ?_)
        rintro e wz ⟨rfl, b⟩
        exact ⟨_, rfl, _, rfl, hI.keepV b 23 o23 V23.out⟩
      obtain rfl | hi1 : i = 24 ∨ 25 ≤ i := by omega
      · have t35 : a1.tmps[35]? = some (.bool true) := hI.get hR hr1 20 o20 (by kernel_rfl) (by decide) rfl V20.out
        have t38 : a1.tmps[38]? = some (.agg C) := hI.get hR hr1 23 o23 (by kernel_rfl) (by decide) rfl V23.out
        have hc1 := hla wq
        clear hln htz hsm hj1 hj2 hla hlz hru
        refine wpOp_calls (f := 23) (args := #[.slice none 0 0, .agg C]) rfl (wanted_yes rfl rfl t35) (by go_simp) (hc1.mono ?_)
        rintro e wz ⟨v, rfl, ho, b⟩
        exact ⟨_, rfl, _, rfl, hI.keepB b 24 o24 v (by rw [LL24.out]; exact ho)⟩
      obtain rfl | hi1 : i = 25 ∨ 26 ≤ i := by omega
      · have t35 : a1.tmps[35]? = some (.bool true) := hI.get hR hr1 20 o20 (by kernel_rfl) (by decide) rfl V20.out
        have tv : a1.tmps[39]? = some (vals 24) := hR.dep hr1 24 (by kernel_rfl) (by decide) rfl
        have ho := hI.own 24 o24 (dep_of hr1 (by kernel_rfl))
        rw [LL24.out] at ho
        obtain ⟨A9, c9, e9, _, r9⟩ := ho.form
        rw [e9] at tv
        have hcv := run_string_reads (P := Try.prog) wq 37 9 5 Try.underlying37 Try.underlying5 Try.underlying9 A9 c9 _ r9
        rw [← Hss.out] at hcv
        generalize List.length (L) = n9 at *
        clear e9 ho r9
        clear hln htz hsm hj1 hj2 hla hlz hru
        exact wpOp_val rfl (wanted_yes rfl rfl t35) (by rw [V25.out]; go_simp) ⟨_, rfl, hI.keep (Below.refl _ _) 25 o25⟩
      obtain rfl | hi1 : i = 26 ∨ 27 ≤ i := by omega
      · have t35 : a1.tmps[35]? = some (.bool true) := hI.get hR hr1 20 o20 (by kernel_rfl) (by decide) rfl V20.out
        have t4 := hR.fixed 4 (by kernel_rfl) rfl
        have kk := (hI.b.block _ (heap_lt K4.out)).trans K4.out
        exact wpOp_of_wp rfl (wanted_yes rfl rfl t35) (wp_load_row 32 (.tmp 4) rfl g4 (getD_is t4) 32 C (0, 0) _ kk Try.underlying32 rfl (by rw [hC1]; exact Hs.out) ⟨_, rfl, hI.keepV (Below.refl _ _) 26 o26 V26.out⟩)
      obtain rfl | hi1 : i = 27 ∨ 28 ≤ i := by omega
      · have t35 : a1.tmps[35]? = some (.bool true) := hI.get hR hr1 20 o20 (by kernel_rfl) (by decide) rfl V20.out
        have t41 : a1.tmps[41]? = some (.agg C) := hI.get hR hr1 26 o26 (by kernel_rfl) (by decide) rfl V26.out
        have hc1 := hla wq
        clear hln htz hsm hj1 hj2 hla hlz hru
        refine wpOp_calls (f := 23) (args := #[.slice none 0 0, .agg C]) rfl (wanted_yes rfl rfl t35) (by go_simp) (hc1.mono ?_)
        rintro e wz ⟨v, rfl, ho, b⟩
        exact ⟨_, rfl, _, rfl, hI.keepB b 27 o27 v (by rw [LL27.out]; exact ho)⟩
      obtain rfl | hi1 : i = 28 ∨ 29 ≤ i := by omega
      · have t35 : a1.tmps[35]? = some (.bool true) := hI.get hR hr1 20 o20 (by kernel_rfl) (by decide) rfl V20.out
        have tv : a1.tmps[42]? = some (vals 27) := hR.dep hr1 27 (by kernel_rfl) (by decide) rfl
        have ho := hI.own 27 o27 (dep_of hr1 (by kernel_rfl))
        rw [LL27.out] at ho
        obtain ⟨A9, c9, e9, _, r9⟩ := ho.form
        rw [e9] at tv
        have hcv := run_string_reads (P := Try.prog) wq 37 9 5 Try.underlying37 Try.underlying5 Try.underlying9 A9 c9 _ r9
        rw [← Hss.out] at hcv
        generalize List.length (L) = n9 at *
        clear e9 ho r9
        clear hln htz hsm hj1 hj2 hla hlz hru
        exact wpOp_val rfl (wanted_yes rfl rfl t35) (by rw [V28.out]; go_simp) ⟨_, rfl, hI.keep (Below.refl _ _) 28 o28⟩
      obtain rfl | hi1 : i = 29 ∨ 30 ≤ i := by omega
      · have t35 : a1.tmps[35]? = some (.bool true) := hI.get hR hr1 20 o20 (by kernel_rfl) (by decide) rfl V20.out
        have t40 : a1.tmps[40]? = some (.string ss) := hI.get hR hr1 25 o25 (by kernel_rfl) (by decide) rfl V25.out
        have t43 : a1.tmps[43]? = some (.string ss) := hI.get hR hr1 28 o28 (by kernel_rfl) (by decide) rfl V28.out
        have hse : (ss.toList == ss.toList) = true := beq_self_eq_true _
        clear hln htz hsm hj1 hj2 hla hlz hru
        exact wpOp_val rfl (wanted_yes rfl rfl t35) (by rw [V29.out]; go_simp) ⟨_, rfl, hI.keep (Below.refl _ _) 29 o29⟩
      obtain rfl | hi1 : i = 30 ∨ 31 ≤ i := by omega
      · have t35 : a1.tmps[35]? = some (.bool true) := hI.get hR hr1 20 o20 (by kernel_rfl) (by decide) rfl V20.out
        have t44 : a1.tmps[44]? = some (.bool true) := hI.get hR hr1 29 o29 (by kernel_rfl) (by decide) rfl V29.out
        clear hln htz hsm hj1 hj2 hla hlz hru
        exact wpOp_val rfl rfl (by rw [V30.out]; go_simp) ⟨_, rfl, hI.keep (Below.refl _ _) 30 o30⟩
      obtain rfl | hi1 : i = 31 ∨ 32 ≤ i := by omega
      · have t45 : a1.tmps[45]? = some (.bool true) := hI.get hR hr1 30 o30 (by kernel_rfl) (by decide) rfl V30.out
        clear hln htz hsm hj1 hj2 hla hlz hru
        exact wpOp_val rfl rfl (by rw [V31.out]; go_simp) ⟨_, rfl, hI.keep (Below.refl _ _) 31 o31⟩
      obtain rfl | hi1 : i = 32 ∨ 33 ≤ i := by omega
      · have t46 : a1.tmps[46]? = some (.bool true) := hI.get hR hr1 31 o31 (by kernel_rfl) (by decide) rfl V31.out
        have t3 := hR.fixed 3 (by kernel_rfl) rfl
        have kk := (hI.b.block _ (heap_lt K3.out)).trans K3.out
        exact wpOp_of_wp rfl (wanted_yes rfl rfl t46) (wp_load_row 32 (.tmp 3) rfl g3 (getD_is t3) 32 Cz (0, 0) _ kk Try.underlying32 rfl (by rw [hZ1]; exact Hs.out) ⟨_, rfl, hI.keepV (Below.refl _ _) 32 o32 V32.out⟩)
      obtain rfl | hi1 : i = 33 ∨ 34 ≤ i := by omega
      · have t46 : a1.tmps[46]? = some (.bool true) := hI.get hR hr1 31 o31 (by kernel_rfl) (by decide) rfl V31.out
        have t47 : a1.tmps[47]? = some (.agg Cz) := hI.get hR hr1 32 o32 (by kernel_rfl) (by decide) rfl V32.out
        have hc1 := hlz wq
        clear hln htz hsm hj1 hj2 hla hlz hru
        refine wpOp_calls (f := 23) (args := #[.slice none 0 0, .agg Cz]) rfl (wanted_yes rfl rfl t46) (by go_simp) (hc1.mono ?_)
        rintro e wz ⟨v, rfl, ho, b⟩
        exact ⟨_, rfl, _, rfl, hI.keepB b 33 o33 v (by rw [LL33.out]; exact ho)⟩
      obtain rfl | hi1 : i = 34 ∨ 35 ≤ i := by omega
      · have t46 : a1.tmps[46]? = some (.bool true) := hI.get hR hr1 31 o31 (by kernel_rfl) (by decide) rfl V31.out
        have tv : a1.tmps[48]? = some (vals 33) := hR.dep hr1 33 (by kernel_rfl) (by decide) rfl
        have ho := hI.own 33 o33 (dep_of hr1 (by kernel_rfl))
        rw [LL33.out] at ho
        obtain ⟨A9, c9, e9, _, r9⟩ := ho.form
        rw [e9] at tv
        have hcv := run_string_reads (P := Try.prog) wq 37 9 5 Try.underlying37 Try.underlying5 Try.underlying9 A9 c9 _ r9
        rw [← Hsz.out] at hcv
        generalize List.length ([0, 1, 0, 0, 0]) = n9 at *
        clear e9 ho r9
        clear hln htz hsm hj1 hj2 hla hlz hru
        exact wpOp_val rfl (wanted_yes rfl rfl t46) (by rw [V34.out]; go_simp) ⟨_, rfl, hI.keep (Below.refl _ _) 34 o34⟩
      obtain rfl | hi1 : i = 35 ∨ 36 ≤ i := by omega
      · have t46 : a1.tmps[46]? = some (.bool true) := hI.get hR hr1 31 o31 (by kernel_rfl) (by decide) rfl V31.out
        have hc1 := hru wq
        clear hln htz hsm hj1 hj2 hla hlz hru
        refine wpOp_calls (f := 24) (args := #[.int .u64 0]) rfl (wanted_yes rfl rfl t46) (by go_simp) (hc1.mono ?_)
        rintro e wz ⟨v, rfl, ho, b⟩
        exact ⟨_, rfl, _, rfl, hI.keepB b 35 o35 v (by rw [LL35.out]; exact ho)⟩
      obtain rfl | hi1 : i = 36 ∨ 37 ≤ i := by omega
      · have t46 : a1.tmps[46]? = some (.bool true) := hI.get hR hr1 31 o31 (by kernel_rfl) (by decide) rfl V31.out
        have tv : a1.tmps[50]? = some (vals 35) := hR.dep hr1 35 (by kernel_rfl) (by decide) rfl
        have ho := hI.own 35 o35 (dep_of hr1 (by kernel_rfl))
        rw [LL35.out] at ho
        obtain ⟨A9, c9, e9, _, r9⟩ := ho.form
        rw [e9] at tv
        have hcv := run_string_reads (P := Try.prog) wq 37 9 5 Try.underlying37 Try.underlying5 Try.underlying9 A9 c9 _ r9
        rw [← Hs0.out] at hcv
        generalize List.length (uintL 0) = n9 at *
        clear e9 ho r9
        clear hln htz hsm hj1 hj2 hla hlz hru
        exact wpOp_val rfl (wanted_yes rfl rfl t46) (by rw [V36.out]; go_simp) ⟨_, rfl, hI.keep (Below.refl _ _) 36 o36⟩
      obtain rfl | hi1 : i = 37 ∨ 38 ≤ i := by omega
      · have t46 : a1.tmps[46]? = some (.bool true) := hI.get hR hr1 31 o31 (by kernel_rfl) (by decide) rfl V31.out
        have t51 : a1.tmps[51]? = some (.string s0) := hI.get hR hr1 36 o36 (by kernel_rfl) (by decide) rfl V36.out
        have h1 := HS1.out
        clear hln htz hsm hj1 hj2 hla hlz hru
        exact wpOp_val rfl (wanted_yes rfl rfl t46) (by rw [V37.out]; go_simp) ⟨_, rfl, hI.keep (Below.refl _ _) 37 o37⟩
      obtain rfl | hi1 : i = 38 ∨ 39 ≤ i := by omega
      · have t46 : a1.tmps[46]? = some (.bool true) := hI.get hR hr1 31 o31 (by kernel_rfl) (by decide) rfl V31.out
        have t52 : a1.tmps[52]? = some (.string s1) := hI.get hR hr1 37 o37 (by kernel_rfl) (by decide) rfl V37.out
        have h2 := HS2.out
        clear hln htz hsm hj1 hj2 hla hlz hru
        exact wpOp_val rfl (wanted_yes rfl rfl t46) (by rw [V38.out]; go_simp) ⟨_, rfl, hI.keep (Below.refl _ _) 38 o38⟩
      obtain rfl | hi1 : i = 39 ∨ 40 ≤ i := by omega
      · have t46 : a1.tmps[46]? = some (.bool true) := hI.get hR hr1 31 o31 (by kernel_rfl) (by decide) rfl V31.out
        have t49 : a1.tmps[49]? = some (.string sz) := hI.get hR hr1 34 o34 (by kernel_rfl) (by decide) rfl V34.out
        have t53 : a1.tmps[53]? = some (.string s2) := hI.get hR hr1 38 o38 (by kernel_rfl) (by decide) rfl V38.out
        have h3 := HSQ.out
        clear hln htz hsm hj1 hj2 hla hlz hru
        exact wpOp_val rfl (wanted_yes rfl rfl t46) (by rw [V39.out]; go_simp) ⟨_, rfl, hI.keep (Below.refl _ _) 39 o39⟩
      obtain rfl | hi1 : i = 40 ∨ 41 ≤ i := by omega
      · have t46 : a1.tmps[46]? = some (.bool true) := hI.get hR hr1 31 o31 (by kernel_rfl) (by decide) rfl V31.out
        have t54 : a1.tmps[54]? = some (.bool true) := hI.get hR hr1 39 o39 (by kernel_rfl) (by decide) rfl V39.out
        clear hln htz hsm hj1 hj2 hla hlz hru
        exact wpOp_val rfl rfl (by rw [V40.out]; go_simp) ⟨_, rfl, hI.keep (Below.refl _ _) 40 o40⟩
      obtain rfl : i = 41 := by omega
      have t55 : a1.tmps[55]? = some (.bool true) := hI.get hR hr1 40 o40 (by kernel_rfl) (by decide) rfl V40.out
      clear hln htz hsm hj1 hj2 hla hlz hru
      exact wpOp_val rfl rfl (by rw [V41.out]; go_simp) ⟨_, rfl, hI.keep (Below.refl _ _) 41 o41⟩
    · intro listed vals wq FF hI hall hFF
      have hF2 : FF = (((((((((((((((((((((((((((((((((((((((((Act.put _ (some 15) (vals 0)).put (some 16) (vals 1)).put (some 17) (vals 2)).put (some 18) (vals 3)).put (some 19) (vals 4)).put (some 20) (vals 5)).put (some 21) (vals 6)).put (some 22) (vals 7)).put (some 23) (vals 8)).put (some 24) (vals 9)).put (some 25) (vals 10)).put (some 26) (vals 11)).put (some 27) (vals 12)).put (some 28) (vals 13)).put (some 29) (vals 14)).put (some 30) (vals 15)).put (some 31) (vals 16)).put (some 32) (vals 17)).put (some 33) (vals 18)).put (some 34) (vals 19)).put (some 35) (vals 20)).put (some 36) (vals 21)).put (some 37) (vals 22)).put (some 38) (vals 23)).put (some 39) (vals 24)).put (some 40) (vals 25)).put (some 41) (vals 26)).put (some 42) (vals 27)).put (some 43) (vals 28)).put (some 44) (vals 29)).put (some 45) (vals 30)).put (some 46) (vals 31)).put (some 47) (vals 32)).put (some 48) (vals 33)).put (some 49) (vals 34)).put (some 50) (vals 35)).put (some 51) (vals 36)).put (some 52) (vals 37)).put (some 53) (vals 38)).put (some 54) (vals 39)).put (some 55) (vals 40)).put (some 2) (vals 41) := hFF
      simp only [putAll] at hF2
      rw [hF2]
      have e41 := hI.val 41 o41 (hall 41 (by decide))
      rw [V41.out] at e41
      have bfin := hI.b
      clear hF2 hFF hI hall
      rw [e41]
      go_frame
      go_wp2_with fail
      go_ret
      exact ⟨rfl, below_trans bb4 bfin⟩
theorem aggNone_walk (W : World) (A : Option Addr) (cap : Nat) (xs : List Nat) (hc : xs.length ≤ cap) (hl : cap ≤ maxLen) (hr : FReads W A xs) (hw : Words64 xs) :
    Calls Try.prog 7 #[.slice A xs.length cap] W fun e w' => e = .returned (.bool true) ∧ Below W.heap.size W w' :=
  aggNone_any A cap xs W hr hw (by unfold maxLen at hl; omega)
end Go.Proofs.Ytjmllggjaplldaa
