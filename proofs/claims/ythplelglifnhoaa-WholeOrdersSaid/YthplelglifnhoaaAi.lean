import Derived.Test.YthplelglifnhoaaAh
import Derived.Deep.QuietTactic
import Derived.BigQuiet
/-! The document's telling of a list of values: the walk. -/
namespace Go.Proofs.Ythplelglifnhoaa
open Go.RowKit
set_option linter.unusedVariables false
attribute [-simp] Try.isAgg61 Try.sizeOf61 Try.typeInfo61 Try.type61
attribute [-simp] Try.isAgg99 Try.sizeOf99 Try.typeInfo99 Try.type99

theorem avC_lo (n x : Nat) (ov : Bool) (lo hi lo' : Nat) : (avC ⟨n, x, ov, lo, hi⟩).setIfInBounds 3 (.float .f64 lo') = avC ⟨n, x, ov, lo', hi⟩ := rfl
theorem avC_hi (n x : Nat) (ov : Bool) (lo hi hi' : Nat) : (avC ⟨n, x, ov, lo, hi⟩).setIfInBounds 4 (.float .f64 hi') = avC ⟨n, x, ov, lo, hi'⟩ := rfl
set_option maxRecDepth 100000 in
theorem built_noAgg : Try.prog.built 61 [] = some (avC noAV) := by kernel_rfl
theorem FReads.lit {w : World} {a : Addr} {xs : List Nat} (h : FReads w (some a) xs) (i : Nat) (hi : i < xs.length) : w.cell? (a.add i) = some (.float .f64 (fd xs i)) := by
  obtain ⟨_, e, hc⟩ := h i hi
  cases e
  exact hc
theorem run_store_flt {P : Program} {w : World} {a : Addr} {u : Value} (x : Nat) (hc : w.cell? a = some u) (hf : w.frozen? a = false) : (store a (.float .f64 x)).run P w = .ok () (w.setCell a (.float .f64 x)) := by
  rw [run_store P w a _ _ rfl, hc]
  simp only [hf]
  rfl
set_option maxRecDepth 100000 in
set_option maxHeartbeats 16000000 in
theorem valueR_any (A : Option Addr) (cap : Nat) (xs : List Nat) (w : World) (hr : FReads w A xs) (h64 : Words64 xs) (hlen : xs.length ≤ 1000) :
    Calls Try.prog 33 #[.slice A xs.length cap] w fun e w' => e = .returned (.agg (avC (valueR xs))) ∧ Below w.heap.size w w' := by
  have Hs := Lib.hid sizeAgg
  obtain ⟨Z, hZ, zz⟩ : ∃ Z : Array Value, Z.size = 5 ∧ ∀ w, (zeroValue 61).run Try.prog w = .ok (.agg Z) w := ⟨avC noAV, rfl, zeroAgg⟩
  have hz2 := heap_alloc_new w (.cells Z 61)
  have hb2 := below_alloc (Below.refl w.heap.size w) (.cells Z 61)
  by_cases h0 : xs.length = 0
  · obtain rfl := List.eq_nil_of_length_eq_zero h0
    have hv : valueR [] = noAV := rfl
    rw [hv]
    have hN : (avC noAV).size = 5 := rfl
    have hN1 := avC_one noAV
    have hbd := built_noAgg
    generalize avC noAV = D at *
    clear h0 hr h64 hlen hv
    go_enter Try.func33, Try.ntmps33
    go_wp2_with (first
      | (refine at_op (.alloc 61) ?_ rfl; refine wpList_alloc_row rfl _ 61 rfl (some 2) rfl w.heap.size rfl Z zz ?_)
      | (refine at_op (.build 61 #[]) ?_ rfl; refine wpList_plain rfl fun K hK => wp_build 61 #[] rfl (by simp only [List.map_toArray, List.map_nil]; rw [hbd]; rfl) (hK _ _ ?_); simp only [List.map_toArray, List.map_nil, hbd, Option.getD_some])
      | (refine at_op (.store 61 (.tmp 2) (.tmp 10)) ?_ rfl; refine wpList_store_row rfl 61 (.tmp 2) (.tmp 10) rfl w.heap.size D rfl rfl 61 Z hz2 (by rw [hN]; exact Hs.out) (by rw [hN, hZ]) hN1 ?_))
    exact bodyPost_ret (results_cell_row rfl _ _ w.heap.size 61 _ (0, 0) _ rfl (setRow_heap _ _ _ _ _ _ hz2) Try.underlying61 rfl (by rw [hN]; exact Hs.out)) rfl ⟨rfl, below_setRow hb2 (by omega) _⟩
  · obtain ⟨a, rfl⟩ : ∃ a, A = some a := by
      obtain ⟨a, h, _⟩ := hr 0 (by omega)
      exact ⟨a, h⟩
    have hpos : 0 < xs.length := by omega
    obtain ⟨N, hN⟩ : ∃ N : Nat, N = 2240 := ⟨_, rfl⟩
    have hrof := fun w1 (b : Below w.heap.size w w1) => refOf_any (some a) cap xs N w1 hN (hr.below b) h64 hlen
    have hrval := fun g w h => refValue_any g (sumOf xs) N w hN h
    have hxl := refVal_lt (sumOf xs)
    have hvr : valueR xs = ⟨xs.length, (refVal (sumOf xs)).1, (refVal (sumOf xs)).2, canon (loR xs xs.length), canon (hiR xs xs.length)⟩ := by unfold valueR; rw [if_neg h0]
    generalize (refVal (sumOf xs)).1 = y at *
    generalize (refVal (sumOf xs)).2 = ov at *
    generalize sumOf xs = S at *
    rw [hvr]
    have hlo := loR_lt xs h64 hpos
    have hhi := hiR_lt xs h64 hpos
    have hls := loR_succ xs
    have hhs := hiR_succ xs
    have hl0 := loR_zero xs
    have hh0 := hiR_zero xs
    have Hwl := Lib.hid (wrap_len xs.length (by omega))
    have h0i : ¬ ((xs.length : Int) = 0) := by omega
    have Hr := Lib.hid fun (w1 : World) (b : Below w.heap.size w w1) (i : Nat) (hi : i < xs.length) => (hr.below b).lit i hi
    have Hhl := Lib.hid hlo
    have Hhh := Lib.hid hhi
    have Hls := Lib.hid hls
    have Hhs := Lib.hid hhs
    have H64 := Lib.hid h64
    have Hl0 := Lib.hid hl0
    have Hh0 := Lib.hid hh0
    clear hN hr hvr hlo hhi hls hhs h64 hl0 hh0
    go_enter Try.func33, Try.ntmps33
    go_upto_region 4 with (first
      | (refine at_op (.alloc 61) ?_ rfl; refine wpList_alloc_row rfl _ 61 rfl (some 2) rfl w.heap.size rfl Z zz ?_)
      | (go_at_call 48; (with_reducible refine (hrof _ hb2).mono ?_); rintro e w3 ⟨k, rfl, hk, b3⟩; have bb3 := below_trans hb2 b3; have k3 := Lib.hid ((b3.block _ (heap_lt hz2)).trans hz2))
      | (go_at_call 49; (with_reducible refine (hrval _ _ hk).mono ?_); rintro e w4 ⟨rfl, b4⟩; have bb4 := below_trans bb3 b4; have k4 := Lib.hid ((b4.block _ (heap_lt k3.out)).trans k3.out)))
    have c00 := (Hr.out w4 bb4) 0 hpos
    have ha0 : a.add 0 = a := by unfold Addr.add; simp
    rw [ha0] at c00
    have c0 := Lib.hid c00
    clear c00 ha0
    obtain ⟨D, hD⟩ : ∃ D, D = avC ⟨xs.length, y, ov, fd xs 0, fd xs 0⟩ := ⟨_, rfl⟩
    have HD := Lib.hid (show D.size = 5 by rw [hD]; rfl)
    have HD1 := Lib.hid (show D.all (·.oneCell') = true by rw [hD]; exact avC_one _)
    have HB := Lib.hid (show Try.prog.built 61 [(0, .int .u64 (xs.length : Int)), (1, .float .f64 y), (2, .bool ov), (3, .float .f64 (fd xs 0)), (4, .float .f64 (fd xs 0))] = some D by rw [hD]; exact built_agg _ _ _ _ _)
    have ZZ := Lib.hid zz
    clear zz hrof hrval hk b3 b4 bb3 k3 hz2 hb2
    go_cut [5] (fun v wr => ∃ g, v = .pointer (some ⟨g, 0, none⟩) ∧ w.heap.size ≤ g ∧ w.heap.size ≠ g ∧ wr.heap[g]? = some (.cells D 61 (0, 0)) ∧ wr.heap[w.heap.size]? = some (.cells Z 61 (0, 0)) ∧ Below w.heap.size w wr)
    case first =>
      have hgl := heap_lt k4.out
      obtain ⟨CV, hCV⟩ : ∃ CV : Nat → Value, CV = fun j => match j with
        | 0 => .slice (some a) xs.length cap
        | 1 => .int .i64 (xs.length : Int)
        | 2 => .int .u64 (xs.length : Int)
        | 3 => .float .f64 y
        | 4 => .bool ov
        | 5 => .slice (some a) xs.length cap
        | 6 => .pointer (some a)
        | 7 => .float .f64 (fd xs 0)
        | 8 => .slice (some a) xs.length cap
        | 9 => .pointer (some a)
        | 10 => .float .f64 (fd xs 0)
        | 11 => .agg D
        | 12 => undef
        | 13 => undef
        | _ => undef := ⟨_, rfl⟩
      have v0 : CV 0 = .slice (some a) xs.length cap := congrFun hCV 0
      have o0 : 0 ≠ 12 ∧ 0 ≠ 12 + 1 := by decide
      have v1 : CV 1 = .int .i64 (xs.length : Int) := congrFun hCV 1
      have o1 : 1 ≠ 12 ∧ 1 ≠ 12 + 1 := by decide
      have v2 : CV 2 = .int .u64 (xs.length : Int) := congrFun hCV 2
      have o2 : 2 ≠ 12 ∧ 2 ≠ 12 + 1 := by decide
      have v3 : CV 3 = .float .f64 y := congrFun hCV 3
      have o3 : 3 ≠ 12 ∧ 3 ≠ 12 + 1 := by decide
      have v4 : CV 4 = .bool ov := congrFun hCV 4
      have o4 : 4 ≠ 12 ∧ 4 ≠ 12 + 1 := by decide
      have v5 : CV 5 = .slice (some a) xs.length cap := congrFun hCV 5
      have o5 : 5 ≠ 12 ∧ 5 ≠ 12 + 1 := by decide
      have v6 : CV 6 = .pointer (some a) := congrFun hCV 6
      have o6 : 6 ≠ 12 ∧ 6 ≠ 12 + 1 := by decide
      have v7 : CV 7 = .float .f64 (fd xs 0) := congrFun hCV 7
      have o7 : 7 ≠ 12 ∧ 7 ≠ 12 + 1 := by decide
      have v8 : CV 8 = .slice (some a) xs.length cap := congrFun hCV 8
      have o8 : 8 ≠ 12 ∧ 8 ≠ 12 + 1 := by decide
      have v9 : CV 9 = .pointer (some a) := congrFun hCV 9
      have o9 : 9 ≠ 12 ∧ 9 ≠ 12 + 1 := by decide
      have v10 : CV 10 = .float .f64 (fd xs 0) := congrFun hCV 10
      have o10 : 10 ≠ 12 ∧ 10 ≠ 12 + 1 := by decide
      have v11 : CV 11 = .agg D := congrFun hCV 11
      have o11 : 11 ≠ 12 ∧ 11 ≠ 12 + 1 := by decide
      have v12 : CV 12 = undef := congrFun hCV 12
      have v13 : CV 13 = undef := congrFun hCV 13
      clear hCV
      have V0 := Lib.hid v0
      have V1 := Lib.hid v1
      have V2 := Lib.hid v2
      have V3 := Lib.hid v3
      have V4 := Lib.hid v4
      have V5 := Lib.hid v5
      have V6 := Lib.hid v6
      have V7 := Lib.hid v7
      have V8 := Lib.hid v8
      have V9 := Lib.hid v9
      have V10 := Lib.hid v10
      have V11 := Lib.hid v11
      have V12 := Lib.hid v12
      have V13 := Lib.hid v13
      clear v0 v1 v2 v3 v4 v5 v6 v7 v8 v9 v10 v11 v12 v13
      refine region_run (RegA w4 12 (Z) (D) 61 CV) (by kernel_rfl) (by kernel_rfl) (by kernel_rfl) (by kernel_rfl) (RegA.start w4 14) ?_ ?_
      · intro listed vals a1 wq i hs hcl hI hR hi hu hr1
        replace hi : i < 14 := hi
        replace hs : listed.size = 14 := hs
        obtain rfl | hi1 : i = 0 ∨ 1 ≤ i := by omega
        · have t0 := hR.fixed 0 (by kernel_rfl) rfl
          exact wpOp_val rfl rfl (by rw [V0.out]; go_simp) ⟨_, rfl, hI.keep (Below.refl _ _) 0 o0⟩
        obtain rfl | hi1 : i = 1 ∨ 2 ≤ i := by omega
        · have t17 : a1.tmps[17]? = some (.slice (some a) xs.length cap) := hI.get hR hr1 0 o0 (by kernel_rfl) (by decide) rfl V0.out
          exact wpOp_val rfl rfl (by rw [V1.out]; go_simp) ⟨_, rfl, hI.keep (Below.refl _ _) 1 o1⟩
        obtain rfl | hi1 : i = 2 ∨ 3 ≤ i := by omega
        · have t18 : a1.tmps[18]? = some (.int .i64 (xs.length : Int)) := hI.get hR hr1 1 o1 (by kernel_rfl) (by decide) rfl V1.out
          have hw2 := Hwl.out
          exact wpOp_val rfl rfl (by rw [V2.out]; go_simp) ⟨_, rfl, hI.keep (Below.refl _ _) 2 o2⟩
        obtain rfl | hi1 : i = 3 ∨ 4 ≤ i := by omega
        · have t3 := hR.fixed 3 (by kernel_rfl) rfl
          exact wpOp_val rfl rfl (by rw [V3.out]; go_simp) ⟨_, rfl, hI.keep (Below.refl _ _) 3 o3⟩
        obtain rfl | hi1 : i = 4 ∨ 5 ≤ i := by omega
        · have t4 := hR.fixed 4 (by kernel_rfl) rfl
          exact wpOp_val rfl rfl (by rw [V4.out]; go_simp) ⟨_, rfl, hI.keep (Below.refl _ _) 4 o4⟩
        obtain rfl | hi1 : i = 5 ∨ 6 ≤ i := by omega
        · have t0 := hR.fixed 0 (by kernel_rfl) rfl
          exact wpOp_val rfl rfl (by rw [V5.out]; go_simp) ⟨_, rfl, hI.keep (Below.refl _ _) 5 o5⟩
        obtain rfl | hi1 : i = 6 ∨ 7 ≤ i := by omega
        · have t22 : a1.tmps[22]? = some (.slice (some a) xs.length cap) := hI.get hR hr1 5 o5 (by kernel_rfl) (by decide) rfl V5.out
          have cc := cell_below hI.b c0.out
          have hpi : (0 : Int) < (xs.length : Int) := by omega
          exact wpOp_val rfl rfl (by rw [V6.out]; go_simp) ⟨_, rfl, hI.keep (Below.refl _ _) 6 o6⟩
        obtain rfl | hi1 : i = 7 ∨ 8 ≤ i := by omega
        · have t23 : a1.tmps[23]? = some (.pointer (some a)) := hI.get hR hr1 6 o6 (by kernel_rfl) (by decide) rfl V6.out
          have cc := cell_below hI.b c0.out
          have hpi : (0 : Int) < (xs.length : Int) := by omega
          exact wpOp_val rfl rfl (by rw [V7.out]; go_simp) ⟨_, rfl, hI.keep (Below.refl _ _) 7 o7⟩
        obtain rfl | hi1 : i = 8 ∨ 9 ≤ i := by omega
        · have t0 := hR.fixed 0 (by kernel_rfl) rfl
          exact wpOp_val rfl rfl (by rw [V8.out]; go_simp) ⟨_, rfl, hI.keep (Below.refl _ _) 8 o8⟩
        obtain rfl | hi1 : i = 9 ∨ 10 ≤ i := by omega
        · have t25 : a1.tmps[25]? = some (.slice (some a) xs.length cap) := hI.get hR hr1 8 o8 (by kernel_rfl) (by decide) rfl V8.out
          have cc := cell_below hI.b c0.out
          have hpi : (0 : Int) < (xs.length : Int) := by omega
          exact wpOp_val rfl rfl (by rw [V9.out]; go_simp) ⟨_, rfl, hI.keep (Below.refl _ _) 9 o9⟩
        obtain rfl | hi1 : i = 10 ∨ 11 ≤ i := by omega
        · have t26 : a1.tmps[26]? = some (.pointer (some a)) := hI.get hR hr1 9 o9 (by kernel_rfl) (by decide) rfl V9.out
          have cc := cell_below hI.b c0.out
          have hpi : (0 : Int) < (xs.length : Int) := by omega
          exact wpOp_val rfl rfl (by rw [V10.out]; go_simp) ⟨_, rfl, hI.keep (Below.refl _ _) 10 o10⟩
        obtain rfl | hi1 : i = 11 ∨ 12 ≤ i := by omega
        · have t19 : a1.tmps[19]? = some (.int .u64 (xs.length : Int)) := hI.get hR hr1 2 o2 (by kernel_rfl) (by decide) rfl V2.out
          have t20 : a1.tmps[20]? = some (.float .f64 y) := hI.get hR hr1 3 o3 (by kernel_rfl) (by decide) rfl V3.out
          have t21 : a1.tmps[21]? = some (.bool ov) := hI.get hR hr1 4 o4 (by kernel_rfl) (by decide) rfl V4.out
          have t24 : a1.tmps[24]? = some (.float .f64 (fd xs 0)) := hI.get hR hr1 7 o7 (by kernel_rfl) (by decide) rfl V7.out
          have t27 : a1.tmps[27]? = some (.float .f64 (fd xs 0)) := hI.get hR hr1 10 o10 (by kernel_rfl) (by decide) rfl V10.out
          have hbd := HB.out
          refine wpOp_build rfl rfl 61 _ rfl (D) ?_ ⟨_, rfl, hI.keepV (Below.refl _ _) 11 o11 V11.out⟩
          simp only [List.map_toArray, List.map_cons, List.map_nil, Act.eval, getD_is t19, getD_is t20, getD_is t21, getD_is t24, getD_is t27]; exact hbd
        obtain rfl | hi1 : i = 12 ∨ 13 ≤ i := by omega
        · have hn := unlisted (n := 13) hcl hu (by kernel_rfl)
          exact wpOp_alloc rfl rfl 61 rfl _ ZZ.out ⟨_, rfl, hI.alloc (by omega) hn⟩
        obtain rfl : i = 13 := by omega
        have t28 : a1.tmps[28]? = some (.agg D) := hI.get hR hr1 11 o11 (by kernel_rfl) (by decide) rfl V11.out
        obtain ⟨g6, e6, hg6, hh⟩ := hI.al (dep_of hr1 (by kernel_rfl))
        have t5 : a1.tmps[5]? = some (vals 12) := hR.dep hr1 12 (by kernel_rfl) (by decide) rfl
        rw [e6] at t5
        exact wpOp_of_wp rfl rfl (wp_store_row 61 (.tmp 5) (.tmp 28) rfl g6 (D) (getD_is t5) (getD_is t28) 61 _ hh (by rw [HD.out]; exact Hs.out) (by rw [HD.out]; split <;> first | exact HD.out | exact hZ) HD1.out ⟨undef, rfl, hI.store (by omega) hg6 e6 hh⟩)
      · intro listed vals wq FF hI hall hFF
        obtain ⟨g6, e6, hg6, hh6⟩ := hI.al (hall 12 (by decide))
        rw [if_pos (hall 13 (by decide))] at hh6
        have hF2 : FF = (((((((((((((Act.put _ (some 17) (vals 0)).put (some 18) (vals 1)).put (some 19) (vals 2)).put (some 20) (vals 3)).put (some 21) (vals 4)).put (some 22) (vals 5)).put (some 23) (vals 6)).put (some 24) (vals 7)).put (some 25) (vals 8)).put (some 26) (vals 9)).put (some 27) (vals 10)).put (some 28) (vals 11)).put (some 5) (vals 12)).put none (vals 13) := hFF
        simp only [putAll] at hF2
        rw [hF2]
        have bfin := hI.b
        clear hF2 hFF hall
        rw [e6]
        go_frame
        go_wp2_with fail
        go_meet
        exact ⟨g6, rfl, by omega, by omega, hh6, (hI.b.block _ hgl).trans k4.out, below_trans bb4 hI.b⟩
    case rest =>
      obtain ⟨g, rfl, hge, hne, hg, hz, hb⟩ := hcut
      have hl0 := Hl0.out
      have hh0 := Hh0.out
      rw [hD, ← hl0] at hg
      have hg : wc.heap[g]? = some (.cells (avC ⟨xs.length, y, ov, loR xs 0, hiR xs 0⟩) 61 (0, 0)) := by rw [hh0, ← hl0]; exact hg
      clear hD HB HD HD1 ZZ c0 k4 bb4 hl0 hh0 Hl0 Hh0
      go_wp2_with fail
      go_loopw [6] (fun i wr => ∃ k : Nat, k ≤ xs.length ∧ i = .int .i64 (k : Nat) ∧ wr.heap[g]? = some (.cells (avC ⟨xs.length, y, ov, loR xs k, hiR xs k⟩) 61 (0, 0)) ∧ wr.heap[w.heap.size]? = some (.cells Z 61 (0, 0)) ∧ Below w.heap.size w wr) (fun i _ => xs.length - (intOf i).toNat)
      case atStart => exact ⟨0, Nat.zero_le _, rfl, hg, hz, hb⟩
      case round =>
        clear hg hz hb
        obtain ⟨k, hk, rfl, hg, hz, hb⟩ := hrel
        have Hg := Lib.hid hg
        have Hz := Lib.hid hz
        have hl1 := Hhl.out k hk
        have hh1 := Hhh.out k hk
        by_cases hlt : k < xs.length
        · have ck := (Hr.out wr hb) k hlt
          have hx := H64.out k hlt
          have e1 := Hls.out k hlt
          have e2 := Hhs.out k hlt
          have hlti : (k : Int) < (xs.length : Int) := by omega
          generalize hX : fd xs k = x at *
          have HX := Lib.hid hX
          clear hX
          have hbf := fun w => before_any x (loR xs k) w hx hl1
          have hbg := fun w => before_any (hiR xs k) x w hh1 hx
          unfold minR at e1
          unfold maxR at e2
          obtain ⟨bb1, hbb1⟩ : ∃ b, decide (rank x < rank (loR xs k)) = b := ⟨_, rfl⟩
          obtain ⟨bb2, hbb2⟩ : ∃ b, decide (rank (hiR xs k) < rank x) = b := ⟨_, rfl⟩
          have e1 : loR xs (k + 1) = if bb1 = true then x else loR xs k := by rw [e1, ← hbb1]; simp only [decide_eq_true_eq]
          have e2 : hiR xs (k + 1) = if bb2 = true then x else hiR xs k := by rw [e2, ← hbb2]; simp only [decide_eq_true_eq]
          rw [hbb1] at hbf
          rw [hbb2] at hbg
          have E1 := Lib.hid e1
          have E2 := Lib.hid e2
          clear e1 e2 hz Hwl hbb1 hbb2 hl1 hh1 hx
          generalize loR xs k = lo at *
          generalize hiR xs k = hi at *
          generalize hL1 : loR xs (k + 1) = lo' at *
          generalize hH1 : hiR xs (k + 1) = hi' at *
          have HL1 := Lib.hid hL1
          have HH1 := Lib.hid hH1
          clear hL1 hH1
          have c3 : wr.cell? ⟨g, 3, none⟩ = some (.float .f64 lo) := cell_of_row _ _ 3 _ _ _ hg
          have hf3 := frozen_of_row hg 3
          have hst : ∀ n, (store ⟨g, 3, none⟩ (.float .f64 x)).run Try.prog (wr.drewN n) = .ok () ((wr.drewN n).setCell ⟨g, 3, none⟩ (.float .f64 x)) := fun n => run_store_flt x (u := .float .f64 lo) c3 hf3
          go_wp2_with fail
          go_quiet ((go_at_call 50; exact quiet_of_left (hbf _)))
          go_upto_if 41 with fail
          go_cut [6] (fun i wx => i = .int .i64 (k : Nat) ∧ wx.heap[g]? = some (.cells (avC ⟨xs.length, y, ov, lo', hi⟩) 61 (0, 0)) ∧ wx.heap[w.heap.size]? = some (.cells Z 61 (0, 0)) ∧ Below w.heap.size w wx)
          case first =>
            cases bb1
            · rw [if_neg (by decide)] at E1
              go_wp2_with fail
              go_meet
              exact ⟨rfl, by rw [E1.out]; exact Hg.out, Hz.out, below_drewN hb _⟩
            · rw [if_pos rfl] at E1
              go_wp2_with fail
              go_meet
              exact ⟨rfl, by rw [E1.out, ← avC_lo xs.length y ov lo hi x]; exact heap_setCell_at (w := wr.drewN nq) (k := 3) Hg.out _, (Below.heap_setCell (wr.drewN nq) _ _ _ (by simpa using hne)).trans Hz.out, (below_drewN hb _).setCell (p := ⟨g, 3, none⟩) hge _⟩
          case rest =>
            obtain ⟨rfl, hg2, hz2, hb2⟩ := hcut
            clear hst c3 hf3 E1 Hg Hz hg
            have Hg := Lib.hid hg2
            have Hz := Lib.hid hz2
            have ck2 : wc.cell? (a.add k) = some (.float .f64 x) := by rw [← HX.out]; exact (Hr.out wc hb2) k hlt
            clear ck
            have c4 : wc.cell? ⟨g, 4, none⟩ = some (.float .f64 hi) := cell_of_row _ _ 4 _ _ _ hg2
            have hf4 := frozen_of_row hg2 4
            have hst : ∀ n, (store ⟨g, 4, none⟩ (.float .f64 x)).run Try.prog (wc.drewN n) = .ok () ((wc.drewN n).setCell ⟨g, 4, none⟩ (.float .f64 x)) := fun n => run_store_flt x (u := .float .f64 hi) c4 hf4
            clear hz2
            go_wp2_with fail
            go_quiet ((go_at_call 50; exact quiet_of_left (hbg _)))
            cases bb2
            · rw [if_neg (by decide)] at E2
              go_wp2_with fail
              exact ⟨⟨k + 1, by omega, by go_num, by rw [HL1.out, HH1.out, E2.out]; exact Hg.out, Hz.out, below_drewN hb2 _⟩, by simp [intOf]; omega⟩
            · rw [if_pos rfl] at E2
              go_wp2_with fail
              exact ⟨⟨k + 1, by omega, by go_num, by rw [HL1.out, HH1.out, E2.out, ← avC_hi xs.length y ov lo' hi x]; exact heap_setCell_at (w := wc.drewN nq) (k := 4) Hg.out _, (Below.heap_setCell (wc.drewN nq) _ _ _ (by simpa using hne)).trans Hz.out, (below_drewN hb2 _).setCell (p := ⟨g, 4, none⟩) hge _⟩, by simp [intOf]; omega⟩
        · obtain rfl : k = xs.length := by omega
          generalize hL1 : loR xs xs.length = lo at *
          generalize hH1 : hiR xs xs.length = hi at *
          have HL1 := Lib.hid hL1
          have HH1 := Lib.hid hH1
          clear hL1 hH1
          have c3 : wr.cell? ⟨g, 3, none⟩ = some (.float .f64 lo) := cell_of_row _ _ 3 _ _ _ hg
          have hf3 := frozen_of_row hg 3
          have hst : (store ⟨g, 3, none⟩ (.float .f64 (canon lo))).run Try.prog wr = .ok () (wr.setCell ⟨g, 3, none⟩ (.float .f64 (canon lo))) := run_store_flt (canon lo) (u := .float .f64 lo) c3 hf3
          have hb1 := fun w => refBits_any lo w hl1
          have ho1 := fun w => refOf01_any (canon lo) w (canon_lt hl1)
          rw [canon_canon] at ho1
          have hb2 := fun w => refBits_any hi w hh1
          have ho2 := fun w => refOf01_any (canon hi) w (canon_lt hh1)
          rw [canon_canon] at ho2
          have hg2 := heap_setCell_at (k := 3) hg (.float .f64 (canon lo))
          rw [avC_lo] at hg2
          have hz2 := (Below.heap_setCell wr ⟨g, 3, none⟩ (.float .f64 (canon lo)) w.heap.size (by simpa using hne)).trans hz
          have hbb2 := hb.setCell (p := ⟨g, 3, none⟩) hge (.float .f64 (canon lo))
          clear hg hz hb Hwl Hr H64 Hls Hhs Hhl Hhh hl1 hh1
          go_upto_region 13 with (first
            | (go_at_call 52; (with_reducible refine (hb1 _).mono ?_); rintro e w7 ⟨rfl, rfl⟩)
            | (go_at_call 51; (with_reducible refine (ho1 _).mono ?_); rintro e w7 ⟨rfl, rfl⟩))
          clear hst c3 hf3 Hg Hz hb1 ho1
          generalize wr.setCell ⟨g, 3, none⟩ (.float .f64 (canon lo)) = w5 at *
          have c4 : w5.cell? ⟨g, 4, none⟩ = some (.float .f64 hi) := cell_of_row _ _ 4 _ _ _ hg2
          have hf4 := frozen_of_row hg2 4
          have hst : (store ⟨g, 4, none⟩ (.float .f64 (canon hi))).run Try.prog w5 = .ok () (w5.setCell ⟨g, 4, none⟩ (.float .f64 (canon hi))) := run_store_flt (canon hi) (u := .float .f64 hi) c4 hf4
          have hg3 := heap_setCell_at (k := 4) hg2 (.float .f64 (canon hi))
          rw [avC_hi] at hg3
          have hz3 := (Below.heap_setCell w5 ⟨g, 4, none⟩ (.float .f64 (canon hi)) w.heap.size (by simpa using hne)).trans hz2
          have hbb3 := hbb2.setCell (p := ⟨g, 4, none⟩) hge (.float .f64 (canon hi))
          clear hg2 hz2 hbb2
          go_upto_region 14 with (first
            | (go_at_call 52; (with_reducible refine (hb2 _).mono ?_); rintro e w7 ⟨rfl, rfl⟩)
            | (go_at_call 51; (with_reducible refine (ho2 _).mono ?_); rintro e w7 ⟨rfl, rfl⟩))
          clear hst c4 hf4 hb2 ho2
          generalize w5.setCell ⟨g, 4, none⟩ (.float .f64 (canon hi)) = w6 at *
          have hD := avC_one ⟨xs.length, y, ov, canon lo, canon hi⟩
          have hDs : (avC ⟨xs.length, y, ov, canon lo, canon hi⟩).size = 5 := rfl
          generalize hDD : avC ⟨xs.length, y, ov, canon lo, canon hi⟩ = D at *
          have HDD := Lib.hid hDD
          clear hDD
          go_wp2_with (first
            | (refine at_op (.load 61 (.tmp 5)) ?_ rfl; refine wpList_load_row rfl 61 (.tmp 5) rfl g rfl 61 _ (0, 0) _ hg3 Try.underlying61 rfl (by rw [hDs]; exact Hs.out) ?_)
            | (refine at_op (.store 61 (.tmp 2) (.tmp 69)) ?_ rfl; refine wpList_store_row rfl 61 (.tmp 2) (.tmp 69) rfl w.heap.size D rfl rfl 61 Z hz3 (by rw [hDs]; exact Hs.out) (by rw [hDs, hZ]) hD ?_))
          exact bodyPost_ret (results_cell_row rfl _ _ w.heap.size 61 _ (0, 0) _ rfl (setRow_heap _ _ _ _ _ _ hz3) Try.underlying61 rfl (by rw [hDs]; exact Hs.out)) rfl ⟨by rw [HL1.out, HH1.out, HDD.out], below_setRow hbb3 (by omega) _⟩
end Go.Proofs.Ythplelglifnhoaa
