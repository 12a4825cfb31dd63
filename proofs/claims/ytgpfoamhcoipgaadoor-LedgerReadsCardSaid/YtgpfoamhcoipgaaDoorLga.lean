import Derived.Test.YtgpfoamhcoipgaaDoorLg
/-! The document's example. -/
namespace Go.Proofs.YtgpfoamhcoipgaaDoor
open Go.RowKit Go.Sort Go.ChangeMaps
set_option linter.unusedVariables false
attribute [-simp] Tryd.isAgg34 Tryd.sizeOf34 Tryd.typeInfo34 Tryd.type34
attribute [-simp] Tryd.isAgg40 Tryd.sizeOf40 Tryd.typeInfo40 Tryd.type40
attribute [-simp] Tryd.isAgg38 Tryd.sizeOf38 Tryd.typeInfo38 Tryd.type38
attribute [-simp] Tryd.isAgg43 Tryd.sizeOf43 Tryd.typeInfo43 Tryd.type43
attribute [-simp] Tryd.isAgg65 Tryd.sizeOf65 Tryd.typeInfo65 Tryd.type65
attribute [-simp] Tryd.isAgg67 Tryd.sizeOf67 Tryd.typeInfo67 Tryd.type67

set_option maxRecDepth 100000 in
set_option maxHeartbeats 8000000 in
/-- The document's example. -/
theorem awake_any (w : World) : Calls Tryd.prog 4 #[] w fun e w' => e = .returned (.bool true) ∧ Below w.heap.size w w' := by
  have zl := zeroLed
  have zp : ∀ w, (zeroValue 40).run Tryd.prog w = .ok (.agg (paneL default).toArray) w := (zero_of_info (P := Tryd.prog) (v := .agg (paneL default).toArray) (n := 8) (by kernel_rfl)).1
  have sl : (Tryd.prog.info? 32).map (·.size) = some 2 := by kernel_rfl
  have b1 : Tryd.prog.built 34 [(1, .int .i64 5)] = some #[.int .i64 0, .int .i64 5] := by kernel_rfl
  have b2 : Tryd.prog.built 38 [(0, .int .u64 1)] = some (avC ⟨1, 0, false, 0, 0⟩) := by kernel_rfl
  have b3 : Tryd.prog.built 40 [(0, .string ⟨#[97]⟩), (1, .agg #[.int .i64 0, .int .i64 5]), (2, .agg (avC ⟨1, 0, false, 0, 0⟩))] = some (paneL exP).toArray := by kernel_rfl
  have b4 : Tryd.prog.built 43 [(0, .bool true), (2, .agg (paneL exP).toArray)] = some (chA ⟨true, 0, exP⟩) := by kernel_rfl
  have b5 : Tryd.prog.built 43 [(2, .agg (paneL exP).toArray)] = some (chA ⟨false, 0, exP⟩) := by kernel_rfl
  have b6 : Tryd.prog.built 43 [(0, .bool true), (1, .int .u64 1), (2, .agg (paneL exP).toArray)] = some (chA ⟨true, 1, exP⟩) := by kernel_rfl
  have Hp := Lib.hid sizePane
  have sP : (paneL exP).toArray.size = 8 := rfl
  have oP : (paneL exP).toArray.all (·.oneCell') = true := paneA_one exP
  obtain ⟨C, hC⟩ : ∃ C, C = (paneL exP).toArray := ⟨_, rfl⟩
  obtain ⟨D0, hD0⟩ : ∃ D, D = chA ⟨true, 0, exP⟩ := ⟨_, rfl⟩
  obtain ⟨D1, hD1⟩ : ∃ D, D = chA ⟨false, 0, exP⟩ := ⟨_, rfl⟩
  obtain ⟨D2, hD2⟩ : ∃ D, D = chA ⟨true, 1, exP⟩ := ⟨_, rfl⟩
  rw [← hC] at b3 b4 b5 b6 sP oP
  rw [← hD0] at b4
  rw [← hD1] at b5
  rw [← hD2] at b6
  have hprt : ((([(0, .agg D0), (1, .agg D1), (2, .agg D2)] : List (Nat × Value)))) = (exL.zipIdx 0).map fun p => (p.2, Value.agg (chL p.1).toArray) := by rw [hD0, hD1, hD2]; rfl
  have HPR := Lib.hid hprt
  clear hprt hC hD0 hD1 hD2
  have h1 := heap_alloc2_old w (.cells #[.slice none 0 0, .map none] 32) (.cells C 40)
  have h2 := heap_alloc2_new w (.cells #[.slice none 0 0, .map none] 32) (.cells C 40)
  have hb2 := below_alloc (below_alloc (Below.refl w.heap.size w) (.cells #[.slice none 0 0, .map none] 32)) (.cells C 40)
  have s2 : ((w.alloc (.cells #[.slice none 0 0, .map none] 32)).alloc (.cells C 40)).heap.size = w.heap.size + 2 := by simp
  go_enter Tryd.func4, Tryd.ntmps4
  go_upto_region 3 with (first
    | (refine at_op (.alloc 32) ?_ rfl; refine wpList_alloc_row rfl _ 32 rfl (some 1) rfl w.heap.size rfl _ zl ?_)
    | (refine run_builtK rfl 34 _ rfl #[.int .i64 0, .int .i64 5] (by simp only [List.map_toArray, List.map_cons, List.map_nil, Act.eval]; exact b1) ?_)
    | (refine run_builtK rfl 38 _ rfl (avC ⟨1, 0, false, 0, 0⟩) (by simp only [List.map_toArray, List.map_cons, List.map_nil, Act.eval]; exact b2) ?_)
    | (refine run_builtK rfl 40 _ rfl C (by simp only [List.map_toArray, List.map_cons, List.map_nil, Act.eval]; exact b3) ?_)
    | (refine at_op (.alloc 40) ?_ rfl; refine wpList_alloc_row rfl _ 40 rfl (some 2) rfl (w.heap.size + 1) (by simp) _ zp ?_)
    | (refine at_op (.store 40 (.tmp 2) (.tmp 5)) ?_ rfl; refine wpList_store_row rfl 40 (.tmp 2) (.tmp 5) rfl (w.heap.size + 1) C rfl rfl 40 _ (heap_alloc2_new w _ _) (by rw [sP]; exact Hp.out) (by rw [sP]; rfl) oP ?_; rw [setRow2]))
  go_frame
  generalize (w.alloc (.cells #[.slice none 0 0, .map none] 32)).alloc (.cells C 40) = w2 at *
  have hL0 := LedAt.new w2.heap.size h1
  have ha3 := below_alloc (Below.refl w2.heap.size w2) (.cells (exL.flatMap chL).toArray 43)
  have hL3 := (hL0.below ha3)
  have hR3 := (OwnE.newAll encCh w2 w2.heap.size exL (Nat.le_refl _) (by decide) 3 rfl).form
  have hrw : RowsAt (w2.alloc (.cells (exL.flatMap chL).toArray 43)) chL (some ⟨w2.heap.size, 0, none⟩) exL := by
    obtain ⟨A, cap, e, _, h⟩ := hR3
    injection e with e1 _ _
    rw [e1]; exact h
  have hadd := hL3.add StdOk.new (cap := 3) hrw (by intro c hc; exact exOk c hc) (by decide) (by simp)
  rw [exAdd, show exL.length = 3 from rfl, s2] at hadd
  rw [s2] at hL3
  clear hR3 hrw hL0
  obtain ⟨E3, hE3⟩ : ∃ E3, E3 = (exL.flatMap chL).toArray := ⟨_, rfl⟩
  rw [← hE3] at hadd hL3 ha3
  have HE := Lib.hid hE3
  clear hE3
  go_wp2_with (first
    | (refine at_op (.load 40 (.tmp 2)) ?_ rfl; refine wpList_load_row rfl 40 (.tmp 2) rfl (w.heap.size + 1) rfl 40 C (0, 0) _ h2 Tryd.underlying40 rfl (by rw [sP]; exact Hp.out) ?_)
    | (refine at_op (.build 43 #[(0, .const (.bool true)), (2, .tmp 6)]) ?_ rfl; refine run_builtK rfl 43 _ rfl D0 (by simp only [List.map_toArray, List.map_cons, List.map_nil, Act.eval]; exact b4) ?_)
    | (refine at_op (.build 43 #[(2, .tmp 8)]) ?_ rfl; refine run_builtK rfl 43 _ rfl D1 (by simp only [List.map_toArray, List.map_cons, List.map_nil, Act.eval]; exact b5) ?_)
    | (refine at_op (.build 43 #[(0, .const (.bool true)), (1, .const (.int .u64 1)), (2, .tmp 10)]) ?_ rfl; refine run_builtK rfl 43 _ rfl D2 (by simp only [List.map_toArray, List.map_cons, List.map_nil, Act.eval]; exact b6) ?_)
    | (refine at_op (.buildSlice 24 3 #[(0, .tmp 7), (1, .tmp 9), (2, .tmp 11)]) ?_ rfl; refine wpList_buildAll encCh rfl w2 24 3 _ rfl (some 12) rfl (w.heap.size + 2) s2 rfl exL rfl (by decide) (by decide) (by simp only [List.map_toArray, List.map_cons, List.map_nil, Act.eval]; exact HPR.out) ?_; rw [← HE.out])
    | (go_at_call 7; (with_reducible refine hadd.mono ?_); rintro e w4 ⟨rfl, hL4, hS4, hF4⟩; have hview := hL4.view hS4 (by decide))
    | (go_at_call 8; (with_reducible refine hview.mono ?_); rintro e w5 ⟨u, vs, rfl, ho5, hv5, b5x⟩; obtain rfl : vs = [exP] := hv5.unique exView; obtain ⟨A5, c5, rfl, _, _⟩ := ho5.form; have hL5 := hL4.below b5x; have hlen := hL5.len)
    | (go_at_call 9; (with_reducible refine hlen.mono ?_); rintro e w6 ⟨rfl, rfl⟩))
  go_ret
  refine ⟨rfl, ?_⟩
  have b23 := below_trans hb2 ha3
  have b24 : Below w.heap.size w w4 := ⟨hF4.os.trans b23.os, hF4.tape.trans b23.tape, hF4.output.trans b23.output, Nat.le_trans b23.size hF4.size, fun i hi => (hF4.block i (by omega) (by omega)).trans (b23.block i hi)⟩
  exact below_trans b24 b5x
end Go.Proofs.YtgpfoamhcoipgaaDoor
