import Derived.Test.YtgpfoamhcoipgaaLg
/-! The document's example. -/
namespace Go.Proofs.Ytgpfoamhcoipgaa
open Go.RowKit Go.Sort Go.ChangeMaps
set_option linter.unusedVariables false
attribute [-simp] Try.isAgg31 Try.sizeOf31 Try.typeInfo31 Try.type31
attribute [-simp] Try.isAgg36 Try.sizeOf36 Try.typeInfo36 Try.type36
attribute [-simp] Try.isAgg34 Try.sizeOf34 Try.typeInfo34 Try.type34
attribute [-simp] Try.isAgg38 Try.sizeOf38 Try.typeInfo38 Try.type38
attribute [-simp] Try.isAgg61 Try.sizeOf61 Try.typeInfo61 Try.type61
attribute [-simp] Try.isAgg63 Try.sizeOf63 Try.typeInfo63 Try.type63

set_option maxRecDepth 100000 in
set_option maxHeartbeats 8000000 in
/-- The document's example. -/
theorem awake_any (w : World) : Calls Try.prog 7 #[] w fun e w' => e = .returned (.bool true) ∧ Below w.heap.size w w' := by
  have zl := zeroLed
  have zp : ∀ w, (zeroValue 36).run Try.prog w = .ok (.agg (paneL default).toArray) w := (zero_of_info (P := Try.prog) (v := .agg (paneL default).toArray) (n := 8) (by kernel_rfl)).1
  have sl : (Try.prog.info? 27).map (·.size) = some 2 := by kernel_rfl
  have b1 : Try.prog.built 31 [(1, .int .i64 5)] = some #[.int .i64 0, .int .i64 5] := by kernel_rfl
  have b2 : Try.prog.built 34 [(0, .int .u64 1)] = some (avC ⟨1, 0, false, 0, 0⟩) := by kernel_rfl
  have b3 : Try.prog.built 36 [(0, .string ⟨#[97]⟩), (1, .agg #[.int .i64 0, .int .i64 5]), (2, .agg (avC ⟨1, 0, false, 0, 0⟩))] = some (paneL exP).toArray := by kernel_rfl
  have b4 : Try.prog.built 38 [(0, .bool true), (2, .agg (paneL exP).toArray)] = some (chA ⟨true, 0, exP⟩) := by kernel_rfl
  have b5 : Try.prog.built 38 [(2, .agg (paneL exP).toArray)] = some (chA ⟨false, 0, exP⟩) := by kernel_rfl
  have b6 : Try.prog.built 38 [(0, .bool true), (1, .int .u64 1), (2, .agg (paneL exP).toArray)] = some (chA ⟨true, 1, exP⟩) := by kernel_rfl
  have Hp := Lib.hid sizePane
  have sP : (paneL exP).toArray.size = 8 := rfl
  have oP : (paneL exP).toArray.all (·.oneCell') = true := paneA_one exP
  obtain ⟨C, hC⟩ : ∃ C, C = (paneL exP).toArray := ⟨_, rfl⟩
  obtain ⟨D0, hD0⟩ : ∃ D, D = chA ⟨true, 0, exP⟩ := ⟨_, rfl⟩
  obtain ⟨D1, hD1⟩ : ∃ D, D = chA ⟨false, 0, exP⟩ := ⟨_, rfl⟩
  obtain ⟨D2, hD2⟩ : ∃ D, D = chA ⟨true, 1, exP⟩ := ⟨_, rfl⟩
  rw [← hC] at b3 b4 b5 b6 sP oP
  rw [← hD0] at b4
  rw [← hD1] at b5
  rw [← hD2] at b6
  have hprt : ((([(0, .agg D0), (1, .agg D1), (2, .agg D2)] : List (Nat × Value)))) = (exL.zipIdx 0).map fun p => (p.2, Value.agg (chL p.1).toArray) := by rw [hD0, hD1, hD2]; rfl
  have HPR := Lib.hid hprt
  clear hprt hC hD0 hD1 hD2
  have h1 := heap_alloc2_old w (.cells #[.slice none 0 0, .map none] 27) (.cells C 36)
  have h2 := heap_alloc2_new w (.cells #[.slice none 0 0, .map none] 27) (.cells C 36)
  have hb2 := below_alloc (below_alloc (Below.refl w.heap.size w) (.cells #[.slice none 0 0, .map none] 27)) (.cells C 36)
  have s2 : ((w.alloc (.cells #[.slice none 0 0, .map none] 27)).alloc (.cells C 36)).heap.size = w.heap.size + 2 := by simp
  go_enter Try.func7, Try.ntmps7
  go_upto_region 3 with (first
    | (refine at_op (.alloc 27) ?_ rfl; refine wpList_alloc_row rfl _ 27 rfl (some 1) rfl w.heap.size rfl _ zl ?_)
    | (refine run_builtK rfl 31 _ rfl #[.int .i64 0, .int .i64 5] (by simp only [List.map_toArray, List.map_cons, List.map_nil, Act.eval]; exact b1) ?_)
    | (refine run_builtK rfl 34 _ rfl (avC ⟨1, 0, false, 0, 0⟩) (by simp only [List.map_toArray, List.map_cons, List.map_nil, Act.eval]; exact b2) ?_)
    | (refine run_builtK rfl 36 _ rfl C (by simp only [List.map_toArray, List.map_cons, List.map_nil, Act.eval]; exact b3) ?_)
    | (refine at_op (.alloc 36) ?_ rfl; refine wpList_alloc_row rfl _ 36 rfl (some 2) rfl (w.heap.size + 1) (by simp) _ zp ?_)
    | (refine at_op (.store 36 (.tmp 2) (.tmp 5)) ?_ rfl; refine wpList_store_row rfl 36 (.tmp 2) (.tmp 5) rfl (w.heap.size + 1) C rfl rfl 36 _ (heap_alloc2_new w _ _) (by rw [sP]; exact Hp.out) (by rw [sP]; rfl) oP ?_; rw [setRow2]))
  go_frame
  generalize (w.alloc (.cells #[.slice none 0 0, .map none] 27)).alloc (.cells C 36) = w2 at *
  have hL0 := LedAt.new w2.heap.size h1
  have ha3 := below_alloc (Below.refl w2.heap.size w2) (.cells (exL.flatMap chL).toArray 38)
  have hL3 := (hL0.below ha3)
  have hR3 := (OwnE.newAll encCh w2 w2.heap.size exL (Nat.le_refl _) (by decide) 3 rfl).form
  have hrw : RowsAt (w2.alloc (.cells (exL.flatMap chL).toArray 38)) chL (some ⟨w2.heap.size, 0, none⟩) exL := by
    obtain ⟨A, cap, e, _, h⟩ := hR3
    injection e with e1 _ _
    rw [e1]; exact h
  have hadd := hL3.add StdOk.new (cap := 3) hrw (by intro c hc; exact exOk c hc) (by decide) (by simp)
  rw [exAdd, show exL.length = 3 from rfl, s2] at hadd
  rw [s2] at hL3
  clear hR3 hrw hL0
  obtain ⟨E3, hE3⟩ : ∃ E3, E3 = (exL.flatMap chL).toArray := ⟨_, rfl⟩
  rw [← hE3] at hadd hL3 ha3
  have HE := Lib.hid hE3
  clear hE3
  go_wp2_with (first
    | (refine at_op (.load 36 (.tmp 2)) ?_ rfl; refine wpList_load_row rfl 36 (.tmp 2) rfl (w.heap.size + 1) rfl 36 C (0, 0) _ h2 Try.underlying36 rfl (by rw [sP]; exact Hp.out) ?_)
    | (refine at_op (.build 38 #[(0, .const (.bool true)), (2, .tmp 6)]) ?_ rfl; refine run_builtK rfl 38 _ rfl D0 (by simp only [List.map_toArray, List.map_cons, List.map_nil, Act.eval]; exact b4) ?_)
    | (refine at_op (.build 38 #[(2, .tmp 8)]) ?_ rfl; refine run_builtK rfl 38 _ rfl D1 (by simp only [List.map_toArray, List.map_cons, List.map_nil, Act.eval]; exact b5) ?_)
    | (refine at_op (.build 38 #[(0, .const (.bool true)), (1, .const (.int .u64 1)), (2, .tmp 10)]) ?_ rfl; refine run_builtK rfl 38 _ rfl D2 (by simp only [List.map_toArray, List.map_cons, List.map_nil, Act.eval]; exact b6) ?_)
    | (refine at_op (.buildSlice 24 3 #[(0, .tmp 7), (1, .tmp 9), (2, .tmp 11)]) ?_ rfl; refine wpList_buildAll encCh rfl w2 24 3 _ rfl (some 12) rfl (w.heap.size + 2) s2 rfl exL rfl (by decide) (by decide) (by simp only [List.map_toArray, List.map_cons, List.map_nil, Act.eval]; exact HPR.out) ?_; rw [← HE.out])
    | (go_at_call 10; (with_reducible refine hadd.mono ?_); rintro e w4 ⟨rfl, hL4, hS4, hF4⟩; have hview := hL4.view hS4 (by decide))
    | (go_at_call 15; (with_reducible refine hview.mono ?_); rintro e w5 ⟨u, vs, rfl, ho5, hv5, b5x⟩; obtain rfl : vs = [exP] := hv5.unique exView; obtain ⟨A5, c5, rfl, _, _⟩ := ho5.form; have hL5 := hL4.below b5x; have hlen := hL5.len)
    | (go_at_call 13; (with_reducible refine hlen.mono ?_); rintro e w6 ⟨rfl, rfl⟩))
  go_ret
  refine ⟨rfl, ?_⟩
  have b23 := below_trans hb2 ha3
  have b24 : Below w.heap.size w w4 := ⟨hF4.os.trans b23.os, hF4.tape.trans b23.tape, hF4.output.trans b23.output, Nat.le_trans b23.size hF4.size, fun i hi => (hF4.block i (by omega) (by omega)).trans (b23.block i hi)⟩
  exact below_trans b24 b5x
end Go.Proofs.Ytgpfoamhcoipgaa
