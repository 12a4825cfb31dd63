import Derived.Test.YtjmllggjaplldaaAi
/-! What is told of values: the example; the law. -/
namespace Go.Proofs.Ytjmllggjaplldaa
open Go.RowKit
set_option linter.unusedVariables false
attribute [-simp] Try.isAgg30 Try.sizeOf30 Try.typeInfo30 Try.type30
attribute [-simp] Try.isAgg32 Try.sizeOf32 Try.typeInfo32 Try.type32
attribute [-simp] Try.isAgg27 Try.sizeOf27 Try.typeInfo27 Try.type27

theorem tellAS_ok {a : AS} (h : a.ok) : (tellAS a).ok := ⟨h.n, canon_lt (valSt_low a.s), h.lo, h.hi⟩
theorem valueR_ok (xs : List Nat) (h64 : Words64 xs) (h : xs.length < 18446744073709551616) : (valueR xs).ok := by
  unfold valueR
  split
  · exact ⟨show 0 < 18446744073709551616 by decide, show 0 < 18446744073709551616 by decide, show 0 < 18446744073709551616 by decide, show 0 < 18446744073709551616 by decide⟩
  · exact ⟨h, refVal_lt _, canon_lt (loR_lt xs h64 (by omega) _ (Nat.le_refl _)), canon_lt (hiR_lt xs h64 (by omega) _ (Nat.le_refl _))⟩
theorem asOf_okA (xs : List Nat) (h64 : Words64 xs) : (asOf xs).ok := by have := asOf_ok xs h64 xs.length (Nat.le_refl _); rwa [List.take_length] at this
theorem freads_newF (w : World) (xs : List Nat) (e : TypeId) : FReads (w.alloc (.cells (xs.map (Value.float .f64)).toArray e)) (some ⟨w.heap.size, 0, none⟩) xs := fun i hi => ⟨_, rfl, by
  rw [cell_new]
  simp [fd, hi]⟩
set_option maxRecDepth 100000 in
theorem awake12_val : sameAV (tellAS (asOf [4613937818241073152, 4607182418800017408, 4611686018427387904])) ⟨3, 4618441417868443648, false, 4607182418800017408, 4613937818241073152⟩ = true := by kernel_rfl
set_option maxRecDepth 100000 in
theorem built_agg4 (n : Int) (x lo hi : Nat) : Try.prog.built 27 [(0, .int .u64 n), (1, .float .f64 x), (3, .float .f64 lo), (4, .float .f64 hi)] = some #[.int .u64 n, .float .f64 x, .bool false, .float .f64 lo, .float .f64 hi] := by
  rw [built_of 27 Try.t27 (avC noAV) _ [(0, 1), (1, 1), (2, 1), (3, 1), (4, 1)] (by kernel_rfl) (by kernel_rfl) Try.underlying27 (by kernel_rfl)]
  rfl
theorem run_built4 {P : Program} {ops : Array Oper} {rest : List Oper} {o : Oper} {a : Act} {Q : Exit → Act → World → Prop} {w : World} (hgd : o.guard = none) (t : TypeId) (parts : Array (Nat × Operand)) (ho : o.op = .build t parts) (cells : Array Value) (hf : P.built t (parts.map fun (i, x) => (i, a.eval x)).toList = some cells)
    (h : wpList P ops Q rest (a.put o.dst (.agg cells)) w) : wpList P ops Q (o :: rest) a w :=
  wpList_plain hgd fun K hK => wp_build t parts ho (by rw [hf]; rfl) (hK _ _ (by rw [hf]; exact h))
set_option maxRecDepth 100000 in
set_option maxHeartbeats 4000000 in
theorem awake12_any (w : World) : Calls Try.prog 10 #[] w fun e w' => e = .returned (.bool true) ∧ Below w.heap.size w w' := by
  have h64 : Words64 [4613937818241073152, 4607182418800017408, 4611686018427387904] := fun i hi => by
    match i, hi with
    | 0, _ => decide
    | 1, _ => decide
    | 2, _ => decide
  have hof : Calls Try.prog 11 #[.slice (some ⟨w.heap.size, 0, none⟩) 3 3] (w.alloc (.cells #[.float .f64 4613937818241073152, .float .f64 4607182418800017408, .float .f64 4611686018427387904] 25)) fun e w' => e = .returned (.agg (asC (asOf [4613937818241073152, 4607182418800017408, 4611686018427387904]))) ∧ Below (w.alloc (.cells #[.float .f64 4613937818241073152, .float .f64 4607182418800017408, .float .f64 4611686018427387904] 25)).heap.size (w.alloc (.cells #[.float .f64 4613937818241073152, .float .f64 4607182418800017408, .float .f64 4611686018427387904] 25)) w' :=
    of_as _ 3 [4613937818241073152, 4607182418800017408, 4611686018427387904] _ (freads_newF w _ _) h64 (by decide)
  have hok := asOf_okA _ h64
  have hv := awake12_val
  generalize asOf [4613937818241073152, 4607182418800017408, 4611686018427387904] = S at *
  have ht := fun w => tell_as S w hok
  have hs := fun w => aggSame_any (tellAS S) ⟨3, 4618441417868443648, false, 4607182418800017408, 4613937818241073152⟩ w (tellAS_ok hok) ⟨show 3 < 18446744073709551616 by decide, show 4618441417868443648 < 18446744073709551616 by decide, show 4607182418800017408 < 18446744073709551616 by decide, show 4613937818241073152 < 18446744073709551616 by decide⟩
  rw [hv] at hs
  obtain ⟨E, hE⟩ : ∃ E, E = avC ⟨3, 4618441417868443648, false, 4607182418800017408, 4613937818241073152⟩ := ⟨_, rfl⟩
  have hbd : Try.prog.built 27 [(0, .int .u64 3), (1, .float .f64 4618441417868443648), (3, .float .f64 4607182418800017408), (4, .float .f64 4613937818241073152)] = some E := by rw [hE]; exact built_agg4 _ _ _ _
  rw [← hE] at hs
  clear hE hv h64
  generalize avC (tellAS S) = D at *
  go_enter Try.func10, Try.ntmps10
  go_wp2_with (first
    | (go_at_call 11; (with_reducible refine hof.mono ?_); rintro e w1 ⟨rfl, b1⟩)
    | (go_at_call 12; (with_reducible refine (ht _).mono ?_); rintro e w2 ⟨rfl, b2⟩)
    | (refine run_built4 rfl 27 _ rfl E (by simp only [List.map_toArray, List.map_cons, List.map_nil, Act.eval]; exact hbd) ?_)
    | (go_at_call 20; (with_reducible refine (hs _).mono ?_); rintro e w3 ⟨rfl, b3⟩))
  go_ret
  exact ⟨rfl, below_trans (below_trans (below_trans (below_alloc (Below.refl _ _) _) b1) b2) b3⟩
set_option maxRecDepth 100000 in
set_option maxHeartbeats 4000000 in
theorem aggValues_any (A : Option Addr) (cap : Nat) (xs : List Nat) (w : World) (hr : FReads w A xs) (h64 : Words64 xs) (hxl : xs.length ≤ 9223372036854775807) :
    Calls Try.prog 4 #[.slice A xs.length cap] w fun e w' => e = .returned (.bool true) ∧ Below w.heap.size w w' := by
  have Hs := Lib.hid sizeState
  have aw := awake12_any
  by_cases h30 : 30 < xs.length
  · go_enter Try.func4, Try.ntmps4
    have hi : (30 : Int) < (xs.length : Int) := by omega
    go_wp2_with (go_at_call 10; (with_reducible refine (aw _).mono ?_); rintro e w1 ⟨rfl, b1⟩)
    go_ret
    exact ⟨rfl, below_trans (by assumption) b1⟩
  · obtain ⟨Z, hZ, zz⟩ : ∃ Z : Array Value, Z.size = 43 ∧ ∀ w, (zeroValue 32).run Try.prog w = .ok (.agg Z) w := ⟨_, asC_size _, zeroState⟩
    have hof := fun w1 (b : Below w.heap.size w w1) => of_as A cap xs w1 (hr.below b) h64 (by omega)
    have hval := fun w1 (b : Below w.heap.size w w1) => valueR_any A cap xs w1 (hr.below b) h64 (by omega)
    have hok := asOf_okA xs h64
    have hvok := valueR_ok xs h64 (by omega)
    have htv := tell_value xs (by omega)
    have hln := asOf_len xs (by omega)
    generalize asOf xs = S at *
    generalize valueR xs = V at *
    have ht := fun w => tell_as S w hok
    have hs := fun w => refAggSame_any (tellAS S) V w (tellAS_ok hok) hvok
    have hl := fun w => len_as S w
    rw [htv] at hs
    rw [hln] at hl
    have Hwl := Lib.hid (wrap_len xs.length (by omega))
    have hi : (xs.length : Int) ≤ 30 := by omega
    obtain ⟨C, hC⟩ : ∃ C, C = asC S := ⟨_, rfl⟩
    have hC1 : C.size = 43 := by rw [hC]; exact asC_size _
    have hC2 : C.all (·.oneCell') = true := by rw [hC]; exact asC_one _
    rw [← hC] at hof ht hl
    generalize avC (tellAS S) = D at *
    generalize avC V = E at *
    clear hr h64 hxl h30 hok hvok htv hln hC
    have hw : IntKind.u64.wrap (xs.length : Int) = (xs.length : Int) := Hwl.out
    clear Hwl
    rw [IntKind.wrap_u64] at hw
    have HW := Lib.hid hw
    clear hw
    go_enter Try.func4, Try.ntmps4
    go_wp2_with (first
      | (go_at_call 10; (with_reducible refine (aw _).mono ?_); rintro e w1 ⟨rfl, b1⟩)
      | (go_at_call 11; (with_reducible refine (hof _ b1).mono ?_); rintro e w2 ⟨rfl, b2⟩)
      | (refine at_op (.alloc 32) ?_ rfl; refine wpList_alloc_row rfl _ 32 rfl (some 3) rfl w2.heap.size rfl _ zz ?_)
      | (refine at_op (.store 32 (.tmp 3) (.tmp 13)) ?_ rfl; refine wpList_store_row rfl 32 (.tmp 3) (.tmp 13) rfl w2.heap.size C rfl rfl 32 _ (heap_alloc_new w2 _) (by rw [hC1]; exact Hs.out) (by rw [hZ, hC1]) hC2 ?_; rw [World.setRow_alloc_new]; have k3 := Lib.hid (heap_alloc_new w2 (.cells C 32)); have bb3 := below_alloc (below_trans b1 b2) (.cells C 32); generalize w2.heap.size = g3 at *; generalize w2.alloc (.cells C 32) = w3 at *)
      | (refine at_op0 (.load 32 (.tmp 3)) ?_ rfl rfl; refine wpList_load_row rfl 32 (.tmp 3) rfl g3 rfl 32 _ (0, 0) _ k3.out Try.underlying32 rfl (by rw [hC1]; exact Hs.out) ?_)
      | (go_at_call 12; (with_reducible refine (ht _).mono ?_); rintro e w4 ⟨rfl, b4⟩; have bb4 := below_trans bb3 b4; have k4 := Lib.hid ((b4.block g3 (heap_lt k3.out)).trans k3.out))
      | (go_at_call 18; (with_reducible refine (hval _ bb4).mono ?_); rintro e w5 ⟨rfl, b5⟩; have bb5 := below_trans bb4 b5; have k5 := Lib.hid ((b5.block g3 (heap_lt k4.out)).trans k4.out))
      | (go_at_call 17; (with_reducible refine (hs _).mono ?_); rintro e w6 ⟨rfl, b6⟩; have bb6 := below_trans bb5 b6; have k6 := Lib.hid ((b6.block g3 (heap_lt k5.out)).trans k5.out))
      | (refine at_opG (.load 32 (.tmp 3)) (some (5, true)) ?_ rfl rfl; refine wpList_load_rowG rfl 32 (.tmp 3) rfl g3 rfl 32 _ (0, 0) _ k6.out Try.underlying32 rfl (by rw [hC1]; exact Hs.out) ?_)
      | (go_at_call 19; (with_reducible refine (hl _).mono ?_); rintro e w7 ⟨rfl, b7⟩; have bb7 := below_trans bb6 b7; have hw := HW.out))
    go_ret
    exact ⟨rfl, bb7⟩
theorem aggValues_walk (W : World) (A : Option Addr) (cap : Nat) (xs : List Nat) (hc : xs.length ≤ cap) (hl : cap ≤ maxLen) (hr : FReads W A xs) (hw : Words64 xs) :
    Calls Try.prog 4 #[.slice A xs.length cap] W fun e w' => e = .returned (.bool true) ∧ Below W.heap.size W w' :=
  aggValues_any A cap xs W hr hw (by unfold maxLen at hl; omega)
end Go.Proofs.Ytjmllggjaplldaa
