import Derived.Test.YtejkilgpcbdepaaExC
import Derived.Test.YtejkilgpcbdepaaExRow
/-! Exact sums: the walk of Add of a finite number. -/
namespace Go.Proofs.Ytejkilgpcbdepaa
open Go.RowKit
set_option linter.unusedVariables false
attribute [-simp] Try.isAgg28
attribute [-simp] Try.isAgg30 Try.sizeOf30 Try.typeInfo30 Try.type30

theorem zero28 : ∀ w, (zeroValue 28).run Try.prog w = .ok (.agg (ws 0)) w := (zero_of_info (P := Try.prog) (v := .agg (ws 0)) (n := 35) (by kernel_rfl)).1
theorem zero30 : ∀ w, (zeroValue 30).run Try.prog w = .ok (.agg (sumC ⟨0, false, false, false, false, false⟩)) w := (zero_of_info (P := Try.prog) (v := .agg (sumC ⟨0, false, false, false, false, false⟩)) (n := 40) (by kernel_rfl)).1
section
variable {P : Program} {ops : Array Oper} {rest : List Oper} {o : Oper} {a : Act} {Q : Exit → Act → World → Prop}
/-- Does the walk stand at this operation? -/
theorem at_op {w : World} (op : Op) (h : wpList P ops Q (o :: rest) a w) (ho : o.op = op) : wpList P ops Q (o :: rest) a w := h
theorem wpList_alloc_row (hgd : o.guard = none) (w : World) (t : TypeId) (ho : o.op = .alloc t) (dst : Option Tmp) (hdst : o.dst = dst) (N : Nat) (hN : w.heap.size = N) (z : Array Value) (hz : ∀ w, (zeroValue t).run P w = .ok (.agg z) w)
    (h : wpList P ops Q rest (a.put dst (.pointer (some ⟨N, 0, none⟩))) (w.alloc (.cells z t))) : wpList P ops Q (o :: rest) a w := by
  subst hdst hN
  refine wpList_plain hgd fun K hK => ?_
  unfold Oper.wp execOp
  simp only [ho, Instr.alloc, Sem.run_bind, hz, Result.andThen_ok]
  exact hK _ _ h
end

theorem heap_lt {w : World} {g : Nat} {o : Obj} (h : w.heap[g]? = some o) : g < w.heap.size := by
  rcases Nat.lt_or_ge g w.heap.size with h1 | h1
  · exact h1
  · rw [Array.getElem?_eq_none h1] at h; cases h
theorem heap3_0 (w : World) (A B C : Obj) : (((w.alloc A).alloc B).alloc C).heap[w.heap.size]? = some A := by
  rw [Below.heap_alloc _ _ _ (by simp; omega)]; exact heap_alloc2_old w A B
theorem heap3_1 (w : World) (A B C : Obj) : (((w.alloc A).alloc B).alloc C).heap[w.heap.size + 1]? = some B := by
  rw [Below.heap_alloc _ _ _ (by simp)]; exact heap_alloc2_new w A B
theorem heap3_2 (w : World) (A B C : Obj) : (((w.alloc A).alloc B).alloc C).heap[w.heap.size + 2]? = some C := by
  have := heap_alloc_new ((w.alloc A).alloc B) C
  rwa [show ((w.alloc A).alloc B).heap.size = w.heap.size + 2 by simp] at this

theorem fin_le (m k N : Nat) (hm : m < 9007199254740992) (h : 53 + k ≤ N) : m * 2 ^ k ≤ 2 ^ N := by
  have h1 : m * 2 ^ k ≤ 2 ^ 53 * 2 ^ k := Nat.mul_le_mul_right _ (Nat.le_of_lt hm)
  rw [← Nat.pow_add] at h1
  exact Nat.le_trans h1 (Nat.pow_le_pow_right (by decide) h)
theorem minus_fin (m k : Nat) (hm : m < 9007199254740992) (hk : k ≤ 2045) : ∃ M, 2 ^ 2240 - m * 2 ^ k = M ∧ ∀ w, Calls Try.prog 35 #[.agg (ws (m * 2 ^ k))] w fun e w' => e = .returned (.agg (ws M)) ∧ Below w.heap.size w w' :=
  ⟨_, rfl, fun w => minus_any (m * 2 ^ k) w (fin_le m k 2240 hm (by omega))⟩

set_option maxHeartbeats 8000000 in
theorem add_fin (s : St) (x : Nat) (ng : Bool) (m k q r : Nat) (w : World) (hm0 : 0 < m) (hm : m < 9007199254740992) (hkq : (k : Int) / 64 = (q : Int)) (hkr : (k : Int) % 64 = (r : Int)) (hq : q ≤ 31) (hr : r < 64) (hk : k ≤ 2045)
    (hsp : ∀ w, Calls Try.prog 41 #[.float .f64 x] w fun e w' => e = .returned (.tuple #[.bool ng, .int .u64 (m : Nat), .int .i64 (k : Nat), .bool true]) ∧ w = w') :
    Calls Try.prog 20 #[.agg (sumC s), .float .f64 x] w fun e w' => e = .returned (.agg (sumC { s with w := s.w + (if ng = true then 2 ^ 2240 - m * 2 ^ k else m * 2 ^ k), any := true, other := true })) ∧ Below w.heap.size w w' := by
  have Hs := Lib.hid size30
  have H8 := Lib.hid size28
  have hC := sumC_size s
  have hm00 : ((m : Int) == 0) = false := by rw [beq_eq_false_iff_ne]; omega
  have hC2 : ((sumC s).setIfInBounds 38 (.bool true)).setIfInBounds 39 (.bool true) = sumC { s with any := true, other := true } := by rw [set_any, set_other]
  have hfr : ∀ i, i < (ws s.w).size → (((sumC s).setIfInBounds 38 (.bool true)).setIfInBounds 39 (.bool true))[i]? = (ws s.w)[i]? := fun i hi => by
    rw [ws_size] at hi
    rw [hC2, sumC_w _ i hi, ws_at _ _ hi]
  have hset : ∀ N, setMany (((sumC s).setIfInBounds 38 (.bool true)).setIfInBounds 39 (.bool true)) 0 (ws N).toList = sumC { s with w := N, any := true, other := true } := fun N => by rw [hC2, sumC_front]
  have hC2s : (((sumC s).setIfInBounds 38 (.bool true)).setIfInBounds 39 (.bool true)).size = 40 := by rw [hC2, sumC_size]
  have Hfr := Lib.hid hfr
  have Hset := Lib.hid hset
  have HC2s := Lib.hid hC2s
  obtain ⟨M, hM, hmin⟩ := minus_fin m k hm hk
  rw [hM]
  clear hM
  have hplus := fun N w => plus_any s.w N w
  have HB := Lib.hid (wsB m k q r (by omega) hr (by omega) hq)
  generalize m * 2 ^ k = B at *
  clear hC2 hfr hset hC2s
  generalize sumC s = C at *
  obtain ⟨Z, hZ, zz⟩ : ∃ Z : Array Value, Z.size = 40 ∧ ∀ w, (zeroValue 30).run Try.prog w = .ok (.agg Z) w := ⟨_, sumC_size _, zero30⟩
  obtain ⟨Y, hY, hy0, zy⟩ : ∃ Y : Array Value, Y.size = 35 ∧ Y = ws 0 ∧ ∀ w, (zeroValue 28).run Try.prog w = .ok (.agg Y) w := ⟨_, ws_size _, rfl, zero28⟩
  rw [← hy0] at HB
  have y0 : Y[q]'(by omega) = .int .u64 0 := at_of _ (by rw [hy0, ws_at 0 q (by omega)]; simp [wdv, wdn])
  have y1 : Y[q + 1]'(by omega) = .int .u64 0 := at_of _ (by rw [hy0, ws_at 0 (q + 1) (by omega)]; simp [wdv, wdn])
  clear hy0
  have hql : q < 35 := by omega
  have hql1 : q + 1 < 35 := by omega
  cases ng
  · simp only [Bool.false_eq_true, if_false]
    go_enter Try.func20, Try.ntmps20
    go_wp2_with (first
      | (refine at_op (.alloc 30) ?_ rfl; refine wpList_alloc_row rfl _ 30 rfl (some 4) rfl (w.heap.size + 1) (by simp) Z zz ?_)
      | (refine at_op (.alloc 28) ?_ rfl; refine wpList_alloc_row rfl _ 28 rfl (some 9) rfl (w.heap.size + 2) (by simp) Y zy ?_)
      | (go_at_call 41; (with_reducible refine (hsp _).mono ?_); rintro e w1 ⟨rfl, rfl⟩)
      | (refine at_op (.load 28 (.tmp 78)) ?_ rfl; refine wpList_load_front rfl _ 28 (.tmp 78) rfl w.heap.size rfl _ (ws s.w) 30 (0, 0) _ (heap3_0 w _ _ _) Hfr.out Try.underlying28 rfl (by rw [ws_size]; exact H8.out) ?_)
      | (refine at_op (.load 28 (.tmp 9)) ?_ rfl; refine wpList_load_row rfl 28 (.tmp 9) rfl (w.heap.size + 2) rfl 28 _ (0, 0) _ (heap3_2 w _ _ _) Try.underlying28 rfl (by rw [HB.out, ws_size]; exact H8.out) ?_; rw [HB.out])
      | (go_at_call 42; (with_reducible refine (hplus B _).mono ?_); rintro e w4 ⟨rfl, b4⟩; have g0 := (b4.block w.heap.size (by simp; omega)).trans (heap3_0 w _ _ _); have g1 := (b4.block (w.heap.size + 1) (by simp)).trans (heap3_1 w _ _ _); have bb := below_trans (below_alloc (below_alloc (below_alloc (Below.refl w.heap.size w) _) _) _) b4; have g0h := Lib.hid g0; have g1h := Lib.hid g1; clear g0 g1 b4)
      | (refine at_op (.store 28 (.tmp 82) (.tmp 81)) ?_ rfl; refine wpList_store_front rfl _ 28 (.tmp 82) (.tmp 81) rfl w.heap.size (ws (s.w + B)) rfl rfl _ 30 g0h.out (by rw [ws_size, HC2s.out]; omega) (by rw [ws_size]; omega) (by rw [ws_size]; exact H8.out) (ws_one _) ?_; rw [Hset.out]; have g2h := Lib.hid (setRow_heap _ _ _ (sumC { s with w := s.w + B, any := true, other := true }) _ _ g0h.out); have g3h := Lib.hid ((setRow_other w4 w.heap.size (w.heap.size + 1) (sumC { s with w := s.w + B, any := true, other := true }) (by omega)).trans g1h.out))
      | (refine at_op (.load 30 (.tmp 2)) ?_ rfl; refine wpList_load_row rfl 30 (.tmp 2) rfl w.heap.size rfl 30 _ (0, 0) _ g2h.out Try.underlying30 rfl (by rw [sumC_size]; exact Hs.out) ?_)
      | (refine at_op (.store 30 (.tmp 4) (.tmp 83)) ?_ rfl; refine wpList_store_row rfl 30 (.tmp 4) (.tmp 83) rfl (w.heap.size + 1) (sumC { s with w := s.w + B, any := true, other := true }) rfl rfl 30 Z g3h.out (by rw [sumC_size]; exact Hs.out) (by rw [hZ, sumC_size]) (sumC_one _) ?_))
    exact bodyPost_ret (results_cell_row rfl _ _ (w.heap.size + 1) 30 _ (0, 0) _ rfl (setRow_heap _ _ _ _ _ _ g3h.out) Try.underlying30 rfl (by rw [sumC_size]; exact Hs.out)) rfl ⟨rfl, below_setRow (below_setRow bb (by omega) _) (by omega) _⟩
  · simp only [if_true]
    go_enter Try.func20, Try.ntmps20
    go_wp2_with (first
      | (refine at_op (.alloc 30) ?_ rfl; refine wpList_alloc_row rfl _ 30 rfl (some 4) rfl (w.heap.size + 1) (by simp) Z zz ?_)
      | (refine at_op (.alloc 28) ?_ rfl; refine wpList_alloc_row rfl _ 28 rfl (some 9) rfl (w.heap.size + 2) (by simp) Y zy ?_)
      | (go_at_call 41; (with_reducible refine (hsp _).mono ?_); rintro e w1 ⟨rfl, rfl⟩)
      | (refine at_op (.load 28 (.tmp 9)) ?_ rfl; first | (refine wpList_load_row rfl 28 (.tmp 9) rfl (w.heap.size + 2) rfl 28 (ws M) (0, 0) _ j2h.out Try.underlying28 rfl (by rw [ws_size]; exact H8.out) ?_) | (refine wpList_load_row rfl 28 (.tmp 9) rfl (w.heap.size + 2) rfl 28 _ (0, 0) _ (heap3_2 w _ _ _) Try.underlying28 rfl (by rw [HB.out, ws_size]; exact H8.out) ?_; rw [HB.out]))
      | (go_at_call 35; (with_reducible refine (hmin _).mono ?_); rintro e w5 ⟨rfl, b5⟩; have k0h := Lib.hid ((b5.block w.heap.size (by simp; omega)).trans (heap3_0 w _ _ _)); have k1h := Lib.hid ((b5.block (w.heap.size + 1) (by simp)).trans (heap3_1 w _ _ _)); have k2h := Lib.hid ((b5.block (w.heap.size + 2) (by simp)).trans (heap3_2 w _ _ _)); have bb5 := below_trans (below_alloc (below_alloc (below_alloc (Below.refl w.heap.size w) _) _) _) b5; clear b5)
      | (refine at_op (.store 28 (.tmp 9) (.tmp 77)) ?_ rfl; refine wpList_store_row rfl 28 (.tmp 9) (.tmp 77) rfl (w.heap.size + 2) (ws M) rfl rfl 28 _ k2h.out (by rw [ws_size]; exact H8.out) (by rw [ws_size, ws_size]) (ws_one _) ?_; have j0h := Lib.hid ((setRow_other w5 (w.heap.size + 2) w.heap.size (ws M) (by omega)).trans k0h.out); have j1h := Lib.hid ((setRow_other w5 (w.heap.size + 2) (w.heap.size + 1) (ws M) (by omega)).trans k1h.out); have j2h := Lib.hid (setRow_heap _ _ _ (ws M) _ _ k2h.out); have bb6 := below_setRow bb5 (show w.heap.size ≤ w.heap.size + 2 by omega) (ws M); generalize w5.setRow (w.heap.size + 2) (ws M) = w6 at *)
      | (refine at_op (.load 28 (.tmp 78)) ?_ rfl; refine wpList_load_front rfl _ 28 (.tmp 78) rfl w.heap.size rfl _ (ws s.w) 30 (0, 0) _ j0h.out Hfr.out Try.underlying28 rfl (by rw [ws_size]; exact H8.out) ?_)
      | (go_at_call 42; (with_reducible refine (hplus M _).mono ?_); rintro e w4 ⟨rfl, b4⟩; have g0h := Lib.hid ((b4.block w.heap.size (heap_lt j0h.out)).trans j0h.out); have g1h := Lib.hid ((b4.block (w.heap.size + 1) (heap_lt j1h.out)).trans j1h.out); have bb := below_trans bb6 b4; clear b4)
      | (refine at_op (.store 28 (.tmp 82) (.tmp 81)) ?_ rfl; refine wpList_store_front rfl _ 28 (.tmp 82) (.tmp 81) rfl w.heap.size (ws (s.w + M)) rfl rfl _ 30 g0h.out (by rw [ws_size, HC2s.out]; omega) (by rw [ws_size]; omega) (by rw [ws_size]; exact H8.out) (ws_one _) ?_; rw [Hset.out]; have g2h := Lib.hid (setRow_heap _ _ _ (sumC { s with w := s.w + M, any := true, other := true }) _ _ g0h.out); have g3h := Lib.hid ((setRow_other w4 w.heap.size (w.heap.size + 1) (sumC { s with w := s.w + M, any := true, other := true }) (by omega)).trans g1h.out))
      | (refine at_op (.load 30 (.tmp 2)) ?_ rfl; refine wpList_load_row rfl 30 (.tmp 2) rfl w.heap.size rfl 30 _ (0, 0) _ g2h.out Try.underlying30 rfl (by rw [sumC_size]; exact Hs.out) ?_)
      | (refine at_op (.store 30 (.tmp 4) (.tmp 83)) ?_ rfl; refine wpList_store_row rfl 30 (.tmp 4) (.tmp 83) rfl (w.heap.size + 1) (sumC { s with w := s.w + M, any := true, other := true }) rfl rfl 30 Z g3h.out (by rw [sumC_size]; exact Hs.out) (by rw [hZ, sumC_size]) (sumC_one _) ?_))
    exact bodyPost_ret (results_cell_row rfl _ _ (w.heap.size + 1) 30 _ (0, 0) _ rfl (setRow_heap _ _ _ _ _ _ g3h.out) Try.underlying30 rfl (by rw [sumC_size]; exact Hs.out)) rfl ⟨rfl, below_setRow (below_setRow bb (by omega) _) (by omega) _⟩
end Go.Proofs.Ytejkilgpcbdepaa
