import Derived.Test.YthplelglifnhoaaVa
/-! Exact sums: the document's answer: the sum of some numbers. -/
namespace Go.Proofs.Ythplelglifnhoaa
open Go.RowKit
set_option linter.unusedVariables false
attribute [-simp] Try.isAgg99 Try.sizeOf99 Try.typeInfo99 Try.type99

def refZ : Array Value := #[.slice none 0 0, .bool false, .bool false, .bool false, .bool false, .bool false]
theorem refZ_size : refZ.size = 6 := rfl
set_option maxRecDepth 100000 in
theorem zero49 (w : World) : (zeroValue 99).run Try.prog w = .ok (.agg refZ) w := by
  exact (zero_of_info (P := Try.prog) (v := .agg refZ) (n := 6) (by kernel_rfl)).1 w
theorem refC_size (g : Nat) (s : St) : (refC g s).size = 6 := rfl
theorem refC_one (g : Nat) (s : St) : (refC g s).all (·.oneCell') = true := by simp [refC, Value.oneCell']
theorem BitsAt.ne {w : World} {g b A : Nat} {C : Array Value} {t : TypeId} {fr : Nat × Nat} (h : BitsAt w g A) (hb : w.heap[b]? = some (.cells C t fr)) (hC : C.size = 6) : g ≠ b := by
  rintro rfl
  have := h 10 (by decide)
  rw [cell_of_row _ _ _ _ _ _ hb, Array.getElem?_eq_none (by omega)] at this
  cases this
theorem BitsAt.setRow {w : World} {g b A : Nat} (h : BitsAt w g A) (hne : g ≠ b) (C : Array Value) : BitsAt (w.setRow b C) g A := fun i hi => by
  rw [← h i hi]
  unfold World.cell?
  rw [setRow_other w b g C hne]
set_option maxRecDepth 100000 in
set_option maxHeartbeats 4000000 in
theorem refOf_any (A : Option Addr) (cap : Nat) (xs : List Nat) (N : Nat) (w : World) (hN : N = 2240) (hr : FReads w A xs) (h64 : Words64 xs) (hlen : xs.length ≤ 1000) :
    Calls Try.prog 48 #[.slice A xs.length cap] w fun e w' => ∃ k, e = .returned (.agg (refC k (sumOf xs))) ∧ BitsAt w' k (sumOf xs).w ∧ Below w.heap.size w w' := by
  have hnew := refNew_any
  have Hs := Lib.hid size49
  have HN := Lib.hid hN
  clear hN
  have z49 := zero49
  have hZs := refZ_size
  generalize refZ = Z at *
  go_enter Try.func48, Try.ntmps48
  go_wp2_with (first
    | (refine at_op (.alloc 99) ?_ rfl; first | (refine wpList_alloc_row rfl w 99 rfl (some 2) rfl w.heap.size rfl Z z49 ?_) | (refine wpList_alloc_row rfl _ 99 rfl (some 3) rfl w1.heap.size (by simp) Z z49 ?_))
    | (go_at_call 68; (with_reducible refine (hnew _).mono ?_); rintro e w1 ⟨k1, rfl, hk1, b1⟩)
    | (refine at_op (.store 99 (.tmp 3) (.tmp 5)) ?_ rfl; refine wpList_store_row rfl 99 (.tmp 3) (.tmp 5) rfl w1.heap.size (refC k1 noSt) rfl rfl 99 Z (heap_alloc_new _ _) (by rw [refC_size]; exact Hs.out) (by rw [hZs, refC_size]) (refC_one _ _) ?_))
  have hg0 : ((w1.alloc (.cells Z 99)).setRow w1.heap.size (refC k1 noSt)).heap[w.heap.size]? = some (.cells Z 99 (0, 0)) := by
    have h1 := heap_alloc_new w (.cells Z 99)
    have h2 := (b1.block w.heap.size (heap_lt h1)).trans h1
    have h3 := ((below_alloc (Below.refl w1.heap.size w1) (.cells Z 99)).block w.heap.size (heap_lt h2)).trans h2
    exact (setRow_other _ _ _ _ (by have := heap_lt h2; omega)).trans h3
  have hg1 := setRow_heap _ _ _ (refC k1 noSt) _ _ (heap_alloc_new w1 (.cells Z 99))
  have hsz : w.heap.size + 1 ≤ w1.heap.size := by have := b1.size; simpa using this
  have hb1 : Below w.heap.size w w1 := below_trans (below_alloc (Below.refl w.heap.size w) (.cells Z 99)) b1
  have hb2 := below_setRow (below_alloc hb1 (.cells Z 99)) (g := w1.heap.size) (by omega) (refC k1 noSt)
  have hk2 := hk1.below (below_setRow (below_alloc (Below.refl w1.heap.size w1) (.cells Z 99)) (g := w1.heap.size) (Nat.le_refl _) (refC k1 noSt))
  go_loopw [4] (fun i wr => ∃ k g : Nat, k ≤ xs.length ∧ i = .int .i64 k ∧ wr.heap[w.heap.size]? = some (.cells Z 99 (0, 0)) ∧ wr.heap[w1.heap.size]? = some (.cells (refC g (sumOf (xs.take k))) 99 (0, 0)) ∧ BitsAt wr g (sumOf (xs.take k)).w ∧ Below w.heap.size w wr) (fun i _ => xs.length - (intOf i).toNat)
  case atStart => exact ⟨0, k1, Nat.zero_le _, rfl, hg0, hg1, hk2, hb2⟩
  case round =>
    obtain ⟨k, g, hk, rfl, hz, hs, hbit, hb⟩ := hrel
    have Hz := Lib.hid hz
    have Hsu := Lib.hid hs
    have Hbit := Lib.hid hbit
    have hgl := heap_lt hs
    clear hg0 hg1 hb2 hz hs hk2 hk1 hbit
    by_cases hlt : k < xs.length
    · obtain ⟨a, rfl, c0⟩ := (hr.below hb) k hlt
      have hadd := refAddX g (sumOf (xs.take k)) (fd xs k) N wr.drew HN.out (h64 k hlt) Hbit.out
      rw [← sumOf_snoc xs k hlt] at hadd
      obtain ⟨F', hF'⟩ : ∃ F', sumOf (xs.take (k + 1)) = F' := ⟨_, rfl⟩
      rw [hF'] at hadd
      generalize sumOf (xs.take k) = F at *
      have HL := Lib.hid (run_loadCellsFrom_row (P := Try.prog) wr.drew w1.heap.size 99 (refC g F) (0, 0) Hsu.out 6 (refC_size g F))
      have b5d := fun w4 (b4 : Below wr.drew.heap.size wr.drew w4) => (b4.block _ hgl).trans Hsu.out
      have b5z := fun w4 (b4 : Below wr.drew.heap.size wr.drew w4) => (b4.block _ (heap_lt Hz.out)).trans Hz.out
      clear hr
      go_wp2_with fail
      go_region_with (first
        | (rw [Try.isAgg99]; simp only [Result.andThen_ok, if_true, run_sizeOf_info Hs.out, HL.out])
        | (go_at_call 69; (with_reducible refine hadd.mono ?_); rintro e w5 ⟨k5, rfl, hk5, b4⟩)
        | (rw [run_sizeOf_info Hs.out]; simp only [Result.andThen_ok, if_true, refC_size, run_storeCells_row w5 w1.heap.size 99 (refC g F) (refC k5 F') (b5d w5 b4) (by rw [refC_size]; exact Hs.out) (by simp only [refC_size]) (refC_one _ _)]))
      all_goals
        go_wp2
        have hk5' := hk5.setRow (hk5.ne (b5d w5 b4) (refC_size g F)) (refC k5 F')
        exact ⟨⟨k + 1, k5, by omega, by go_num, (setRow_other w5 _ _ _ (by omega)).trans (b5z w5 b4), by rw [hF']; exact setRow_heap _ _ _ _ _ _ (b5d w5 b4), by rw [hF']; exact hk5', below_setRow (below_trans hb.drew b4) (by omega) _⟩, by simp [intOf]; omega⟩
    · obtain rfl : k = xs.length := by omega
      rw [List.take_length] at Hsu Hbit
      go_wp2_with (first
        | (refine at_op (.load 99 (.tmp 3)) ?_ rfl; refine wpList_load_row rfl 99 (.tmp 3) rfl w1.heap.size rfl 99 _ (0, 0) _ Hsu.out Try.underlying99 rfl (by rw [refC_size]; exact Hs.out) ?_)
        | (refine at_op (.store 99 (.tmp 2) (.tmp 18)) ?_ rfl; refine wpList_store_row rfl 99 (.tmp 2) (.tmp 18) rfl w.heap.size (refC g (sumOf xs)) rfl rfl 99 Z Hz.out (by rw [refC_size]; exact Hs.out) (by rw [hZs, refC_size]) (refC_one _ _) ?_))
      exact bodyPost_ret (results_cell_row rfl _ _ w.heap.size 99 _ (0, 0) _ rfl (setRow_heap _ _ _ _ _ _ Hz.out) Try.underlying99 rfl (by rw [refC_size]; exact Hs.out)) rfl ⟨g, rfl, Hbit.out.setRow (Hbit.out.ne Hz.out hZs) _, below_setRow hb (Nat.le_refl _) _⟩
end Go.Proofs.Ythplelglifnhoaa
