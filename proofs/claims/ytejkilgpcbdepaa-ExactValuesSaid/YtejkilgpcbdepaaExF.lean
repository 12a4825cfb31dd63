import Derived.Test.YtejkilgpcbdepaaExE
import Derived.Test.YtejkilgpcbdepaaFloats
/-! Exact sums: the sum of a list; the reader of what a sum has. -/
namespace Go.Proofs.Ytejkilgpcbdepaa
open Go.RowKit
set_option linter.unusedVariables false
attribute [-simp] Try.isAgg30 Try.sizeOf30 Try.typeInfo30 Try.type30

/-- Nothing is summed. -/
def noSt : St := ⟨0, false, false, false, false, false⟩
def sumOf (xs : List Nat) : St := xs.foldl addSt noSt
theorem sumOf_snoc (xs : List Nat) (k : Nat) (h : k < xs.length) : sumOf (xs.take (k + 1)) = addSt (sumOf (xs.take k)) (fd xs k) := by
  rw [take_snocF xs k h]; simp [sumOf, List.foldl_append]

set_option maxHeartbeats 4000000 in
theorem of_list (A : Option Addr) (cap : Nat) (xs : List Nat) (w : World) (hr : FReads w A xs) (h64 : Words64 xs) (hlen : xs.length ≤ 1000) :
    Calls Try.prog 16 #[.slice A xs.length cap] w fun e w' => e = .returned (.agg (sumC (sumOf xs))) ∧ Below w.heap.size w w' := by
  have Hs := Lib.hid size30
  have z30 := zero30
  have hz0 : sumC ⟨0, false, false, false, false, false⟩ = sumC (sumOf (xs.take 0)) := rfl
  generalize hZ : sumC ⟨0, false, false, false, false, false⟩ = Z at *
  have hZs : Z.size = 40 := by rw [← hZ, sumC_size]
  have HZ := Lib.hid hz0
  clear hz0 hZ
  go_enter Try.func16, Try.ntmps16
  go_wp2_with (first
    | (refine at_op (.alloc 30) ?_ rfl; first | (refine wpList_alloc_row rfl w 30 rfl (some 2) rfl w.heap.size rfl Z z30 ?_) | (refine wpList_alloc_row rfl _ 30 rfl (some 3) rfl (w.heap.size + 1) (by simp) Z z30 ?_)))
  have hg0 := heap_alloc2_old w (.cells Z 30) (.cells Z 30)
  have hg1 := heap_alloc2_new w (.cells Z 30) (.cells Z 30)
  have hb2 : Below w.heap.size w ((w.alloc (.cells Z 30)).alloc (.cells Z 30)) := below_alloc (below_alloc (Below.refl _ _) _) _
  go_loopw [4] (fun i wr => ∃ k : Nat, k ≤ xs.length ∧ i = .int .i64 k ∧ wr.heap[w.heap.size]? = some (.cells Z 30 (0, 0)) ∧ wr.heap[w.heap.size + 1]? = some (.cells (sumC (sumOf (xs.take k))) 30 (0, 0)) ∧ Below w.heap.size w wr) (fun i _ => xs.length - (intOf i).toNat)
  case atStart => exact ⟨0, Nat.zero_le _, rfl, hg0, by rw [← HZ.out]; exact hg1, hb2⟩
  case round =>
    obtain ⟨k, hk, rfl, hz, hs, hb⟩ := hrel
    have Hz := Lib.hid hz
    have Hsu := Lib.hid hs
    have hgl := heap_lt hs
    clear hg0 hg1 hb2 hz hs
    by_cases hlt : k < xs.length
    · obtain ⟨a, rfl, c0⟩ := (hr.below hb) k hlt
      have hadd := fun w => add_any (sumOf (xs.take k)) (fd xs k) w (h64 k hlt)
      rw [← sumOf_snoc xs k hlt] at hadd
      obtain ⟨F', hF'⟩ : ∃ F', sumOf (xs.take (k + 1)) = F' := ⟨_, rfl⟩
      rw [hF'] at hadd
      generalize sumOf (xs.take k) = F at *
      have HL := Lib.hid (run_loadCellsFrom_row (P := Try.prog) wr.drew (w.heap.size + 1) 30 (sumC F) (0, 0) Hsu.out 40 (sumC_size F))
      have b5d := fun w4 (b4 : Below wr.drew.heap.size wr.drew w4) => (b4.block _ hgl).trans Hsu.out
      have b5z := fun w4 (b4 : Below wr.drew.heap.size wr.drew w4) => (b4.block _ (heap_lt Hz.out)).trans Hz.out
      clear hr
      go_wp2_with fail
      go_region_with (first
        | (rw [Try.isAgg30]; simp only [Result.andThen_ok, if_true, run_sizeOf_info Hs.out, HL.out])
        | (go_at_call 20; (with_reducible refine (hadd _).mono ?_); rintro e w5 ⟨rfl, b4⟩)
        | (rw [run_sizeOf_info Hs.out]; simp only [Result.andThen_ok, if_true, sumC_size, run_storeCells_row w5 (w.heap.size + 1) 30 (sumC F) (sumC F') (b5d w5 b4) (by rw [sumC_size]; exact Hs.out) (by rw [sumC_size, sumC_size]) (sumC_one _)]))
      all_goals
        go_wp2
        exact ⟨⟨k + 1, by omega, by go_num, (setRow_other w5 _ _ _ (by omega)).trans (b5z w5 b4), by rw [hF']; exact setRow_heap _ _ _ _ _ _ (b5d w5 b4), below_setRow (below_trans hb.drew b4) (by omega) _⟩, by simp [intOf]; omega⟩
    · obtain rfl : k = xs.length := by omega
      rw [List.take_length] at Hsu
      go_wp2_with (first
        | (refine at_op (.load 30 (.tmp 3)) ?_ rfl; refine wpList_load_row rfl 30 (.tmp 3) rfl (w.heap.size + 1) rfl 30 _ (0, 0) _ Hsu.out Try.underlying30 rfl (by rw [sumC_size]; exact Hs.out) ?_)
        | (refine at_op (.store 30 (.tmp 2) (.tmp 17)) ?_ rfl; refine wpList_store_row rfl 30 (.tmp 2) (.tmp 17) rfl w.heap.size (sumC (sumOf xs)) rfl rfl 30 Z Hz.out (by rw [sumC_size]; exact Hs.out) (by rw [hZs, sumC_size]) (sumC_one _) ?_))
      exact bodyPost_ret (results_cell_row rfl _ _ w.heap.size 30 _ (0, 0) _ rfl (setRow_heap _ _ _ _ _ _ Hz.out) Try.underlying30 rfl (by rw [sumC_size]; exact Hs.out)) rfl ⟨rfl, below_setRow hb (by omega) _⟩
end Go.Proofs.Ytejkilgpcbdepaa
