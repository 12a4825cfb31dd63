import Derived.Test.YtejkilgpcbdepaaOwn3
import Derived.Test.YtejkilgpcbdepaaExWords
import Derived.Test.YtejkilgpcbdepaaExLen
import Derived.Laws.CopyOwn
import Derived.Laws.Externs
/-! Exact sums: the walk of plus and minus. -/
namespace Go.Proofs.Ytejkilgpcbdepaa
open Go.RowKit
set_option linter.unusedVariables false

theorem heap_setCell_at {w : World} {g k : Nat} {cs : Array Value} {t : TypeId} {fr : Nat × Nat} (h : w.heap[g]? = some (.cells cs t fr)) (u : Value) :
    (w.setCell ⟨g, k, none⟩ u).heap[g]? = some (.cells (cs.setIfInBounds k u) t fr) := by
  simp [World.setCell, Array.getElem?_modify, h]
theorem frozen_of_row {w : World} {g : Nat} {cs : Array Value} {t : TypeId} (h : w.heap[g]? = some (.cells cs t (0, 0))) (k : Nat) : w.frozen? ⟨g, k, none⟩ = false := by
  simp [World.frozen?, h]
theorem size28 : (Try.prog.info? 28).map (·.size) = some 35 := by kernel_rfl
theorem size30 : (Try.prog.info? 30).map (·.size) = some 40 := by kernel_rfl
theorem run_add64n (a b c : Nat) (hc : c ≤ 1) (w : World) : (callFunc 53 #[.int .u64 (a : Int), .int .u64 (b : Int), .int .u64 (c : Int)]).run Try.prog w =
    .ok (.value (.tuple #[.int .u64 (((a + b + c) % 18446744073709551616 : Nat) : Int), .int .u64 (((a + b + c) / 18446744073709551616 : Nat) : Int)])) w := by
  rw [run_callFunc_extern (e := add64Entry) Try.func53 (by kernel_rfl) (by kernel_rfl) (by kernel_rfl) (by kernel_rfl) _ w, run_add64 _ _ _ (by omega) (by omega) (by omega) (by omega) w]
  simp only [Result.andThen_ok]
  congr 5
def sub64Entry : Array Value → Sem Value := fun args => do
  let (x, y, b) ← Extern.MathBitsCarry.three "Sub64" args
  pure (Extern.MathBitsCarry.pair ((x + Extern.MathBitsCarry.m64 - y - b) % Extern.MathBitsCarry.m64) (if x < y + b then 1 else 0))
theorem run_sub64n (a b : Nat) (hb : b ≤ 1) (w : World) : (callFunc 51 #[.int .u64 0, .int .u64 (a : Int), .int .u64 (b : Int)]).run Try.prog w =
    .ok (.value (.tuple #[.int .u64 (((18446744073709551616 - a - b) % 18446744073709551616 : Nat) : Int), .int .u64 ((if a + b = 0 then 0 else 1 : Nat) : Int)])) w := by
  rw [run_callFunc_extern (e := sub64Entry) Try.func51 (by kernel_rfl) (by kernel_rfl) (by kernel_rfl) (by kernel_rfl) _ w]
  have key : (sub64Entry #[.int .u64 0, .int .u64 (a : Int), .int .u64 (b : Int)]).run Try.prog w = .ok (Extern.MathBitsCarry.pair ((0 + Extern.MathBitsCarry.m64 - a - b) % Extern.MathBitsCarry.m64) (if 0 < a + b then 1 else 0)) w := by
    have : b = 0 ∨ b = 1 := by omega
    rcases this with rfl | rfl <;> rfl
  rw [key]
  simp only [Result.andThen_ok, Extern.MathBitsCarry.pair, Extern.MathBitsCarry.m64, Nat.zero_add]
  have e : (if 0 < a + b then 1 else 0 : Nat) = if a + b = 0 then 0 else 1 := by split <;> split <;> omega
  rw [e]
  rfl
attribute [-simp] Try.isAgg28 Try.sizeOf28 Try.typeInfo28 Try.type28

set_option maxHeartbeats 2000000 in
theorem minus_any (A : Nat) (w : World) (hA : A ≤ 2 ^ 2240) : Calls Try.prog 35 #[.agg (ws A)] w fun e w' => e = .returned (.agg (ws (2 ^ 2240 - A))) ∧ Below w.heap.size w w' := by
  have Hs := Lib.hid size28
  have hneg := fun i (h : i < 35) => wdn_neg A i h hA
  generalize 2 ^ 2240 - A = N at *
  clear hA
  go_enter Try.func35, Try.ntmps35
  go_wp2
  go_loopw [3, 5] (fun c i wr => ∃ k : Nat, k ≤ 35 ∧ i = .int .i64 k ∧ c = .int .u64 (borrowA A k : Nat) ∧ wr.heap[w.heap.size]? = some (.cells (mixW N A k) 28 (0, 0)) ∧ (∃ Z, Z.size = 35 ∧ wr.heap[w.heap.size + 1]? = some (.cells Z 28 (0, 0))) ∧ Below w.heap.size w wr) (fun _ i _ => 35 - (intOf i).toNat)
  case atStart => exact ⟨0, by omega, rfl, by rw [borrowA_zero]; rfl, by rw [mixW_zero]; exact heap_alloc2_old w _ _, ⟨_, rfl, heap_alloc2_new w _ _⟩, below_alloc (below_alloc (Below.refl _ _) _) _⟩
  case round =>
    obtain ⟨k, hk, rfl, rfl, hg, ⟨Z, hZ, hgz⟩, hb⟩ := hrel
    have Hg := Lib.hid hg
    have Hz := Lib.hid hgz
    by_cases hlt : k < 35
    · have hc : wr.cell? ⟨w.heap.size, k, none⟩ = some (.int .u64 (wdn A k : Nat)) := (cell_of_row _ _ k _ _ _ hg).trans (mixW_at N A k hlt)
      have hf : wr.frozen? ⟨w.heap.size, k, none⟩ = false := frozen_of_row hg k
      have hs := run_sub64n (wdn A k) (borrowA A k) (borrowA_le A k)
      rw [← hneg k hlt, ← borrowA_succ] at hs
      clear hneg hg hgz
      go_wp2
      refine ⟨⟨k + 1, by omega, by go_num, rfl, ?_, ⟨Z, hZ, ?_⟩, hb.setCell (p := ⟨w.heap.size, k, none⟩) (by simp) _⟩, by simp [intOf]; omega⟩
      · rw [← mixW_set N A k hlt]
        exact heap_setCell_at (k := k) Hg.out (wdv N k)
      · exact (Below.heap_setCell _ _ _ _ (by simp)).trans Hz.out
    · obtain rfl : k = 35 := by omega
      rw [mixW_all] at hg
      clear hneg
      go_wp2_with (first
        | (refine wpList_load_row rfl 28 (.tmp 1) rfl w.heap.size rfl 28 (ws N) (0, 0) _ hg Try.underlying28 rfl (by rw [ws_size]; exact Hs.out) ?_)
        | (refine wpList_store_row rfl 28 (.tmp 2) (.tmp 19) rfl (w.heap.size + 1) (ws N) rfl rfl 28 Z hgz (by rw [ws_size]; exact Hs.out) (by rw [hZ, ws_size]) (ws_one N) ?_))
      exact bodyPost_ret (results_cell_row rfl _ _ (w.heap.size + 1) 28 (ws N) (0, 0) _ rfl (setRow_heap _ _ _ _ _ _ hgz) Try.underlying28 rfl (by rw [ws_size]; exact Hs.out)) rfl ⟨rfl, below_setRow hb (by omega) _⟩

set_option maxHeartbeats 2000000 in
theorem plus_any (A B : Nat) (w : World) : Calls Try.prog 42 #[.agg (ws A), .agg (ws B)] w fun e w' => e = .returned (.agg (ws (A + B))) ∧ Below w.heap.size w w' := by
  have Hs := Lib.hid size28
  have hadd := fun i => wdn_add A B i
  generalize A + B = N at *
  have e1 : (w.alloc (.cells (ws A) 28)).heap.size = w.heap.size + 1 := by show (w.heap.push _).size = _; simp
  go_enter Try.func42, Try.ntmps42
  go_wp2
  go_loopw [5, 7] (fun c i wr => ∃ k : Nat, k ≤ 35 ∧ i = .int .i64 k ∧ c = .int .u64 (carryA A B k : Nat) ∧ wr.heap[w.heap.size]? = some (.cells (mixW N A k) 28 (0, 0)) ∧ wr.heap[w.heap.size + 1]? = some (.cells (ws B) 28 (0, 0)) ∧ (∃ Z, Z.size = 35 ∧ wr.heap[w.heap.size + 2]? = some (.cells Z 28 (0, 0))) ∧ Below w.heap.size w wr) (fun _ i _ => 35 - (intOf i).toNat)
  case atStart =>
    have hz3 := fun o => heap_alloc2_new (w.alloc (.cells (ws A) 28)) (.cells (ws B) 28) (.cells o 28)
    rw [e1] at hz3
    refine ⟨0, by omega, rfl, by rw [carryA_zero]; rfl, ?_, ?_, ⟨_, rfl, hz3 _⟩, below_alloc (below_alloc (below_alloc (Below.refl _ _) _) _) _⟩
    · rw [mixW_zero, Below.heap_alloc _ _ _ (by simp; omega)]; exact heap_alloc2_old w _ _
    · rw [Below.heap_alloc _ _ _ (by simp)]; exact heap_alloc2_new w _ _
  case round =>
    obtain ⟨k, hk, rfl, rfl, hg, hgb, ⟨Z, hZ, hgz⟩, hb⟩ := hrel
    have Hg := Lib.hid hg
    have Hgb := Lib.hid hgb
    have Hz := Lib.hid hgz
    by_cases hlt : k < 35
    · have hc : wr.cell? ⟨w.heap.size, k, none⟩ = some (.int .u64 (wdn A k : Nat)) := (cell_of_row _ _ k _ _ _ hg).trans (mixW_at N A k hlt)
      have hcb : wr.cell? ⟨w.heap.size + 1, k, none⟩ = some (.int .u64 (wdn B k : Nat)) := (cell_of_row _ _ k _ _ _ hgb).trans (ws_at B k hlt)
      have hf : wr.frozen? ⟨w.heap.size, k, none⟩ = false := frozen_of_row hg k
      have hs := run_add64n (wdn A k) (wdn B k) (carryA A B k) (carryA_le A B k)
      rw [← hadd k, ← carryA_succ] at hs
      clear hadd hg hgb hgz
      go_wp2
      go_region
      all_goals
        go_wp2
        refine ⟨⟨k + 1, by omega, by go_num, rfl, ?_, ?_, ⟨Z, hZ, ?_⟩, hb.drew.setCell (p := ⟨w.heap.size, k, none⟩) (by simp) _⟩, by simp [intOf]; omega⟩
        · rw [← mixW_set N A k hlt]
          exact heap_setCell_at (w := wr.drew) (k := k) Hg.out (wdv N k)
        · exact (Below.heap_setCell wr.drew _ _ _ (by simp)).trans Hgb.out
        · exact (Below.heap_setCell wr.drew _ _ _ (by simp)).trans Hz.out
    · obtain rfl : k = 35 := by omega
      rw [mixW_all] at hg
      clear hadd
      go_wp2_with (first
        | (refine wpList_load_row rfl 28 (.tmp 2) rfl w.heap.size rfl 28 (ws N) (0, 0) _ hg Try.underlying28 rfl (by rw [ws_size]; exact Hs.out) ?_)
        | (refine wpList_store_row rfl 28 (.tmp 4) (.tmp 24) rfl (w.heap.size + 2) (ws N) rfl rfl 28 Z hgz (by rw [ws_size]; exact Hs.out) (by rw [hZ, ws_size]) (ws_one N) ?_))
      exact bodyPost_ret (results_cell_row rfl _ _ (w.heap.size + 2) 28 (ws N) (0, 0) _ rfl (setRow_heap _ _ _ _ _ _ hgz) Try.underlying28 rfl (by rw [ws_size]; exact Hs.out)) rfl ⟨rfl, below_setRow hb (by omega) _⟩
end Go.Proofs.Ytejkilgpcbdepaa
