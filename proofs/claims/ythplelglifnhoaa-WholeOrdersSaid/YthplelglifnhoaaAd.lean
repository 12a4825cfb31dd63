import Derived.Test.YthplelglifnhoaaBase
import Derived.Test.YthplelglifnhoaaWd
import Derived.Test.YthplelglifnhoaaExLen
import Derived.Laws.CopyOwn
import Derived.Laws.Externs
import Derived.Test.YthplelglifnhoaaRl
/-! Exact sums: the walk of plus and minus. -/
namespace Go.Proofs.Ythplelglifnhoaa
open Go.RowKit
set_option linter.unusedVariables false

theorem heap_setCell_at {w : World} {g k : Nat} {cs : Array Value} {t : TypeId} {fr : Nat × Nat} (h : w.heap[g]? = some (.cells cs t fr)) (u : Value) :
    (w.setCell ⟨g, k, none⟩ u).heap[g]? = some (.cells (cs.setIfInBounds k u) t fr) := by
  simp [World.setCell, Array.getElem?_modify, h]
theorem frozen_of_row {w : World} {g : Nat} {cs : Array Value} {t : TypeId} (h : w.heap[g]? = some (.cells cs t (0, 0))) (k : Nat) : w.frozen? ⟨g, k, none⟩ = false := by
  simp [World.frozen?, h]
set_option maxRecDepth 100000 in
theorem size28 : (Try.prog.info? 41).map (·.size) = some 35 := by kernel_rfl
set_option maxRecDepth 100000 in
theorem size30 : (Try.prog.info? 43).map (·.size) = some 40 := by kernel_rfl
set_option maxRecDepth 100000 in
theorem run_add64n (a b c : Nat) (hc : c ≤ 1) (w : World) : (callFunc 102 #[.int .u64 (a : Int), .int .u64 (b : Int), .int .u64 (c : Int)]).run Try.prog w =
    .ok (.value (.tuple #[.int .u64 (((a + b + c) % 18446744073709551616 : Nat) : Int), .int .u64 (((a + b + c) / 18446744073709551616 : Nat) : Int)])) w := by
  rw [run_callFunc_extern (e := add64Entry) Try.func102 (by kernel_rfl) (by kernel_rfl) (by kernel_rfl) (by kernel_rfl) _ w, run_add64 _ _ _ (by omega) (by omega) (by omega) (by omega) w]
  simp only [Result.andThen_ok]
  congr 5
def sub64Entry : Array Value → Sem Value := fun args => do
  let (x, y, b) ← Extern.MathBitsCarry.three "Sub64" args
  pure (Extern.MathBitsCarry.pair ((x + Extern.MathBitsCarry.m64 - y - b) % Extern.MathBitsCarry.m64) (if x < y + b then 1 else 0))
set_option maxRecDepth 100000 in
theorem run_sub64n (a b : Nat) (hb : b ≤ 1) (w : World) : (callFunc 92 #[.int .u64 0, .int .u64 (a : Int), .int .u64 (b : Int)]).run Try.prog w =
    .ok (.value (.tuple #[.int .u64 (((18446744073709551616 - a - b) % 18446744073709551616 : Nat) : Int), .int .u64 ((if a + b = 0 then 0 else 1 : Nat) : Int)])) w := by
  rw [run_callFunc_extern (e := sub64Entry) Try.func92 (by kernel_rfl) (by kernel_rfl) (by kernel_rfl) (by kernel_rfl) _ w]
  have key : (sub64Entry #[.int .u64 0, .int .u64 (a : Int), .int .u64 (b : Int)]).run Try.prog w = .ok (Extern.MathBitsCarry.pair ((0 + Extern.MathBitsCarry.m64 - a - b) % Extern.MathBitsCarry.m64) (if 0 < a + b then 1 else 0)) w := by
    have : b = 0 ∨ b = 1 := by omega
    rcases this with rfl | rfl <;> rfl
  rw [key]
  simp only [Result.andThen_ok, Extern.MathBitsCarry.pair, Extern.MathBitsCarry.m64, Nat.zero_add]
  have e : (if 0 < a + b then 1 else 0 : Nat) = if a + b = 0 then 0 else 1 := by split <;> split <;> omega
  rw [e]
  rfl
attribute [-simp] Try.isAgg41 Try.sizeOf41 Try.typeInfo41 Try.type41

set_option maxRecDepth 100000 in
set_option maxHeartbeats 2000000 in
theorem minus_any (A : Nat) (w : World) (hA : A ≤ 2 ^ 2240) : Calls Try.prog 60 #[.agg (ws A)] w fun e w' => e = .returned (.agg (ws (2 ^ 2240 - A))) ∧ Below w.heap.size w w' := by
  have Hs := Lib.hid size28
  have hneg := fun i (h : i < 35) => wdn_neg A i h hA
  generalize 2 ^ 2240 - A = N at *
  clear hA
  go_enter Try.func60, Try.ntmps60
  go_wp2
  go_loopw [3, 5] (fun c i wr => ∃ k : Nat, k ≤ 35 ∧ i = .int .i64 k ∧ c = .int .u64 (borrowA A k : Nat) ∧ wr.heap[w.heap.size]? = some (.cells (mixW N A k) 41 (0, 0)) ∧ (∃ Z, Z.size = 35 ∧ wr.heap[w.heap.size + 1]? = some (.cells Z 41 (0, 0))) ∧ Below w.heap.size w wr) (fun _ i _ => 35 - (intOf i).toNat)
  case atStart => exact ⟨0, by omega, rfl, by rw [borrowA_zero]; rfl, by rw [mixW_zero]; exact heap_alloc2_old w _ _, ⟨_, rfl, heap_alloc2_new w _ _⟩, below_alloc (below_alloc (Below.refl _ _) _) _⟩
  case round =>
    obtain ⟨k, hk, rfl, rfl, hg, ⟨Z, hZ, hgz⟩, hb⟩ := hrel
    have Hg := Lib.hid hg
    have Hz := Lib.hid hgz
    by_cases hlt : k < 35
    · have hc : wr.cell? ⟨w.heap.size, k, none⟩ = some (.int .u64 (wdn A k : Nat)) := (cell_of_row _ _ k _ _ _ hg).trans (mixW_at N A k hlt)
      have hf : wr.frozen? ⟨w.heap.size, k, none⟩ = false := frozen_of_row hg k
      have hs := run_sub64n (wdn A k) (borrowA A k) (borrowA_le A k)
      rw [← hneg k hlt, ← borrowA_succ] at hs
      clear hneg hg hgz
      go_wp2
      refine ⟨⟨k + 1, by omega, by go_num, rfl, ?_, ⟨Z, hZ, ?_⟩, hb.setCell (p := ⟨w.heap.size, k, none⟩) (by simp) _⟩, by simp [intOf]; omega⟩
      · rw [← mixW_set N A k hlt]
        exact heap_setCell_at (k := k) Hg.out (wdv N k)
      · exact (Below.heap_setCell _ _ _ _ (by simp)).trans Hz.out
    · obtain rfl : k = 35 := by omega
      rw [mixW_all] at hg
      clear hneg
      go_wp2_with (first
        | (refine wpList_load_row rfl 41 (.tmp 1) rfl w.heap.size rfl 41 (ws N) (0, 0) _ hg Try.underlying41 rfl (by rw [ws_size]; exact Hs.out) ?_)
        | (refine wpList_store_row rfl 41 (.tmp 2) (.tmp 19) rfl (w.heap.size + 1) (ws N) rfl rfl 41 Z hgz (by rw [ws_size]; exact Hs.out) (by rw [hZ, ws_size]) (ws_one N) ?_))
      exact bodyPost_ret (results_cell_row rfl _ _ (w.heap.size + 1) 41 (ws N) (0, 0) _ rfl (setRow_heap _ _ _ _ _ _ hgz) Try.underlying41 rfl (by rw [ws_size]; exact Hs.out)) rfl ⟨rfl, below_setRow hb (by omega) _⟩

set_option maxRecDepth 100000 in
set_option maxHeartbeats 2000000 in
theorem plus_any (A B : Nat) (w : World) : Calls Try.prog 91 #[.agg (ws A), .agg (ws B)] w fun e w' => e = .returned (.agg (ws (A + B))) ∧ Below w.heap.size w w' := by
  have Hs := Lib.hid size28
  have hadd := fun i => wdn_add A B i
  generalize A + B = N at *
  have e1 : (w.alloc (.cells (ws A) 41)).heap.size = w.heap.size + 1 := by show (w.heap.push _).size = _; simp
  go_enter Try.func91, Try.ntmps91
  go_wp2
  go_loopw [5, 7] (fun c i wr => ∃ k : Nat, k ≤ 35 ∧ i = .int .i64 k ∧ c = .int .u64 (carryA A B k : Nat) ∧ wr.heap[w.heap.size]? = some (.cells (mixW N A k) 41 (0, 0)) ∧ wr.heap[w.heap.size + 1]? = some (.cells (ws B) 41 (0, 0)) ∧ (∃ Z, Z.size = 35 ∧ wr.heap[w.heap.size + 2]? = some (.cells Z 41 (0, 0))) ∧ Below w.heap.size w wr) (fun _ i _ => 35 - (intOf i).toNat)
  case atStart =>
    have hz3 := fun o => heap_alloc2_new (w.alloc (.cells (ws A) 41)) (.cells (ws B) 41) (.cells o 41)
    rw [e1] at hz3
    refine ⟨0, by omega, rfl, by rw [carryA_zero]; rfl, ?_, ?_, ⟨_, rfl, hz3 _⟩, below_alloc (below_alloc (below_alloc (Below.refl _ _) _) _) _⟩
    · rw [mixW_zero, Below.heap_alloc _ _ _ (by simp; omega)]; exact heap_alloc2_old w _ _
    · rw [Below.heap_alloc _ _ _ (by simp)]; exact heap_alloc2_new w _ _
  case round =>
    obtain ⟨k, hk, rfl, rfl, hg, hgb, ⟨Z, hZ, hgz⟩, hb⟩ := hrel
    have Hg := Lib.hid hg
    have Hgb := Lib.hid hgb
    have Hz := Lib.hid hgz
    by_cases hlt : k < 35
    · have hc : wr.cell? ⟨w.heap.size, k, none⟩ = some (.int .u64 (wdn A k : Nat)) := (cell_of_row _ _ k _ _ _ hg).trans (mixW_at N A k hlt)
      have hcb : wr.cell? ⟨w.heap.size + 1, k, none⟩ = some (.int .u64 (wdn B k : Nat)) := (cell_of_row _ _ k _ _ _ hgb).trans (ws_at B k hlt)
      have hf : wr.frozen? ⟨w.heap.size, k, none⟩ = false := frozen_of_row hg k
      have hs := run_add64n (wdn A k) (wdn B k) (carryA A B k) (carryA_le A B k)
      rw [← hadd k, ← carryA_succ] at hs
      clear hadd hg hgb hgz
      go_wp2
      go_region
      all_goals
        go_wp2
        refine ⟨⟨k + 1, by omega, by go_num, rfl, ?_, ?_, ⟨Z, hZ, ?_⟩, hb.drew.setCell (p := ⟨w.heap.size, k, none⟩) (by simp) _⟩, by simp [intOf]; omega⟩
        · rw [← mixW_set N A k hlt]
          exact heap_setCell_at (w := wr.drew) (k := k) Hg.out (wdv N k)
        · exact (Below.heap_setCell wr.drew _ _ _ (by simp)).trans Hgb.out
        · exact (Below.heap_setCell wr.drew _ _ _ (by simp)).trans Hz.out
    · obtain rfl : k = 35 := by omega
      rw [mixW_all] at hg
      clear hadd
      go_wp2_with (first
        | (refine wpList_load_row rfl 41 (.tmp 2) rfl w.heap.size rfl 41 (ws N) (0, 0) _ hg Try.underlying41 rfl (by rw [ws_size]; exact Hs.out) ?_)
        | (refine wpList_store_row rfl 41 (.tmp 4) (.tmp 24) rfl (w.heap.size + 2) (ws N) rfl rfl 41 Z hgz (by rw [ws_size]; exact Hs.out) (by rw [hZ, ws_size]) (ws_one N) ?_))
      exact bodyPost_ret (results_cell_row rfl _ _ (w.heap.size + 2) 41 (ws N) (0, 0) _ rfl (setRow_heap _ _ _ _ _ _ hgz) Try.underlying41 rfl (by rw [ws_size]; exact Hs.out)) rfl ⟨rfl, below_setRow hb (by omega) _⟩
end Go.Proofs.Ythplelglifnhoaa
/-! Exact sums: the walk of Add where it adds no words. -/
namespace Go.Proofs.Ythplelglifnhoaa
open Go.RowKit
set_option linter.unusedVariables false

/-- What a sum has: its whole number (its words are its low bits), and what else was there. -/
structure St where
  w : Nat
  nan : Bool
  pos : Bool
  neg : Bool
  any : Bool
  other : Bool
def sumC (s : St) : Array Value := ws s.w ++ #[.bool s.nan, .bool s.pos, .bool s.neg, .bool s.any, .bool s.other]
theorem sumC_size (s : St) : (sumC s).size = 40 := by simp [sumC, ws_size]
theorem sumC_one (s : St) : (sumC s).all (·.oneCell') = true := by
  unfold sumC
  rw [Array.all_append, ws_one]; simp [Value.oneCell']
theorem sumC_w (s : St) (i : Nat) (h : i < 35) : (sumC s)[i]? = some (wdv s.w i) := by
  unfold sumC; rw [Array.getElem?_append_left (by rw [ws_size]; exact h), ws_at _ _ h]
theorem sumC_f (s : St) (i : Nat) : (sumC s)[35 + i]? = #[Value.bool s.nan, .bool s.pos, .bool s.neg, .bool s.any, .bool s.other][i]? := by
  unfold sumC; rw [Array.getElem?_append_right (by rw [ws_size]; omega), ws_size, Nat.add_sub_cancel_left]
theorem set_f (s : St) (i : Nat) (v : Value) : (sumC s).setIfInBounds (35 + i) v = ws s.w ++ #[Value.bool s.nan, .bool s.pos, .bool s.neg, .bool s.any, .bool s.other].setIfInBounds i v := by
  unfold sumC
  rw [Array.setIfInBounds_append_right (by rw [ws_size]; omega), ws_size, Nat.add_sub_cancel_left]
theorem set_nan (s : St) (b : Bool) : (sumC s).setIfInBounds 35 (.bool b) = sumC { s with nan := b } := set_f s 0 _
theorem set_pos (s : St) (b : Bool) : (sumC s).setIfInBounds 36 (.bool b) = sumC { s with pos := b } := set_f s 1 _
theorem set_neg (s : St) (b : Bool) : (sumC s).setIfInBounds 37 (.bool b) = sumC { s with neg := b } := set_f s 2 _
theorem set_any (s : St) (b : Bool) : (sumC s).setIfInBounds 38 (.bool b) = sumC { s with any := b } := set_f s 3 _
theorem set_other (s : St) (b : Bool) : (sumC s).setIfInBounds 39 (.bool b) = sumC { s with other := b } := set_f s 4 _
attribute [-simp] Try.isAgg41 Try.sizeOf41 Try.typeInfo41 Try.type41
attribute [-simp] Try.isAgg43 Try.sizeOf43 Try.typeInfo43 Try.type43

set_option maxRecDepth 100000 in
set_option maxHeartbeats 4000000 in
theorem add_nought (C : Array Value) (hC : C.size = 40) (h1 : C.all (·.oneCell') = true) (o : Bool) (c39 : C[39]? = some (.bool o)) (x : Nat) (neg : Bool) (s : Int) (w : World)
    (hsp : ∀ w, Calls Try.prog 89 #[.float .f64 x] w fun e w' => e = .returned (.tuple #[.bool neg, .int .u64 0, .int .i64 s, .bool true]) ∧ w = w') :
    Calls Try.prog 57 #[.agg C, .float .f64 x] w fun e w' => e = .returned (.agg ((C.setIfInBounds 38 (.bool true)).setIfInBounds 39 (.bool (o || !neg)))) ∧ Below w.heap.size w w' := by
  have Hs := Lib.hid size30
  have hb2 : ∀ (o1 o2 : Obj), Below w.heap.size w ((w.alloc o1).alloc o2) := fun o1 o2 => below_alloc (below_alloc (Below.refl _ _) _) _
  have h39 : C[39]'(by omega) = .bool o := by
    rw [Array.getElem?_eq_getElem (by omega)] at c39; exact Option.some.inj c39
  have hD : ((C.setIfInBounds 38 (.bool true)).setIfInBounds 39 (.bool (o || !neg))).size = 40 := by simp [hC]
  have hD1 : ((C.setIfInBounds 38 (.bool true)).setIfInBounds 39 (.bool (o || !neg))).all (·.oneCell') = true := one_set (one_set h1 _ _ rfl) _ _ rfl
  have HD := Lib.hid hD
  have HD1 := Lib.hid hD1
  clear hD hD1 c39 h1
  cases o <;> cases neg
  all_goals
    simp only [Bool.or_true, Bool.or_false, Bool.not_true, Bool.not_false] at HD HD1 ⊢
    go_enter Try.func57, Try.ntmps57
    go_wp2_with (first
      | (go_at_call 89; (with_reducible refine (hsp _).mono ?_); rintro e w1 ⟨rfl, rfl⟩)
      | (refine wpList_load_row rfl 43 (.tmp 2) rfl w.heap.size rfl 43 _ (0, 0) _ (heap_alloc2_old w _ _) Try.underlying43 rfl (by rw [HD.out]; exact Hs.out) ?_)
      | (refine wpList_store_row rfl 43 (.tmp 4) (.tmp 31) rfl (w.heap.size + 1) _ rfl rfl 43 _ (heap_alloc2_new w _ _) (by rw [HD.out]; exact Hs.out) (by rw [HD.out]; rfl) HD1.out ?_; rw [setRow2]))
    exact bodyPost_ret (results_cell_row rfl _ _ (w.heap.size + 1) 43 _ (0, 0) _ rfl (heap_alloc2_new w _ _) Try.underlying43 rfl (by rw [HD.out]; exact Hs.out)) rfl ⟨rfl, hb2 _ _⟩
end Go.Proofs.Ythplelglifnhoaa
/-! Exact sums: the walk of Add of what is no finite number. -/
namespace Go.Proofs.Ythplelglifnhoaa
open Go.RowKit
set_option linter.unusedVariables false
attribute [-simp] Try.isAgg41 Try.sizeOf41 Try.typeInfo41 Try.type41
attribute [-simp] Try.isAgg43 Try.sizeOf43 Try.typeInfo43 Try.type43

theorem at_of {C : Array Value} {i : Nat} {v : Value} (h : i < C.size) (c : C[i]? = some v) : C[i] = v := by
  rw [Array.getElem?_eq_getElem h] at c; exact Option.some.inj c

set_option maxRecDepth 100000 in
set_option maxHeartbeats 8000000 in
theorem add_special (C : Array Value) (hC : C.size = 40) (h1 : C.all (·.oneCell') = true) (a b c : Bool) (c35 : C[35]? = some (.bool a)) (c36 : C[36]? = some (.bool b)) (c37 : C[37]? = some (.bool c)) (x : Nat) (bn bp bm : Bool) (w : World)
    (hsp : ∀ w, Calls Try.prog 89 #[.float .f64 x] w fun e w' => e = .returned (.tuple #[.bool false, .int .u64 0, .int .i64 0, .bool false]) ∧ w = w')
    (hn : ∀ w, Calls Try.prog 66 #[.float .f64 x] w fun e w' => e = .returned (.bool bn) ∧ w = w')
    (hp : ∀ w, Calls Try.prog 90 #[.float .f64 x, .int .i64 1] w fun e w' => e = .returned (.bool bp) ∧ w = w')
    (hm : ∀ w, Calls Try.prog 90 #[.float .f64 x, .int .i64 (-1)] w fun e w' => e = .returned (.bool bm) ∧ w = w') :
    Calls Try.prog 57 #[.agg C, .float .f64 x] w fun e w' => e = .returned (.agg (((((C.setIfInBounds 38 (.bool true)).setIfInBounds 39 (.bool true)).setIfInBounds 35 (.bool (a || bn))).setIfInBounds 36 (.bool (b || bp))).setIfInBounds 37 (.bool (c || bm)))) ∧ Below w.heap.size w w' := by
  have Hs := Lib.hid size30
  have hb2 : ∀ (o1 o2 : Obj), Below w.heap.size w ((w.alloc o1).alloc o2) := fun o1 o2 => below_alloc (below_alloc (Below.refl _ _) _) _
  have h35 := at_of (by omega) c35
  have h36 := at_of (by omega) c36
  have h37 := at_of (by omega) c37
  have HD := Lib.hid (show (((((C.setIfInBounds 38 (.bool true)).setIfInBounds 39 (.bool true)).setIfInBounds 35 (.bool (a || bn))).setIfInBounds 36 (.bool (b || bp))).setIfInBounds 37 (.bool (c || bm))).size = 40 by simp [hC])
  have HD1 := Lib.hid (one_set (one_set (one_set (one_set (one_set h1 38 (.bool true) rfl) 39 (.bool true) rfl) 35 (.bool (a || bn)) rfl) 36 (.bool (b || bp)) rfl) 37 (.bool (c || bm)) rfl)
  clear c35 c36 c37 h1
  cases a <;> cases b <;> cases c
  all_goals
    simp only [Bool.true_or, Bool.false_or] at HD HD1 ⊢
    go_enter Try.func57, Try.ntmps57
    go_wp2_with (first
      | (go_at_call 89; (with_reducible refine (hsp _).mono ?_); rintro e w1 ⟨rfl, rfl⟩)
      | (go_at_call 66; (with_reducible refine (hn _).mono ?_); rintro e w1 ⟨rfl, rfl⟩)
      | (go_at_call 90; (first | ((with_reducible refine (hp _).mono ?_); rintro e w1 ⟨rfl, rfl⟩) | ((with_reducible refine (hm _).mono ?_); rintro e w1 ⟨rfl, rfl⟩)))
      | (refine wpList_load_row rfl 43 (.tmp 2) rfl w.heap.size rfl 43 _ (0, 0) _ (heap_alloc2_old w _ _) Try.underlying43 rfl (by rw [HD.out]; exact Hs.out) ?_)
      | (refine wpList_store_row rfl 43 (.tmp 4) (.tmp 57) rfl (w.heap.size + 1) _ rfl rfl 43 _ (heap_alloc2_new w _ _) (by rw [HD.out]; exact Hs.out) (by rw [HD.out]; rfl) HD1.out ?_; rw [setRow2]))
    exact bodyPost_ret (results_cell_row rfl _ _ (w.heap.size + 1) 43 _ (0, 0) _ rfl (heap_alloc2_new w _ _) Try.underlying43 rfl (by rw [HD.out]; exact Hs.out)) rfl ⟨rfl, hb2 _ _⟩
end Go.Proofs.Ythplelglifnhoaa
/-! Exact sums: rows that lie at the head of a block; the words of a finite number. -/
namespace Go.Proofs.Ythplelglifnhoaa
open Go.RowKit
set_option linter.unusedVariables false

theorem setCell_eq_setRow {w : World} {g k : Nat} {C : Array Value} {t : TypeId} {fr : Nat × Nat} (h : w.heap[g]? = some (.cells C t fr)) (v : Value) : w.setCell ⟨g, k, none⟩ v = w.setRow g (C.setIfInBounds k v) := by
  simp only [World.setRow, World.setCell]
  congr 1
  apply Array.ext_getElem?
  intro i
  rw [Array.getElem?_modify, Array.getElem?_modify]
  by_cases hi : g = i
  · subst hi
    simp [h]
  · simp [hi]
theorem setRow_setRow {w : World} {g : Nat} {C D : Array Value} : (w.setRow g C).setRow g D = w.setRow g D := by
  simp only [World.setRow]
  congr 1
  apply Array.ext_getElem?
  intro i
  rw [Array.getElem?_modify, Array.getElem?_modify, Array.getElem?_modify]
  by_cases hi : g = i
  · subst hi
    simp only [if_true, Option.map_map]
    congr 1
    funext o
    cases o <;> rfl
  · simp [hi]
/-- A row with a list written over it from o on. -/
def setMany (C : Array Value) (o : Nat) : List Value → Array Value
  | [] => C
  | v :: r => setMany (C.setIfInBounds o v) (o + 1) r
theorem setMany_size (L : List Value) : ∀ (C : Array Value) (o : Nat), (setMany C o L).size = C.size := by
  induction L with
  | nil => intro C o; rfl
  | cons v r ih => intro C o; rw [setMany, ih, Array.size_setIfInBounds]
theorem setMany_at (L : List Value) : ∀ (C : Array Value) (o i : Nat), o + L.length ≤ C.size → (setMany C o L)[i]? = if o ≤ i ∧ i < o + L.length then L[i - o]? else C[i]? := by
  induction L with
  | nil => intro C o i _; rw [if_neg (fun h => by have := h.1; have := h.2; rw [List.length_nil] at this; omega)]; rfl
  | cons v r ih =>
    intro C o i h
    rw [List.length_cons] at h
    rw [setMany, ih _ _ _ (by rw [Array.size_setIfInBounds]; omega), List.length_cons]
    by_cases h1 : o + 1 ≤ i ∧ i < o + 1 + r.length
    · rw [if_pos h1, if_pos (by omega)]
      obtain ⟨j, hj⟩ : ∃ j, i - o = j + 1 := ⟨i - o - 1, by omega⟩
      rw [hj, List.getElem?_cons_succ, show i - (o + 1) = j by omega]
    · rw [if_neg h1]
      by_cases h2 : i = o
      · subst h2
        rw [if_pos (by omega), Nat.sub_self, List.getElem?_cons_zero, Array.getElem?_setIfInBounds_self_of_lt (by omega)]
      · rw [if_neg (by omega), Array.getElem?_setIfInBounds_ne (by omega)]
theorem setCells_eq_setRow (L : List Value) : ∀ (w : World) (g o : Nat) (C : Array Value) (t : TypeId) (fr : Nat × Nat), w.heap[g]? = some (.cells C t fr) → L ≠ [] → w.setCells g o L = w.setRow g (setMany C o L) := by
  induction L with
  | nil => intro w g o C t fr _ h; exact absurd rfl h
  | cons v r ih =>
    intro w g o C t fr h _
    rw [World.setCells, setMany]
    by_cases hr : r = []
    · subst hr
      exact setCell_eq_setRow h v
    · rw [setCell_eq_setRow h, ih _ g (o + 1) _ t fr (setRow_heap _ _ _ _ _ _ h) hr, setRow_setRow]
theorem sumC_front (s : St) (N : Nat) : setMany (sumC s) 0 (ws N).toList = sumC { s with w := N } := by
  have hl : (ws N).toList.length = 35 := by rw [Array.length_toList, ws_size]
  apply Array.ext_getElem?
  intro i
  rw [setMany_at _ _ _ _ (by rw [hl, sumC_size]; omega), hl]
  by_cases h : 0 ≤ i ∧ i < 0 + 35
  · rw [if_pos h, sumC_w _ i (by omega), Nat.sub_zero, Array.getElem?_toList, ws_at _ _ (by omega)]
  · rw [if_neg h]
    obtain ⟨j, rfl⟩ : ∃ j, i = 35 + j := ⟨i - 35, by omega⟩
    rw [sumC_f, sumC_f]
section
variable {P : Program} {ops : Array Oper} {rest : List Oper} {o : Oper} {a : Act} {Q : Exit → Act → World → Prop}
theorem wpList_load_front (hgd : o.guard = none) (w : World) (ty : TypeId) (x : Operand) (ho : o.op = .load ty x) (g : Nat) (hx : a.eval x = .pointer (some ⟨g, 0, none⟩)) (C D : Array Value) (t : TypeId) (fr : Nat × Nat) (d : TypeDesc)
    (hg : w.heap[g]? = some (.cells C t fr)) (hD : ∀ i, i < D.size → C[i]? = D[i]?) (hu : P.underlying ty = some d) (hd : d.isRow = true) (hi : (P.info? ty).map (·.size) = some D.size)
    (h : wpList P ops Q rest (a.put o.dst (.agg D)) w) : wpList P ops Q (o :: rest) a w := by
  refine wpList_load_mid hgd ty x ho g 0 hx D.toList d (fun j v hv => ?_) hu hd (by rw [Array.length_toList]; exact hi) (by rw [Array.toArray_toList]; exact h)
  have hj : j < D.size := by
    rcases Nat.lt_or_ge j D.size with h | h
    · exact h
    · rw [List.getElem?_eq_none (by rw [Array.length_toList]; exact h)] at hv; cases hv
  rw [Nat.zero_add, cell_of_row _ _ j _ _ _ hg, hD j hj]
  simpa using hv
theorem wpList_store_front (hgd : o.guard = none) (w : World) (ty : TypeId) (x y : Operand) (ho : o.op = .store ty x y) (g : Nat) (D : Array Value) (hx : a.eval x = .pointer (some ⟨g, 0, none⟩)) (hy : a.eval y = .agg D) (C : Array Value) (t : TypeId)
    (hg : w.heap[g]? = some (.cells C t (0, 0))) (hDC : D.size ≤ C.size) (h0 : 0 < D.size) (hi : (P.info? ty).map (·.size) = some D.size) (h1 : D.all (·.oneCell') = true)
    (h : wpList P ops Q rest (a.put o.dst undef) (w.setRow g (setMany C 0 D.toList))) : wpList P ops Q (o :: rest) a w := by
  refine wpList_store_mid hgd ty x y ho g 0 D hx hy (fun j hj => ⟨?_, frozen_of_row hg _⟩) hi h1 ?_
  · rw [cell_of_row _ _ _ _ _ _ hg, Nat.zero_add, Array.getElem?_eq_getElem (by omega)]; rfl
  · rw [setCells_eq_setRow _ _ _ _ _ _ _ hg (by
      intro e
      have := congrArg List.length e
      rw [Array.length_toList] at this
      have h2 : D.size = 0 := this
      omega)]
    exact h
end
theorem wdn_shift_lo (m k i : Nat) (h : 64 * (i + 1) ≤ k) : wdn (m * 2 ^ k) i = 0 := by
  unfold wdn
  have e : m * 2 ^ k = m * 2 ^ (k - 64 * (i + 1)) * 18446744073709551616 * 2 ^ (64 * i) := by
    rw [Nat.mul_assoc, Nat.mul_assoc, show (18446744073709551616 : Nat) = 2 ^ 64 from rfl, ← Nat.pow_add, ← Nat.pow_add]
    congr 2; omega
  rw [e, Nat.mul_div_cancel _ (Nat.two_pow_pos _), Nat.mul_mod_left]
theorem wdn_shift_at (m k q r : Nat) (h : k = 64 * q + r) : wdn (m * 2 ^ k) q = m * 2 ^ r % 18446744073709551616 := by
  unfold wdn
  rw [h, Nat.pow_add, show m * (2 ^ (64 * q) * 2 ^ r) = m * 2 ^ r * 2 ^ (64 * q) by rw [Nat.mul_comm (2 ^ (64 * q)), Nat.mul_assoc], Nat.mul_div_cancel _ (Nat.two_pow_pos _)]
theorem wdn_shift_next (m k q r : Nat) (h : k = 64 * q + r) (hr : r < 64) (hm : m < 18446744073709551616) : wdn (m * 2 ^ k) (q + 1) = m / 2 ^ (64 - r) := by
  unfold wdn
  have hlt : m / 2 ^ (64 - r) < 18446744073709551616 := Nat.lt_of_le_of_lt (Nat.div_le_self _ _) hm
  rw [pow_step, ← Nat.div_div_eq_div_mul, h, Nat.pow_add, show m * (2 ^ (64 * q) * 2 ^ r) = m * 2 ^ r * 2 ^ (64 * q) by rw [Nat.mul_comm (2 ^ (64 * q)), Nat.mul_assoc], Nat.mul_div_cancel _ (Nat.two_pow_pos _)]
  rw [show (18446744073709551616 : Nat) = 2 ^ (64 - r) * 2 ^ r by rw [← Nat.pow_add, show 64 - r + r = 64 by omega], Nat.mul_div_mul_right _ _ (Nat.two_pow_pos _)]
  rw [← Nat.pow_add, show 64 - r + r = 64 by omega]
  exact Nat.mod_eq_of_lt hlt
theorem wdn_shift_hi (m k q r i : Nat) (h : k = 64 * q + r) (hr : r < 64) (hm : m < 18446744073709551616) (hi : q + 2 ≤ i) : wdn (m * 2 ^ k) i = 0 := by
  unfold wdn
  have : m * 2 ^ k < 2 ^ (64 * i) := by
    have h1 : m * 2 ^ k < 2 ^ 64 * 2 ^ k := Nat.mul_lt_mul_of_pos_right hm (Nat.two_pow_pos _)
    rw [← Nat.pow_add] at h1
    exact Nat.lt_of_lt_of_le h1 (Nat.pow_le_pow_right (by omega) (by omega))
  rw [Nat.div_eq_of_lt this]
theorem wsB (m k q r : Nat) (h : k = 64 * q + r) (hr : r < 64) (hm : m < 18446744073709551616) (hq : q ≤ 31) :
    ((ws 0).setIfInBounds q (.int .u64 (IntKind.u64.wrap ((m : Int) * 2 ^ r)))).setIfInBounds (q + 1) (.int .u64 ((m : Int) / 2 ^ (64 - r))) = ws (m * 2 ^ k) := by
  have e1 : IntKind.u64.wrap ((m : Int) * 2 ^ r) = ((m * 2 ^ r % 18446744073709551616 : Nat) : Int) := by rw [IntKind.wrap_u64]; simp
  have e2 : (m : Int) / 2 ^ (64 - r) = ((m / 2 ^ (64 - r) : Nat) : Int) := by simp
  rw [e1, e2]
  apply Array.ext_getElem?
  intro i
  by_cases hi : i < 35
  · rw [ws_at _ _ hi]
    by_cases h1 : i = q + 1
    · subst h1
      rw [Array.getElem?_setIfInBounds_self_of_lt (by rw [Array.size_setIfInBounds, ws_size]; omega)]
      unfold wdv
      rw [wdn_shift_next m k q r h hr hm]
    · rw [Array.getElem?_setIfInBounds_ne (by omega)]
      by_cases h2 : i = q
      · subst h2
        rw [Array.getElem?_setIfInBounds_self_of_lt (by rw [ws_size]; omega)]
        unfold wdv
        rw [wdn_shift_at m k i r h]
      · rw [Array.getElem?_setIfInBounds_ne (by omega), ws_at _ _ hi]
        unfold wdv
        have : wdn 0 i = 0 := by simp [wdn]
        rw [this]
        rcases Nat.lt_or_ge i q with h3 | h3
        · rw [wdn_shift_lo m k i (by omega)]
        · rw [wdn_shift_hi m k q r i h hr hm (by omega)]
  · rw [Array.getElem?_eq_none (by simp [ws_size]; omega), Array.getElem?_eq_none (by rw [ws_size]; omega)]
end Go.Proofs.Ythplelglifnhoaa
/-! Exact sums: the walk of Add of a finite number. -/
namespace Go.Proofs.Ythplelglifnhoaa
open Go.RowKit
set_option linter.unusedVariables false
attribute [-simp] Try.isAgg41
attribute [-simp] Try.isAgg43 Try.sizeOf43 Try.typeInfo43 Try.type43

set_option maxRecDepth 100000 in
theorem zero28 : ∀ w, (zeroValue 41).run Try.prog w = .ok (.agg (ws 0)) w := (zero_of_info (P := Try.prog) (v := .agg (ws 0)) (n := 35) (by kernel_rfl)).1
set_option maxRecDepth 100000 in
theorem zero30 : ∀ w, (zeroValue 43).run Try.prog w = .ok (.agg (sumC ⟨0, false, false, false, false, false⟩)) w := (zero_of_info (P := Try.prog) (v := .agg (sumC ⟨0, false, false, false, false, false⟩)) (n := 40) (by kernel_rfl)).1
section
variable {P : Program} {ops : Array Oper} {rest : List Oper} {o : Oper} {a : Act} {Q : Exit → Act → World → Prop}
/-- Does the walk stand at this operation? -/
theorem at_op {w : World} (op : Op) (h : wpList P ops Q (o :: rest) a w) (ho : o.op = op) : wpList P ops Q (o :: rest) a w := h
theorem wpList_alloc_row (hgd : o.guard = none) (w : World) (t : TypeId) (ho : o.op = .alloc t) (dst : Option Tmp) (hdst : o.dst = dst) (N : Nat) (hN : w.heap.size = N) (z : Array Value) (hz : ∀ w, (zeroValue t).run P w = .ok (.agg z) w)
    (h : wpList P ops Q rest (a.put dst (.pointer (some ⟨N, 0, none⟩))) (w.alloc (.cells z t))) : wpList P ops Q (o :: rest) a w := by
  subst hdst hN
  refine wpList_plain hgd fun K hK => ?_
  unfold Oper.wp execOp
  simp only [ho, Instr.alloc, Sem.run_bind, hz, Result.andThen_ok]
  exact hK _ _ h
end

theorem heap_lt {w : World} {g : Nat} {o : Obj} (h : w.heap[g]? = some o) : g < w.heap.size := by
  rcases Nat.lt_or_ge g w.heap.size with h1 | h1
  · exact h1
  · rw [Array.getElem?_eq_none h1] at h; cases h
theorem heap3_0 (w : World) (A B C : Obj) : (((w.alloc A).alloc B).alloc C).heap[w.heap.size]? = some A := by
  rw [Below.heap_alloc _ _ _ (by simp; omega)]; exact heap_alloc2_old w A B
theorem heap3_1 (w : World) (A B C : Obj) : (((w.alloc A).alloc B).alloc C).heap[w.heap.size + 1]? = some B := by
  rw [Below.heap_alloc _ _ _ (by simp)]; exact heap_alloc2_new w A B
theorem heap3_2 (w : World) (A B C : Obj) : (((w.alloc A).alloc B).alloc C).heap[w.heap.size + 2]? = some C := by
  have := heap_alloc_new ((w.alloc A).alloc B) C
  rwa [show ((w.alloc A).alloc B).heap.size = w.heap.size + 2 by simp] at this

theorem fin_le (m k N : Nat) (hm : m < 9007199254740992) (h : 53 + k ≤ N) : m * 2 ^ k ≤ 2 ^ N := by
  have h1 : m * 2 ^ k ≤ 2 ^ 53 * 2 ^ k := Nat.mul_le_mul_right _ (Nat.le_of_lt hm)
  rw [← Nat.pow_add] at h1
  exact Nat.le_trans h1 (Nat.pow_le_pow_right (by decide) h)
theorem minus_fin (m k : Nat) (hm : m < 9007199254740992) (hk : k ≤ 2045) : ∃ M, 2 ^ 2240 - m * 2 ^ k = M ∧ ∀ w, Calls Try.prog 60 #[.agg (ws (m * 2 ^ k))] w fun e w' => e = .returned (.agg (ws M)) ∧ Below w.heap.size w w' :=
  ⟨_, rfl, fun w => minus_any (m * 2 ^ k) w (fin_le m k 2240 hm (by omega))⟩

set_option maxRecDepth 100000 in
set_option maxHeartbeats 8000000 in
theorem add_fin (s : St) (x : Nat) (ng : Bool) (m k q r : Nat) (w : World) (hm0 : 0 < m) (hm : m < 9007199254740992) (hkq : (k : Int) / 64 = (q : Int)) (hkr : (k : Int) % 64 = (r : Int)) (hq : q ≤ 31) (hr : r < 64) (hk : k ≤ 2045)
    (hsp : ∀ w, Calls Try.prog 89 #[.float .f64 x] w fun e w' => e = .returned (.tuple #[.bool ng, .int .u64 (m : Nat), .int .i64 (k : Nat), .bool true]) ∧ w = w') :
    Calls Try.prog 57 #[.agg (sumC s), .float .f64 x] w fun e w' => e = .returned (.agg (sumC { s with w := s.w + (if ng = true then 2 ^ 2240 - m * 2 ^ k else m * 2 ^ k), any := true, other := true })) ∧ Below w.heap.size w w' := by
  have Hs := Lib.hid size30
  have H8 := Lib.hid size28
  have hC := sumC_size s
  have hm00 : ((m : Int) == 0) = false := by rw [beq_eq_false_iff_ne]; omega
  have hC2 : ((sumC s).setIfInBounds 38 (.bool true)).setIfInBounds 39 (.bool true) = sumC { s with any := true, other := true } := by rw [set_any, set_other]
  have hfr : ∀ i, i < (ws s.w).size → (((sumC s).setIfInBounds 38 (.bool true)).setIfInBounds 39 (.bool true))[i]? = (ws s.w)[i]? := fun i hi => by
    rw [ws_size] at hi
    rw [hC2, sumC_w _ i hi, ws_at _ _ hi]
  have hset : ∀ N, setMany (((sumC s).setIfInBounds 38 (.bool true)).setIfInBounds 39 (.bool true)) 0 (ws N).toList = sumC { s with w := N, any := true, other := true } := fun N => by rw [hC2, sumC_front]
  have hC2s : (((sumC s).setIfInBounds 38 (.bool true)).setIfInBounds 39 (.bool true)).size = 40 := by rw [hC2, sumC_size]
  have Hfr := Lib.hid hfr
  have Hset := Lib.hid hset
  have HC2s := Lib.hid hC2s
  obtain ⟨M, hM, hmin⟩ := minus_fin m k hm hk
  rw [hM]
  clear hM
  have hplus := fun N w => plus_any s.w N w
  have HB := Lib.hid (wsB m k q r (by omega) hr (by omega) hq)
  generalize m * 2 ^ k = B at *
  clear hC2 hfr hset hC2s
  generalize sumC s = C at *
  obtain ⟨Z, hZ, zz⟩ : ∃ Z : Array Value, Z.size = 40 ∧ ∀ w, (zeroValue 43).run Try.prog w = .ok (.agg Z) w := ⟨_, sumC_size _, zero30⟩
  obtain ⟨Y, hY, hy0, zy⟩ : ∃ Y : Array Value, Y.size = 35 ∧ Y = ws 0 ∧ ∀ w, (zeroValue 41).run Try.prog w = .ok (.agg Y) w := ⟨_, ws_size _, rfl, zero28⟩
  rw [← hy0] at HB
  have y0 : Y[q]'(by omega) = .int .u64 0 := at_of _ (by rw [hy0, ws_at 0 q (by omega)]; simp [wdv, wdn])
  have y1 : Y[q + 1]'(by omega) = .int .u64 0 := at_of _ (by rw [hy0, ws_at 0 (q + 1) (by omega)]; simp [wdv, wdn])
  clear hy0
  have hql : q < 35 := by omega
  have hql1 : q + 1 < 35 := by omega
  cases ng
  · simp only [Bool.false_eq_true, if_false]
    go_enter Try.func57, Try.ntmps57
    go_wp2_with (first
      | (refine at_op (.alloc 43) ?_ rfl; refine wpList_alloc_row rfl _ 43 rfl (some 4) rfl (w.heap.size + 1) (by simp) Z zz ?_)
      | (refine at_op (.alloc 41) ?_ rfl; refine wpList_alloc_row rfl _ 41 rfl (some 9) rfl (w.heap.size + 2) (by simp) Y zy ?_)
      | (go_at_call 89; (with_reducible refine (hsp _).mono ?_); rintro e w1 ⟨rfl, rfl⟩)
      | (refine at_op (.load 41 (.tmp 78)) ?_ rfl; refine wpList_load_front rfl _ 41 (.tmp 78) rfl w.heap.size rfl _ (ws s.w) 43 (0, 0) _ (heap3_0 w _ _ _) Hfr.out Try.underlying41 rfl (by rw [ws_size]; exact H8.out) ?_)
      | (refine at_op (.load 41 (.tmp 9)) ?_ rfl; refine wpList_load_row rfl 41 (.tmp 9) rfl (w.heap.size + 2) rfl 41 _ (0, 0) _ (heap3_2 w _ _ _) Try.underlying41 rfl (by rw [HB.out, ws_size]; exact H8.out) ?_; rw [HB.out])
      | (go_at_call 91; (with_reducible refine (hplus B _).mono ?_); rintro e w4 ⟨rfl, b4⟩; have g0 := (b4.block w.heap.size (by simp; omega)).trans (heap3_0 w _ _ _); have g1 := (b4.block (w.heap.size + 1) (by simp)).trans (heap3_1 w _ _ _); have bb := below_trans (below_alloc (below_alloc (below_alloc (Below.refl w.heap.size w) _) _) _) b4; have g0h := Lib.hid g0; have g1h := Lib.hid g1; clear g0 g1 b4)
      | (refine at_op (.store 41 (.tmp 82) (.tmp 81)) ?_ rfl; refine wpList_store_front rfl _ 41 (.tmp 82) (.tmp 81) rfl w.heap.size (ws (s.w + B)) rfl rfl _ 43 g0h.out (by rw [ws_size, HC2s.out]; omega) (by rw [ws_size]; omega) (by rw [ws_size]; exact H8.out) (ws_one _) ?_; rw [Hset.out]; have g2h := Lib.hid (setRow_heap _ _ _ (sumC { s with w := s.w + B, any := true, other := true }) _ _ g0h.out); have g3h := Lib.hid ((setRow_other w4 w.heap.size (w.heap.size + 1) (sumC { s with w := s.w + B, any := true, other := true }) (by omega)).trans g1h.out))
      | (refine at_op (.load 43 (.tmp 2)) ?_ rfl; refine wpList_load_row rfl 43 (.tmp 2) rfl w.heap.size rfl 43 _ (0, 0) _ g2h.out Try.underlying43 rfl (by rw [sumC_size]; exact Hs.out) ?_)
      | (refine at_op (.store 43 (.tmp 4) (.tmp 83)) ?_ rfl; refine wpList_store_row rfl 43 (.tmp 4) (.tmp 83) rfl (w.heap.size + 1) (sumC { s with w := s.w + B, any := true, other := true }) rfl rfl 43 Z g3h.out (by rw [sumC_size]; exact Hs.out) (by rw [hZ, sumC_size]) (sumC_one _) ?_))
    exact bodyPost_ret (results_cell_row rfl _ _ (w.heap.size + 1) 43 _ (0, 0) _ rfl (setRow_heap _ _ _ _ _ _ g3h.out) Try.underlying43 rfl (by rw [sumC_size]; exact Hs.out)) rfl ⟨rfl, below_setRow (below_setRow bb (by omega) _) (by omega) _⟩
  · simp only [if_true]
    go_enter Try.func57, Try.ntmps57
    go_wp2_with (first
      | (refine at_op (.alloc 43) ?_ rfl; refine wpList_alloc_row rfl _ 43 rfl (some 4) rfl (w.heap.size + 1) (by simp) Z zz ?_)
      | (refine at_op (.alloc 41) ?_ rfl; refine wpList_alloc_row rfl _ 41 rfl (some 9) rfl (w.heap.size + 2) (by simp) Y zy ?_)
      | (go_at_call 89; (with_reducible refine (hsp _).mono ?_); rintro e w1 ⟨rfl, rfl⟩)
      | (refine at_op (.load 41 (.tmp 9)) ?_ rfl; first | (refine wpList_load_row rfl 41 (.tmp 9) rfl (w.heap.size + 2) rfl 41 (ws M) (0, 0) _ j2h.out Try.underlying41 rfl (by rw [ws_size]; exact H8.out) ?_) | (refine wpList_load_row rfl 41 (.tmp 9) rfl (w.heap.size + 2) rfl 41 _ (0, 0) _ (heap3_2 w _ _ _) Try.underlying41 rfl (by rw [HB.out, ws_size]; exact H8.out) ?_; rw [HB.out]))
      | (go_at_call 60; (with_reducible refine (hmin _).mono ?_); rintro e w5 ⟨rfl, b5⟩; have k0h := Lib.hid ((b5.block w.heap.size (by simp; omega)).trans (heap3_0 w _ _ _)); have k1h := Lib.hid ((b5.block (w.heap.size + 1) (by simp)).trans (heap3_1 w _ _ _)); have k2h := Lib.hid ((b5.block (w.heap.size + 2) (by simp)).trans (heap3_2 w _ _ _)); have bb5 := below_trans (below_alloc (below_alloc (below_alloc (Below.refl w.heap.size w) _) _) _) b5; clear b5)
      | (refine at_op (.store 41 (.tmp 9) (.tmp 77)) ?_ rfl; refine wpList_store_row rfl 41 (.tmp 9) (.tmp 77) rfl (w.heap.size + 2) (ws M) rfl rfl 41 _ k2h.out (by rw [ws_size]; exact H8.out) (by rw [ws_size, ws_size]) (ws_one _) ?_; have j0h := Lib.hid ((setRow_other w5 (w.heap.size + 2) w.heap.size (ws M) (by omega)).trans k0h.out); have j1h := Lib.hid ((setRow_other w5 (w.heap.size + 2) (w.heap.size + 1) (ws M) (by omega)).trans k1h.out); have j2h := Lib.hid (setRow_heap _ _ _ (ws M) _ _ k2h.out); have bb6 := below_setRow bb5 (show w.heap.size ≤ w.heap.size + 2 by omega) (ws M); generalize w5.setRow (w.heap.size + 2) (ws M) = w6 at *)
      | (refine at_op (.load 41 (.tmp 78)) ?_ rfl; refine wpList_load_front rfl _ 41 (.tmp 78) rfl w.heap.size rfl _ (ws s.w) 43 (0, 0) _ j0h.out Hfr.out Try.underlying41 rfl (by rw [ws_size]; exact H8.out) ?_)
      | (go_at_call 91; (with_reducible refine (hplus M _).mono ?_); rintro e w4 ⟨rfl, b4⟩; have g0h := Lib.hid ((b4.block w.heap.size (heap_lt j0h.out)).trans j0h.out); have g1h := Lib.hid ((b4.block (w.heap.size + 1) (heap_lt j1h.out)).trans j1h.out); have bb := below_trans bb6 b4; clear b4)
      | (refine at_op (.store 41 (.tmp 82) (.tmp 81)) ?_ rfl; refine wpList_store_front rfl _ 41 (.tmp 82) (.tmp 81) rfl w.heap.size (ws (s.w + M)) rfl rfl _ 43 g0h.out (by rw [ws_size, HC2s.out]; omega) (by rw [ws_size]; omega) (by rw [ws_size]; exact H8.out) (ws_one _) ?_; rw [Hset.out]; have g2h := Lib.hid (setRow_heap _ _ _ (sumC { s with w := s.w + M, any := true, other := true }) _ _ g0h.out); have g3h := Lib.hid ((setRow_other w4 w.heap.size (w.heap.size + 1) (sumC { s with w := s.w + M, any := true, other := true }) (by omega)).trans g1h.out))
      | (refine at_op (.load 43 (.tmp 2)) ?_ rfl; refine wpList_load_row rfl 43 (.tmp 2) rfl w.heap.size rfl 43 _ (0, 0) _ g2h.out Try.underlying43 rfl (by rw [sumC_size]; exact Hs.out) ?_)
      | (refine at_op (.store 43 (.tmp 4) (.tmp 83)) ?_ rfl; refine wpList_store_row rfl 43 (.tmp 4) (.tmp 83) rfl (w.heap.size + 1) (sumC { s with w := s.w + M, any := true, other := true }) rfl rfl 43 Z g3h.out (by rw [sumC_size]; exact Hs.out) (by rw [hZ, sumC_size]) (sumC_one _) ?_))
    exact bodyPost_ret (results_cell_row rfl _ _ (w.heap.size + 1) 43 _ (0, 0) _ rfl (setRow_heap _ _ _ _ _ _ g3h.out) Try.underlying43 rfl (by rw [sumC_size]; exact Hs.out)) rfl ⟨rfl, below_setRow (below_setRow bb (by omega) _) (by omega) _⟩
end Go.Proofs.Ythplelglifnhoaa
/-! Exact sums: Add, whatever the number. -/
namespace Go.Proofs.Ythplelglifnhoaa
open Go.RowKit
set_option linter.unusedVariables false

theorem split_special {x : Nat} (hx : x < 18446744073709551616) (h : nanB x = true ∨ infB x = true) : splitOf x = (false, 0, 0, false) := by
  unfold splitOf canon
  by_cases hn : nanB x
  · rw [if_pos hn]; decide
  · rw [if_neg hn]
    have hi := of_decide_eq_true (h.resolve_left hn)
    have : x / 4503599627370496 % 2048 = 2047 := by omega
    simp only [this, if_true]
theorem split_fin {x : Nat} (hx : x < 18446744073709551616) (h : x % 9223372036854775808 < 9218868437227405312) : splitOf x = (decide (9223372036854775808 ≤ x), magOf (x % 9223372036854775808), upOf (x % 9223372036854775808), true) := by
  unfold splitOf canon
  have hn : nanB x = false := decide_eq_false (by omega)
  rw [if_neg (show ¬ nanB x = true by simp [hn])]
  have : ¬ x / 4503599627370496 % 2048 = 2047 := by omega
  simp only [this, if_false]
  have e1 : x % 4503599627370496 + (if 0 < x / 4503599627370496 % 2048 then 4503599627370496 else 0) = magOf (x % 9223372036854775808) := by
    unfold magOf; split <;> split <;> omega
  have e2 : max (x / 4503599627370496 % 2048) 1 - 1 = upOf (x % 9223372036854775808) := by unfold upOf; omega
  rw [e1, e2]


theorem neg_any (b : Nat) (h : b < 18446744073709551616) : Op.negFloat .f64 b = if b < 9223372036854775808 then b + 9223372036854775808 else b - 9223372036854775808 := by
  have up : ∀ c : Nat, c < 9223372036854775808 → c ^^^ 2 ^ 63 = c + 9223372036854775808 := fun c hc => by
    apply Nat.eq_of_testBit_eq
    intro i
    have := Nat.two_pow_add_eq_or_of_lt (i := 63) (b := c) (by omega) 1
    rw [show c + 9223372036854775808 = 2 ^ 63 * 1 ||| c by rw [← this]; omega, Nat.testBit_xor, Nat.testBit_or, Nat.mul_one, Nat.testBit_two_pow]
    by_cases hi : 63 = i
    · subst hi; rw [Nat.testBit_lt_two_pow (by omega)]; simp
    · simp [hi]
  show b ^^^ 2 ^ 63 = _
  by_cases hb : b < 9223372036854775808
  · rw [if_pos hb, up b hb]
  · rw [if_neg hb]
    have e := up (b - 9223372036854775808) (by omega)
    rw [show b - 9223372036854775808 + 9223372036854775808 = b by omega] at e
    have e2 : (b - 9223372036854775808) ^^^ 2 ^ 63 ^^^ 2 ^ 63 = b - 9223372036854775808 := by
      rw [Nat.xor_assoc, Nat.xor_self, Nat.xor_zero]
    rw [e] at e2
    exact e2
theorem neg_neg (b : Nat) (h : b < 18446744073709551616) : Op.negFloat .f64 (Op.negFloat .f64 b) = b := by
  rw [neg_any b h]
  split
  · rw [neg_any _ (by omega), if_neg (by omega)]; omega
  · rw [neg_any _ (by omega), if_pos (by omega)]; omega
def infP (x : Nat) : Bool := decide (x = 9218868437227405312)
def infM (x : Nat) : Bool := decide (x = 18442240474082181120)
theorem inf_gtP {x : Nat} (hx : x < 18446744073709551616) : (FloatKind.f64.format.order x 9218868437227405311 == some .gt) = infP x := by
  by_cases h : nanB x
  · show (Ieee.double.order _ _ == some .gt) = _
    rw [order_nan_left _ h]
    have := of_decide_eq_true h
    unfold infP
    rw [eq_comm]
    exact decide_eq_false (by omega)
  · rw [order_gt hx (by omega) (by simpa using h) (by decide)]
    have h' := of_decide_eq_false (Bool.eq_false_iff.2 h)
    unfold infP skey
    rw [Bool.eq_iff_iff]
    simp only [decide_eq_true_eq]
    rw [if_neg (show ¬ 9223372036854775808 ≤ 9218868437227405311 by omega)]
    split <;> omega
theorem infM_neg {x : Nat} (hx : x < 18446744073709551616) : infP (Op.negFloat .f64 x) = infM x := by
  rw [neg_any x hx]
  unfold infP infM
  rw [Bool.eq_iff_iff]
  simp only [decide_eq_true_eq]
  split <;> omega
set_option maxRecDepth 100000 in
theorem isInfP_any (x : Nat) (w : World) (hx : x < 18446744073709551616) : Calls Try.prog 90 #[.float .f64 x, .int .i64 1] w fun e w' => e = .returned (.bool (infP x)) ∧ w = w' := by
  have Hg := Lib.hid (inf_gtP hx)
  go_enter Try.func90, Try.ntmps90
  go_wp2
  go_ret
  exact ⟨ret_b Hg.out, rfl⟩
set_option maxRecDepth 100000 in
theorem isInfM_any (x : Nat) (w : World) (hx : x < 18446744073709551616) : Calls Try.prog 90 #[.float .f64 x, .int .i64 (-1)] w fun e w' => e = .returned (.bool (infM x)) ∧ w = w' := by
  have hng : ∀ w, (Op.unary .neg (.float .f64 x)).run Try.prog w = .ok (.float .f64 (Op.negFloat .f64 x)) w := fun _ => rfl
  have hl : Op.negFloat .f64 x < 18446744073709551616 := by rw [neg_any x hx]; split <;> omega
  have Hg := Lib.hid ((inf_gtP hl).trans (infM_neg hx))
  generalize Op.negFloat .f64 x = y at *
  go_enter Try.func90, Try.ntmps90
  go_wp2
  go_ret
  exact ⟨ret_b Hg.out, rfl⟩

/-- A sum with one more number. -/
def addSt (s : St) (x : Nat) : St :=
  if nanB x = true ∨ infB x = true then { s with nan := s.nan || nanB x, pos := s.pos || infP x, neg := s.neg || infM x, any := true, other := true }
  else if rung x = 0 then { s with any := true, other := s.other || !negB x }
  else { s with w := s.w + (if negB x = true then 2 ^ 2240 - val (rung x) else val (rung x)), any := true, other := true }

theorem add_any (s : St) (x : Nat) (w : World) (hx : x < 18446744073709551616) :
    Calls Try.prog 57 #[.agg (sumC s), .float .f64 x] w fun e w' => e = .returned (.agg (sumC (addSt s x))) ∧ Below w.heap.size w w' := by
  have n0 := fun w => split_any x w hx
  by_cases hs : nanB x = true ∨ infB x = true
  · rw [split_special hx hs, show splitVal (false, 0, 0, false) = .tuple #[.bool false, .int .u64 0, .int .i64 0, .bool false] from rfl] at n0
    have := add_special (sumC s) (sumC_size s) (sumC_one s) s.nan s.pos s.neg (sumC_f s 0) (sumC_f s 1) (sumC_f s 2) x (nanB x) (infP x) (infM x) w n0 (isNaN_any x) (fun w => isInfP_any x w hx) (fun w => isInfM_any x w hx)
    rw [set_any, set_other, set_nan, set_pos, set_neg] at this
    unfold addSt
    rw [if_pos hs]
    exact this
  · have hn : ¬ nanB x = true := fun h => hs (.inl h)
    have hi : ¬ infB x = true := fun h => hs (.inr h)
    have hr : x % 9223372036854775808 < 9218868437227405312 := by
      have h1 := of_decide_eq_false (Bool.eq_false_iff.2 hn)
      have h2 := of_decide_eq_false (Bool.eq_false_iff.2 hi)
      omega
    rw [split_fin hx hr] at n0
    have hrg : rung x = x % 9223372036854775808 := rfl
    have hng : decide (9223372036854775808 ≤ x) = negB x := (negB_eq hx).symm
    rw [hng, ← hrg] at n0
    unfold addSt
    rw [if_neg hs]
    by_cases h0 : rung x = 0
    · rw [if_pos h0]
      rw [h0] at n0
      have := add_nought (sumC s) (sumC_size s) (sumC_one s) s.other (sumC_f s 4) x (negB x) 0 w n0
      rw [set_any, set_other] at this
      exact this
    · rw [if_neg h0, val_mag]
      have hU : upOf (rung x) ≤ 2045 := by unfold upOf; omega
      exact add_fin s x (negB x) (magOf (rung x)) (upOf (rung x)) (upOf (rung x) / 64) (upOf (rung x) % 64) w (mag_pos (by omega)) (mag_lt _) (by omega) (by omega) (by omega) (by omega) hU n0
end Go.Proofs.Ythplelglifnhoaa
/-! Exact sums: the sum of a list; the reader of what a sum has. -/
namespace Go.Proofs.Ythplelglifnhoaa
open Go.RowKit
set_option linter.unusedVariables false
attribute [-simp] Try.isAgg43 Try.sizeOf43 Try.typeInfo43 Try.type43

/-- Nothing is summed. -/
def noSt : St := ⟨0, false, false, false, false, false⟩
def sumOf (xs : List Nat) : St := xs.foldl addSt noSt
theorem sumOf_snoc (xs : List Nat) (k : Nat) (h : k < xs.length) : sumOf (xs.take (k + 1)) = addSt (sumOf (xs.take k)) (fd xs k) := by
  rw [take_snocF xs k h]; simp [sumOf, List.foldl_append]

end Go.Proofs.Ythplelglifnhoaa
