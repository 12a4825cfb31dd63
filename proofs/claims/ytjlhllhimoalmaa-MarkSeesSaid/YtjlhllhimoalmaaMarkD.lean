import Derived.Test.YtjlhllhimoalmaaMarkC
import Derived.Laws.CopyOwn
/-! Marks: the example; the law of what is not seen. -/
namespace Go.Proofs.Ytjlhllhimoalmaa
open Go.RowKit
set_option linter.unusedVariables false
attribute [-simp] Try.isAgg27 Try.sizeOf27 Try.typeInfo27 Try.type27

/-- Nothing is seen. -/
def f0 : Nat → Option Int := fun _ => none

set_option maxHeartbeats 2000000 in
theorem awake_any (w : World) : Calls Try.prog 6 #[] w fun e w' => e = .returned (.bool true) ∧ Below w.heap.size w w' := by
  have hnew : Calls Try.prog 7 #[.int .i64 2] w fun e w' => e = .returned (.tuple #[.agg (mkC 2 f0), .int .i64 0]) ∧ Below w.heap.size w w' := new_any 2 w (by omega)
  have s1 := fun w => see_any 2 f0 0 5 w (by omega)
  have s2 := fun w => see_any 2 (seeF 2 f0 0 5) 1 3 w (by omega)
  have hl : lowF 2 (seeF 2 (seeF 2 f0 0 5) 1 3) = some 3 := by rfl
  have l1 : ∀ w, Calls Try.prog 8 #[.agg (mkC 2 (seeF 2 (seeF 2 f0 0 5) 1 3))] w fun e w' => e = .returned (.tuple #[.int .i64 3, .bool true]) ∧ Below w.heap.size w w' := fun w => by
    have := low_any 2 (seeF 2 (seeF 2 f0 0 5) 1 3) w (by omega)
    rw [hl] at this
    exact this
  have Hs := Lib.hid size27
  generalize seeF 2 (seeF 2 f0 0 5) 1 3 = F2 at *
  generalize seeF 2 f0 0 5 = F1 at *
  clear hl
  go_enter Try.func6, Try.ntmps6
  go_wp2_with (first
    | (go_at_call 7; (with_reducible refine hnew.mono ?_); rintro e w1 ⟨rfl, b1⟩)
    | (go_at_call 10; (first | ((with_reducible refine (s1 _).mono ?_); rintro e w2 ⟨rfl, b2⟩) | ((with_reducible refine (s2 _).mono ?_); rintro e w3 ⟨rfl, b3⟩)))
    | (go_at_call 8; (with_reducible refine (l1 _).mono ?_); rintro e w4 ⟨rfl, b4⟩)
    | (refine wpList_store_row rfl 27 (.tmp 1) (.tmp 7) rfl w1.heap.size (mkC 2 f0) rfl rfl 27 _ (heap_alloc_new w1 _) Hs.out rfl (mkC_one 2 f0) ?_; rw [World.setRow_alloc_new])
    | (refine wpList_load_row rfl 27 (.tmp 1) rfl w1.heap.size rfl 27 (mkC 2 f0) (0, 0) _ (heap_alloc_new w1 _) Try.underlying27 rfl Hs.out ?_))
  go_ret
  exact ⟨rfl, below_trans (below_trans (below_trans (below_alloc b1 _) b2) b3) b4⟩

/-- A slice of pairs of numbers that reads as two rows. -/
def Pairs (w : World) (A : Option Addr) (len : Nat) (V0 V1 : Nat → Int) : Prop :=
  ∀ i, i < len → ∃ a, A = some a ∧ w.cell? (a.add (i * 2)) = some (.int .i64 (V0 i)) ∧ w.cell? (a.add (i * 2 + 1)) = some (.int .i64 (V1 i))
theorem Pairs.below {w w' : World} {A : Option Addr} {len : Nat} {V0 V1 : Nat → Int} (h : Pairs w A len V0 V1) (hb : Below w.heap.size w w') : Pairs w' A len V0 V1 := fun i hi => by
  obtain ⟨a, e, h0, h1⟩ := h i hi
  exact ⟨a, e, cell_below hb h0, cell_below hb h1⟩
theorem seeF_other {n : Int} {f : Nat → Option Int} {p x : Int} {k : Nat} (h : f k = none) (hp : p ≠ k) : seeF n f p x k = none := by
  unfold seeF
  split
  · rename_i h1
    have : ∀ g : Nat → Option Int, g = f ∨ g = upd f p.toNat x → g k = none := by
      rintro g (rfl | rfl)
      · exact h
      · unfold upd; rw [if_neg (by omega)]; exact h
    cases hf : f p.toNat with
    | none => exact this _ (.inr rfl)
    | some t =>
      by_cases ht : t < x
      · simp only [if_pos ht]; exact this _ (.inr rfl)
      · simp only [if_neg ht]; exact h
  · exact h

set_option maxHeartbeats 4000000 in
theorem markNone_any (pa bu : Int) (A : Option Addr) (len cap : Nat) (V0 V1 : Nat → Int) (w : World) (hpa : 0 ≤ pa ∧ pa ≤ 255) (hbu : 0 ≤ bu ∧ bu ≤ 255) (hr : Pairs w A len V0 V1)
    (v0 : ∀ i, i < len → -9223372036854775808 ≤ V0 i ∧ V0 i ≤ 9223372036854775807) :
    Calls Try.prog 4 #[.int .u8 pa, .slice A len cap, .int .u8 bu] w fun e w' => e = .returned (.bool true) ∧ Below w.heap.size w w' := by
  obtain ⟨n, hn⟩ : ∃ n : Nat, (n : Int) = 1 + pa % 8 := ⟨(1 + pa % 8).toNat, by omega⟩
  obtain ⟨k, hk⟩ : ∃ k : Nat, (k : Int) = bu % (1 + pa % 8) := ⟨(bu % (1 + pa % 8)).toNat, by have := Int.emod_nonneg bu (b := 1 + pa % 8) (by omega); omega⟩
  have hkn : k < n := by have := Int.emod_lt_of_pos bu (b := 1 + pa % 8) (by omega); omega
  have hn8 : n ≤ 8 := by omega
  have aw := awake_any
  have hnew : ∀ w, Calls Try.prog 7 #[.int .i64 (1 + pa % 8)] w fun e w' => e = .returned (.tuple #[.agg (mkC n f0), .int .i64 0]) ∧ Below w.heap.size w w' := fun w => by
    have := new_any n w (by omega)
    rw [if_pos (by omega), if_pos (by omega), hn] at this
    rw [hn]
    exact this
  have Hs := Lib.hid size27
  by_cases h60 : 60 < len
  · go_enter Try.func4, Try.ntmps4
    go_wp2_with (first
      | (go_at_call 6; (with_reducible refine (aw _).mono ?_); rintro e w1 ⟨rfl, b1⟩))
    go_ret
    exact ⟨rfl, below_trans (by assumption) b1⟩
  · have hlaw : ∀ (F : Nat → Option Int) (p x : Int), F k = none → p ≠ k → seeF n F p x k = none := fun F p x h hp => seeF_other h hp
    have hlow : ∀ F : Nat → Option Int, F k = none → lowF n F = none := fun F h => lowF_none hkn h
    have hof : ∀ F : Nat → Option Int, F k = none → ofF n F k = none := fun F h => by rw [ofF_in n F k hkn]; exact h
    have hof2 : ∀ F : Nat → Option Int, F k = none → ofF n (seeF n F k (-7)) k = some (-7) := fun F h => by
      rw [ofF_in n _ k hkn]
      unfold seeF
      rw [if_pos (by omega)]
      simp only [Int.toNat_natCast, h, upd, if_pos]
    go_enter Try.func4, Try.ntmps4
    go_wp2_with (first
      | (go_at_call 6; (with_reducible refine (aw _).mono ?_); rintro e w1 ⟨rfl, b1⟩)
      | (go_at_call 7; (with_reducible refine (hnew _).mono ?_); rintro e w2 ⟨rfl, b2⟩)
      | (refine wpList_store_row rfl 27 (.tmp 9) (.tmp 38) rfl w2.heap.size (mkC (1 + pa % 8) f0) rfl rfl 27 _ (heap_alloc_new w2 _) Hs.out rfl (mkC_one _ f0) ?_; rw [World.setRow_alloc_new]))
    rw [← hk, ← hn]
    have b3 : Below w.heap.size w (w2.alloc (.cells (mkC n f0) 27)) := below_alloc (below_trans b1 b2) _
    have hg := heap_alloc_new w2 (.cells (mkC n f0) 27)
    have hge := Nat.le_trans b1.size b2.size
    generalize w2.heap.size = g at *
    generalize w2.alloc (.cells (mkC n f0) 27) = w3 at *
    clear b1 b2 hnew aw hn hk hpa hbu
    go_loopw [11] (fun i wr => ∃ j : Nat, j ≤ len ∧ i = .int .i64 j ∧ ∃ F : Nat → Option Int, F k = none ∧ wr.heap[g]? = some (.cells (mkC n F) 27 (0, 0)) ∧ Below w.heap.size w wr) (fun i _ => len - (intOf i).toNat)
    case atStart => exact ⟨0, Nat.zero_le _, rfl, f0, rfl, hg, b3⟩
    case round =>
      obtain ⟨j, hj, rfl, F, hF, hgr, hbr⟩ := hrel
      have Hgr := Lib.hid hgr
      have hgl : g < wr.heap.size := by
        rcases Nat.lt_or_ge g wr.heap.size with h | h
        · exact h
        · rw [Array.getElem?_eq_none h] at hgr; cases hgr
      have b5 := fun w4 (b4 : Below wr.heap.size wr w4) => (b4.block g hgl).trans Hgr.out
      clear hgr hg
      by_cases hlt : j < len
      · obtain ⟨a, rfl, c0, c1⟩ := (hr.below hbr) j hlt
        have hs := see_any n F
        have vb := v0 j hlt
        clear hr
        go_wp2_with fail
        · rename_i hne
          generalize (bits BinOp.and IntKind.i64 (V0 j) 255).tmod (n : Int) = q at *
          generalize V1 j = x at *
          have c2 : wr.cell? ((a.add (j * 2)).add 1) = some (.int .i64 x) := by rw [add_add]; exact c1
          have c3 : wr.cell? ⟨(a.add (j * 2)).block, (a.add (j * 2)).off + 1, none⟩ = some (.int .i64 x) := c2
          have c4 : wr.cell? ⟨a.block, a.off + j * 2 + 1, none⟩ = some (.int .i64 x) := by rw [← c1]; rfl
          have hne' : q ≠ k := by simpa using hne
          have HL := Lib.hid (run_loadCellsFrom_row (P := Try.prog) wr.drew g 27 (mkC n F) (0, 0) Hgr.out 17 rfl)
          have b5d := fun w4 (b4 : Below wr.drew.heap.size wr.drew w4) => (b4.block g hgl).trans Hgr.out
          go_region_with (first
            | (rw [Try.isAgg27]; simp only [Result.andThen_ok, if_true, run_sizeOf_info Hs.out, HL.out])
            | (go_at_call 10; (with_reducible refine (hs _ _ _ (by omega)).mono ?_); rintro e w4 ⟨rfl, b4⟩)
            | (rw [run_sizeOf_info Hs.out]; simp only [Result.andThen_ok, if_true, mkC_size, run_storeCells_row w4 g 27 (mkC n F) (mkC n (seeF n F q x)) (b5d w4 b4) Hs.out rfl (mkC_one _ _)]))
          all_goals
            go_wp2
            refine ⟨⟨j + 1, by omega, by go_num, _, hlaw F q x hF hne', setRow_heap _ _ _ _ _ _ (b5d w4 b4), below_setRow (below_trans hbr.drew b4) hge _⟩, by simp [intOf]; omega⟩
        · exact ⟨⟨j + 1, by omega, by go_num, F, hF, Hgr.out, hbr⟩, by simp [intOf]; omega⟩
      · obtain rfl : j = len := by omega
        have hl := low_any n F
        have h1 := of_any n F
        have h2 := fun x => of_any n (seeF n F k x)
        have hs := see_any n F
        have e1 := hof F hF
        have e2 := hof2 F hF
        have e3 := hlow F hF
        go_wp2_with (first
          | (refine wpList_load_row rfl 27 (.tmp 9) rfl g rfl 27 (mkC n F) (0, 0) _ (by first | exact Hgr.out | exact (b5 _ b4) | exact (b5 _ (below_trans b4 b55))) Try.underlying27 rfl Hs.out ?_)
          | (go_at_call 11; first | ((with_reducible refine (h1 _ _ (by omega)).mono ?_); rw [e1]; rintro e w4 ⟨rfl, b4⟩) | ((with_reducible refine (h2 _ _ _ (by omega)).mono ?_); rw [e2]; rintro e w7 ⟨rfl, b7⟩))
          | (go_at_call 8; (with_reducible refine (hl _ (by omega)).mono ?_); rw [e3]; rintro e w5 ⟨rfl, b55⟩)
          | (go_at_call 10; (with_reducible refine (hs _ _ _ (by omega)).mono ?_); rintro e w6 ⟨rfl, b6⟩))
        go_ret
        exact ⟨rfl, below_trans (below_trans (below_trans (below_trans hbr b4) b55) b6) b7⟩
end Go.Proofs.Ytjlhllhimoalmaa
