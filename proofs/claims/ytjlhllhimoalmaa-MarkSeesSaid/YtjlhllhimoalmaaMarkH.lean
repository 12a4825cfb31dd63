import Derived.Test.YtjlhllhimoalmaaMarkG
import Derived.Laws.CopyOwn
/-! Marks: the law of what is seen. -/
namespace Go.Proofs.Ytjlhllhimoalmaa
open Go.RowKit
set_option linter.unusedVariables false
attribute [-simp] Try.isAgg27 Try.sizeOf27 Try.typeInfo27 Try.type27

set_option maxHeartbeats 4000000 in
theorem markSees_any (pa : Int) (A : Option Addr) (len cap : Nat) (V0 V1 : Nat → Int) (w : World) (hpa : -9223372036854775808 ≤ pa ∧ pa < 9223372036854775808) (hr : Pairs w A len V0 V1)
    (v0 : ∀ i, i < len → -9223372036854775808 ≤ V0 i ∧ V0 i ≤ 9223372036854775807) :
    Calls Try.prog 3 #[.int .i64 pa, .slice A len cap] w fun e w' => e = .returned (.bool true) ∧ Below w.heap.size w w' := by
  have aw := awake_any
  have hnew := fun w => new_any pa w hpa
  have Hs := Lib.hid size27
  by_cases h60 : 60 < len
  · go_enter Try.func3, Try.ntmps3
    go_wp2_with (go_at_call 6; (with_reducible refine (aw _).mono ?_); rintro e w1 ⟨rfl, b1⟩)
    go_ret
    exact ⟨rfl, below_trans (by assumption) b1⟩
  · by_cases h18 : 1 ≤ pa ∧ pa ≤ 8
    · obtain ⟨n, rfl⟩ := Int.eq_ofNat_of_zero_le (show 0 ≤ pa by omega)
      rw [if_pos h18, if_pos h18] at hnew
      have hnear := fun w1 (b : Below w.heap.size w w1) => near_any A len cap V0 V1 w1 (hr.below b) (by omega) v0
      clear hpa
      go_enter Try.func3, Try.ntmps3
      go_wp2_with (first
        | (go_at_call 6; (with_reducible refine (aw _).mono ?_); rintro e w1 ⟨rfl, b1⟩)
        | (go_at_call 7; (with_reducible refine (hnew _).mono ?_); rintro e w2 ⟨rfl, b2⟩)
        | (refine wpList_store_row rfl 27 (.tmp 5) (.tmp 31) rfl w2.heap.size (mkC n f0) rfl rfl 27 _ (heap_alloc_new w2 _) Hs.out rfl (mkC_one _ f0) ?_; rw [World.setRow_alloc_new]; have b3 : Below w.heap.size w (w2.alloc (.cells (mkC n f0) 27)) := below_alloc (below_trans b1 b2) _)
        | (go_at_call 9; (with_reducible refine (hnear _ b3).mono ?_); rintro e w4 ⟨A', cap', rfl, hp4, hA4, b4⟩))
      have hg : w4.heap[w2.heap.size]? = some (.cells (mkC n f0) 27 (0, 0)) := (b4.block _ (by simp)).trans (heap_alloc_new w2 _)
      have b5 := below_trans b3 b4
      have hge : w.heap.size ≤ w2.heap.size := Nat.le_trans b1.size b2.size
      have hA : ∀ a, A' = some a → a.block ≠ w2.heap.size := fun a h => by have := hA4 a h; simp at this; omega
      generalize w2.heap.size = g at *
      generalize w2.alloc (.cells (mkC n f0) 27) = w3 at *
      clear b1 b2 b3 b4 hA4 hnew aw hnear hr
      generalize nearV V0 = U0 at *
      go_loopw [10] (fun i wr => ∃ j : Nat, j ≤ len ∧ i = .int .i64 j ∧ wr.heap[g]? = some (.cells (mkC n (seenF n U0 V1 j)) 27 (0, 0)) ∧ Pairs wr A' len U0 V1 ∧ Below w.heap.size w wr) (fun i _ => len - (intOf i).toNat)
      case atStart => exact ⟨0, Nat.zero_le _, rfl, hg, hp4, b5⟩
      case round =>
        obtain ⟨j, hj, rfl, hgr, hpr, hbr⟩ := hrel
        have Hgr := Lib.hid hgr
        have hgl : g < wr.heap.size := by
          rcases Nat.lt_or_ge g wr.heap.size with h | h
          · exact h
          · rw [Array.getElem?_eq_none h] at hgr; cases hgr
        clear hgr hg hp4
        by_cases hlt : j < len
        · have Hpr := Lib.hid hpr
          obtain ⟨a, rfl, c0, c1⟩ := hpr j hlt
          have hag := hA a rfl
          have hs := see_any n (seenF n U0 V1 j) (U0 j) (V1 j)
          have Hn := Lib.hid (show seenF n U0 V1 (j + 1) = seeF n (seenF n U0 V1 j) (U0 j) (V1 j) from rfl)
          have c2 : wr.cell? ((a.add (j * 2)).add 1) = some (.int .i64 (V1 j)) := by rw [add_add]; exact c1
          have c3 : wr.cell? ⟨(a.add (j * 2)).block, (a.add (j * 2)).off + 1, none⟩ = some (.int .i64 (V1 j)) := c2
          have c4 : wr.cell? ⟨a.block, a.off + j * 2 + 1, none⟩ = some (.int .i64 (V1 j)) := by rw [← c1]; rfl
          rw [← Hn.out] at hs
          obtain ⟨F', hF'⟩ : ∃ F', seenF n U0 V1 (j + 1) = F' := ⟨_, rfl⟩
          rw [hF'] at hs
          generalize seenF n U0 V1 j = F at *
          clear Hn
          have HL := Lib.hid (run_loadCellsFrom_row (P := Try.prog) wr.drew g 27 (mkC n F) (0, 0) Hgr.out 17 rfl)
          have b5d := fun w4 (b4 : Below wr.drew.heap.size wr.drew w4) => (b4.block g hgl).trans Hgr.out
          clear hpr
          go_wp2_with fail
          go_region_with (first
            | (rw [Try.isAgg27]; simp only [Result.andThen_ok, if_true, run_sizeOf_info Hs.out, HL.out])
            | (go_at_call 10; (with_reducible refine (hs _ (by omega)).mono ?_); rintro e w5 ⟨rfl, b4⟩)
            | (rw [run_sizeOf_info Hs.out]; simp only [Result.andThen_ok, if_true, mkC_size, run_storeCells_row w5 g 27 (mkC n F) (mkC n F') (b5d w5 b4) Hs.out rfl (mkC_one _ _)]))
          all_goals
            go_wp2
            refine ⟨⟨j + 1, by omega, by go_num, by rw [hF']; exact setRow_heap _ _ _ _ _ _ (b5d w5 b4), fun i hi => ?_, below_setRow (below_trans hbr.drew b4) hge _⟩, by simp [intOf]; omega⟩
            obtain ⟨a', e', d0, d1⟩ := Hpr.out i hi
            cases e'
            have hbl : ∀ x, (a.add x).block = a.block := fun x => by unfold Addr.add; split <;> rfl
            refine ⟨a, rfl, ?_, ?_⟩
            · rw [cell_setRow_other _ _ _ _ (by rw [hbl]; exact hag)]; exact cell_below (w := wr.drew) b4 d0
            · rw [cell_setRow_other _ _ _ _ (by rw [hbl]; exact hag)]; exact cell_below (w := wr.drew) b4 d1
        · obtain rfl : j = len := by omega
          have hof := of_any n (seenF n U0 V1 j)
          have hlo := low_any n (seenF n U0 V1 j)
          have hrof := fun w (h : Pairs w A' j U0 V1) p => refOf_any A' j cap' U0 V1 w h (by omega) n p
          have hrlo := fun w (h : Pairs w A' j U0 V1) => refLow_any A' j cap' U0 V1 w h (by omega) n (by omega)
          generalize seenF n U0 V1 j = F at *
          go_wp2_with fail
          go_loopw [11] (fun i ws => ∃ m : Nat, m ≤ 10 ∧ i = .int .i64 ((m : Int) - 1) ∧ Below wr.heap.size wr ws) (fun i _ => (9 - intOf i).toNat)
          case atStart => exact ⟨0, by omega, rfl, Below.refl _ _⟩
          case round =>
            obtain ⟨m, hm, rfl, hbs⟩ := hrel
            have Hgs := Lib.hid ((hbs.block g hgl).trans Hgr.out)
            have hps := hpr.below hbs
            have b6 := below_trans hbr hbs
            by_cases hm10 : m < 10
            · have hof1 := hof ((m : Int) - 1) wr (by omega)
              have hrof1 := fun w1 (b : Below wr.heap.size wr w1) => hrof w1 (hps.below b) ((m : Int) - 1)
              clear hof hrof hlo hrlo
              cases ho : ofF n F ((m : Int) - 1) with
              | none =>
                rw [ho] at hof1 hrof1
                go_wp2_with (first
                  | (refine wpList_load_row rfl 27 (.tmp 5) rfl g rfl 27 (mkC n F) (0, 0) _ Hgs.out Try.underlying27 rfl Hs.out ?_)
                  | (go_at_call 11; (with_reducible refine hof1.mono ?_); rintro e w5 ⟨rfl, b7⟩)
                  | (go_at_call 12; (with_reducible refine (hrof1 _ b7).mono ?_); rintro e w6 ⟨rfl, rfl⟩))
                refine ⟨⟨m + 1, by omega, by go_num, below_trans hbs b7⟩, by simp [intOf]; omega⟩
              | some t =>
                rw [ho] at hof1 hrof1
                go_wp2_with (first
                  | (refine wpList_load_row rfl 27 (.tmp 5) rfl g rfl 27 (mkC n F) (0, 0) _ Hgs.out Try.underlying27 rfl Hs.out ?_)
                  | (go_at_call 11; (with_reducible refine hof1.mono ?_); rintro e w5 ⟨rfl, b7⟩)
                  | (go_at_call 12; (with_reducible refine (hrof1 _ b7).mono ?_); rintro e w6 ⟨rfl, rfl⟩))
                refine ⟨⟨m + 1, by omega, by go_num, below_trans hbs b7⟩, by simp [intOf]; omega⟩
            · obtain rfl : m = 10 := by omega
              have hlo1 := hlo wr (by omega)
              have hrlo1 := fun w1 (b : Below wr.heap.size wr w1) => hrlo w1 (hps.below b)
              clear hof hrof hlo hrlo
              cases ho : lowF n F with
              | none =>
                rw [ho] at hlo1 hrlo1
                go_wp2_with (first
                  | (refine wpList_load_row rfl 27 (.tmp 5) rfl g rfl 27 (mkC n F) (0, 0) _ Hgs.out Try.underlying27 rfl Hs.out ?_)
                  | (go_at_call 8; (with_reducible refine hlo1.mono ?_); rintro e w5 ⟨rfl, b7⟩)
                  | (go_at_call 13; (with_reducible refine (hrlo1 _ b7).mono ?_); rintro e w6 ⟨rfl, rfl⟩))
                go_ret
                exact ⟨rfl, below_trans b6 b7⟩
              | some t =>
                rw [ho] at hlo1 hrlo1
                go_wp2_with (first
                  | (refine wpList_load_row rfl 27 (.tmp 5) rfl g rfl 27 (mkC n F) (0, 0) _ Hgs.out Try.underlying27 rfl Hs.out ?_)
                  | (go_at_call 8; (with_reducible refine hlo1.mono ?_); rintro e w5 ⟨rfl, b7⟩)
                  | (go_at_call 13; (with_reducible refine (hrlo1 _ b7).mono ?_); rintro e w6 ⟨rfl, rfl⟩))
                go_ret
                exact ⟨rfl, below_trans b6 b7⟩
    · rw [if_neg h18, if_neg h18] at hnew
      have hl : ∀ w, Calls Try.prog 8 #[.agg (mkC 0 f0)] w fun e w' => e = .returned (.tuple #[.int .i64 0, .bool false]) ∧ Below w.heap.size w w' := fun w => by
        have := low_any 0 f0 w (by omega)
        rw [lowF_zero] at this
        exact this
      have hpd : pa < 1 ∨ 8 < pa := by omega
      clear h18
      rcases hpd with hpd | hpd
      all_goals
        go_enter Try.func3, Try.ntmps3
        go_wp2_with (first
          | (go_at_call 6; (with_reducible refine (aw _).mono ?_); rintro e w1 ⟨rfl, b1⟩)
          | (go_at_call 7; (with_reducible refine (hnew _).mono ?_); rintro e w2 ⟨rfl, b2⟩)
          | (refine wpList_store_row rfl 27 (.tmp 5) (.tmp 31) rfl w2.heap.size (mkC 0 f0) rfl rfl 27 _ (heap_alloc_new w2 _) Hs.out rfl (mkC_one _ f0) ?_; rw [World.setRow_alloc_new])
          | (refine wpList_load_row rfl 27 (.tmp 5) rfl w2.heap.size rfl 27 (mkC 0 f0) (0, 0) _ (heap_alloc_new w2 _) Try.underlying27 rfl Hs.out ?_)
          | (go_at_call 8; (with_reducible refine (hl _).mono ?_); rintro e w4 ⟨rfl, b4⟩))
        go_ret
        exact ⟨rfl, below_trans (below_alloc (below_trans b1 b2) _) b4⟩
theorem markSees_walk {H : Type} {enc : TypeId × Value → H} (W : World) (a0 : Int) (wa0 : (Lit.int .i64 a0).wf = true) {b0 : Nat} {v : Value} {d : DataW H} {p : List MemPlace} (hv : Value.okWide Try.prog W .any b0 22 v)
    (h : DataW.Trod enc Try.prog W 0 (fun _ => true) true 22 v d p) {ts : List TypeId} {ds : List (DataW H)} (_ : (DataW.weightsEach Try.prog ts ds).all (· ≤ reachBytes) = true) :
    Calls Try.prog 3 #[.int .i64 a0, v] W fun e w' => e = .returned (.bool true) ∧ Below W.heap.size W w' := by
  obtain ⟨A, len, cap, V0, V1, rfl, _, hr, hb⟩ := open_seen W hv h
  simp [Lit.wf, IntKind.min, IntKind.max, IntKind.bits, IntKind.signed] at wa0
  exact markSees_any a0 A len cap V0 V1 W (by omega) hr (fun i hi => (hb i hi).1)
end Go.Proofs.Ytjlhllhimoalmaa
