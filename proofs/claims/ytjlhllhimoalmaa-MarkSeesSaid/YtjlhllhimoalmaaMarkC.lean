import Derived.Test.YtjlhllhimoalmaaMarkB
/-! Marks: the least of all. -/
namespace Go.Proofs.Ytjlhllhimoalmaa
open Go.RowKit
set_option linter.unusedVariables false
attribute [-simp] Try.isAgg27 Try.sizeOf27 Try.typeInfo27 Try.type27

/-- The least of the first k. -/
def lowV (f : Nat → Option Int) : Nat → Int
  | 0 => 0
  | k + 1 => if k = 0 ∨ (f k).getD 0 < lowV f k then (f k).getD 0 else lowV f k
def allSeen (f : Nat → Option Int) (n : Nat) : Bool := (List.range n).all fun i => (f i).isSome
theorem allSeen_iff (f : Nat → Option Int) (n : Nat) : allSeen f n = true ↔ ∀ i, i < n → (f i).isSome = true := by
  simp [allSeen]
def lowF (n : Nat) (f : Nat → Option Int) : Option Int := if allSeen f n = true ∧ 0 < n then some (lowV f n) else none
theorem ofF_in (n : Nat) (f : Nat → Option Int) (k : Nat) (h : k < n) : ofF (n : Int) f (k : Int) = f k := by unfold ofF; rw [if_pos (by omega)]; rfl
theorem lowV_none (f : Nat → Option Int) : lowV f 0 = 0 := rfl
theorem lowF_zero (f : Nat → Option Int) : lowF 0 f = none := by unfold lowF; rw [if_neg (by omega)]
theorem lowF_none {f : Nat → Option Int} {n k : Nat} (hk : k < n) (h : f k = none) : lowF n f = none := by
  unfold lowF
  rw [if_neg]
  rintro ⟨a, _⟩
  have := (allSeen_iff f n).1 a k hk
  rw [h] at this; cases this
theorem lowF_all {f : Nat → Option Int} {n : Nat} (h : ∀ i, i < n → (f i).isSome = true) (h0 : 0 < n) : lowF n f = some (lowV f n) := by
  unfold lowF; rw [if_pos ⟨(allSeen_iff f n).2 h, h0⟩]

set_option maxHeartbeats 2000000 in
theorem low_any (n : Nat) (f : Nat → Option Int) (w : World) (h8 : n ≤ 8) :
    Calls Try.prog 8 #[.agg (mkC n f)] w fun e w' => e = .returned (.tuple #[.int .i64 ((lowF n f).getD 0), .bool (lowF n f).isSome]) ∧ Below w.heap.size w w' := by
  have q0 := fun w1 (h : w1.heap[w.heap.size]? = some (.cells (mkC n f) 27 (0, 0))) => (cell_of_row w1 w.heap.size 0 _ _ _ h).trans (mkC_n n f)
  have hb1 : ∀ (o1 : Obj), Below w.heap.size w (w.alloc o1) := fun o1 => below_alloc (Below.refl _ _) _
  have hof := of_any (n : Int) f
  have Hs := Lib.hid size27
  have hg := heap_alloc_new w (.cells (mkC n f) 27)
  have hq := q0 _ hg
  go_enter Try.func8, Try.ntmps8
  go_wp2
  have hsz1 : ∀ wr : World, wr.heap[w.heap.size]? = some (.cells (mkC n f) 27 (0, 0)) → w.heap.size < wr.heap.size := fun wr h => by
    rcases Nat.lt_or_ge w.heap.size wr.heap.size with g | g
    · exact g
    · rw [Array.getElem?_eq_none g] at h; cases h
  go_loopw [4, 10] (fun l i wr => ∃ k : Nat, k ≤ n ∧ i = .int .i64 k ∧ l = .int .i64 (lowV f k) ∧ (∀ j, j < k → (f j).isSome = true) ∧ wr.heap[w.heap.size]? = some (.cells (mkC n f) 27 (0, 0)) ∧ Below w.heap.size w wr) (fun _ i _ => n - (intOf i).toNat)
  case atStart => exact ⟨0, Nat.zero_le _, rfl, rfl, fun j hj => absurd hj (by omega), hg, hb1 _⟩
  case round =>
    obtain ⟨k, hk, rfl, rfl, hal, hgr, hbr⟩ := hrel
    have hqr := q0 _ hgr
    have Hgr := Lib.hid hgr
    have Hal := Lib.hid hal
    clear hgr hal hg hq q0
    by_cases hlt : k < n
    · have hof1 := hof (k : Int) wr (by omega)
      rw [ofF_in n f k hlt] at hof1
      have Hn := Lib.hid (lowF_none (f := f) hlt)
      have Hstep := Lib.hid (show lowV f (k + 1) = if k = 0 ∨ (f k).getD 0 < lowV f k then (f k).getD 0 else lowV f k from rfl)
      cases hfk : f k with
      | none =>
        rw [hfk] at hof1
        go_wp2_with (first
          | (refine wpList_load_row rfl 27 (.tmp 1) rfl w.heap.size rfl 27 (mkC n f) (0, 0) _ Hgr.out Try.underlying27 rfl Hs.out ?_)
          | (go_at_call 11; (with_reducible refine hof1.mono ?_); rintro e w1 ⟨rfl, hb⟩))
        go_ret2
        exact ⟨by rw [Hn.out hfk]; rfl, below_trans hbr hb⟩
      | some t =>
        rw [hfk] at hof1
        go_wp2_with (first
          | (refine wpList_load_row rfl 27 (.tmp 1) rfl w.heap.size rfl 27 (mkC n f) (0, 0) _ Hgr.out Try.underlying27 rfl Hs.out ?_)
          | (go_at_call 11; (with_reducible refine hof1.mono ?_); rintro e w1 ⟨rfl, hb⟩))
        all_goals
          have hk3 := Hgr.out
          have hk4 := Hal.out
          have hk5 := Hstep.out
          rw [hfk] at hk5
          simp only [Option.getD_some] at hk5
          refine ⟨⟨k + 1, by omega, (by first | go_num | (congr 1; omega)), ?_, ?_, ?_, below_trans hbr hb⟩, by simp [intOf]; omega⟩
          · rw [hk5]
            split <;> first | rfl | (exfalso; simp_all; done) | (exfalso; simp_all; omega)
          · intro j hj
            by_cases hjk : j = k
            · rw [hjk, hfk]; rfl
            · exact hk4 j (by omega)
          · exact (hb.block _ (hsz1 _ hk3)).trans hk3
    · obtain rfl : k = n := by omega
      go_wp2
      have hal := Hal.out
      clear hof
      by_cases h0 : 0 < k
      · have hk0 := Lib.hid (lowF_all hal h0)
        go_region
        go_wp2
        go_ret2
        exact ⟨by rw [hk0.out]; rfl, hbr.drew⟩
      · obtain rfl : k = 0 := by omega
        have hk0 := Lib.hid (lowF_zero f)
        go_region
        go_wp2
        go_ret2
        exact ⟨by rw [hk0.out]; rfl, hbr.drew⟩
end Go.Proofs.Ytjlhllhimoalmaa
