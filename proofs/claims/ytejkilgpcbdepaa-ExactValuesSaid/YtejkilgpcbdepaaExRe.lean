import Derived.Test.YtejkilgpcbdepaaExRd
import Derived.Test.YtejkilgpcbdepaaExRun
import Derived.Laws.CopyOwn
import Derived.Great.BuildSlice
import Derived.Deep.DeepCutAuto
import Derived.Deep.CutBlock
/-! Exact sums: a sum read from bytes: the walk. -/
namespace Go.Proofs.Ytejkilgpcbdepaa
open Go.RowKit
set_option linter.unusedVariables false
attribute [-simp] Try.isAgg28
attribute [-simp] Try.isAgg30 Try.sizeOf30 Try.typeInfo30 Try.type30
attribute [-simp] Try.isAgg77

/-- The 280 bytes. -/
def bsC (f : Nat → Nat) : Array Value := (Array.range 280).map fun i => .int .u8 (f i : Int)
theorem bsC_size (f : Nat → Nat) : (bsC f).size = 280 := by simp [bsC]
theorem bsC_at (f : Nat → Nat) (i : Nat) (h : i < 280) : (bsC f)[i]? = some (.int .u8 (f i : Int)) := by simp [bsC, h]
theorem bsC_one (f : Nat → Nat) : (bsC f).all (·.oneCell') = true := by
  rw [Array.all_eq_true_iff_forall_mem]
  intro x hx
  unfold bsC at hx
  obtain ⟨i, _, rfl⟩ := Array.mem_map.1 hx
  rfl
theorem bsC_set (f : Nat → Nat) (i v : Nat) (h : i < 280) : (bsC f).setIfInBounds i (.int .u8 (v : Int)) = bsC (fun k => if k = i then v else f k) := by
  apply Array.ext_getElem?
  intro k
  by_cases hk : k < 280
  · rw [bsC_at _ k hk]
    by_cases e : k = i
    · subst e; rw [Array.getElem?_setIfInBounds_self_of_lt (by rw [bsC_size]; omega), if_pos rfl]
    · rw [Array.getElem?_setIfInBounds_ne (Ne.symm e), bsC_at _ k hk, if_neg e]
  · rw [Array.getElem?_eq_none (by rw [Array.size_setIfInBounds, bsC_size]; omega), Array.getElem?_eq_none (by rw [bsC_size]; omega)]
theorem size77 : (Try.prog.info? 77).map (·.size) = some 280 := by kernel_rfl
theorem zero77 : ∀ w, (zeroValue 77).run Try.prog w = .ok (.agg (bsC fun _ => 0)) w := by
  have h : (bsC fun _ => 0) = Array.replicate 280 (.int .u8 0) := by
    apply Array.ext_getElem?
    intro k
    by_cases hk : k < 280
    · rw [bsC_at _ k hk, Array.getElem?_replicate, if_pos hk]; rfl
    · rw [Array.getElem?_eq_none (by rw [bsC_size]; omega), Array.getElem?_eq_none (by simp; omega)]
  intro w
  rw [h]
  kernel_rfl
/-- The bytes behind the copy, and while the sign is told. -/
def f0 (p : List Int) (i : Nat) (k : Nat) : Nat := if k < p.length - 1 then (rd p (1 + k)).toNat else if k < i then 255 else 0
theorem bs_splice (p : List Int) (h8 : Bytes8 p) (h1 : 1 ≤ p.length) (h2 : p.length ≤ 281) : (splice (bsC fun _ => 0).toList 0 ((p.drop 1).map (Value.int .u8))).toArray = bsC (f0 p 0) := by
  have hl : ((p.drop 1).map (Value.int .u8)).length = p.length - 1 := by rw [List.length_map, List.length_drop]
  have hz : (bsC fun _ => 0).toList.length = 280 := by rw [Array.length_toList, bsC_size]
  apply Array.ext_getElem?
  intro k
  unfold splice
  rw [List.getElem?_toArray, List.take_zero, List.nil_append, Nat.zero_add, hl]
  by_cases hk : k < 280
  · rw [bsC_at _ k hk]
    unfold f0
    by_cases hn : k < p.length - 1
    · rw [List.getElem?_append_left (by rw [hl]; exact hn), if_pos hn, List.getElem?_map, List.getElem?_drop, List.getElem?_eq_getElem (by omega), ← rd_eq p (1 + k) (by omega)]
      have := h8 (1 + k) (by omega)
      show some (Value.int .u8 (rd p (1 + k))) = some (Value.int .u8 ((rd p (1 + k)).toNat : Int))
      rw [Int.toNat_of_nonneg this.1]
    · rw [List.getElem?_append_right (by rw [hl]; omega), hl, if_neg hn, if_neg (by omega), List.getElem?_drop, Array.getElem?_toList, show p.length - 1 + (k - (p.length - 1)) = k by omega, bsC_at _ k hk]
  · rw [List.getElem?_eq_none (by rw [List.length_append, hl, List.length_drop, hz]; omega), Array.getElem?_eq_none (by rw [bsC_size]; omega)]
theorem sumC_word (L L' : Nat) (A : Nat → Bool) (k : Nat) (hk : k < 35) (v : Value) (h : (ws L).setIfInBounds k v = ws L') : (sumC (mkSt L A)).setIfInBounds k v = sumC (mkSt L' A) := by
  apply Array.ext_getElem?
  intro m
  by_cases hm : m < 35
  · have h2 : ((ws L).setIfInBounds k v)[m]? = (ws L')[m]? := by rw [h]
    rw [ws_at _ m hm] at h2
    rw [sumC_w _ m hm]
    show _ = some (wdv L' m)
    rw [← h2]
    by_cases e : k = m
    · subst e
      rw [Array.getElem?_setIfInBounds_self_of_lt (by rw [sumC_size]; omega), Array.getElem?_setIfInBounds_self_of_lt (by rw [ws_size]; omega)]
    · rw [Array.getElem?_setIfInBounds_ne e, Array.getElem?_setIfInBounds_ne e, sumC_w _ m hm, ws_at _ m hm]; rfl
  · obtain ⟨q, rfl⟩ : ∃ q, m = 35 + q := ⟨m - 35, by omega⟩
    rw [Array.getElem?_setIfInBounds_ne (by omega), sumC_f, sumC_f]; rfl
theorem run_index280 (E : Array Value) (hsz : E.size = 280) (k : Nat) (hk : k < 280) (x : Int) (h : E[k]? = some (.int .u8 x)) (w : World) :
    (Instr.index 77 (.agg E) (.int .i64 (k : Int))).run Try.prog w = .ok (.int .u8 x) w := by
  have hv := at_of (by omega) h
  simp [Instr.index, run_underlying Try.underlying77, asIntOf, go_sem, part, hk, hv, hsz, Try.sizeOf5, Try.isAgg5, Sem.run_bind, Result.andThen]
theorem bsC_congr {f g : Nat → Nat} (h : ∀ k, k < 280 → f k = g k) : bsC f = bsC g := by
  apply Array.ext_getElem?
  intro k
  by_cases hk : k < 280
  · rw [bsC_at _ k hk, bsC_at _ k hk, h k hk]
  · rw [Array.getElem?_eq_none (by rw [bsC_size]; omega), Array.getElem?_eq_none (by rw [bsC_size]; omega)]
theorem f0_start (p : List Int) (N : Nat) (hN : p.length - 1 = N) : bsC (f0 p 0) = bsC (f0 p N) := bsC_congr fun k _ => by
  unfold f0
  rw [hN]
  by_cases h : k < N
  · rw [if_pos h, if_pos h]
  · rw [if_neg h, if_neg h, if_neg (by omega), if_neg (by omega)]
theorem f0_step (p : List Int) (N i : Nat) (hN : p.length - 1 = N) (hi : N ≤ i) (h : i < 280) : (bsC (f0 p i)).setIfInBounds i (.int .u8 255) = bsC (f0 p (i + 1)) := by
  rw [show (255 : Int) = ((255 : Nat) : Int) from rfl, bsC_set _ i 255 h]
  refine bsC_congr fun k _ => ?_
  unfold f0
  rw [hN]
  by_cases e : k = i
  · rw [if_pos e, if_neg (by omega), if_pos (by omega)]
  · rw [if_neg e]
    by_cases h2 : k < N
    · rw [if_pos h2, if_pos h2]
    · rw [if_neg h2, if_neg h2]
      by_cases h3 : k < i
      · rw [if_pos h3, if_pos (by omega)]
      · rw [if_neg h3, if_neg (by omega)]
theorem f0_end (p : List Int) (N i : Nat) (hN : p.length - 1 = N) (hi : N ≤ i) (hneg : N < i → 0 < N ∧ 128 ≤ rd p N) (h : (0 < N ∧ 128 ≤ rd p N) → i = 280) : bsC (f0 p i) = bsC (rdB p) := bsC_congr fun k hk => by
  unfold f0 rdB
  rw [hN]
  by_cases h2 : k < N
  · rw [if_pos h2, if_pos h2]
  · rw [if_neg h2, if_neg h2]
    by_cases h3 : 0 < N ∧ 128 ≤ rd p N
    · rw [if_pos h3, if_pos (by have := h h3; omega)]
    · rw [if_neg h3, if_neg (by
        intro h4
        exact h3 (hneg (by omega)))]
set_option maxRecDepth 100000 in
set_option maxHeartbeats 8000000 in
theorem read_any (A : Option Addr) (cap : Nat) (p : List Int) (w : World) (hcp : p.length ≤ cap) (hr : Reads w .u8 A p) (h8 : Bytes8 p) (hl : p.length ≤ 9223372036854775807) :
    Calls Try.prog 34 #[.slice A p.length cap] w fun e w' => e = .returned (.tuple #[.agg (sumC (readR p).1), .int .i64 (readR p).2]) ∧ Below w.heap.size w w' := by
  have Hs := Lib.hid size30
  have Hs77 := Lib.hid size77
  have zz : ∀ w, (zeroValue 30).run Try.prog w = .ok (.agg (sumC noSt)) w := zero30
  have z7 := zero77
  by_cases hbad : p.length < 1 ∨ 281 < p.length ∨ 31 < rd p 0
  · have Hres := Lib.hid (show readR p = (noSt, 3) by unfold readR; rw [if_pos hbad])
    have g0 := fun w : World => heap_alloc2_old w (.cells (sumC noSt) 30) (.cells (sumC noSt) 30)
    have g1 := fun w : World => heap_alloc2_new w (.cells (sumC noSt) 30) (.cells (sumC noSt) 30)
    have bb : Below w.heap.size w ((w.alloc (.cells (sumC noSt) 30)).alloc (.cells (sumC noSt) 30)) := below_alloc (below_alloc (Below.refl _ _) _) _
    have hd : (decide ((p.length : Int) < 1) = true) ∨ (decide ((p.length : Int) < 1) = false ∧ decide ((281 : Int) < (p.length : Int)) = true) ∨ (decide ((p.length : Int) < 1) = false ∧ decide ((281 : Int) < (p.length : Int)) = false ∧ (1 : Int) ≤ (p.length : Int) ∧ decide ((31 : Int) < rd p 0) = true ∧ ∃ a, A = some a ∧ w.cell? a = some (.int .u8 (rd p 0))) := by
      by_cases h1 : p.length < 1
      · exact .inl (decide_eq_true (by omega))
      · by_cases h2 : 281 < p.length
        · exact .inr (.inl ⟨decide_eq_false (by omega), decide_eq_true (by omega)⟩)
        · refine .inr (.inr ⟨decide_eq_false (by omega), decide_eq_false (by omega), by omega, decide_eq_true (by omega), ?_⟩)
          obtain ⟨a, rfl⟩ := hr.some_ (by omega)
          have := hr.lit 0 (by omega)
          have e : a.add 0 = a := by simp [Addr.add]
          rw [e] at this
          exact ⟨a, rfl, this⟩
    have Hg0 := Lib.hid (g0 w)
    have Hg1 := Lib.hid (g1 w)
    have Hbb := Lib.hid bb
    rw [Hres.out]
    clear g0 g1 bb hr h8 z7 Hres
    rcases hd with h1 | ⟨h1, h2⟩ | ⟨h1, h2, h3, h4, a, rfl, hc⟩
    · clear hbad
      go_enter Try.func34, Try.ntmps34
      go_wp2_with (first
        | (refine at_op (.alloc 30) ?_ rfl; first | (refine wpList_alloc_row rfl _ 30 rfl (some 2) rfl w.heap.size rfl _ zz ?_) | (refine wpList_alloc_row rfl _ 30 rfl (some 4) rfl (w.heap.size + 1) (by simp) _ zz ?_))
        | (refine at_op0 (.load 30 (.tmp 4)) ?_ rfl rfl; refine wpList_load_row rfl 30 (.tmp 4) rfl (w.heap.size + 1) rfl 30 _ (0, 0) _ Hg1.out Try.underlying30 rfl (by rw [sumC_size]; exact Hs.out) ?_)
        | (refine at_op (.store 30 (.tmp 2) (.tmp 25)) ?_ rfl; refine wpList_store_row rfl 30 (.tmp 2) (.tmp 25) rfl w.heap.size (sumC noSt) rfl rfl 30 _ Hg0.out (by rw [sumC_size]; exact Hs.out) (by simp only [sumC_size]) (sumC_one _) ?_))
      exact bodyPost_ret (results_row_tmp rfl _ _ w.heap.size 30 (sumC noSt) (0, 0) _ rfl (setRow_heap _ _ _ (sumC noSt) _ _ Hg0.out) Try.underlying30 rfl (by rw [sumC_size]; exact Hs.out)) rfl ⟨rfl, below_setRow Hbb.out (Nat.le_refl _) _⟩
    · clear hbad
      go_enter Try.func34, Try.ntmps34
      go_wp2_with (first
        | (refine at_op (.alloc 30) ?_ rfl; first | (refine wpList_alloc_row rfl _ 30 rfl (some 2) rfl w.heap.size rfl _ zz ?_) | (refine wpList_alloc_row rfl _ 30 rfl (some 4) rfl (w.heap.size + 1) (by simp) _ zz ?_))
        | (refine at_op0 (.load 30 (.tmp 4)) ?_ rfl rfl; refine wpList_load_row rfl 30 (.tmp 4) rfl (w.heap.size + 1) rfl 30 _ (0, 0) _ Hg1.out Try.underlying30 rfl (by rw [sumC_size]; exact Hs.out) ?_)
        | (refine at_op (.store 30 (.tmp 2) (.tmp 25)) ?_ rfl; refine wpList_store_row rfl 30 (.tmp 2) (.tmp 25) rfl w.heap.size (sumC noSt) rfl rfl 30 _ Hg0.out (by rw [sumC_size]; exact Hs.out) (by simp only [sumC_size]) (sumC_one _) ?_))
      exact bodyPost_ret (results_row_tmp rfl _ _ w.heap.size 30 (sumC noSt) (0, 0) _ rfl (setRow_heap _ _ _ (sumC noSt) _ _ Hg0.out) Try.underlying30 rfl (by rw [sumC_size]; exact Hs.out)) rfl ⟨rfl, below_setRow Hbb.out (Nat.le_refl _) _⟩
    · have hc2 := cell_below Hbb.out hc
      have hlp : 0 < p.length := by omega
      clear hbad hc
      go_enter Try.func34, Try.ntmps34
      go_wp2_with (first
        | (refine at_op (.alloc 30) ?_ rfl; first | (refine wpList_alloc_row rfl _ 30 rfl (some 2) rfl w.heap.size rfl _ zz ?_) | (refine wpList_alloc_row rfl _ 30 rfl (some 4) rfl (w.heap.size + 1) (by simp) _ zz ?_))
        | (refine at_op0 (.load 30 (.tmp 4)) ?_ rfl rfl; refine wpList_load_row rfl 30 (.tmp 4) rfl (w.heap.size + 1) rfl 30 _ (0, 0) _ Hg1.out Try.underlying30 rfl (by rw [sumC_size]; exact Hs.out) ?_)
        | (refine at_op (.store 30 (.tmp 2) (.tmp 25)) ?_ rfl; refine wpList_store_row rfl 30 (.tmp 2) (.tmp 25) rfl w.heap.size (sumC noSt) rfl rfl 30 _ Hg0.out (by rw [sumC_size]; exact Hs.out) (by simp only [sumC_size]) (sumC_one _) ?_))
      exact bodyPost_ret (results_row_tmp rfl _ _ w.heap.size 30 (sumC noSt) (0, 0) _ rfl (setRow_heap _ _ _ (sumC noSt) _ _ Hg0.out) Try.underlying30 rfl (by rw [sumC_size]; exact Hs.out)) rfl ⟨rfl, below_setRow Hbb.out (Nat.le_refl _) _⟩
  · obtain ⟨a, rfl⟩ := hr.some_ (by omega)
    have hb3 : Below w.heap.size w (((w.alloc (.cells (sumC noSt) 30)).alloc (.cells (sumC noSt) 30)).alloc (.cells (bsC fun _ => 0) 77)) := below_alloc (below_alloc (below_alloc (Below.refl _ _) _) _) _
    have c0w : w.cell? a = some (.int .u8 (rd p 0)) := by
      have := hr.lit 0 (by omega)
      have e : a.add 0 = a := by simp [Addr.add]
      rwa [e] at this
    have c0 := cell_below (below_alloc (below_alloc (Below.refl w.heap.size w) (.cells (sumC noSt) 30)) (.cells (sumC noSt) 30)) c0w
    have d1 : decide ((p.length : Int) < 1) = false := decide_eq_false (by omega)
    have d2 : decide ((281 : Int) < (p.length : Int)) = false := decide_eq_false (by omega)
    have d3 : decide ((31 : Int) < rd p 0) = false := decide_eq_false (by omega)
    have r3 := hr.below hb3
    have hp1 : 1 ≤ p.length := by omega
    have hp2 : p.length ≤ 281 := by omega
    have hf0 := h8 0 (by omega)
    have hf1 : rd p 0 ≤ 31 := by omega
    go_enter Try.func34, Try.ntmps34
    go_wp2_with (first
      | (refine at_op (.alloc 30) ?_ rfl; first | (refine wpList_alloc_row rfl _ 30 rfl (some 2) rfl w.heap.size rfl _ zz ?_) | (refine wpList_alloc_row rfl _ 30 rfl (some 4) rfl (w.heap.size + 1) (by simp) _ zz ?_))
      | (refine at_op (.alloc 77) ?_ rfl; refine wpList_alloc_row rfl _ 77 rfl (some 5) rfl (w.heap.size + 2) (by simp) _ z7 ?_))
    have g0 := heap3_0 w (.cells (sumC noSt) 30) (.cells (sumC noSt) 30) (.cells (bsC fun _ => 0) 77)
    have g1 := heap3_1 w (.cells (sumC noSt) 30) (.cells (sumC noSt) 30) (.cells (bsC fun _ => 0) 77)
    have g2 := heap3_2 w (.cells (sumC noSt) 30) (.cells (sumC noSt) 30) (.cells (bsC fun _ => 0) 77)
    clear c0 d1 d2 d3 zz z7
    generalize (((w.alloc (.cells (sumC noSt) 30)).alloc (.cells (sumC noSt) 30)).alloc (.cells (bsC fun _ => 0) 77)) = w3 at *
    have hsp := bs_splice p h8 hp1 hp2
    have hcl : ((p.drop 1).map (Value.int .u8)).length = p.length - 1 := by rw [List.length_map, List.length_drop]
    have hsrc : ∀ j v, ((p.drop 1).map (Value.int .u8))[j]? = some v → w3.cell? ((a.add 1).add j) = some v := fun j v hv => by
      have hj : j < p.length - 1 := by
        rcases Nat.lt_or_ge j (p.length - 1) with h | h
        · exact h
        · rw [List.getElem?_eq_none (by rw [hcl]; exact h)] at hv; cases hv
      rw [List.getElem?_map, List.getElem?_drop, List.getElem?_eq_getElem (by omega), ← rd_eq p (1 + j) (by omega)] at hv
      rw [add_add, r3.lit (1 + j) (by omega)]
      simpa using hv
    have hone : ∀ v ∈ (p.drop 1).map (Value.int .u8), v.oneCell' = true := fun v hv => by obtain ⟨x, _, rfl⟩ := List.mem_map.1 hv; rfl
    have hu8 : (Try.prog.info? 5).map (·.size) = some 1 := by kernel_rfl
    have hft : 0 + ((p.drop 1).map (Value.int .u8)).length ≤ (bsC fun _ => 0).toList.length := by
      have hz : (bsC fun _ => 0).toList.length = 280 := by rw [Array.length_toList, bsC_size]
      rw [hcl, hz]; omega
    have hi1 : (1 : Int) ≤ (p.length : Int) := by omega
    go_frame
    go_cut [6] (fun v wr => v = .int .i64 ((p.length - 1 : Nat) : Int) ∧ wr.heap[w.heap.size + 2]? = some (.cells (bsC (f0 p 0)) 77 (0, 0)) ∧ wr.heap[w.heap.size]? = some (.cells (sumC noSt) 30 (0, 0)) ∧ wr.heap[w.heap.size + 1]? = some (.cells (sumC noSt) 30 (0, 0)) ∧ Below w.heap.size w wr)
    case first =>
      by_cases hc1 : cap = 1
      · subst hc1
        go_region_law (first | (refine step_copy_splice rfl (.tmp 26) (.tmp 28) 47 47 rfl 5 Try.underlying47 hu8 _ _ _ _ _ _ rfl rfl (w.heap.size + 2) 0 (bsC fun _ => 0).toList 77 (by rw [Array.toArray_toList]; exact g2) ((p.drop 1).map (Value.int .u8)) (by rw [hcl]; show _ = min _ _; omega) (fun h => by rw [hcl] at h; omega) hft hone (w.heap.size + 2) w3 (Below.refl (w.heap.size + 2) w3).drew (Nat.le_refl _) ?_; intro w5 HG5 b5))
        go_wp2_with fail
        go_meet
        exact ⟨by first | rfl | (have h0 : p.length - 1 = 0 := by omega
                                 rw [h0]; rfl), by rw [← hsp]; exact HG5.out, (b5.block _ (by omega)).trans g0, (b5.block _ (by omega)).trans g1, hb3.trans (b5.mono (by omega))⟩
      · go_region_law (first | (refine step_copy_splice rfl (.tmp 26) (.tmp 28) 47 47 rfl 5 Try.underlying47 hu8 _ _ _ _ _ _ rfl rfl (w.heap.size + 2) 0 (bsC fun _ => 0).toList 77 (by rw [Array.toArray_toList]; exact g2) ((p.drop 1).map (Value.int .u8)) (by rw [hcl]; show _ = min _ _; omega) (fun _ => ⟨rfl, _, rfl, hsrc⟩) hft hone (w.heap.size + 2) w3 (Below.refl (w.heap.size + 2) w3).drew (Nat.le_refl _) ?_; intro w5 HG5 b5))
        go_wp2_with fail
        go_meet
        exact ⟨by first | rfl | (have h0 : p.length - 1 = 0 := by omega
                                 rw [h0]; rfl), by rw [← hsp]; exact HG5.out, (b5.block _ (by omega)).trans g0, (b5.block _ (by omega)).trans g1, hb3.trans (b5.mono (by omega))⟩
    case rest =>
      obtain ⟨rfl, k2, k0, k1, hbc⟩ := hcut
      have rc := hr.below hbc
      have c0c := cell_below hbc c0w
      clear hsp hcl hsrc hone hu8 hft hi1 g0 g1 g2 r3 hb3 c0w
      have hn := h8 (p.length - 1) (by omega)
      generalize hN : p.length - 1 = N at *
      have hNl : N < p.length := by omega
      go_upto_block 0 with fail
      go_cut [7] (fun v wr => wr.heap[w.heap.size + 2]? = some (.cells (bsC (rdB p)) 77 (0, 0)) ∧ wr.heap[w.heap.size]? = some (.cells (sumC noSt) 30 (0, 0)) ∧ wr.heap[w.heap.size + 1]? = some (.cells (sumC noSt) 30 (0, 0)) ∧ Below w.heap.size w wr)
      case first =>
        go_wp2_with fail
        go_loopw [7] (fun v wr => ∃ i : Nat, N ≤ i ∧ i ≤ 280 ∧ v = .int .i64 i ∧ (N < i → 0 < N ∧ 128 ≤ rd p N) ∧ wr.heap[w.heap.size + 2]? = some (.cells (bsC (f0 p i)) 77 (0, 0)) ∧ wr.heap[w.heap.size]? = some (.cells (sumC noSt) 30 (0, 0)) ∧ wr.heap[w.heap.size + 1]? = some (.cells (sumC noSt) 30 (0, 0)) ∧ Below w.heap.size w wr) (fun v _ => 280 - (intOf v).toNat)
        case atStart => exact ⟨N, Nat.le_refl _, by omega, rfl, fun h => absurd h (Nat.lt_irrefl _), by rw [← f0_start p N hN]; exact k2, k0, k1, hbc⟩
        case round =>
          obtain ⟨i, hi, hi2, rfl, hneg, k2, k0, k1, hb⟩ := hrel
          by_cases hlt : i < 280
          · have hst := f0_step p N i hN hi hlt
            have Hst := Lib.hid hst
            have Hend := Lib.hid (f0_end p N i hN hi hneg)
            have Hneg := Lib.hid hneg
            have HN := Lib.hid hN
            have K2 := Lib.hid k2
            have K0 := Lib.hid k0
            have K1 := Lib.hid k1
            have hcell : wr.cell? ⟨w.heap.size + 2, i, none⟩ = some (.int .u8 (f0 p i i : Int)) := (cell_of_row _ _ i _ _ _ k2).trans (bsC_at _ i hlt)
            have hfz := frozen_of_row k2 i
            by_cases h0 : 0 < N
            · have hcN : wr.cell? (a.add N) = some (.int .u8 (rd p N)) := (hr.below hb).lit N (by omega)
              generalize hX : rd p N = x at *
              have HX := Lib.hid hX
              clear hst hneg hN k2 k0 k1 hX
              generalize f0 p i i = y at *
              by_cases hx : 128 ≤ x
              · have hxb : (x / 128 == 1) = true := by rw [beq_iff_eq]; omega
                go_wp2_with fail
                refine ⟨⟨i + 1, by omega, by omega, by go_num, fun _ => ⟨h0, hx⟩, ?_, ?_, ?_, hb.setCell (p := ⟨w.heap.size + 2, i, none⟩) (by simp) _⟩, by simp [intOf]; omega⟩
                · rw [← Hst.out]
                  exact heap_setCell_at (k := i) K2.out _
                · exact (Below.heap_setCell _ _ _ _ (by simp)).trans K0.out
                · exact (Below.heap_setCell _ _ _ _ (by simp)).trans K1.out
              · have hxb : (x / 128 == 1) = false := by rw [beq_eq_false_iff_ne]; omega
                go_wp2_with fail
                go_meet
                exact ⟨by rw [← Hend.out (fun h => by have := h.2; omega)]; exact K2.out, K0.out, K1.out, hb⟩
            · clear hst hneg hN k2 k0 k1
              go_wp2_with fail
              go_meet
              exact ⟨by rw [← Hend.out (fun h => by have := h.1; omega)]; exact K2.out, K0.out, K1.out, hb⟩
          · have hend := f0_end p N i hN hi hneg (fun _ => by omega)
            rw [hend] at k2
            have HN := Lib.hid hN
            clear hend hneg hN
            go_wp2_with fail
            go_meet
            exact ⟨k2, k0, k1, hb⟩
      case rest =>
        obtain ⟨k2, k0, k1, hbr⟩ := hcut
        clear hbc rc c0c hn
        have hz : sumC noSt = sumC (mkSt (lowW (rdB p) 0) (fun _ => false)) := rfl
        go_upto_block 2 with (first
          | (refine at_op (.load 77 (.tmp 5)) ?_ rfl; refine wpList_load_row rfl 77 (.tmp 5) rfl (w.heap.size + 2) rfl 77 _ (0, 0) _ k2 Try.underlying77 rfl (by rw [bsC_size]; exact Hs77.out) ?_))
        go_cut [8] (fun v wr => wr.heap[w.heap.size]? = some (.cells (sumC noSt) 30 (0, 0)) ∧ wr.heap[w.heap.size + 1]? = some (.cells (sumC (mkSt (lowW (rdB p) 280) (fun _ => false))) 30 (0, 0)) ∧ Below w.heap.size w wr)
        case first =>
          go_wp2_with fail
          go_loopw [50] (fun v wr => ∃ i : Nat, i ≤ 280 ∧ v = .int .i64 i ∧ wr.heap[w.heap.size]? = some (.cells (sumC noSt) 30 (0, 0)) ∧ wr.heap[w.heap.size + 1]? = some (.cells (sumC (mkSt (lowW (rdB p) i) (fun _ => false))) 30 (0, 0)) ∧ Below w.heap.size w wr) (fun v _ => 280 - (intOf v).toNat)
          case atStart => exact ⟨0, by omega, rfl, k0, k1, hbr⟩
          case round =>
            clear k2 k0 k1 hbr hz
            obtain ⟨i, hi, rfl, k0, k1, hb⟩ := hrel
            by_cases hlt : i < 280
            · have hidx := run_index280 (bsC (rdB p)) (bsC_size _) i hlt _ (bsC_at _ i hlt)
              have hfb := rdB_lt p h8 i
              have hww := wdn_lt (lowW (rdB p) i) (i / 8)
              have hcell : wr.cell? ⟨w.heap.size + 1, i / 8, none⟩ = some (.int .u64 (wdn (lowW (rdB p) i) (i / 8) : Nat)) := (cell_of_row _ _ _ _ _ _ k1).trans (sumC_w _ _ (by omega))
              have hfz := frozen_of_row k1 (i / 8)
              obtain ⟨k, hk⟩ : ∃ k, i / 8 = k := ⟨_, rfl⟩
              obtain ⟨j, hj⟩ : ∃ j, i % 8 = j := ⟨_, rfl⟩
              have hk35 : k < 35 := by omega
              have hj8 : j < 8 := by omega
              have q1 : (i : Int) / 8 = (k : Int) := by omega
              have q2 : (i : Int) % 8 = (j : Int) := by omega
              rw [hk] at hww hcell hfz
              have HK := Lib.hid hk
              have HJ := Lib.hid hj
              have H8 := Lib.hid h8
              have K0 := Lib.hid k0
              have K1 := Lib.hid k1
              have hD := bsC_size (rdB p)
              clear k0 k1 hk hj hN h8
              generalize hB : rdB p i = b at *
              have HB := Lib.hid hB
              clear hB
              generalize hX : wdn (lowW (rdB p) i) k = x at *
              have HX := Lib.hid hX
              clear hX
              generalize bsC (rdB p) = D at *
              have Hb := Lib.hid hb
              clear hb hr hbad hp1 hp2 hf0 hf1 hcp hl hNl
              go_upto_region 13 with fail
              have p1 : (i : Int).tdiv 8 = (k : Int) := by rw [Int.tdiv_eq_ediv_of_nonneg (by omega)]; exact q1
              have p2 : (i : Int).tmod 8 = (j : Int) := by rw [Int.tmod_eq_emod_of_nonneg (by omega)]; exact q2
              have p3 : IntKind.i64.wrap (k : Int) = (k : Int) := by rw [IntKind.wrap_i64]; omega
              have p4 : IntKind.i64.wrap (8 * (j : Int)) = 8 * (j : Int) := by rw [IntKind.wrap_i64]; omega
              have p5 : (0 : Int) ≤ (k : Int) := by omega
              have p6 : (k : Int) < 35 := by omega
              have p7 : (0 : Int) ≤ 8 * (j : Int) := by omega
              have p8 : 8 * (j : Int) ≤ 64 := by omega
              have p9 : IntKind.i64.wrap (j : Int) = (j : Int) := by rw [IntKind.wrap_i64]; omega
              have hcd : wr.drew.cell? ⟨w.heap.size + 1, k, none⟩ = some (.int .u64 (x : Int)) := hcell
              have hfd : wr.drew.frozen? ⟨w.heap.size + 1, k, none⟩ = false := hfz
              clear q1 q2
              go_region_with fail
              have hv : bits .or .u64 (x : Int) (IntKind.u64.wrap (IntKind.u64.wrap (b : Int) * 2 ^ (8 * (j : Int)).toNat)) = bits .or .u64 (x : Int) (IntKind.u64.wrap ((b : Int) * 2 ^ (8 * j))) := by
                rw [show IntKind.u64.wrap (b : Int) = (b : Int) by rw [IntKind.wrap_u64]; omega, show (8 * (j : Int)).toNat = 8 * j by omega]
              rw [hv]
              have hst := ws_step (rdB p) (rdB_lt p H8.out) i hlt
              rw [HK.out, HJ.out, HB.out, HX.out] at hst
              have hset := sumC_word _ _ (fun _ => false) k hk35 _ hst
              have m1 : (wr.setCell ⟨w.heap.size + 1, k, none⟩ (.int .u64 (bits .or .u64 (x : Int) (IntKind.u64.wrap ((b : Int) * 2 ^ (8 * j)))))).heap[w.heap.size + 1]? = some (.cells (sumC (mkSt (lowW (rdB p) (i + 1)) (fun _ => false))) 30 (0, 0)) := by
                rw [← hset]; exact heap_setCell_at (k := k) K1.out _
              have m0 : (wr.setCell ⟨w.heap.size + 1, k, none⟩ (.int .u64 (bits .or .u64 (x : Int) (IntKind.u64.wrap ((b : Int) * 2 ^ (8 * j)))))).heap[w.heap.size]? = some (.cells (sumC noSt) 30 (0, 0)) := (Below.heap_setCell _ _ _ _ (by simp)).trans K0.out
              have mb := Hb.out.setCell (p := ⟨w.heap.size + 1, k, none⟩) (by simp) (.int .u64 (bits .or .u64 (x : Int) (IntKind.u64.wrap ((b : Int) * 2 ^ (8 * j)))))
              generalize wr.setCell ⟨w.heap.size + 1, k, none⟩ (.int .u64 (bits .or .u64 (x : Int) (IntKind.u64.wrap ((b : Int) * 2 ^ (8 * j))))) = w7 at *
              have M0 := Lib.hid m0
              have M1 := Lib.hid m1
              clear hv hst hset m0 m1 hcd hfd hcell hfz K0 K1 p1 p2 p3 p4 p5 p6 p7 p8 p9 hidx HB HX
              go_wp2_with fail
              exact ⟨⟨i + 1, by omega, by go_num, M0.out, M1.out, mb.drew⟩, by simp [intOf]; omega⟩
            · obtain rfl : i = 280 := by omega
              go_wp2_with fail
              go_meet
              exact ⟨k0, k1, hb⟩
        case rest =>
          obtain ⟨k0, k1, hb⟩ := hcut
          clear hbr hz
          have rc := hr.below hb
          have hcf : wc.cell? a = some (.int .u8 (rd p 0)) := by
            have := rc.lit 0 (by omega)
            have e : a.add 0 = a := by simp [Addr.add]
            rwa [e] at this
          have c35 : wc.cell? ⟨w.heap.size + 1, 35, none⟩ = some (.bool false) := (cell_of_row _ _ _ _ _ _ k1).trans (sumC_fl _ _ 0 (by decide))
          have c36 : wc.cell? ⟨w.heap.size + 1, 36, none⟩ = some (.bool false) := (cell_of_row _ _ _ _ _ _ k1).trans (sumC_fl _ _ 1 (by decide))
          have c37 : wc.cell? ⟨w.heap.size + 1, 37, none⟩ = some (.bool false) := (cell_of_row _ _ _ _ _ _ k1).trans (sumC_fl _ _ 2 (by decide))
          have c38 : wc.cell? ⟨w.heap.size + 1, 38, none⟩ = some (.bool false) := (cell_of_row _ _ _ _ _ _ k1).trans (sumC_fl _ _ 3 (by decide))
          have c39 : wc.cell? ⟨w.heap.size + 1, 39, none⟩ = some (.bool false) := (cell_of_row _ _ _ _ _ _ k1).trans (sumC_fl _ _ 4 (by decide))
          have z35 := frozen_of_row k1 35
          have z36 := frozen_of_row k1 36
          have z37 := frozen_of_row k1 37
          have z38 := frozen_of_row k1 38
          have z39 := frozen_of_row k1 39
          have K0 := Lib.hid k0
          have K1 := Lib.hid k1
          have Hb := Lib.hid hb
          have hres : readR p = if bytesOf (rdSt p) = p then (rdSt p, 0) else (noSt, 3) := by unfold readR; rw [if_neg hbad]
          have Hres := Lib.hid hres
          have hlp : 0 < p.length := by omega
          have HN := Lib.hid hN
          clear k0 k1 hb hres hbad hN
          generalize hF : rd p 0 = f at *
          have HF := Lib.hid hF
          clear hF
          go_upto_region 17 with fail
          have e0 := heap_setCell_at (k := 35) K1.out (.bool (decide (0 < bits .and .u8 f 1)))
          have e1 := heap_setCell_at (k := 36) e0 (.bool (decide (0 < bits .and .u8 f 2)))
          have e2 := heap_setCell_at (k := 37) e1 (.bool (decide (0 < bits .and .u8 f 4)))
          have e3 := heap_setCell_at (k := 38) e2 (.bool (decide (0 < bits .and .u8 f 8)))
          have e4 := heap_setCell_at (k := 39) e3 (.bool (decide (0 < bits .and .u8 f 16)))
          have y0 := K0.out
          have y1 : (wc.setCell ⟨w.heap.size + 1, 35, none⟩ (.bool (decide (0 < bits .and .u8 f 1)))).heap[w.heap.size]? = some (.cells (sumC noSt) 30 (0, 0)) := (Below.heap_setCell _ _ _ _ (by simp)).trans y0
          have y2 : ((wc.setCell ⟨w.heap.size + 1, 35, none⟩ (.bool (decide (0 < bits .and .u8 f 1)))).setCell ⟨w.heap.size + 1, 36, none⟩ (.bool (decide (0 < bits .and .u8 f 2)))).heap[w.heap.size]? = some (.cells (sumC noSt) 30 (0, 0)) := (Below.heap_setCell _ _ _ _ (by simp)).trans y1
          have y3 : (((wc.setCell ⟨w.heap.size + 1, 35, none⟩ (.bool (decide (0 < bits .and .u8 f 1)))).setCell ⟨w.heap.size + 1, 36, none⟩ (.bool (decide (0 < bits .and .u8 f 2)))).setCell ⟨w.heap.size + 1, 37, none⟩ (.bool (decide (0 < bits .and .u8 f 4)))).heap[w.heap.size]? = some (.cells (sumC noSt) 30 (0, 0)) := (Below.heap_setCell _ _ _ _ (by simp)).trans y2
          have y4 : ((((wc.setCell ⟨w.heap.size + 1, 35, none⟩ (.bool (decide (0 < bits .and .u8 f 1)))).setCell ⟨w.heap.size + 1, 36, none⟩ (.bool (decide (0 < bits .and .u8 f 2)))).setCell ⟨w.heap.size + 1, 37, none⟩ (.bool (decide (0 < bits .and .u8 f 4)))).setCell ⟨w.heap.size + 1, 38, none⟩ (.bool (decide (0 < bits .and .u8 f 8)))).heap[w.heap.size]? = some (.cells (sumC noSt) 30 (0, 0)) := (Below.heap_setCell _ _ _ _ (by simp)).trans y3
          have y5 : (((((wc.setCell ⟨w.heap.size + 1, 35, none⟩ (.bool (decide (0 < bits .and .u8 f 1)))).setCell ⟨w.heap.size + 1, 36, none⟩ (.bool (decide (0 < bits .and .u8 f 2)))).setCell ⟨w.heap.size + 1, 37, none⟩ (.bool (decide (0 < bits .and .u8 f 4)))).setCell ⟨w.heap.size + 1, 38, none⟩ (.bool (decide (0 < bits .and .u8 f 8)))).setCell ⟨w.heap.size + 1, 39, none⟩ (.bool (decide (0 < bits .and .u8 f 16)))).heap[w.heap.size]? = some (.cells (sumC noSt) 30 (0, 0)) := (Below.heap_setCell _ _ _ _ (by simp)).trans y4
          have hbw := (((((Hb.out.setCell (p := ⟨w.heap.size + 1, 35, none⟩) (by simp) (.bool (decide (0 < bits .and .u8 f 1)))).setCell (p := ⟨w.heap.size + 1, 36, none⟩) (by simp) (.bool (decide (0 < bits .and .u8 f 2)))).setCell (p := ⟨w.heap.size + 1, 37, none⟩) (by simp) (.bool (decide (0 < bits .and .u8 f 4)))).setCell (p := ⟨w.heap.size + 1, 38, none⟩) (by simp) (.bool (decide (0 < bits .and .u8 f 8)))).setCell (p := ⟨w.heap.size + 1, 39, none⟩) (by simp) (.bool (decide (0 < bits .and .u8 f 16))))
          have hS : ((((((sumC (mkSt (lowW (rdB p) 280) (fun _ => false))).setIfInBounds 35 (.bool (decide (0 < bits .and .u8 f 1)))).setIfInBounds 36 (.bool (decide (0 < bits .and .u8 f 2)))).setIfInBounds 37 (.bool (decide (0 < bits .and .u8 f 4)))).setIfInBounds 38 (.bool (decide (0 < bits .and .u8 f 8)))).setIfInBounds 39 (.bool (decide (0 < bits .and .u8 f 16)))) = sumC (rdSt p) := by
            rw [show ∀ A : Nat → Bool, (sumC (mkSt (lowW (rdB p) 280) A)).setIfInBounds 35 (.bool (decide (0 < bits .and .u8 f 1))) = sumC (mkSt (lowW (rdB p) 280) (fun q => if q = 0 then decide (0 < bits .and .u8 f 1) else A q)) from fun A => sumC_set _ A 0 (by decide) _]
            rw [show ∀ A : Nat → Bool, (sumC (mkSt (lowW (rdB p) 280) A)).setIfInBounds 36 (.bool (decide (0 < bits .and .u8 f 2))) = sumC (mkSt (lowW (rdB p) 280) (fun q => if q = 1 then decide (0 < bits .and .u8 f 2) else A q)) from fun A => sumC_set _ A 1 (by decide) _]
            rw [show ∀ A : Nat → Bool, (sumC (mkSt (lowW (rdB p) 280) A)).setIfInBounds 37 (.bool (decide (0 < bits .and .u8 f 4))) = sumC (mkSt (lowW (rdB p) 280) (fun q => if q = 2 then decide (0 < bits .and .u8 f 4) else A q)) from fun A => sumC_set _ A 2 (by decide) _]
            rw [show ∀ A : Nat → Bool, (sumC (mkSt (lowW (rdB p) 280) A)).setIfInBounds 38 (.bool (decide (0 < bits .and .u8 f 8))) = sumC (mkSt (lowW (rdB p) 280) (fun q => if q = 3 then decide (0 < bits .and .u8 f 8) else A q)) from fun A => sumC_set _ A 3 (by decide) _]
            rw [show ∀ A : Nat → Bool, (sumC (mkSt (lowW (rdB p) 280) A)).setIfInBounds 39 (.bool (decide (0 < bits .and .u8 f 16))) = sumC (mkSt (lowW (rdB p) 280) (fun q => if q = 4 then decide (0 < bits .and .u8 f 16) else A q)) from fun A => sumC_set _ A 4 (by decide) _]
            unfold rdSt
            rw [HF.out]
            rfl
          rw [hS] at e4
          generalize (((((wc.setCell ⟨w.heap.size + 1, 35, none⟩ (.bool (decide (0 < bits .and .u8 f 1)))).setCell ⟨w.heap.size + 1, 36, none⟩ (.bool (decide (0 < bits .and .u8 f 2)))).setCell ⟨w.heap.size + 1, 37, none⟩ (.bool (decide (0 < bits .and .u8 f 4)))).setCell ⟨w.heap.size + 1, 38, none⟩ (.bool (decide (0 < bits .and .u8 f 8)))).setCell ⟨w.heap.size + 1, 39, none⟩ (.bool (decide (0 < bits .and .u8 f 16)))) = w9 at *
          clear hS e0 e1 e2 e3 y0 y1 y2 y3 y4 c35 c36 c37 c38 c39 z35 z36 z37 z38 z39 hcf rc
          have r9 := hr.below hbw
          have hbyt := fun w => bytes_any (rdSt p) w
          have hbb : ((strOfNums (bytesOf (rdSt p))).toList == (strOfNums p).toList) = decide (bytesOf (rdSt p) = p) := by
            by_cases hE : bytesOf (rdSt p) = p
            · rw [hE, decide_eq_true rfl]; exact str_eq p
            · rw [decide_eq_false hE]; exact str_ne (bytesOf_bytes _) h8 hE
          have bb8 := bytesOf_bytes (rdSt p)
          have E4 := Lib.hid e4
          have Y5 := Lib.hid y5
          have R9 := Lib.hid r9
          have Hbw := Lib.hid hbw
          clear e4 y5 r9 hbw bb8
          obtain ⟨R, hR⟩ : ∃ R, R = rdSt p := ⟨_, rfl⟩
          rw [← hR] at hbyt hbb E4 Hres
          clear hR
          have HL := Lib.hid (run_loadCellsFrom_row (P := Try.prog) w9.drew (w.heap.size + 1) 30 (sumC R) (0, 0) E4.out 40 (sumC_size _))
          have hcp0 := run_string_reads (P := Try.prog) w9.drew 47 9 5 Try.underlying47 Try.underlying5 Try.underlying9 (some a) cap p R9.out
          have R9d : Hid (Reads w9.drew .u8 (some a) p) := Lib.hid R9.out
          have H8 := Lib.hid h8
          clear h8 hr hcp hl hp1 hp2 k2 hNl HN HF hf0 hf1
          generalize hsp : strOfNums p = sp at *
          generalize hss : strOfNums (bytesOf R) = ss at *
          have Hsp := Lib.hid hsp
          have Hss := Lib.hid hss
          clear hsp hss
          generalize hbd : decide (bytesOf R = p) = bb at *
          have Hbd := Lib.hid hbd
          clear hbd
          go_region_with (first
            | (rw [Try.isAgg30]; simp only [Result.andThen_ok, if_true, run_sizeOf_info Hs.out, HL.out])
            | (go_at_call 31; (with_reducible refine (hbyt _).mono ?_); rintro e w10 ⟨v, rfl, ho, b10⟩; obtain ⟨A9, c9, rfl, _, q9⟩ := ho.form; have hcp1 := run_string_reads (P := Try.prog) w10 47 9 5 Try.underlying47 Try.underlying5 Try.underlying9 (some a) cap p (R9d.out.below b10); have hcp2 := run_string_reads (P := Try.prog) w10 47 9 5 Try.underlying47 Try.underlying5 Try.underlying9 A9 c9 (bytesOf R) q9; rw [Hsp.out] at hcp1; rw [Hss.out] at hcp2; generalize (bytesOf R).length = n9 at *; have G4 := Lib.hid ((b10.block (w.heap.size + 1) (heap_lt E4.out)).trans E4.out); have G5 := Lib.hid ((b10.block w.heap.size (heap_lt Y5.out)).trans Y5.out); have Hb10 := Lib.hid (below_trans Hbw.out.drew b10); clear ho q9))
          all_goals
            cases bb
            rotate_left
            · have hr1 : readR p = (R, 0) := by rw [Hres.out, if_pos (of_decide_eq_true Hbd.out)]
              have Hr1 := Lib.hid hr1
              clear Hres hr1 hbyt hcp0 hcp1 hcp2 HL hbb Hbd
              go_wp2_with (first
                | (refine at_op0 (.load 30 (.tmp 4)) ?_ rfl rfl; refine wpList_load_row rfl 30 (.tmp 4) rfl (w.heap.size + 1) rfl 30 _ (0, 0) _ G4.out Try.underlying30 rfl (by rw [sumC_size]; exact Hs.out) ?_)
                | (refine at_op (.store 30 (.tmp 2) (.tmp 99)) ?_ rfl; refine wpList_store_row rfl 30 (.tmp 2) (.tmp 99) rfl w.heap.size (sumC R) rfl rfl 30 _ G5.out (by rw [sumC_size]; exact Hs.out) (by simp only [sumC_size]) (sumC_one _) ?_))
              exact bodyPost_ret (results_row_tmp rfl _ _ w.heap.size 30 (sumC R) (0, 0) _ rfl (setRow_heap _ _ _ (sumC R) _ _ G5.out) Try.underlying30 rfl (by rw [sumC_size]; exact Hs.out)) rfl ⟨by rw [Hr1.out]; rfl, below_setRow Hb10.out (Nat.le_refl _) _⟩
            · have hr1 : readR p = (noSt, 3) := by rw [Hres.out, if_neg (of_decide_eq_false Hbd.out)]
              have Hr1 := Lib.hid hr1
              clear Hres hr1 hbyt hcp0 hcp1 hcp2 HL hbb Hbd
              go_wp2_with (first
                | (refine at_op0 (.build 30 #[]) ?_ rfl rfl; refine wpList_buildTo rfl 30 #[] rfl (some 98) rfl (sumC noSt) (by kernel_rfl) ?_)
                | (refine at_op (.store 30 (.tmp 2) (.tmp 98)) ?_ rfl; refine wpList_store_row rfl 30 (.tmp 2) (.tmp 98) rfl w.heap.size (sumC noSt) rfl rfl 30 _ G5.out (by rw [sumC_size]; exact Hs.out) (by simp only [sumC_size]) (sumC_one _) ?_))
              exact bodyPost_ret (results_row_tmp rfl _ _ w.heap.size 30 (sumC noSt) (0, 0) _ rfl (setRow_heap _ _ _ (sumC noSt) _ _ G5.out) Try.underlying30 rfl (by rw [sumC_size]; exact Hs.out)) rfl ⟨by rw [Hr1.out]; rfl, below_setRow Hb10.out (Nat.le_refl _) _⟩
end Go.Proofs.Ytejkilgpcbdepaa
