import Derived.Test.YthplelglifnhoaaDr
import Derived.Test.YthplelglifnhoaaBase
/-! Exact sums: two sums joined. (Printed by mkBa.py.) -/
namespace Go.Proofs.Ythplelglifnhoaa
open Go.RowKit
set_option linter.unusedVariables false
attribute [-simp] Try.isAgg41
attribute [-simp] Try.isAgg43 Try.sizeOf43 Try.typeInfo43 Try.type43

def joinSt (s o : St) : St := ⟨s.w + o.w, s.nan || o.nan, s.pos || o.pos, s.neg || o.neg, s.any || o.any, s.other || o.other⟩
/-- A sum from its whole number and its five marks. -/
def mkSt (W : Nat) (A : Nat → Bool) : St := ⟨W, A 0, A 1, A 2, A 3, A 4⟩
def fl (s : St) (f : Nat) : Bool := match f with | 0 => s.nan | 1 => s.pos | 2 => s.neg | 3 => s.any | _ => s.other
theorem mkSt_fl (s : St) (W : Nat) : mkSt W (fl s) = { s with w := W } := rfl
theorem sumC_fl (W : Nat) (A : Nat → Bool) (f : Nat) (h : f < 5) : (sumC (mkSt W A))[35 + f]? = some (.bool (A f)) := by
  rw [sumC_f]
  match f, h with
  | 0, _ => rfl
  | 1, _ => rfl
  | 2, _ => rfl
  | 3, _ => rfl
  | 4, _ => rfl
theorem sumC_set (W : Nat) (A : Nat → Bool) (f : Nat) (h : f < 5) (b : Bool) : (sumC (mkSt W A)).setIfInBounds (35 + f) (.bool b) = sumC (mkSt W (fun k => if k = f then b else A k)) := by
  apply Array.ext_getElem?
  intro i
  by_cases hi : i < 35
  · rw [Array.getElem?_setIfInBounds_ne (by omega), sumC_w _ i hi, sumC_w _ i hi]; rfl
  · by_cases h5 : i < 40
    · obtain ⟨k, rfl⟩ : ∃ k, i = 35 + k := ⟨i - 35, by omega⟩
      rw [sumC_fl W _ k (by omega)]
      by_cases e : k = f
      · subst e
        rw [Array.getElem?_setIfInBounds_self_of_lt (by rw [sumC_size]; omega), if_pos rfl]
      · rw [Array.getElem?_setIfInBounds_ne (by omega), sumC_fl W A k (by omega), if_neg e]
    · rw [Array.getElem?_eq_none (by rw [Array.size_setIfInBounds, sumC_size]; omega), Array.getElem?_eq_none (by rw [sumC_size]; omega)]
/-- What the operations of the region leave, and where. -/
def VJ (g g1 : Nat) (A B : Nat → Bool) (i : Nat) : Value :=
  if i < 30 then (match i % 6 with
    | 0 => .pointer (some ⟨g, 35 + i / 6, none⟩)
    | 1 => .bool (A (i / 6))
    | 2 => .bool (A (i / 6))
    | 3 => if A (i / 6) = true then undef else .pointer (some ⟨g1, 35 + i / 6, none⟩)
    | 4 => if A (i / 6) = true then undef else .bool (B (i / 6))
    | _ => .bool (A (i / 6) || B (i / 6)))
  else .pointer (some ⟨g, 35 + (i - 30) / 2, none⟩)
def DJ (i : Nat) : Nat := if i < 30 then 11 + i else 41 + (i - 30) / 2
def curJ (A B : Nat → Bool) (listed : Array Bool) (f : Nat) : Bool := if listed.getD (31 + 2 * f) false = true then A f || B f else A f
structure JI (g g1 g2 : Nat) (A B : Nat → Bool) (W W' : Nat) (Z : Array Value) (B0 : Nat) (w0 : World) (listed : Array Bool) (a : Act) (w : World) : Prop where
  tsz : a.tmps.size = 47
  dfs : a.defers = []
  t2 : a.tmps[2]? = some (.pointer (some ⟨g, 0, none⟩))
  t3 : a.tmps[3]? = some (.pointer (some ⟨g1, 0, none⟩))
  t4 : a.tmps[4]? = some (.pointer (some ⟨g2, 0, none⟩))
  val : ∀ i, i < 40 → (i < 30 ∨ i % 2 = 0) → listed.getD i false = true → a.tmps[DJ i]? = some (VJ g g1 A B i)
  h0 : w.heap[g]? = some (.cells (sumC (mkSt W (curJ A B listed))) 43 (0, 0))
  h1 : w.heap[g1]? = some (.cells (sumC (mkSt W' B)) 43 (0, 0))
  h2 : w.heap[g2]? = some (.cells Z 43 (0, 0))
  bel : Below B0 w0 w
section
variable {g g1 g2 : Nat} {A B : Nat → Bool} {W W' : Nat} {Z : Array Value} {B0 : Nat} {w0 : World} {listed : Array Bool} {a : Act} {w : World} {ops : Array Oper}
theorem DJ_inj {i j : Nat} (hi : i < 40) (hj : j < 40) (ki : i < 30 ∨ i % 2 = 0) (kj : j < 30 ∨ j % 2 = 0) (h : DJ i = DJ j) : i = j := by
  unfold DJ at h
  split at h <;> split at h <;> omega
theorem JI.put (h : JI g g1 g2 A B W W' Z B0 w0 listed a w) (i : Nat) (hi : i < 40) (ki : i < 30 ∨ i % 2 = 0) :
    JI g g1 g2 A B W W' Z B0 w0 (listed.setIfInBounds i true) (a.put (some (DJ i)) (VJ g g1 A B i)) w := by
  have hD : 11 ≤ DJ i ∧ DJ i < 47 := by unfold DJ; split <;> omega
  refine ⟨?_, h.dfs, ?_, ?_, ?_, fun j hj kj hl => ?_, ?_, h.h1, h.h2, h.bel⟩
  · show (a.tmps.setIfInBounds _ _).size = 47
    rw [Array.size_setIfInBounds]; exact h.tsz
  · show (a.tmps.setIfInBounds _ _)[2]? = _
    rw [Array.getElem?_setIfInBounds_ne (by omega)]; exact h.t2
  · show (a.tmps.setIfInBounds _ _)[3]? = _
    rw [Array.getElem?_setIfInBounds_ne (by omega)]; exact h.t3
  · show (a.tmps.setIfInBounds _ _)[4]? = _
    rw [Array.getElem?_setIfInBounds_ne (by omega)]; exact h.t4
  · show (a.tmps.setIfInBounds _ _)[DJ j]? = _
    by_cases e : i = j
    · subst e
      rw [Array.getElem?_setIfInBounds_self_of_lt (by rw [h.tsz]; omega)]
    · rw [Array.getElem?_setIfInBounds_ne (fun h => e (DJ_inj hi hj ki kj h))]
      rw [getD_set_ne false e] at hl
      exact h.val j hj kj hl
  · have : curJ A B (listed.setIfInBounds i true) = curJ A B listed := by
      funext f
      unfold curJ
      rw [getD_set_ne false (by omega)]
    rw [this]; exact h.h0
theorem JI.store (h : JI g g1 g2 A B W W' Z B0 w0 listed a w) (f : Nat) (hf : f < 5) (hs : listed.size = 40) (hB : B0 ≤ g) (n1 : g ≠ g1) (n2 : g ≠ g2) :
    JI g g1 g2 A B W W' Z B0 w0 (listed.setIfInBounds (31 + 2 * f) true) a (w.setCell ⟨g, 35 + f, none⟩ (.bool (A f || B f))) := by
  rw [setCell_eq_setRow h.h0, sumC_set W _ f hf]
  have hc : (fun k => if k = f then (A f || B f) else curJ A B listed k) = curJ A B (listed.setIfInBounds (31 + 2 * f) true) := by
    funext k
    unfold curJ
    by_cases e : k = f
    · subst e
      rw [if_pos rfl, getD_set_self listed (31 + 2 * k) false (by omega), if_pos rfl]
    · rw [if_neg e, getD_set_ne false (by omega)]
  rw [hc]
  refine ⟨h.tsz, h.dfs, h.t2, h.t3, h.t4, fun j hj kj hl => ?_, setRow_heap _ _ _ _ _ _ h.h0, (setRow_other _ _ _ _ n1.symm).trans h.h1, (setRow_other _ _ _ _ n2.symm).trans h.h2, below_setRow h.bel hB _⟩
  rw [getD_set_ne false (by omega)] at hl
  exact h.val j hj kj hl
theorem JI.at (h : JI g g1 g2 A B W W' Z B0 w0 listed a w) {j : Nat} (hr : j ∈ Region.ready .any ops listed) (i : Nat) (hw : Region.waitsFor .any ops j i = true) (hi : i < 40) (ki : i < 30 ∨ i % 2 = 0) : a.tmps[DJ i]? = some (VJ g g1 A B i) :=
  h.val i hi ki (dep_of hr hw)
theorem JI.cell0 (h : JI g g1 g2 A B W W' Z B0 w0 listed a w) (f : Nat) (hf : f < 5) (hl : listed.getD (31 + 2 * f) false = false) : w.cell? ⟨g, 35 + f, none⟩ = some (.bool (A f)) := by
  rw [cell_of_row _ _ _ _ _ _ h.h0, sumC_fl W _ f hf]
  unfold curJ
  rw [if_neg (by rw [hl]; decide)]
theorem JI.cell1 (h : JI g g1 g2 A B W W' Z B0 w0 listed a w) (f : Nat) (hf : f < 5) : w.cell? ⟨g1, 35 + f, none⟩ = some (.bool (B f)) := by
  rw [cell_of_row _ _ _ _ _ _ h.h1, sumC_fl W' B f hf]
end
end Go.Proofs.Ythplelglifnhoaa
/-! Exact sums: two sums joined: the operations of the region, one by one. (Printed by mkBa.py.) -/
namespace Go.Proofs.Ythplelglifnhoaa
open Go.RowKit
set_option linter.unusedVariables false
attribute [-simp] Try.isAgg41
attribute [-simp] Try.isAgg43 Try.sizeOf43 Try.typeInfo43 Try.type43
theorem plus_ws (a b : Nat) (w : World) : Calls Try.prog 91 #[.agg (ws a), .agg (ws b)] w fun e w' => e = .returned (.agg (ws (a + b))) ∧ Below w.heap.size w w' := plus_any a b w
theorem wanted_true {ops : Array Oper} {o : Oper} {tmps : Array Value} {k d : Nat} {want : Bool} (hg : o.guard = some (k, want)) (hd : (ops[k]?).bind (·.dst) = some d) (ht : tmps[d]? = some (.bool want)) : Region.wanted o (yielded ops tmps) = true := by
  unfold Region.wanted
  rw [hg]
  show (yielded ops tmps k == some want) = _
  unfold yielded
  rw [hd]
  show ((match tmps[d]? with | some (.bool b) => some b | _ => none) == some want) = _
  rw [ht]
  cases want <;> rfl
theorem wanted_false {ops : Array Oper} {o : Oper} {tmps : Array Value} {k d : Nat} {want : Bool} (hg : o.guard = some (k, want)) (hd : (ops[k]?).bind (·.dst) = some d) (ht : tmps[d]? = some (.bool (!want))) : Region.wanted o (yielded ops tmps) = false := by
  unfold Region.wanted
  rw [hg]
  show (yielded ops tmps k == some want) = _
  unfold yielded
  rw [hd]
  show ((match tmps[d]? with | some (.bool b) => some b | _ => none) == some want) = _
  rw [ht]
  cases want <;> rfl

set_option maxRecDepth 100000 in
set_option maxHeartbeats 4000000 in
theorem join_any (s o : St) (w : World) : Calls Try.prog 86 #[.agg (sumC s), .agg (sumC o)] w fun e w' => e = .returned (.agg (sumC (joinSt s o))) ∧ Below w.heap.size w w' := by
  have Hs := Lib.hid size30
  have Hs28 := Lib.hid size28
  have hp := plus_ws s.w o.w
  obtain ⟨Z, hZ, zz⟩ : ∃ Z : Array Value, Z.size = 40 ∧ ∀ w, (zeroValue 43).run Try.prog w = .ok (.agg Z) w := ⟨_, sumC_size _, zero30⟩
  have hfr : ∀ (s : St) i, i < (ws s.w).size → (sumC s)[i]? = (ws s.w)[i]? := fun s i hi => by
    rw [ws_size] at hi
    rw [sumC_w _ i hi, ws_at _ _ hi]
  have Hfr := Lib.hid hfr
  have Hset := Lib.hid (sumC_front s (s.w + o.w))
  clear hfr
  go_enter Try.func86, Try.ntmps86
  go_wp2_with (first
      | (refine at_op (.alloc 43) ?_ rfl; refine wpList_alloc_row rfl _ 43 rfl (some 4) rfl (w.heap.size + 2) (by simp) Z zz ?_)
      | (refine at_op (.load 41 (.tmp 5)) ?_ rfl; refine wpList_load_front rfl _ 41 (.tmp 5) rfl w.heap.size rfl _ (ws s.w) 43 (0, 0) _ (heap3_0 w _ _ _) (Hfr.out s) Try.underlying41 rfl (by rw [ws_size]; exact Hs28.out) ?_)
      | (refine at_op (.load 41 (.tmp 7)) ?_ rfl; refine wpList_load_front rfl _ 41 (.tmp 7) rfl (w.heap.size + 1) rfl _ (ws o.w) 43 (0, 0) _ (heap3_1 w _ _ _) (Hfr.out o) Try.underlying41 rfl (by rw [ws_size]; exact Hs28.out) ?_)
      | (go_at_call 91; (with_reducible refine (hp _).mono ?_); rintro e w4 ⟨rfl, b4⟩; have g0 := (b4.block w.heap.size (by simp; omega)).trans (heap3_0 w _ _ _); have g1 := (b4.block (w.heap.size + 1) (by simp)).trans (heap3_1 w _ _ _); have g2 := (b4.block (w.heap.size + 2) (by simp)).trans (heap3_2 w _ _ _); have bb := below_trans (below_alloc (below_alloc (below_alloc (Below.refl w.heap.size w) _) _) _) b4; have g0h := Lib.hid g0; have g1h := Lib.hid g1; have g2h := Lib.hid g2; clear g0 g1 g2 b4)
      | (refine at_op (.store 41 (.tmp 10) (.tmp 9)) ?_ rfl; refine wpList_store_front rfl _ 41 (.tmp 10) (.tmp 9) rfl w.heap.size (ws (s.w + o.w)) rfl rfl _ 43 g0h.out (by rw [ws_size, sumC_size]; omega) (by rw [ws_size]; omega) (by rw [ws_size]; exact Hs28.out) (ws_one _) ?_; rw [Hset.out]; have g3h := Lib.hid (setRow_heap _ _ _ (sumC { s with w := s.w + o.w }) _ _ g0h.out); have g4h := Lib.hid ((setRow_other w4 w.heap.size (w.heap.size + 1) (sumC { s with w := s.w + o.w }) (by omega)).trans g1h.out); have g5h := Lib.hid ((setRow_other w4 w.heap.size (w.heap.size + 2) (sumC { s with w := s.w + o.w }) (by omega)).trans g2h.out); have bb5 := below_setRow bb (Nat.le_refl w.heap.size) (sumC { s with w := s.w + o.w }); generalize w4.setRow w.heap.size (sumC { s with w := s.w + o.w }) = w5 at *))
  refine region_inv (by kernel_rfl) (by kernel_rfl) (by kernel_rfl) (JI w.heap.size (w.heap.size + 1) (w.heap.size + 2) (fl s) (fl o) (s.w + o.w) o.w Z w.heap.size w) ?_ ?_ ?_
  · refine ⟨rfl, rfl, rfl, rfl, rfl, fun i _ _ h => ?_, ?_, g4h.out, g5h.out, bb5.drew⟩
    · rw [getD_replicate_false] at h; cases h
    · have : curJ (fl s) (fl o) (Array.replicate 40 false) = fl s := by
        funext f
        unfold curJ
        rw [getD_replicate_false]; rfl
      show w5.heap[w.heap.size]? = some (.cells (sumC (mkSt (s.w + o.w) (curJ (fl s) (fl o) (Array.replicate 40 false)))) 43 (0, 0))
      rw [this]; exact g3h.out
  · intro listed a w1 i hs hc hJ hi hu hr
    generalize fl s = A at *
    generalize fl o = B at *
    clear g0h g1h g2h g3h g4h g5h bb5 bb hp Hset Hfr zz hZ Hs Hs28
    replace hi : i < 40 := hi
    replace hs : listed.size = 40 := hs
    obtain rfl | hi1 : i = 0 ∨ 1 ≤ i := by omega
    · have h2 := hJ.t2
      have hp := hJ.put 0 (by decide) (.inl (by decide))
      refine wpOp_val (v := .pointer (some ⟨w.heap.size, 35, none⟩)) rfl rfl ?_ hp
      go_simp
    obtain rfl | hi1 : i = 1 ∨ 2 ≤ i := by omega
    · have h2 : a.tmps[11]? = some (.pointer (some ⟨w.heap.size, 35, none⟩)) := hJ.at hr 0 (by kernel_rfl) (by decide) (.inl (by decide))
      have hcell : w1.cell? ⟨w.heap.size, 35, none⟩ = some (.bool (A 0)) := hJ.cell0 0 (by decide) (by
        cases hq : listed.getD (31 + 2 * 0) false with
        | false => rfl
        | true => have := hc 31 1 (by kernel_rfl) hq; rw [hu] at this; cases this)
      have hp := hJ.put 1 (by decide) (.inl (by decide))
      refine wpOp_val (v := .bool (A 0)) rfl rfl ?_ hp
      go_simp
    obtain rfl | hi1 : i = 2 ∨ 3 ≤ i := by omega
    · have h2 : a.tmps[12]? = some (.bool (A 0)) := hJ.at hr 1 (by kernel_rfl) (by decide) (.inl (by decide))
      have hp := hJ.put 2 (by decide) (.inl (by decide))
      refine wpOp_val (v := .bool (A 0)) rfl rfl ?_ hp
      go_simp
    obtain rfl | hi1 : i = 3 ∨ 4 ≤ i := by omega
    · have hg : a.tmps[13]? = some (.bool (A 0)) := hJ.at hr 2 (by kernel_rfl) (by decide) (.inl (by decide))
      have hp := hJ.put 3 (by decide) (.inl (by decide))
      have e : VJ w.heap.size (w.heap.size + 1) A B 3 = if A 0 = true then undef else .pointer (some ⟨w.heap.size + 1, 35, none⟩) := rfl
      cases hA : A 0 with
      | true =>
        rw [hA] at hg
        rw [if_pos hA] at e
        rw [e] at hp
        exact wpOp_skipped rfl (wanted_false rfl rfl hg) hp
      | false =>
        rw [hA] at hg
        rw [if_neg (by rw [hA]; decide)] at e
        rw [e] at hp
        have h3 := hJ.t3
        refine wpOp_val (v := .pointer (some ⟨w.heap.size + 1, 35, none⟩)) rfl (wanted_true rfl rfl hg) ?_ hp
        go_simp
    obtain rfl | hi1 : i = 4 ∨ 5 ≤ i := by omega
    · have hg : a.tmps[13]? = some (.bool (A 0)) := hJ.at hr 2 (by kernel_rfl) (by decide) (.inl (by decide))
      have hp := hJ.put 4 (by decide) (.inl (by decide))
      have e : VJ w.heap.size (w.heap.size + 1) A B 4 = if A 0 = true then undef else .bool (B 0) := rfl
      have h2 : a.tmps[14]? = some (if A 0 = true then undef else .pointer (some ⟨w.heap.size + 1, 35, none⟩)) := hJ.at hr 3 (by kernel_rfl) (by decide) (.inl (by decide))
      cases hA : A 0 with
      | true =>
        rw [hA] at hg
        rw [if_pos hA] at e
        rw [e] at hp
        exact wpOp_skipped rfl (wanted_false rfl rfl hg) hp
      | false =>
        rw [hA] at hg
        rw [if_neg (by rw [hA]; decide)] at e
        rw [e] at hp
        rw [if_neg (by rw [hA]; decide)] at h2
        have hcell : w1.cell? ⟨w.heap.size + 1, 35, none⟩ = some (.bool (B 0)) := hJ.cell1 0 (by decide)
        refine wpOp_val (v := .bool (B 0)) rfl (wanted_true rfl rfl hg) ?_ hp
        go_simp
    obtain rfl | hi1 : i = 5 ∨ 6 ≤ i := by omega
    · have hg : a.tmps[13]? = some (.bool (A 0)) := hJ.at hr 2 (by kernel_rfl) (by decide) (.inl (by decide))
      have h2 : a.tmps[15]? = some (if A 0 = true then undef else .bool (B 0)) := hJ.at hr 4 (by kernel_rfl) (by decide) (.inl (by decide))
      have hp := hJ.put 5 (by decide) (.inl (by decide))
      have e : VJ w.heap.size (w.heap.size + 1) A B 5 = .bool (A 0 || B 0) := rfl
      cases hA : A 0 with
      | true =>
        rw [hA] at hg e
        rw [e] at hp
        refine wpOp_val (v := .bool true) rfl rfl ?_ hp
        go_simp
      | false =>
        rw [hA] at hg e
        rw [if_neg (by rw [hA]; decide)] at h2
        rw [e] at hp
        refine wpOp_val (v := .bool (B 0)) rfl rfl ?_ hp
        go_simp
    obtain rfl | hi1 : i = 6 ∨ 7 ≤ i := by omega
    · have h2 := hJ.t2
      have hp := hJ.put 6 (by decide) (.inl (by decide))
      refine wpOp_val (v := .pointer (some ⟨w.heap.size, 36, none⟩)) rfl rfl ?_ hp
      go_simp
    obtain rfl | hi1 : i = 7 ∨ 8 ≤ i := by omega
    · have h2 : a.tmps[17]? = some (.pointer (some ⟨w.heap.size, 36, none⟩)) := hJ.at hr 6 (by kernel_rfl) (by decide) (.inl (by decide))
      have hcell : w1.cell? ⟨w.heap.size, 36, none⟩ = some (.bool (A 1)) := hJ.cell0 1 (by decide) (by
        cases hq : listed.getD (31 + 2 * 1) false with
        | false => rfl
        | true => have := hc 33 7 (by kernel_rfl) hq; rw [hu] at this; cases this)
      have hp := hJ.put 7 (by decide) (.inl (by decide))
      refine wpOp_val (v := .bool (A 1)) rfl rfl ?_ hp
      go_simp
    obtain rfl | hi1 : i = 8 ∨ 9 ≤ i := by omega
    · have h2 : a.tmps[18]? = some (.bool (A 1)) := hJ.at hr 7 (by kernel_rfl) (by decide) (.inl (by decide))
      have hp := hJ.put 8 (by decide) (.inl (by decide))
      refine wpOp_val (v := .bool (A 1)) rfl rfl ?_ hp
      go_simp
    obtain rfl | hi1 : i = 9 ∨ 10 ≤ i := by omega
    · have hg : a.tmps[19]? = some (.bool (A 1)) := hJ.at hr 8 (by kernel_rfl) (by decide) (.inl (by decide))
      have hp := hJ.put 9 (by decide) (.inl (by decide))
      have e : VJ w.heap.size (w.heap.size + 1) A B 9 = if A 1 = true then undef else .pointer (some ⟨w.heap.size + 1, 36, none⟩) := rfl
      cases hA : A 1 with
      | true =>
        rw [hA] at hg
        rw [if_pos hA] at e
        rw [e] at hp
        exact wpOp_skipped rfl (wanted_false rfl rfl hg) hp
      | false =>
        rw [hA] at hg
        rw [if_neg (by rw [hA]; decide)] at e
        rw [e] at hp
        have h3 := hJ.t3
        refine wpOp_val (v := .pointer (some ⟨w.heap.size + 1, 36, none⟩)) rfl (wanted_true rfl rfl hg) ?_ hp
        go_simp
    obtain rfl | hi1 : i = 10 ∨ 11 ≤ i := by omega
    · have hg : a.tmps[19]? = some (.bool (A 1)) := hJ.at hr 8 (by kernel_rfl) (by decide) (.inl (by decide))
      have hp := hJ.put 10 (by decide) (.inl (by decide))
      have e : VJ w.heap.size (w.heap.size + 1) A B 10 = if A 1 = true then undef else .bool (B 1) := rfl
      have h2 : a.tmps[20]? = some (if A 1 = true then undef else .pointer (some ⟨w.heap.size + 1, 36, none⟩)) := hJ.at hr 9 (by kernel_rfl) (by decide) (.inl (by decide))
      cases hA : A 1 with
      | true =>
        rw [hA] at hg
        rw [if_pos hA] at e
        rw [e] at hp
        exact wpOp_skipped rfl (wanted_false rfl rfl hg) hp
      | false =>
        rw [hA] at hg
        rw [if_neg (by rw [hA]; decide)] at e
        rw [e] at hp
        rw [if_neg (by rw [hA]; decide)] at h2
        have hcell : w1.cell? ⟨w.heap.size + 1, 36, none⟩ = some (.bool (B 1)) := hJ.cell1 1 (by decide)
        refine wpOp_val (v := .bool (B 1)) rfl (wanted_true rfl rfl hg) ?_ hp
        go_simp
    obtain rfl | hi1 : i = 11 ∨ 12 ≤ i := by omega
    · have hg : a.tmps[19]? = some (.bool (A 1)) := hJ.at hr 8 (by kernel_rfl) (by decide) (.inl (by decide))
      have h2 : a.tmps[21]? = some (if A 1 = true then undef else .bool (B 1)) := hJ.at hr 10 (by kernel_rfl) (by decide) (.inl (by decide))
      have hp := hJ.put 11 (by decide) (.inl (by decide))
      have e : VJ w.heap.size (w.heap.size + 1) A B 11 = .bool (A 1 || B 1) := rfl
      cases hA : A 1 with
      | true =>
        rw [hA] at hg e
        rw [e] at hp
        refine wpOp_val (v := .bool true) rfl rfl ?_ hp
        go_simp
      | false =>
        rw [hA] at hg e
        rw [if_neg (by rw [hA]; decide)] at h2
        rw [e] at hp
        refine wpOp_val (v := .bool (B 1)) rfl rfl ?_ hp
        go_simp
    obtain rfl | hi1 : i = 12 ∨ 13 ≤ i := by omega
    · have h2 := hJ.t2
      have hp := hJ.put 12 (by decide) (.inl (by decide))
      refine wpOp_val (v := .pointer (some ⟨w.heap.size, 37, none⟩)) rfl rfl ?_ hp
      go_simp
    obtain rfl | hi1 : i = 13 ∨ 14 ≤ i := by omega
    · have h2 : a.tmps[23]? = some (.pointer (some ⟨w.heap.size, 37, none⟩)) := hJ.at hr 12 (by kernel_rfl) (by decide) (.inl (by decide))
      have hcell : w1.cell? ⟨w.heap.size, 37, none⟩ = some (.bool (A 2)) := hJ.cell0 2 (by decide) (by
        cases hq : listed.getD (31 + 2 * 2) false with
        | false => rfl
        | true => have := hc 35 13 (by kernel_rfl) hq; rw [hu] at this; cases this)
      have hp := hJ.put 13 (by decide) (.inl (by decide))
      refine wpOp_val (v := .bool (A 2)) rfl rfl ?_ hp
      go_simp
    obtain rfl | hi1 : i = 14 ∨ 15 ≤ i := by omega
    · have h2 : a.tmps[24]? = some (.bool (A 2)) := hJ.at hr 13 (by kernel_rfl) (by decide) (.inl (by decide))
      have hp := hJ.put 14 (by decide) (.inl (by decide))
      refine wpOp_val (v := .bool (A 2)) rfl rfl ?_ hp
      go_simp
    obtain rfl | hi1 : i = 15 ∨ 16 ≤ i := by omega
    · have hg : a.tmps[25]? = some (.bool (A 2)) := hJ.at hr 14 (by kernel_rfl) (by decide) (.inl (by decide))
      have hp := hJ.put 15 (by decide) (.inl (by decide))
      have e : VJ w.heap.size (w.heap.size + 1) A B 15 = if A 2 = true then undef else .pointer (some ⟨w.heap.size + 1, 37, none⟩) := rfl
      cases hA : A 2 with
      | true =>
        rw [hA] at hg
        rw [if_pos hA] at e
        rw [e] at hp
        exact wpOp_skipped rfl (wanted_false rfl rfl hg) hp
      | false =>
        rw [hA] at hg
        rw [if_neg (by rw [hA]; decide)] at e
        rw [e] at hp
        have h3 := hJ.t3
        refine wpOp_val (v := .pointer (some ⟨w.heap.size + 1, 37, none⟩)) rfl (wanted_true rfl rfl hg) ?_ hp
        go_simp
    obtain rfl | hi1 : i = 16 ∨ 17 ≤ i := by omega
    · have hg : a.tmps[25]? = some (.bool (A 2)) := hJ.at hr 14 (by kernel_rfl) (by decide) (.inl (by decide))
      have hp := hJ.put 16 (by decide) (.inl (by decide))
      have e : VJ w.heap.size (w.heap.size + 1) A B 16 = if A 2 = true then undef else .bool (B 2) := rfl
      have h2 : a.tmps[26]? = some (if A 2 = true then undef else .pointer (some ⟨w.heap.size + 1, 37, none⟩)) := hJ.at hr 15 (by kernel_rfl) (by decide) (.inl (by decide))
      cases hA : A 2 with
      | true =>
        rw [hA] at hg
        rw [if_pos hA] at e
        rw [e] at hp
        exact wpOp_skipped rfl (wanted_false rfl rfl hg) hp
      | false =>
        rw [hA] at hg
        rw [if_neg (by rw [hA]; decide)] at e
        rw [e] at hp
        rw [if_neg (by rw [hA]; decide)] at h2
        have hcell : w1.cell? ⟨w.heap.size + 1, 37, none⟩ = some (.bool (B 2)) := hJ.cell1 2 (by decide)
        refine wpOp_val (v := .bool (B 2)) rfl (wanted_true rfl rfl hg) ?_ hp
        go_simp
    obtain rfl | hi1 : i = 17 ∨ 18 ≤ i := by omega
    · have hg : a.tmps[25]? = some (.bool (A 2)) := hJ.at hr 14 (by kernel_rfl) (by decide) (.inl (by decide))
      have h2 : a.tmps[27]? = some (if A 2 = true then undef else .bool (B 2)) := hJ.at hr 16 (by kernel_rfl) (by decide) (.inl (by decide))
      have hp := hJ.put 17 (by decide) (.inl (by decide))
      have e : VJ w.heap.size (w.heap.size + 1) A B 17 = .bool (A 2 || B 2) := rfl
      cases hA : A 2 with
      | true =>
        rw [hA] at hg e
        rw [e] at hp
        refine wpOp_val (v := .bool true) rfl rfl ?_ hp
        go_simp
      | false =>
        rw [hA] at hg e
        rw [if_neg (by rw [hA]; decide)] at h2
        rw [e] at hp
        refine wpOp_val (v := .bool (B 2)) rfl rfl ?_ hp
        go_simp
    obtain rfl | hi1 : i = 18 ∨ 19 ≤ i := by omega
    · have h2 := hJ.t2
      have hp := hJ.put 18 (by decide) (.inl (by decide))
      refine wpOp_val (v := .pointer (some ⟨w.heap.size, 38, none⟩)) rfl rfl ?_ hp
      go_simp
    obtain rfl | hi1 : i = 19 ∨ 20 ≤ i := by omega
    · have h2 : a.tmps[29]? = some (.pointer (some ⟨w.heap.size, 38, none⟩)) := hJ.at hr 18 (by kernel_rfl) (by decide) (.inl (by decide))
      have hcell : w1.cell? ⟨w.heap.size, 38, none⟩ = some (.bool (A 3)) := hJ.cell0 3 (by decide) (by
        cases hq : listed.getD (31 + 2 * 3) false with
        | false => rfl
        | true => have := hc 37 19 (by kernel_rfl) hq; rw [hu] at this; cases this)
      have hp := hJ.put 19 (by decide) (.inl (by decide))
      refine wpOp_val (v := .bool (A 3)) rfl rfl ?_ hp
      go_simp
    obtain rfl | hi1 : i = 20 ∨ 21 ≤ i := by omega
    · have h2 : a.tmps[30]? = some (.bool (A 3)) := hJ.at hr 19 (by kernel_rfl) (by decide) (.inl (by decide))
      have hp := hJ.put 20 (by decide) (.inl (by decide))
      refine wpOp_val (v := .bool (A 3)) rfl rfl ?_ hp
      go_simp
    obtain rfl | hi1 : i = 21 ∨ 22 ≤ i := by omega
    · have hg : a.tmps[31]? = some (.bool (A 3)) := hJ.at hr 20 (by kernel_rfl) (by decide) (.inl (by decide))
      have hp := hJ.put 21 (by decide) (.inl (by decide))
      have e : VJ w.heap.size (w.heap.size + 1) A B 21 = if A 3 = true then undef else .pointer (some ⟨w.heap.size + 1, 38, none⟩) := rfl
      cases hA : A 3 with
      | true =>
        rw [hA] at hg
        rw [if_pos hA] at e
        rw [e] at hp
        exact wpOp_skipped rfl (wanted_false rfl rfl hg) hp
      | false =>
        rw [hA] at hg
        rw [if_neg (by rw [hA]; decide)] at e
        rw [e] at hp
        have h3 := hJ.t3
        refine wpOp_val (v := .pointer (some ⟨w.heap.size + 1, 38, none⟩)) rfl (wanted_true rfl rfl hg) ?_ hp
        go_simp
    obtain rfl | hi1 : i = 22 ∨ 23 ≤ i := by omega
    · have hg : a.tmps[31]? = some (.bool (A 3)) := hJ.at hr 20 (by kernel_rfl) (by decide) (.inl (by decide))
      have hp := hJ.put 22 (by decide) (.inl (by decide))
      have e : VJ w.heap.size (w.heap.size + 1) A B 22 = if A 3 = true then undef else .bool (B 3) := rfl
      have h2 : a.tmps[32]? = some (if A 3 = true then undef else .pointer (some ⟨w.heap.size + 1, 38, none⟩)) := hJ.at hr 21 (by kernel_rfl) (by decide) (.inl (by decide))
      cases hA : A 3 with
      | true =>
        rw [hA] at hg
        rw [if_pos hA] at e
        rw [e] at hp
        exact wpOp_skipped rfl (wanted_false rfl rfl hg) hp
      | false =>
        rw [hA] at hg
        rw [if_neg (by rw [hA]; decide)] at e
        rw [e] at hp
        rw [if_neg (by rw [hA]; decide)] at h2
        have hcell : w1.cell? ⟨w.heap.size + 1, 38, none⟩ = some (.bool (B 3)) := hJ.cell1 3 (by decide)
        refine wpOp_val (v := .bool (B 3)) rfl (wanted_true rfl rfl hg) ?_ hp
        go_simp
    obtain rfl | hi1 : i = 23 ∨ 24 ≤ i := by omega
    · have hg : a.tmps[31]? = some (.bool (A 3)) := hJ.at hr 20 (by kernel_rfl) (by decide) (.inl (by decide))
      have h2 : a.tmps[33]? = some (if A 3 = true then undef else .bool (B 3)) := hJ.at hr 22 (by kernel_rfl) (by decide) (.inl (by decide))
      have hp := hJ.put 23 (by decide) (.inl (by decide))
      have e : VJ w.heap.size (w.heap.size + 1) A B 23 = .bool (A 3 || B 3) := rfl
      cases hA : A 3 with
      | true =>
        rw [hA] at hg e
        rw [e] at hp
        refine wpOp_val (v := .bool true) rfl rfl ?_ hp
        go_simp
      | false =>
        rw [hA] at hg e
        rw [if_neg (by rw [hA]; decide)] at h2
        rw [e] at hp
        refine wpOp_val (v := .bool (B 3)) rfl rfl ?_ hp
        go_simp
    obtain rfl | hi1 : i = 24 ∨ 25 ≤ i := by omega
    · have h2 := hJ.t2
      have hp := hJ.put 24 (by decide) (.inl (by decide))
      refine wpOp_val (v := .pointer (some ⟨w.heap.size, 39, none⟩)) rfl rfl ?_ hp
      go_simp
    obtain rfl | hi1 : i = 25 ∨ 26 ≤ i := by omega
    · have h2 : a.tmps[35]? = some (.pointer (some ⟨w.heap.size, 39, none⟩)) := hJ.at hr 24 (by kernel_rfl) (by decide) (.inl (by decide))
      have hcell : w1.cell? ⟨w.heap.size, 39, none⟩ = some (.bool (A 4)) := hJ.cell0 4 (by decide) (by
        cases hq : listed.getD (31 + 2 * 4) false with
        | false => rfl
        | true => have := hc 39 25 (by kernel_rfl) hq; rw [hu] at this; cases this)
      have hp := hJ.put 25 (by decide) (.inl (by decide))
      refine wpOp_val (v := .bool (A 4)) rfl rfl ?_ hp
      go_simp
    obtain rfl | hi1 : i = 26 ∨ 27 ≤ i := by omega
    · have h2 : a.tmps[36]? = some (.bool (A 4)) := hJ.at hr 25 (by kernel_rfl) (by decide) (.inl (by decide))
      have hp := hJ.put 26 (by decide) (.inl (by decide))
      refine wpOp_val (v := .bool (A 4)) rfl rfl ?_ hp
      go_simp
    obtain rfl | hi1 : i = 27 ∨ 28 ≤ i := by omega
    · have hg : a.tmps[37]? = some (.bool (A 4)) := hJ.at hr 26 (by kernel_rfl) (by decide) (.inl (by decide))
      have hp := hJ.put 27 (by decide) (.inl (by decide))
      have e : VJ w.heap.size (w.heap.size + 1) A B 27 = if A 4 = true then undef else .pointer (some ⟨w.heap.size + 1, 39, none⟩) := rfl
      cases hA : A 4 with
      | true =>
        rw [hA] at hg
        rw [if_pos hA] at e
        rw [e] at hp
        exact wpOp_skipped rfl (wanted_false rfl rfl hg) hp
      | false =>
        rw [hA] at hg
        rw [if_neg (by rw [hA]; decide)] at e
        rw [e] at hp
        have h3 := hJ.t3
        refine wpOp_val (v := .pointer (some ⟨w.heap.size + 1, 39, none⟩)) rfl (wanted_true rfl rfl hg) ?_ hp
        go_simp
    obtain rfl | hi1 : i = 28 ∨ 29 ≤ i := by omega
    · have hg : a.tmps[37]? = some (.bool (A 4)) := hJ.at hr 26 (by kernel_rfl) (by decide) (.inl (by decide))
      have hp := hJ.put 28 (by decide) (.inl (by decide))
      have e : VJ w.heap.size (w.heap.size + 1) A B 28 = if A 4 = true then undef else .bool (B 4) := rfl
      have h2 : a.tmps[38]? = some (if A 4 = true then undef else .pointer (some ⟨w.heap.size + 1, 39, none⟩)) := hJ.at hr 27 (by kernel_rfl) (by decide) (.inl (by decide))
      cases hA : A 4 with
      | true =>
        rw [hA] at hg
        rw [if_pos hA] at e
        rw [e] at hp
        exact wpOp_skipped rfl (wanted_false rfl rfl hg) hp
      | false =>
        rw [hA] at hg
        rw [if_neg (by rw [hA]; decide)] at e
        rw [e] at hp
        rw [if_neg (by rw [hA]; decide)] at h2
        have hcell : w1.cell? ⟨w.heap.size + 1, 39, none⟩ = some (.bool (B 4)) := hJ.cell1 4 (by decide)
        refine wpOp_val (v := .bool (B 4)) rfl (wanted_true rfl rfl hg) ?_ hp
        go_simp
    obtain rfl | hi1 : i = 29 ∨ 30 ≤ i := by omega
    · have hg : a.tmps[37]? = some (.bool (A 4)) := hJ.at hr 26 (by kernel_rfl) (by decide) (.inl (by decide))
      have h2 : a.tmps[39]? = some (if A 4 = true then undef else .bool (B 4)) := hJ.at hr 28 (by kernel_rfl) (by decide) (.inl (by decide))
      have hp := hJ.put 29 (by decide) (.inl (by decide))
      have e : VJ w.heap.size (w.heap.size + 1) A B 29 = .bool (A 4 || B 4) := rfl
      cases hA : A 4 with
      | true =>
        rw [hA] at hg e
        rw [e] at hp
        refine wpOp_val (v := .bool true) rfl rfl ?_ hp
        go_simp
      | false =>
        rw [hA] at hg e
        rw [if_neg (by rw [hA]; decide)] at h2
        rw [e] at hp
        refine wpOp_val (v := .bool (B 4)) rfl rfl ?_ hp
        go_simp
    obtain rfl | hi1 : i = 30 ∨ 31 ≤ i := by omega
    · have h2 := hJ.t2
      have hp := hJ.put 30 (by decide) (.inr (by decide))
      refine wpOp_val (v := .pointer (some ⟨w.heap.size, 35, none⟩)) rfl rfl ?_ hp
      go_simp
    obtain rfl | hi1 : i = 31 ∨ 32 ≤ i := by omega
    · have h2 : a.tmps[41]? = some (.pointer (some ⟨w.heap.size, 35, none⟩)) := hJ.at hr 30 (by kernel_rfl) (by decide) (.inr (by decide))
      have h3 : a.tmps[16]? = some (.bool (A 0 || B 0)) := hJ.at hr 5 (by kernel_rfl) (by decide) (.inl (by decide))
      have hcell : w1.cell? ⟨w.heap.size, 35, none⟩ = some (.bool (curJ A B listed 0)) := by rw [cell_of_row _ _ _ _ _ _ hJ.h0, sumC_fl _ _ 0 (by decide)]
      have hfz := frozen_of_row hJ.h0 35
      have hp := hJ.store 0 (by decide) hs (Nat.le_refl _) (by omega) (by omega)
      generalize (A 0 || B 0) = b at h3 hp
      generalize curJ A B listed 0 = c at hcell
      refine wpOp_skip rfl rfl ?_ hp
      go_simp
    obtain rfl | hi1 : i = 32 ∨ 33 ≤ i := by omega
    · have h2 := hJ.t2
      have hp := hJ.put 32 (by decide) (.inr (by decide))
      refine wpOp_val (v := .pointer (some ⟨w.heap.size, 36, none⟩)) rfl rfl ?_ hp
      go_simp
    obtain rfl | hi1 : i = 33 ∨ 34 ≤ i := by omega
    · have h2 : a.tmps[42]? = some (.pointer (some ⟨w.heap.size, 36, none⟩)) := hJ.at hr 32 (by kernel_rfl) (by decide) (.inr (by decide))
      have h3 : a.tmps[22]? = some (.bool (A 1 || B 1)) := hJ.at hr 11 (by kernel_rfl) (by decide) (.inl (by decide))
      have hcell : w1.cell? ⟨w.heap.size, 36, none⟩ = some (.bool (curJ A B listed 1)) := by rw [cell_of_row _ _ _ _ _ _ hJ.h0, sumC_fl _ _ 1 (by decide)]
      have hfz := frozen_of_row hJ.h0 36
      have hp := hJ.store 1 (by decide) hs (Nat.le_refl _) (by omega) (by omega)
      generalize (A 1 || B 1) = b at h3 hp
      generalize curJ A B listed 1 = c at hcell
      refine wpOp_skip rfl rfl ?_ hp
      go_simp
    obtain rfl | hi1 : i = 34 ∨ 35 ≤ i := by omega
    · have h2 := hJ.t2
      have hp := hJ.put 34 (by decide) (.inr (by decide))
      refine wpOp_val (v := .pointer (some ⟨w.heap.size, 37, none⟩)) rfl rfl ?_ hp
      go_simp
    obtain rfl | hi1 : i = 35 ∨ 36 ≤ i := by omega
    · have h2 : a.tmps[43]? = some (.pointer (some ⟨w.heap.size, 37, none⟩)) := hJ.at hr 34 (by kernel_rfl) (by decide) (.inr (by decide))
      have h3 : a.tmps[28]? = some (.bool (A 2 || B 2)) := hJ.at hr 17 (by kernel_rfl) (by decide) (.inl (by decide))
      have hcell : w1.cell? ⟨w.heap.size, 37, none⟩ = some (.bool (curJ A B listed 2)) := by rw [cell_of_row _ _ _ _ _ _ hJ.h0, sumC_fl _ _ 2 (by decide)]
      have hfz := frozen_of_row hJ.h0 37
      have hp := hJ.store 2 (by decide) hs (Nat.le_refl _) (by omega) (by omega)
      generalize (A 2 || B 2) = b at h3 hp
      generalize curJ A B listed 2 = c at hcell
      refine wpOp_skip rfl rfl ?_ hp
      go_simp
    obtain rfl | hi1 : i = 36 ∨ 37 ≤ i := by omega
    · have h2 := hJ.t2
      have hp := hJ.put 36 (by decide) (.inr (by decide))
      refine wpOp_val (v := .pointer (some ⟨w.heap.size, 38, none⟩)) rfl rfl ?_ hp
      go_simp
    obtain rfl | hi1 : i = 37 ∨ 38 ≤ i := by omega
    · have h2 : a.tmps[44]? = some (.pointer (some ⟨w.heap.size, 38, none⟩)) := hJ.at hr 36 (by kernel_rfl) (by decide) (.inr (by decide))
      have h3 : a.tmps[34]? = some (.bool (A 3 || B 3)) := hJ.at hr 23 (by kernel_rfl) (by decide) (.inl (by decide))
      have hcell : w1.cell? ⟨w.heap.size, 38, none⟩ = some (.bool (curJ A B listed 3)) := by rw [cell_of_row _ _ _ _ _ _ hJ.h0, sumC_fl _ _ 3 (by decide)]
      have hfz := frozen_of_row hJ.h0 38
      have hp := hJ.store 3 (by decide) hs (Nat.le_refl _) (by omega) (by omega)
      generalize (A 3 || B 3) = b at h3 hp
      generalize curJ A B listed 3 = c at hcell
      refine wpOp_skip rfl rfl ?_ hp
      go_simp
    obtain rfl | hi1 : i = 38 ∨ 39 ≤ i := by omega
    · have h2 := hJ.t2
      have hp := hJ.put 38 (by decide) (.inr (by decide))
      refine wpOp_val (v := .pointer (some ⟨w.heap.size, 39, none⟩)) rfl rfl ?_ hp
      go_simp
    obtain rfl : i = 39 := by omega
    have h2 : a.tmps[45]? = some (.pointer (some ⟨w.heap.size, 39, none⟩)) := hJ.at hr 38 (by kernel_rfl) (by decide) (.inr (by decide))
    have h3 : a.tmps[40]? = some (.bool (A 4 || B 4)) := hJ.at hr 29 (by kernel_rfl) (by decide) (.inl (by decide))
    have hcell : w1.cell? ⟨w.heap.size, 39, none⟩ = some (.bool (curJ A B listed 4)) := by rw [cell_of_row _ _ _ _ _ _ hJ.h0, sumC_fl _ _ 4 (by decide)]
    have hfz := frozen_of_row hJ.h0 39
    have hp := hJ.store 4 (by decide) hs (Nat.le_refl _) (by omega) (by omega)
    generalize (A 4 || B 4) = b at h3 hp
    generalize curJ A B listed 4 = c at hcell
    refine wpOp_skip rfl rfl ?_ hp
    go_simp
  · intro listed a w1 hJ hall
    have hcur : mkSt (s.w + o.w) (curJ (fl s) (fl o) listed) = joinSt s o := by
      have c : ∀ f, f < 5 → curJ (fl s) (fl o) listed f = (fl s f || fl o f) := fun f hf => by
        unfold curJ
        rw [if_pos (hall (31 + 2 * f) (show 31 + 2 * f < 40 by omega))]
      unfold mkSt
      rw [c 0 (by decide), c 1 (by decide), c 2 (by decide), c 3 (by decide), c 4 (by decide)]
      rfl
    have h0 := hJ.h0
    rw [hcur] at h0
    have H0 := Lib.hid h0
    have H2 := Lib.hid hJ.h2
    have t2 := hJ.t2
    have t4 := hJ.t4
    have bb6 := hJ.bel
    obtain ⟨tmps, dfs⟩ := a
    obtain rfl : dfs = [] := hJ.dfs
    have tsz : tmps.size = 47 := hJ.tsz
    clear hJ hcur hall h0 g0h g1h g2h g3h g4h g5h bb5 bb hp Hset Hfr zz
    have e2 : tmps.getD 2 undef = .pointer (some ⟨w.heap.size, 0, none⟩) := by rw [Array.getD_eq_getD_getElem?, t2]; rfl
    have e4 : ∀ v, (tmps.setIfInBounds 46 v).getD 4 undef = .pointer (some ⟨w.heap.size + 2, 0, none⟩) := fun v => by rw [Array.getD_eq_getD_getElem?, Array.getElem?_setIfInBounds_ne (by decide), t4]; rfl
    have e46 : ∀ v, (tmps.setIfInBounds 46 v).getD 46 undef = v := fun v => by rw [Array.getD_eq_getD_getElem?, Array.getElem?_setIfInBounds_self_of_lt (by omega)]; rfl
    clear t2 t4 tsz
    go_wp2_with (first
      | (refine at_op (.load 43 (.tmp 2)) ?_ rfl; refine wpList_load_row rfl 43 (.tmp 2) rfl w.heap.size e2 43 _ (0, 0) _ H0.out Try.underlying43 rfl (by rw [sumC_size]; exact Hs.out) ?_)
      | (refine at_op (.store 43 (.tmp 4) (.tmp 46)) ?_ rfl; refine wpList_store_row rfl 43 (.tmp 4) (.tmp 46) rfl (w.heap.size + 2) (sumC (joinSt s o)) (e4 _) (e46 _) 43 Z H2.out (by rw [sumC_size]; exact Hs.out) (by rw [hZ, sumC_size]) (sumC_one _) ?_))
    exact bodyPost_ret (results_cell_row rfl _ _ (w.heap.size + 2) 43 _ (0, 0) _ (e4 _) (setRow_heap _ _ _ _ _ _ H2.out) Try.underlying43 rfl (by rw [sumC_size]; exact Hs.out)) rfl ⟨rfl, below_setRow bb6 (by omega) _⟩
end Go.Proofs.Ythplelglifnhoaa
/-! Exact sums: a sum's bytes, said plainly. -/
namespace Go.Proofs.Ythplelglifnhoaa
open Go.RowKit
set_option linter.unusedVariables false

/-- A whole number's bytes, the lowest first. -/
def byt (W i : Nat) : Int := ((W / 2 ^ (8 * i) % 256 : Nat) : Int)
def full (W : Nat) : Nat → List Int
  | 0 => []
  | n + 1 => full W n ++ [byt W n]
theorem full_length (W : Nat) : ∀ n, (full W n).length = n := by
  intro n
  induction n with
  | zero => rfl
  | succ n ih => rw [full, List.length_append, ih]; rfl
theorem byt_range (W i : Nat) : 0 ≤ byt W i ∧ byt W i ≤ 255 := by unfold byt; omega
theorem rd_full (W : Nat) (i : Nat) : ∀ n, i < n → rd (full W n) i = byt W i := by
  intro n
  induction n with
  | zero => intro h; omega
  | succ n ih =>
    intro h
    rw [full, rd_append, full_length]
    by_cases e : i < n
    · rw [if_pos e]; exact ih e
    · rw [if_neg e]
      obtain rfl : i = n := by omega
      rw [Nat.sub_self]; rfl
theorem full_bytes (W n : Nat) : Bytes8 (full W n) := fun i hi => by
  rw [full_length] at hi
  rw [rd_full W i n hi]; exact byt_range W i
theorem full_take (W m : Nat) : ∀ n, m ≤ n → (full W n).take m = full W m := by
  intro n
  induction n with
  | zero => intro h; obtain rfl : m = 0 := by omega
            rfl
  | succ n ih =>
    intro h
    by_cases e : m = n + 1
    · subst e; rw [List.take_of_length_le (by rw [full_length]; exact Nat.le_refl _)]
    · rw [full, List.take_append_of_le_length (by rw [full_length]; omega)]
      exact ih (by omega)
/-- How many bytes are left where the last ones tell only the sign. -/
def trim (f : Nat → Int) (r : Int) : Nat → Nat
  | 0 => 0
  | n + 1 => if f n = r ∧ ((n = 0 ∧ r = 0) ∨ (0 < n ∧ f (n - 1) / 128 = r / 128)) then trim f r n else n + 1
theorem trim_le (f : Nat → Int) (r : Int) : ∀ n, trim f r n ≤ n := by
  intro n
  induction n with
  | zero => exact Nat.le_refl _
  | succ n ih => rw [trim]; split <;> omega
def restOf (sg : Bool) : Int := if sg = true then 255 else 0
def pw (k : Nat) : Int := match k with | 0 => 1 | 1 => 2 | 2 => 4 | 3 => 8 | _ => 16
def fbyte (A : Nat → Bool) : Nat → Int
  | 0 => 0
  | k + 1 => if A k = true then bits .or .u8 (fbyte A k) (pw k) else fbyte A k
def bytesOf (s : St) : List Int := fbyte (fl s) 5 :: full s.w (trim (byt s.w) (restOf (sgOf s.w)) 280)
theorem fbyte_eq (A : Nat → Bool) : fbyte A 5 = (A 0).toNat + 2 * (A 1).toNat + 4 * (A 2).toNat + 8 * (A 3).toNat + 16 * (A 4).toNat := by
  unfold fbyte fbyte fbyte fbyte fbyte fbyte
  cases A 0 <;> cases A 1 <;> cases A 2 <;> cases A 3 <;> cases A 4 <;> decide
theorem fbyte_range (A : Nat → Bool) : 0 ≤ fbyte A 5 ∧ fbyte A 5 ≤ 31 := by
  rw [fbyte_eq]
  cases A 0 <;> cases A 1 <;> cases A 2 <;> cases A 3 <;> cases A 4 <;> decide
theorem bytesOf_bytes (s : St) : Bytes8 (bytesOf s) := Bytes8.cons (by have := fbyte_range (fl s); omega) (full_bytes _ _)
/-- A word's bytes. -/
theorem byt_word (W k j : Nat) (hj : j < 8) : ((wdn W k : Nat) : Int) / 2 ^ (8 * j) % 256 = byt W (8 * k + j) := by
  unfold byt wdn
  have e : (W / 2 ^ (64 * k) % 18446744073709551616) / 2 ^ (8 * j) % 256 = W / 2 ^ (8 * (8 * k + j)) % 256 := by
    rw [show (18446744073709551616 : Nat) = 2 ^ (8 * j) * 2 ^ (64 - 8 * j) by rw [← Nat.pow_add, show 8 * j + (64 - 8 * j) = 64 by omega], Nat.mod_mul_right_div_self, Nat.div_div_eq_div_mul, ← Nat.pow_add, show 64 * k + 8 * j = 8 * (8 * k + j) by omega]
    exact Nat.mod_mod_of_dvd _ (by
      rw [show (256 : Nat) = 2 ^ 8 from rfl]
      exact Nat.pow_dvd_pow 2 (by omega))
  rw [← e]
  simp
end Go.Proofs.Ythplelglifnhoaa
/-! Exact sums: a sum's bytes: the walk. -/
namespace Go.Proofs.Ythplelglifnhoaa
open Go.RowKit
set_option linter.unusedVariables false
attribute [-simp] Try.isAgg41
attribute [-simp] Try.isAgg43 Try.sizeOf43 Try.typeInfo43 Try.type43

def lenV : Value → Nat
  | .slice _ n _ => n
  | _ => 0
set_option maxRecDepth 100000 in
theorem infoU8 : (Try.prog.info? 5).map (fun i => (i.zero, i.size, i.bytes)) = some (some (.int .u8 0), 1, 1) := by kernel_rfl
theorem marks_at (A : Nat → Bool) (k : Nat) (hk : k < 5) : (#[Value.bool (A 0), .bool (A 1), .bool (A 2), .bool (A 3), .bool (A 4)] : Array Value)[k]? = some (.bool (A k)) := by
  match k, hk with
  | 0, _ => rfl
  | 1, _ => rfl
  | 2, _ => rfl
  | 3, _ => rfl
  | 4, _ => rfl
theorem pw_wrap (k : Nat) (hk : k < 5) : IntKind.u8.wrap (2 ^ k) = pw k := by
  match k, hk with
  | 0, _ => rfl
  | 1, _ => rfl
  | 2, _ => rfl
  | 3, _ => rfl
  | 4, _ => rfl
end Go.Proofs.Ythplelglifnhoaa
