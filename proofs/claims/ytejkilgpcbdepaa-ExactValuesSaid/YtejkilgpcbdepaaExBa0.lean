import Derived.Test.YtejkilgpcbdepaaExInv
/-! Exact sums: two sums joined. (Printed by mkBa.py.) -/
namespace Go.Proofs.Ytejkilgpcbdepaa
open Go.RowKit
set_option linter.unusedVariables false
attribute [-simp] Try.isAgg28
attribute [-simp] Try.isAgg30 Try.sizeOf30 Try.typeInfo30 Try.type30

def joinSt (s o : St) : St := ⟨s.w + o.w, s.nan || o.nan, s.pos || o.pos, s.neg || o.neg, s.any || o.any, s.other || o.other⟩
/-- A sum from its whole number and its five marks. -/
def mkSt (W : Nat) (A : Nat → Bool) : St := ⟨W, A 0, A 1, A 2, A 3, A 4⟩
def fl (s : St) (f : Nat) : Bool := match f with | 0 => s.nan | 1 => s.pos | 2 => s.neg | 3 => s.any | _ => s.other
theorem mkSt_fl (s : St) (W : Nat) : mkSt W (fl s) = { s with w := W } := rfl
theorem sumC_fl (W : Nat) (A : Nat → Bool) (f : Nat) (h : f < 5) : (sumC (mkSt W A))[35 + f]? = some (.bool (A f)) := by
  rw [sumC_f]
  match f, h with
  | 0, _ => rfl
  | 1, _ => rfl
  | 2, _ => rfl
  | 3, _ => rfl
  | 4, _ => rfl
theorem sumC_set (W : Nat) (A : Nat → Bool) (f : Nat) (h : f < 5) (b : Bool) : (sumC (mkSt W A)).setIfInBounds (35 + f) (.bool b) = sumC (mkSt W (fun k => if k = f then b else A k)) := by
  apply Array.ext_getElem?
  intro i
  by_cases hi : i < 35
  · rw [Array.getElem?_setIfInBounds_ne (by omega), sumC_w _ i hi, sumC_w _ i hi]; rfl
  · by_cases h5 : i < 40
    · obtain ⟨k, rfl⟩ : ∃ k, i = 35 + k := ⟨i - 35, by omega⟩
      rw [sumC_fl W _ k (by omega)]
      by_cases e : k = f
      · subst e
        rw [Array.getElem?_setIfInBounds_self_of_lt (by rw [sumC_size]; omega), if_pos rfl]
      · rw [Array.getElem?_setIfInBounds_ne (by omega), sumC_fl W A k (by omega), if_neg e]
    · rw [Array.getElem?_eq_none (by rw [Array.size_setIfInBounds, sumC_size]; omega), Array.getElem?_eq_none (by rw [sumC_size]; omega)]
/-- What the operations of the region leave, and where. -/
def VJ (g g1 : Nat) (A B : Nat → Bool) (i : Nat) : Value :=
  if i < 30 then (match i % 6 with
    | 0 => .pointer (some ⟨g, 35 + i / 6, none⟩)
    | 1 => .bool (A (i / 6))
    | 2 => .bool (A (i / 6))
    | 3 => if A (i / 6) = true then undef else .pointer (some ⟨g1, 35 + i / 6, none⟩)
    | 4 => if A (i / 6) = true then undef else .bool (B (i / 6))
    | _ => .bool (A (i / 6) || B (i / 6)))
  else .pointer (some ⟨g, 35 + (i - 30) / 2, none⟩)
def DJ (i : Nat) : Nat := if i < 30 then 11 + i else 41 + (i - 30) / 2
def curJ (A B : Nat → Bool) (listed : Array Bool) (f : Nat) : Bool := if listed.getD (31 + 2 * f) false = true then A f || B f else A f
structure JI (g g1 g2 : Nat) (A B : Nat → Bool) (W W' : Nat) (Z : Array Value) (B0 : Nat) (w0 : World) (listed : Array Bool) (a : Act) (w : World) : Prop where
  tsz : a.tmps.size = 47
  dfs : a.defers = []
  t2 : a.tmps[2]? = some (.pointer (some ⟨g, 0, none⟩))
  t3 : a.tmps[3]? = some (.pointer (some ⟨g1, 0, none⟩))
  t4 : a.tmps[4]? = some (.pointer (some ⟨g2, 0, none⟩))
  val : ∀ i, i < 40 → (i < 30 ∨ i % 2 = 0) → listed.getD i false = true → a.tmps[DJ i]? = some (VJ g g1 A B i)
  h0 : w.heap[g]? = some (.cells (sumC (mkSt W (curJ A B listed))) 30 (0, 0))
  h1 : w.heap[g1]? = some (.cells (sumC (mkSt W' B)) 30 (0, 0))
  h2 : w.heap[g2]? = some (.cells Z 30 (0, 0))
  bel : Below B0 w0 w
section
variable {g g1 g2 : Nat} {A B : Nat → Bool} {W W' : Nat} {Z : Array Value} {B0 : Nat} {w0 : World} {listed : Array Bool} {a : Act} {w : World} {ops : Array Oper}
theorem DJ_inj {i j : Nat} (hi : i < 40) (hj : j < 40) (ki : i < 30 ∨ i % 2 = 0) (kj : j < 30 ∨ j % 2 = 0) (h : DJ i = DJ j) : i = j := by
  unfold DJ at h
  split at h <;> split at h <;> omega
theorem JI.put (h : JI g g1 g2 A B W W' Z B0 w0 listed a w) (i : Nat) (hi : i < 40) (ki : i < 30 ∨ i % 2 = 0) :
    JI g g1 g2 A B W W' Z B0 w0 (listed.setIfInBounds i true) (a.put (some (DJ i)) (VJ g g1 A B i)) w := by
  have hD : 11 ≤ DJ i ∧ DJ i < 47 := by unfold DJ; split <;> omega
  refine ⟨?_, h.dfs, ?_, ?_, ?_, fun j hj kj hl => ?_, ?_, h.h1, h.h2, h.bel⟩
  · show (a.tmps.setIfInBounds _ _).size = 47
    rw [Array.size_setIfInBounds]; exact h.tsz
  · show (a.tmps.setIfInBounds _ _)[2]? = _
    rw [Array.getElem?_setIfInBounds_ne (by omega)]; exact h.t2
  · show (a.tmps.setIfInBounds _ _)[3]? = _
    rw [Array.getElem?_setIfInBounds_ne (by omega)]; exact h.t3
  · show (a.tmps.setIfInBounds _ _)[4]? = _
    rw [Array.getElem?_setIfInBounds_ne (by omega)]; exact h.t4
  · show (a.tmps.setIfInBounds _ _)[DJ j]? = _
    by_cases e : i = j
    · subst e
      rw [Array.getElem?_setIfInBounds_self_of_lt (by rw [h.tsz]; omega)]
    · rw [Array.getElem?_setIfInBounds_ne (fun h => e (DJ_inj hi hj ki kj h))]
      rw [getD_set_ne false e] at hl
      exact h.val j hj kj hl
  · have : curJ A B (listed.setIfInBounds i true) = curJ A B listed := by
      funext f
      unfold curJ
      rw [getD_set_ne false (by omega)]
    rw [this]; exact h.h0
theorem JI.store (h : JI g g1 g2 A B W W' Z B0 w0 listed a w) (f : Nat) (hf : f < 5) (hs : listed.size = 40) (hB : B0 ≤ g) (n1 : g ≠ g1) (n2 : g ≠ g2) :
    JI g g1 g2 A B W W' Z B0 w0 (listed.setIfInBounds (31 + 2 * f) true) a (w.setCell ⟨g, 35 + f, none⟩ (.bool (A f || B f))) := by
  rw [setCell_eq_setRow h.h0, sumC_set W _ f hf]
  have hc : (fun k => if k = f then (A f || B f) else curJ A B listed k) = curJ A B (listed.setIfInBounds (31 + 2 * f) true) := by
    funext k
    unfold curJ
    by_cases e : k = f
    · subst e
      rw [if_pos rfl, getD_set_self listed (31 + 2 * k) false (by omega), if_pos rfl]
    · rw [if_neg e, getD_set_ne false (by omega)]
  rw [hc]
  refine ⟨h.tsz, h.dfs, h.t2, h.t3, h.t4, fun j hj kj hl => ?_, setRow_heap _ _ _ _ _ _ h.h0, (setRow_other _ _ _ _ n1.symm).trans h.h1, (setRow_other _ _ _ _ n2.symm).trans h.h2, below_setRow h.bel hB _⟩
  rw [getD_set_ne false (by omega)] at hl
  exact h.val j hj kj hl
theorem JI.at (h : JI g g1 g2 A B W W' Z B0 w0 listed a w) {j : Nat} (hr : j ∈ Region.ready .any ops listed) (i : Nat) (hw : Region.waitsFor .any ops j i = true) (hi : i < 40) (ki : i < 30 ∨ i % 2 = 0) : a.tmps[DJ i]? = some (VJ g g1 A B i) :=
  h.val i hi ki (dep_of hr hw)
theorem JI.cell0 (h : JI g g1 g2 A B W W' Z B0 w0 listed a w) (f : Nat) (hf : f < 5) (hl : listed.getD (31 + 2 * f) false = false) : w.cell? ⟨g, 35 + f, none⟩ = some (.bool (A f)) := by
  rw [cell_of_row _ _ _ _ _ _ h.h0, sumC_fl W _ f hf]
  unfold curJ
  rw [if_neg (by rw [hl]; decide)]
theorem JI.cell1 (h : JI g g1 g2 A B W W' Z B0 w0 listed a w) (f : Nat) (hf : f < 5) : w.cell? ⟨g1, 35 + f, none⟩ = some (.bool (B f)) := by
  rw [cell_of_row _ _ _ _ _ _ h.h1, sumC_fl W' B f hf]
end
end Go.Proofs.Ytejkilgpcbdepaa
