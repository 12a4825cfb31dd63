import Derived.Test.YtgpfoamhcoipgaaDoorBase
import Derived.Laws.CopyOwn
import Derived.Laws.Externs
import Derived.BigFrame
import Derived.StillTail
import Derived.Deep.MidRow
import Derived.Test.YtgpfoamhcoipgaaDoorRl
import Derived.Deep.DeepCutAuto
import Derived.Deep.CutBlock
/-! Exact sums: the walk of plus and minus. -/
namespace Go.Proofs.YtgpfoamhcoipgaaDoor
open Go.RowKit
set_option linter.unusedVariables false

theorem heap_setCell_at {w : World} {g k : Nat} {cs : Array Value} {t : TypeId} {fr : Nat × Nat} (h : w.heap[g]? = some (.cells cs t fr)) (u : Value) :
    (w.setCell ⟨g, k, none⟩ u).heap[g]? = some (.cells (cs.setIfInBounds k u) t fr) := by
  simp [World.setCell, Array.getElem?_modify, h]
theorem frozen_of_row {w : World} {g : Nat} {cs : Array Value} {t : TypeId} (h : w.heap[g]? = some (.cells cs t (0, 0))) (k : Nat) : w.frozen? ⟨g, k, none⟩ = false := by
  simp [World.frozen?, h]
end Go.Proofs.YtgpfoamhcoipgaaDoor
/-! Exact sums: rows that lie at the head of a block; the words of a finite number. -/
namespace Go.Proofs.YtgpfoamhcoipgaaDoor
open Go.RowKit
set_option linter.unusedVariables false

theorem setCell_eq_setRow {w : World} {g k : Nat} {C : Array Value} {t : TypeId} {fr : Nat × Nat} (h : w.heap[g]? = some (.cells C t fr)) (v : Value) : w.setCell ⟨g, k, none⟩ v = w.setRow g (C.setIfInBounds k v) := by
  simp only [World.setRow, World.setCell]
  congr 1
  apply Array.ext_getElem?
  intro i
  rw [Array.getElem?_modify, Array.getElem?_modify]
  by_cases hi : g = i
  · subst hi
    simp [h]
  · simp [hi]
theorem setRow_setRow {w : World} {g : Nat} {C D : Array Value} : (w.setRow g C).setRow g D = w.setRow g D := by
  simp only [World.setRow]
  congr 1
  apply Array.ext_getElem?
  intro i
  rw [Array.getElem?_modify, Array.getElem?_modify, Array.getElem?_modify]
  by_cases hi : g = i
  · subst hi
    simp only [if_true, Option.map_map]
    congr 1
    funext o
    cases o <;> rfl
  · simp [hi]
/-- A row with a list written over it from o on. -/
def setMany (C : Array Value) (o : Nat) : List Value → Array Value
  | [] => C
  | v :: r => setMany (C.setIfInBounds o v) (o + 1) r
theorem setMany_size (L : List Value) : ∀ (C : Array Value) (o : Nat), (setMany C o L).size = C.size := by
  induction L with
  | nil => intro C o; rfl
  | cons v r ih => intro C o; rw [setMany, ih, Array.size_setIfInBounds]
theorem setMany_at (L : List Value) : ∀ (C : Array Value) (o i : Nat), o + L.length ≤ C.size → (setMany C o L)[i]? = if o ≤ i ∧ i < o + L.length then L[i - o]? else C[i]? := by
  induction L with
  | nil => intro C o i _; rw [if_neg (fun h => by have := h.1; have := h.2; rw [List.length_nil] at this; omega)]; rfl
  | cons v r ih =>
    intro C o i h
    rw [List.length_cons] at h
    rw [setMany, ih _ _ _ (by rw [Array.size_setIfInBounds]; omega), List.length_cons]
    by_cases h1 : o + 1 ≤ i ∧ i < o + 1 + r.length
    · rw [if_pos h1, if_pos (by omega)]
      obtain ⟨j, hj⟩ : ∃ j, i - o = j + 1 := ⟨i - o - 1, by omega⟩
      rw [hj, List.getElem?_cons_succ, show i - (o + 1) = j by omega]
    · rw [if_neg h1]
      by_cases h2 : i = o
      · subst h2
        rw [if_pos (by omega), Nat.sub_self, List.getElem?_cons_zero, Array.getElem?_setIfInBounds_self_of_lt (by omega)]
      · rw [if_neg (by omega), Array.getElem?_setIfInBounds_ne (by omega)]
theorem setCells_eq_setRow (L : List Value) : ∀ (w : World) (g o : Nat) (C : Array Value) (t : TypeId) (fr : Nat × Nat), w.heap[g]? = some (.cells C t fr) → L ≠ [] → w.setCells g o L = w.setRow g (setMany C o L) := by
  induction L with
  | nil => intro w g o C t fr _ h; exact absurd rfl h
  | cons v r ih =>
    intro w g o C t fr h _
    rw [World.setCells, setMany]
    by_cases hr : r = []
    · subst hr
      exact setCell_eq_setRow h v
    · rw [setCell_eq_setRow h, ih _ g (o + 1) _ t fr (setRow_heap _ _ _ _ _ _ h) hr, setRow_setRow]
section
variable {P : Program} {ops : Array Oper} {rest : List Oper} {o : Oper} {a : Act} {Q : Exit → Act → World → Prop}
end
end Go.Proofs.YtgpfoamhcoipgaaDoor
/-! Exact sums: the walk of Add of a finite number. -/
namespace Go.Proofs.YtgpfoamhcoipgaaDoor
open Go.RowKit
set_option linter.unusedVariables false
section
variable {P : Program} {ops : Array Oper} {rest : List Oper} {o : Oper} {a : Act} {Q : Exit → Act → World → Prop}
/-- Does the walk stand at this operation? -/
theorem at_op {w : World} (op : Op) (h : wpList P ops Q (o :: rest) a w) (ho : o.op = op) : wpList P ops Q (o :: rest) a w := h
theorem wpList_alloc_row (hgd : o.guard = none) (w : World) (t : TypeId) (ho : o.op = .alloc t) (dst : Option Tmp) (hdst : o.dst = dst) (N : Nat) (hN : w.heap.size = N) (z : Array Value) (hz : ∀ w, (zeroValue t).run P w = .ok (.agg z) w)
    (h : wpList P ops Q rest (a.put dst (.pointer (some ⟨N, 0, none⟩))) (w.alloc (.cells z t))) : wpList P ops Q (o :: rest) a w := by
  subst hdst hN
  refine wpList_plain hgd fun K hK => ?_
  unfold Oper.wp execOp
  simp only [ho, Instr.alloc, Sem.run_bind, hz, Result.andThen_ok]
  exact hK _ _ h
end

theorem heap_lt {w : World} {g : Nat} {o : Obj} (h : w.heap[g]? = some o) : g < w.heap.size := by
  rcases Nat.lt_or_ge g w.heap.size with h1 | h1
  · exact h1
  · rw [Array.getElem?_eq_none h1] at h; cases h
end Go.Proofs.YtgpfoamhcoipgaaDoor
/-! Exact sums: the walk of Value. -/
namespace Go.Proofs.YtgpfoamhcoipgaaDoor
open Go.RowKit
set_option linter.unusedVariables false
section
variable {P : Program} {o : Oper} {a : Act} {K : Act → World → Prop} {Q : Exit → Act → World → Prop}
theorem at_op0 {ops : Array Oper} {rest : List Oper} {Q : Exit → Act → World → Prop} {w : World} (op : Op) (h : wpList P ops Q (o :: rest) a w) (ho : o.op = op) (hg : o.guard = none) : wpList P ops Q (o :: rest) a w := h
theorem at_opG {ops : Array Oper} {rest : List Oper} {Q : Exit → Act → World → Prop} {w : World} (op : Op) (gd : Option (Nat × Bool)) (h : wpList P ops Q (o :: rest) a w) (ho : o.op = op) (hg : o.guard = gd) : wpList P ops Q (o :: rest) a w := h
theorem wpList_load_rowG {ops : Array Oper} {rest : List Oper} {Q : Exit → Act → World → Prop} {w : World} (hw : Region.wanted o (yielded ops a.tmps) = true) (ty : TypeId) (x : Operand) (ho : o.op = .load ty x)
    (g : Nat) (hx : a.eval x = .pointer (some ⟨g, 0, none⟩)) (t : TypeId) (cs : Array Value) (fr : Nat × Nat) (d : TypeDesc) (hg : w.heap[g]? = some (.cells cs t fr))
    (hu : P.underlying ty = some d) (hd : (match d with | .struct _ | .array _ _ => true | _ => false) = true) (hi : (P.info? ty).map (·.size) = some cs.size)
    (h : wpList P ops Q rest (a.put o.dst (.agg cs)) w) : wpList P ops Q (o :: rest) a w :=
  BigFrame.wpList_want hw fun K hK => wp_load_row ty x ho g hx t cs fr d hg hu hd hi (hK _ _ h)
end
end Go.Proofs.YtgpfoamhcoipgaaDoor
/-! Regions that draw their order: a fact that every operation keeps, whichever comes up. -/
namespace Go.Proofs.YtgpfoamhcoipgaaDoor
open Go.RowKit
set_option linter.unusedVariables false

section
variable {P : Program} {ops : Array Oper} {Q : Exit → Act → World → Prop} {md : Region.Mode}

/-- How many operations are still to come. -/
def unl : Nat → Array Bool → Nat
  | 0, _ => 0
  | n + 1, l => unl n l + (if l.getD n true = true then 0 else 1)
theorem unl_past (l : Array Bool) (i : Nat) : ∀ n, n ≤ i → unl n (l.setIfInBounds i true) = unl n l := by
  intro n
  induction n with
  | zero => intro _; rfl
  | succ n ih => intro h; rw [unl, unl, ih (by omega), getD_set_ne true (by omega)]
theorem getD_set_self (l : Array Bool) (i : Nat) (d : Bool) (h : i < l.size) : (l.setIfInBounds i true).getD i d = true := by
  rw [Array.getD_eq_getD_getElem?, Array.getElem?_setIfInBounds_self_of_lt h]; rfl
theorem unl_set (l : Array Bool) (i : Nat) (hi : i < l.size) (h : l.getD i true = false) : ∀ n, i < n → unl n (l.setIfInBounds i true) + 1 = unl n l := by
  intro n
  induction n with
  | zero => intro h; omega
  | succ n ih =>
    intro hn
    rw [unl, unl]
    by_cases e : i = n
    · subst e
      rw [unl_past l i i (Nat.le_refl _), getD_set_self l i true hi, h]; simp
    · rw [getD_set_ne true e]
      have := ih (by omega)
      omega
theorem unl_zero (l : Array Bool) : ∀ n, unl n l = 0 → ∀ i, i < n → l.getD i true = true := by
  intro n
  induction n with
  | zero => intro _ i hi; omega
  | succ n ih =>
    intro h i hi
    rw [unl] at h
    by_cases e : i = n
    · subst e
      cases hc : l.getD i true with
      | true => rfl
      | false => rw [hc] at h; simp at h
    · exact ih (by omega) i (by omega)
theorem unl_le (l : Array Bool) : ∀ n, unl n l ≤ n := by
  intro n
  induction n with
  | zero => exact Nat.le_refl _
  | succ n ih => rw [unl]; split <;> omega
def Closed (md : Region.Mode) (ops : Array Oper) (listed : Array Bool) : Prop := ∀ j i, Region.waitsFor md ops j i = true → listed.getD j false = true → listed.getD i false = true
theorem dep_of {listed : Array Bool} {i j : Nat} (hr : j ∈ Region.ready md ops listed) (h : Region.waitsFor md ops j i = true) : listed.getD i false = true := by
  obtain ⟨_, o, ho, hall⟩ := mem_ready.1 hr
  obtain ⟨oj, hj, e, he, hb, rfl⟩ := Region.waitsFor_spec h
  obtain rfl : oj = o := Option.some.inj (hj.symm.trans ho)
  exact hall e he hb
theorem getD_false {l : Array Bool} {i : Nat} (h : l.getD i true = false) : l.getD i false = false := getD_both h
theorem wpAny_inv (I : Array Bool → Act → World → Prop)
    (hstep : ∀ listed a w i, listed.size = ops.size → Closed md ops listed → I listed a w → i < ops.size → listed.getD i false = false → i ∈ Region.ready md ops listed → wpOp P ops Q i (fun a' w' => I (listed.setIfInBounds i true) a' w') a w)
    (hend : ∀ listed a w, listed.size = ops.size → I listed a w → Region.ready md ops listed = [] → Q .normal a w) :
    ∀ (fuel : Nat) (listed : Array Bool) (a : Act) (w : World), listed.size = ops.size → Closed md ops listed → unl ops.size listed ≤ fuel → I listed a w → wpAny P md ops Q fuel listed a w := by
  have nr : ∀ listed : Array Bool, unl ops.size listed = 0 → Region.ready md ops listed = [] := fun listed h => by
    refine List.eq_nil_iff_forall_not_mem.2 fun i hi => ?_
    obtain ⟨h0, o, ho, _⟩ := mem_ready.1 hi
    have := unl_zero listed ops.size h i (Array.getElem?_eq_some_iff.1 ho).1
    rw [h0] at this
    cases this
  intro fuel
  induction fuel with
  | zero =>
    intro listed a w hs hc hu hI
    have hr := nr listed (by omega)
    exact ⟨hr, hend _ _ _ hs hI hr⟩
  | succ fuel ih =>
    intro listed a w hs hc hu hI
    refine ⟨fun hr => hend _ _ _ hs hI hr, fun i hi => ?_⟩
    obtain ⟨h0, o, ho, hall⟩ := mem_ready.1 hi
    have hlt := (Array.getElem?_eq_some_iff.1 ho).1
    refine wpOp_mono (fun a' w' h => ih _ _ _ (by rw [Array.size_setIfInBounds]; exact hs) (fun j k hw hj => ?_) ?_ h) (hstep listed a w i hs hc hI hlt (getD_false h0) hi)
    · by_cases e : i = j
      · subst e
        exact getD_set_true (dep_of hi hw)
      · rw [getD_set_ne false e] at hj
        exact getD_set_true (hc j k hw hj)
    · have := unl_set listed i (by omega) h0 ops.size hlt
      omega
def forwardB (md : Region.Mode) (ops : Array Oper) : Bool := (List.range ops.size).all fun j => (List.range ops.size).all fun i => !Region.waitsFor md ops j i || decide (i < j)
def inB (md : Region.Mode) (ops : Array Oper) : Bool := ops.all fun o => o.after.all fun e => !Region.binds md e || decide (e.on < ops.size)
theorem all_listed {listed : Array Bool} (hf : forwardB md ops = true) (hb : inB md ops = true) (hs : listed.size = ops.size) (h : Region.ready md ops listed = []) : ∀ i, i < ops.size → listed.getD i false = true := by
  intro i
  induction i using Nat.strongRecOn with
  | _ i ih =>
    intro hi
    cases hc : listed.getD i false with
    | true => rfl
    | false =>
      exfalso
      have hu : listed.getD i true = false := getD_in (by omega) hc
      have : i ∈ Region.ready md ops listed := by
        refine mem_ready.2 ⟨hu, ops[i], Array.getElem?_eq_getElem hi, fun e he hbd => ?_⟩
        have hin := (Array.all_eq_true'.1 ((Array.all_eq_true'.1 hb) ops[i] (Array.getElem_mem hi))) e he
        rw [hbd] at hin
        have hin2 : e.on < ops.size := by simpa using hin
        have hw : Region.waitsFor md ops i e.on = true := by
          unfold Region.waitsFor
          rw [Array.getElem?_eq_getElem hi]
          exact Array.any_eq_true'.2 ⟨e, he, by rw [hbd]; simp⟩
        have h1 := List.all_eq_true.1 (List.all_eq_true.1 hf i (List.mem_range.2 hi)) e.on (List.mem_range.2 hin2)
        rw [hw] at h1
        exact ih e.on (by simpa using h1) hin2
      rw [h] at this
      cases this
/-- A region that draws its order keeps what each of its operations keeps. -/
theorem region_inv {id : Nat} {a : Act} {w : World} (hm : P.follows .mixedOrders = true) (hf : forwardB .any ops = true) (hb : inB .any ops = true) (I : Array Bool → Act → World → Prop)
    (h0 : I (Array.replicate ops.size false) a w.drew)
    (hstep : ∀ listed a w i, listed.size = ops.size → Closed .any ops listed → I listed a w → i < ops.size → listed.getD i false = false → i ∈ Region.ready .any ops listed → wpOp P ops Q i (fun a' w' => I (listed.setIfInBounds i true) a' w') a w)
    (hend : ∀ listed a w, I listed a w → (∀ i, i < ops.size → listed.getD i false = true) → Q .normal a w) : (Code.region id ops true).wp P Q a w := by
  refine wp_region_any hm (wpAny_inv I hstep (fun listed a w hs hI hr => hend listed a w hI (all_listed hf hb hs hr)) _ _ _ _ (by simp) (fun j i _ h => ?_) (unl_le _ _) h0)
  rw [getD_replicate_false] at h
  cases h
theorem wpOp_val {i : Nat} {o : Oper} {v : Value} {K : Act → World → Prop} {a : Act} {w w' : World} (hi : ops[i]? = some o) (hw : Region.wanted o (yielded ops a.tmps) = true) (hx : (execOp a.eval o).run P w = .ok (.value v) w') (h : K (a.put o.dst v) w') : wpOp P ops Q i K a w := by
  unfold wpOp
  simp only [hi, hw, if_true]
  left
  unfold Oper.wp
  rw [hx]
  exact h
theorem wpOp_skip {i : Nat} {o : Oper} {K : Act → World → Prop} {a : Act} {w w' : World} (hi : ops[i]? = some o) (hw : Region.wanted o (yielded ops a.tmps) = true) (hx : (execOp a.eval o).run P w = .ok .skip w') (h : K (a.put o.dst undef) w') : wpOp P ops Q i K a w := by
  unfold wpOp
  simp only [hi, hw, if_true]
  left
  unfold Oper.wp
  rw [hx]
  exact h
theorem wpOp_skipped {i : Nat} {o : Oper} {K : Act → World → Prop} {a : Act} {w : World} (hi : ops[i]? = some o) (hw : Region.wanted o (yielded ops a.tmps) = false) (h : K (a.put o.dst undef) w) : wpOp P ops Q i K a w := by
  unfold wpOp
  simp only [hi, hw]
  exact h
end
end Go.Proofs.YtgpfoamhcoipgaaDoor
/-! Regions that draw their order: each operation leaves a value of which a fact is known, whichever comes up first. -/
namespace Go.Proofs.YtgpfoamhcoipgaaDoor
open Go.RowKit
set_option linter.unusedVariables false

section
variable {P : Program} {ops : Array Oper} {Q : Exit → Act → World → Prop}
def dstAt (ops : Array Oper) (i : Nat) : Option Tmp := (ops[i]?).bind (·.dst)
/-- Where the operations write: within the frame, each elsewhere, and none where the fixed values stand. -/
def dstsB (ops : Array Oper) (n : Nat) (T : List Nat) : Bool :=
  (List.range ops.size).all fun i => match dstAt ops i with
    | none => true
    | some d => decide (d < n) && T.all (· != d) && (List.range ops.size).all fun j => decide (i = j) || dstAt ops j != some d
theorem dsts_spec {n : Nat} {T : List Nat} (h : dstsB ops n T = true) {i d : Nat} (hi : i < ops.size) (hd : dstAt ops i = some d) : d < n ∧ (∀ t, t ∈ T → t ≠ d) ∧ ∀ j, j < ops.size → i ≠ j → dstAt ops j ≠ some d := by
  have h1 := List.all_eq_true.1 h i (List.mem_range.2 hi)
  rw [hd] at h1
  simp only [Bool.and_eq_true, decide_eq_true_eq] at h1
  obtain ⟨⟨h1, h2⟩, h3⟩ := h1
  refine ⟨h1, fun t ht => by simpa using List.all_eq_true.1 h2 t ht, fun j hj hne e => ?_⟩
  have := List.all_eq_true.1 h3 j (List.mem_range.2 hj)
  rw [e] at this
  simp [hne] at this
structure Fixed (n : Nat) (T : List (Nat × Value)) (a : Act) : Prop where
  size : a.tmps.size = n
  dfs : a.defers = []
  at_ : ∀ p, p ∈ T → a.tmps[p.1]? = some p.2
theorem region_vals {id : Nat} {a : Act} {w : World} (n : Nat) (T : List (Nat × Value)) (Vp : Nat → World → Value → Prop) (S : World → Prop)
    (hm : P.follows .mixedOrders = true) (hf : forwardB .any ops = true) (hb : inB .any ops = true) (hd : dstsB ops n (T.map (·.1)) = true)
    (hV : ∀ j w w' v, Below w.heap.size w w' → Vp j w v → Vp j w' v) (hS : ∀ w w', Below w.heap.size w w' → S w → S w')
    (h0 : Fixed n T a) (h3 : S w)
    (hstep : ∀ a w i, Fixed n T a → S w → (∀ j, Region.waitsFor .any ops i j = true → ∀ d, dstAt ops j = some d → ∃ v, a.tmps[d]? = some v ∧ Vp j w v) → i < ops.size →
      wpOp P ops Q i (fun a' w' => Below w.heap.size w w' ∧ ∃ v, a' = a.put (dstAt ops i) v ∧ Vp i w' v) a w)
    (hend : ∀ a w', Below w.heap.size w w' → Fixed n T a → S w' → (∀ j, j < ops.size → ∀ d, dstAt ops j = some d → ∃ v, a.tmps[d]? = some v ∧ Vp j w' v) → Q .normal a w') : (Code.region id ops true).wp P Q a w := by
  refine region_inv hm hf hb (fun listed a w' => Below w.heap.size w w' ∧ Fixed n T a ∧ S w' ∧ ∀ j, j < ops.size → listed.getD j false = true → ∀ d, dstAt ops j = some d → ∃ v, a.tmps[d]? = some v ∧ Vp j w' v) ?_ ?_ ?_
  · refine ⟨(Below.refl w.heap.size w).drew, h0, hS w w.drew (Below.refl _ _).drew h3, fun j _ h => ?_⟩
    rw [getD_replicate_false] at h; cases h
  · intro listed a w1 i hs hc hI hi hu hr
    obtain ⟨i1, i2, i3, i4⟩ := hI
    refine wpOp_mono ?_ (hstep a w1 i i2 i3 (fun j hw d hd' => ?_) hi)
    · rintro a' w2 ⟨b, v, rfl, hv⟩
      have hsp : ∀ d, dstAt ops i = some d → d < n ∧ (∀ t, t ∈ T.map (·.1) → t ≠ d) ∧ ∀ j, j < ops.size → i ≠ j → dstAt ops j ≠ some d := fun d h => dsts_spec hd hi h
      refine ⟨below_trans i1 b, ?_, hS _ _ b i3, fun j hj hl d hjd => ?_⟩
      · cases hdi : dstAt ops i with
        | none => exact i2
        | some d =>
          obtain ⟨_, s2, _⟩ := hsp d hdi
          refine ⟨?_, i2.dfs, fun p hp => ?_⟩
          · show (a.tmps.setIfInBounds d v).size = n
            rw [Array.size_setIfInBounds]; exact i2.size
          · show (a.tmps.setIfInBounds d v)[p.1]? = _
            rw [Array.getElem?_setIfInBounds_ne (fun e => s2 p.1 (List.mem_map.2 ⟨p, hp, rfl⟩) e.symm)]
            exact i2.at_ p hp
      · by_cases e : i = j
        · subst e
          rw [hjd]
          obtain ⟨s1, _, _⟩ := hsp d hjd
          refine ⟨v, ?_, hv⟩
          show (a.tmps.setIfInBounds d v)[d]? = _
          rw [Array.getElem?_setIfInBounds_self_of_lt (by rw [i2.size]; exact s1)]
        · rw [getD_set_ne false e] at hl
          obtain ⟨u, hu1, hu2⟩ := i4 j hj hl d hjd
          refine ⟨u, ?_, hV _ _ _ _ b hu2⟩
          cases hdi : dstAt ops i with
          | none => exact hu1
          | some d' =>
            obtain ⟨_, _, s3⟩ := hsp d' hdi
            show (a.tmps.setIfInBounds d' v)[d]? = _
            rw [Array.getElem?_setIfInBounds_ne (fun e2 : d' = d => s3 j hj e (hjd.trans (congrArg some e2.symm)))]
            exact hu1
    · have hl := dep_of hr hw
      have hj : j < ops.size := by
        obtain ⟨v, h⟩ : ∃ o, ops[j]? = some o := by
          unfold dstAt at hd'
          cases hq : ops[j]? with
          | none => rw [hq] at hd'; cases hd'
          | some o => exact ⟨o, rfl⟩
        exact (Array.getElem?_eq_some_iff.1 h).1
      exact i4 j hj hl d hd'
  · intro listed a w1 hI hall
    exact hend a w1 hI.1 hI.2.1 hI.2.2.1 (fun j hj d hd' => hI.2.2.2 j hj (hall j hj) d hd')
theorem wpOp_of_wp {i : Nat} {o : Oper} {K : Act → World → Prop} {a : Act} {w : World} (hi : ops[i]? = some o) (hw : Region.wanted o (yielded ops a.tmps) = true) (h : o.wp P a w K Q) : wpOp P ops Q i K a w := by
  unfold wpOp
  simp only [hi, hw, if_true]
  exact .inl h
end
end Go.Proofs.YtgpfoamhcoipgaaDoor
/-! Regions that draw their order: what is left is what the order of the text would leave, whichever order is drawn. -/
namespace Go.Proofs.YtgpfoamhcoipgaaDoor
open Go.RowKit
set_option linter.unusedVariables false

section
variable {P : Program} {ops : Array Oper} {Q : Exit → Act → World → Prop}
def upd (vals : Nat → Value) (i : Nat) (v : Value) : Nat → Value := fun j => if j = i then v else vals j
/-- The frame behind the operations, in the order of the text. -/
def putAll (ops : Array Oper) (vals : Nat → Value) (a : Act) : Nat → Act
  | 0 => a
  | n + 1 => (putAll ops vals a n).put (dstAt ops n) (vals n)
theorem put_size (a : Act) (d : Option Tmp) (v : Value) : (a.put d v).tmps.size = a.tmps.size := by
  cases d with
  | none => rfl
  | some d => show (a.tmps.setIfInBounds d v).size = _; rw [Array.size_setIfInBounds]
theorem put_dfs (a : Act) (d : Option Tmp) (v : Value) : (a.put d v).defers = a.defers := by cases d <;> rfl
theorem put_self (a : Act) (d : Tmp) (v : Value) (h : d < a.tmps.size) : (a.put (some d) v).tmps[d]? = some v := by
  show (a.tmps.setIfInBounds d v)[d]? = _
  rw [Array.getElem?_setIfInBounds_self_of_lt h]
theorem put_other (a : Act) (d : Option Tmp) (t : Tmp) (v : Value) (h : d ≠ some t) : (a.put d v).tmps[t]? = a.tmps[t]? := by
  cases d with
  | none => rfl
  | some d =>
    show (a.tmps.setIfInBounds d v)[t]? = _
    rw [Array.getElem?_setIfInBounds_ne (fun e => h (congrArg some e))]
theorem putAll_size (vals : Nat → Value) (a : Act) : ∀ n, (putAll ops vals a n).tmps.size = a.tmps.size ∧ (putAll ops vals a n).defers = a.defers := by
  intro n
  induction n with
  | zero => exact ⟨rfl, rfl⟩
  | succ n ih => exact ⟨(put_size _ _ _).trans ih.1, (put_dfs _ _ _).trans ih.2⟩
theorem putAll_other (vals : Nat → Value) (a : Act) (t : Tmp) : ∀ n, (∀ j, j < n → dstAt ops j ≠ some t) → (putAll ops vals a n).tmps[t]? = a.tmps[t]? := by
  intro n
  induction n with
  | zero => intro _; rfl
  | succ n ih =>
    intro h
    rw [putAll, put_other _ _ _ _ (h n (by omega))]
    exact ih (fun j hj => h j (by omega))
theorem putAll_at (vals : Nat → Value) (a : Act) (i : Nat) (t : Tmp) (ht : t < a.tmps.size) (hi : dstAt ops i = some t) : ∀ n, i < n → (∀ j, j < n → i ≠ j → dstAt ops j ≠ some t) → (putAll ops vals a n).tmps[t]? = some (vals i) := by
  intro n
  induction n with
  | zero => intro h; omega
  | succ n ih =>
    intro h hne
    rw [putAll]
    by_cases e : i = n
    · subst e
      rw [hi]
      exact put_self _ _ _ (by rw [(putAll_size vals a i).1]; exact ht)
    · rw [put_other _ _ _ _ (hne n (by omega) e)]
      exact ih (by omega) (fun j hj => hne j (by omega))
/-- The frame while the region runs: what is listed lies in its place, all else is as it was. -/
structure InRun (ops : Array Oper) (a0 : Act) (listed : Array Bool) (vals : Nat → Value) (a : Act) : Prop where
  size : a.tmps.size = a0.tmps.size
  dfs : a.defers = a0.defers
  at_ : ∀ j d, j < ops.size → listed.getD j false = true → dstAt ops j = some d → a.tmps[d]? = some (vals j)
  old : ∀ t, (∀ j, j < ops.size → dstAt ops j ≠ some t) → a.tmps[t]? = a0.tmps[t]?
theorem act_ext {a b : Act} (h : a.tmps = b.tmps) (k : a.defers = b.defers) : a = b := by
  cases a; cases b; cases h; cases k; rfl
theorem region_run {id : Nat} {a0 : Act} {w0 : World} (I : Array Bool → (Nat → Value) → World → Prop)
    (hm : P.follows .mixedOrders = true) (hf : forwardB .any ops = true) (hb : inB .any ops = true) (hd : dstsB ops a0.tmps.size [] = true)
    (h0 : I (Array.replicate ops.size false) (fun _ => undef) w0.drew)
    (hstep : ∀ listed vals a w i, listed.size = ops.size → Closed .any ops listed → I listed vals w → InRun ops a0 listed vals a → i < ops.size → listed.getD i false = false → i ∈ Region.ready .any ops listed →
      wpOp P ops Q i (fun a' w' => ∃ v, a' = a.put (dstAt ops i) v ∧ I (listed.setIfInBounds i true) (upd vals i v) w') a w)
    (hend : ∀ listed vals w F, I listed vals w → (∀ i, i < ops.size → listed.getD i false = true) → F = putAll ops vals a0 ops.size → Q .normal F w) : (Code.region id ops true).wp P Q a0 w0 := by
  refine region_inv hm hf hb (fun listed a w => ∃ vals, I listed vals w ∧ InRun ops a0 listed vals a) ?_ ?_ ?_
  · refine ⟨_, h0, rfl, rfl, fun j d _ h => ?_, fun t _ => rfl⟩
    rw [getD_replicate_false] at h; cases h
  · rintro listed a w i hs hc ⟨vals, hI, hR⟩ hi hu hr
    refine wpOp_mono ?_ (hstep listed vals a w i hs hc hI hR hi hu hr)
    rintro a' w' ⟨v, rfl, hI'⟩
    refine ⟨_, hI', (put_size _ _ _).trans hR.size, (put_dfs _ _ _).trans hR.dfs, fun j d hj hl hdj => ?_, fun t ht => ?_⟩
    · by_cases e : i = j
      · subst e
        obtain ⟨s1, _, _⟩ := dsts_spec hd hi hdj
        rw [hdj, put_self _ _ _ (by rw [hR.size]; exact s1)]
        simp [upd]
      · rw [getD_set_ne false e] at hl
        obtain ⟨_, _, s3⟩ := dsts_spec hd hj hdj
        rw [put_other _ _ _ _ (s3 i hi (Ne.symm e)), hR.at_ j d hj hl hdj]
        simp [upd, Ne.symm e]
    · rw [put_other _ _ _ _ (ht i hi)]
      exact hR.old t ht
  · rintro listed a w ⟨vals, hI, hR⟩ hall
    have : a = putAll ops vals a0 ops.size := by
      refine act_ext ?_ (by rw [hR.dfs, (putAll_size vals a0 _).2])
      apply Array.ext_getElem?
      intro t
      by_cases ht : ∃ j, j < ops.size ∧ dstAt ops j = some t
      · obtain ⟨j, hj, hdj⟩ := ht
        obtain ⟨s1, _, s3⟩ := dsts_spec hd hj hdj
        rw [hR.at_ j t hj (hall j hj) hdj, putAll_at vals a0 j t s1 hdj _ hj s3]
      · have hn : ∀ j, j < ops.size → dstAt ops j ≠ some t := fun j hj h => ht ⟨j, hj, h⟩
        rw [hR.old t hn, putAll_other vals a0 t _ hn]
    exact hend listed vals w a hI hall this
theorem InRun.dep {a0 a : Act} {listed : Array Bool} {vals : Nat → Value} (h : InRun ops a0 listed vals a) {i : Nat} (hr : i ∈ Region.ready .any ops listed) (j : Nat) (hw : Region.waitsFor .any ops i j = true) {d : Tmp} (hj : j < ops.size) (hd : dstAt ops j = some d) : a.tmps[d]? = some (vals j) :=
  h.at_ j d hj (dep_of hr hw) hd
def notDst (ops : Array Oper) (t : Tmp) : Bool := (List.range ops.size).all fun j => dstAt ops j != some t
theorem InRun.fixed {a0 a : Act} {listed : Array Bool} {vals : Nat → Value} (h : InRun ops a0 listed vals a) (t : Tmp) {v : Value} (hn : notDst ops t = true) (hv : a0.tmps[t]? = some v) : a.tmps[t]? = some v := by
  rw [h.old t (fun j hj => by simpa using List.all_eq_true.1 hn j (List.mem_range.2 hj))]
  exact hv
end
end Go.Proofs.YtgpfoamhcoipgaaDoor
/-! Regions that draw their order: values and rows that are known (the steps are printed by wip/mkreg.py). -/
namespace Go.Proofs.YtgpfoamhcoipgaaDoor
open Go.RowKit
set_option linter.unusedVariables false

section
variable {P : Program} {ops : Array Oper} {Q : Exit → Act → World → Prop} {i : Nat} {o : Oper} {K : Act → World → Prop} {a : Act} {w : World}
theorem wpOp_calls {f : FuncId} {args : Array Value} (hi : ops[i]? = some o) (hw : Region.wanted o (yielded ops a.tmps) = true) (hx : (execOp a.eval o).run P w = .ok (.enter f args) w)
    (hc : Calls P f args w fun e w' => ∃ v, e = .returned v ∧ K (a.put o.dst v) w') : wpOp P ops Q i K a w := by
  refine wpOp_of_wp hi hw ?_
  unfold Oper.wp
  rw [hx]
  exact hc.mono fun e w' ⟨v, he, hk⟩ => by subst he; exact hk
theorem wpOp_dies {f : FuncId} {args : Array Value} (hi : ops[i]? = some o) (hw : Region.wanted o (yielded ops a.tmps) = true) (hx : (execOp a.eval o).run P w = .ok (.enter f args) w)
    (hc : Calls P f args w fun e w' => ∃ p, e = .panicked p ∧ Q (.panic p) a w') : wpOp P ops Q i K a w := by
  refine wpOp_of_wp hi hw ?_
  unfold Oper.wp
  rw [hx]
  exact hc.mono fun e w' ⟨v, he, hk⟩ => by subst he; exact hk
theorem getD_is {a : Act} {t : Tmp} {v : Value} (h : a.tmps[t]? = some v) : a.tmps.getD t undef = v := by rw [Array.getD_eq_getD_getElem?, h]; rfl
theorem wanted_yes {ops : Array Oper} {o : Oper} {tmps : Array Value} {k d : Nat} {want : Bool} (hg : o.guard = some (k, want)) (hd : (ops[k]?).bind (·.dst) = some d) (ht : tmps[d]? = some (.bool want)) : Region.wanted o (yielded ops tmps) = true := by
  unfold Region.wanted
  rw [hg]
  show (yielded ops tmps k == some want) = _
  unfold yielded
  cases hk : ops[k]? with
  | none => rw [hk] at hd; cases hd
  | some o' =>
    rw [hk] at hd
    have hd' : o'.dst = some d := hd
    simp [hd', ht]
theorem wanted_no {ops : Array Oper} {o : Oper} {tmps : Array Value} {k d : Nat} {want : Bool} (hg : o.guard = some (k, want)) (hd : (ops[k]?).bind (·.dst) = some d) (ht : tmps[d]? = some (.bool (!want))) : Region.wanted o (yielded ops tmps) = false := by
  unfold Region.wanted
  rw [hg]
  show (yielded ops tmps k == some want) = _
  unfold yielded
  cases hk : ops[k]? with
  | none => rw [hk] at hd; cases hd
  | some o' =>
    rw [hk] at hd
    have hd' : o'.dst = some d := hd
    cases want <;> simp [hd', ht]
end
/-- What is known while a drawn region runs: which operations left which values, which ones rows of bytes of their own. -/
structure RegI (w0 : World) (isO : Nat → Bool) (BL : Nat → List Int) (CV : Nat → Value) (listed : Array Bool) (vals : Nat → Value) (w' : World) : Prop where
  b : Below w0.heap.size w0 w'
  val : ∀ j, isO j = false → listed.getD j false = true → vals j = CV j
  own : ∀ j, isO j = true → listed.getD j false = true → Own w' w0.heap.size 5 .u8 (vals j) (BL j)
section
variable {w0 w1 w2 : World} {isO : Nat → Bool} {BL : Nat → List Int} {CV vals : Nat → Value} {listed : Array Bool}
theorem RegI.start (w0 : World) (n : Nat) : RegI w0 isO BL CV (Array.replicate n false) (fun _ => undef) w0.drew :=
  ⟨(Below.refl _ _).drew, fun j _ h => absurd h (by rw [getD_replicate_false]; decide), fun j _ h => absurd h (by rw [getD_replicate_false]; decide)⟩
theorem RegI.keep (h : RegI w0 isO BL CV listed vals w1) (b : Below w1.heap.size w1 w2) (i : Nat) (hi : isO i = false) : RegI w0 isO BL CV (listed.setIfInBounds i true) (upd vals i (CV i)) w2 := by
  refine ⟨below_trans h.b b, fun j hj hl => ?_, fun j hj hl => ?_⟩
  · by_cases e : i = j
    · subst e; simp [upd]
    · rw [getD_set_ne false e] at hl
      simp [upd, Ne.symm e, h.val j hj hl]
  · have e : i ≠ j := fun e => by subst e; rw [hi] at hj; cases hj
    rw [getD_set_ne false e] at hl
    simp only [upd, if_neg (Ne.symm e)]
    exact (h.own j hj hl).below b
theorem RegI.keepV (h : RegI w0 isO BL CV listed vals w1) (b : Below w1.heap.size w1 w2) (i : Nat) (hi : isO i = false) {v : Value} (hv : CV i = v) : RegI w0 isO BL CV (listed.setIfInBounds i true) (upd vals i v) w2 := by
  subst hv; exact h.keep b i hi
theorem RegI.keepB (h : RegI w0 isO BL CV listed vals w1) (b : Below w1.heap.size w1 w2) (i : Nat) (hi : isO i = true) (v : Value) (hv : Own w2 w1.heap.size 5 .u8 v (BL i)) : RegI w0 isO BL CV (listed.setIfInBounds i true) (upd vals i v) w2 := by
  refine ⟨below_trans h.b b, fun j hj hl => ?_, fun j hj hl => ?_⟩
  · have e : i ≠ j := fun e => by subst e; rw [hi] at hj; cases hj
    rw [getD_set_ne false e] at hl
    simp [upd, Ne.symm e, h.val j hj hl]
  · by_cases e : i = j
    · subst e
      simp only [upd]
      exact hv.mono h.b.size
    · rw [getD_set_ne false e] at hl
      simp only [upd, if_neg (Ne.symm e)]
      exact (h.own j hj hl).below b
theorem RegI.get (h : RegI w0 isO BL CV listed vals w1) {ops : Array Oper} {a0 a : Act} (hR : InRun ops a0 listed vals a) {i : Nat} (hr : i ∈ Region.ready .any ops listed) (j : Nat) (k1 : isO j = false) (hw : Region.waitsFor .any ops i j = true) {d : Tmp} (hj : j < ops.size) (hd : dstAt ops j = some d) {v : Value} (hv : CV j = v) : a.tmps[d]? = some v := by
  rw [hR.dep hr j hw hj hd, h.val j k1 (dep_of hr hw), hv]
end
end Go.Proofs.YtgpfoamhcoipgaaDoor
/-! Regions that draw their order and end in a store of a whole row; structs that are built of structs. -/
namespace Go.Proofs.YtgpfoamhcoipgaaDoor
open Go.RowKit
set_option linter.unusedVariables false

theorem unlisted {ops : Array Oper} {listed : Array Bool} {n i : Nat} (hcl : Closed .any ops listed) (hu : listed.getD i false = false) (hw : Region.waitsFor .any ops n i = true) : listed.getD n false = false := by
  cases hq : listed.getD n false with
  | false => rfl
  | true => have := hcl n i hw hq; rw [hu] at this; cases this
/-- As RegI; the last operation stores a row. -/
structure RegL (w0 : World) (n : Nat) (g : Nat) (D : Array Value) (isO : Nat → Bool) (BL : Nat → List Int) (CV : Nat → Value) (listed : Array Bool) (vals : Nat → Value) (w' : World) : Prop where
  pre : listed.getD n false = false → RegI w0 isO BL CV listed vals w'
  fin : listed.getD n false = true → ∃ w'', Below w0.heap.size w0 w'' ∧ w' = w''.setRow g D
section
variable {w0 w1 w2 : World} {n g : Nat} {D : Array Value} {isO : Nat → Bool} {BL : Nat → List Int} {CV vals : Nat → Value} {listed : Array Bool}
theorem RegL.start (w0 : World) (n m g : Nat) (D : Array Value) : RegL w0 n g D isO BL CV (Array.replicate m false) (fun _ => undef) w0.drew :=
  ⟨fun _ => RegI.start w0 m, fun h => absurd h (by rw [getD_replicate_false]; decide)⟩
theorem RegL.of {i : Nat} {w : World} {v : Nat → Value} (h : RegI w0 isO BL CV (listed.setIfInBounds i true) v w) (hn : listed.getD n false = false) (hi : i ≠ n) : RegL w0 n g D isO BL CV (listed.setIfInBounds i true) v w :=
  ⟨fun _ => h, fun hl => by rw [getD_set_ne false hi, hn] at hl; cases hl⟩
theorem RegL.done {v : Nat → Value} (h : Below w0.heap.size w0 w1) (hs : n < listed.size) : RegL w0 n g D isO BL CV (listed.setIfInBounds n true) v (w1.setRow g D) :=
  ⟨fun hl => (by rw [getD_set_self _ _ _ hs] at hl; cases hl), fun _ => ⟨w1, h, rfl⟩⟩
theorem RegL.end_ {w' : World} (h : RegL w0 n g D isO BL CV listed vals w') (hn : listed.getD n false = true) : ∃ w'', Below w0.heap.size w0 w'' ∧ w' = w''.setRow g D := h.fin hn
end
/-- As RegI; the last two operations make a row and store into it. -/
structure RegA (w0 : World) (n : Nat) (Z D : Array Value) (ty : TypeId) (CV : Nat → Value) (listed : Array Bool) (vals : Nat → Value) (w' : World) : Prop where
  b : Below w0.heap.size w0 w'
  val : ∀ j, (j ≠ n ∧ j ≠ n + 1) → listed.getD j false = true → vals j = CV j
  al : listed.getD n false = true → ∃ g, vals n = .pointer (some ⟨g, 0, none⟩) ∧ w0.heap.size ≤ g ∧ w'.heap[g]? = some (.cells (if listed.getD (n + 1) false = true then D else Z) ty (0, 0))
section
variable {w0 w1 w2 : World} {n : Nat} {Z D : Array Value} {ty : TypeId} {CV vals : Nat → Value} {listed : Array Bool}
theorem RegA.start (w0 : World) (m : Nat) : RegA w0 n Z D ty CV (Array.replicate m false) (fun _ => undef) w0.drew :=
  ⟨(Below.refl _ _).drew, fun j _ h => absurd h (by rw [getD_replicate_false]; decide), fun h => absurd h (by rw [getD_replicate_false]; decide)⟩
theorem RegA.keep (h : RegA w0 n Z D ty CV listed vals w1) (b : Below w1.heap.size w1 w2) (i : Nat) (hi : i ≠ n ∧ i ≠ n + 1) : RegA w0 n Z D ty CV (listed.setIfInBounds i true) (upd vals i (CV i)) w2 := by
  refine ⟨below_trans h.b b, fun j hj hl => ?_, fun hl => ?_⟩
  · by_cases e : i = j
    · subst e; simp [upd]
    · rw [getD_set_ne false e] at hl
      simp [upd, Ne.symm e, h.val j hj hl]
  · rw [getD_set_ne false hi.1] at hl
    obtain ⟨g, e, hg, hh⟩ := h.al hl
    refine ⟨g, by simp [upd, Ne.symm hi.1, e], hg, ?_⟩
    rw [getD_set_ne false hi.2]
    exact (b.block g (heap_lt hh)).trans hh
theorem RegA.keepV (h : RegA w0 n Z D ty CV listed vals w1) (b : Below w1.heap.size w1 w2) (i : Nat) (hi : i ≠ n ∧ i ≠ n + 1) {v : Value} (hv : CV i = v) : RegA w0 n Z D ty CV (listed.setIfInBounds i true) (upd vals i v) w2 := by
  subst hv; exact h.keep b i hi
theorem RegA.alloc (h : RegA w0 n Z D ty CV listed vals w1) (hs : n < listed.size) (hn : listed.getD (n + 1) false = false) :
    RegA w0 n Z D ty CV (listed.setIfInBounds n true) (upd vals n (.pointer (some ⟨w1.heap.size, 0, none⟩))) (w1.alloc (.cells Z ty)) := by
  refine ⟨below_alloc h.b _, fun j hj hl => ?_, fun _ => ⟨w1.heap.size, by simp [upd], h.b.size, ?_⟩⟩
  · rw [getD_set_ne false (Ne.symm hj.1)] at hl
    simp [upd, hj.1, h.val j hj hl]
  · rw [getD_set_ne false (by omega), hn]
    exact heap_alloc_new w1 _
theorem RegA.store (h : RegA w0 n Z D ty CV listed vals w1) (hs : n + 1 < listed.size) {g : Nat} (hg : w0.heap.size ≤ g) (e : vals n = .pointer (some ⟨g, 0, none⟩)) {C : Array Value} (hh : w1.heap[g]? = some (.cells C ty (0, 0))) :
    RegA w0 n Z D ty CV (listed.setIfInBounds (n + 1) true) (upd vals (n + 1) undef) (w1.setRow g D) := by
  refine ⟨below_setRow h.b hg D, fun j hj hl => ?_, fun hl => ⟨g, ?_, hg, ?_⟩⟩
  · rw [getD_set_ne false (Ne.symm hj.2)] at hl
    simp [upd, hj.2, h.val j hj hl]
  · simp [upd, e]
  · rw [getD_set_self _ _ _ hs, if_pos rfl]
    exact setRow_heap _ _ _ _ _ _ hh
theorem RegA.get (h : RegA w0 n Z D ty CV listed vals w1) {ops : Array Oper} {a0 a : Act} (hR : InRun ops a0 listed vals a) {i : Nat} (hr : i ∈ Region.ready .any ops listed) (j : Nat) (k1 : j ≠ n ∧ j ≠ n + 1) (hw : Region.waitsFor .any ops i j = true) {d : Tmp} (hj : j < ops.size) (hd : dstAt ops j = some d) {v : Value} (hv : CV j = v) : a.tmps[d]? = some v := by
  rw [hR.dep hr j hw hj hd, h.val j k1 (dep_of hr hw), hv]
theorem wpOp_alloc {P : Program} {ops : Array Oper} {Q : Exit → Act → World → Prop} {i : Nat} {o : Oper} {K : Act → World → Prop} {a : Act} {w : World} (hi : ops[i]? = some o) (hw : Region.wanted o (yielded ops a.tmps) = true) (t : TypeId) (ho : o.op = .alloc t) (z : Array Value) (hz : ∀ w, (zeroValue t).run P w = .ok (.agg z) w) (h : K (a.put o.dst (.pointer (some ⟨w.heap.size, 0, none⟩))) (w.alloc (.cells z t))) : wpOp P ops Q i K a w := by
  refine wpOp_of_wp hi hw ?_
  unfold Oper.wp execOp
  simp only [ho, Instr.alloc, Sem.run_bind, hz, Result.andThen_ok]
  exact h
end
/-- Cells laid into others, from a place on. -/
def lay (C cs : Array Value) (off : Nat) : Array Value := C.zipIdx.foldl (fun ds (c, j) => ds.setIfInBounds (off + j) c) cs
theorem lay_list : ∀ (l : List Value) (k off : Nat) (cs : Array Value) (i : Nat), off + k + l.length ≤ cs.size →
    ((l.zipIdx k).foldl (fun ds (c, j) => ds.setIfInBounds (off + j) c) cs)[i]? = if off + k ≤ i ∧ i < off + k + l.length then l[i - (off + k)]? else cs[i]? := by
  intro l
  induction l with
  | nil => intro k off cs i h; simp; omega
  | cons c l ih =>
    intro k off cs i h
    rw [List.length_cons] at h
    rw [List.zipIdx_cons, List.foldl_cons, ih (k + 1) off _ i (by rw [Array.size_setIfInBounds]; omega)]
    by_cases h1 : off + (k + 1) ≤ i ∧ i < off + (k + 1) + l.length
    · rw [if_pos h1, if_pos (by rw [List.length_cons]; omega), show i - (off + k) = (i - (off + (k + 1))) + 1 by omega, List.getElem?_cons_succ]
    · rw [if_neg h1, List.length_cons]
      by_cases h2 : i = off + k
      · subst h2
        rw [if_pos (by omega), Array.getElem?_setIfInBounds_self_of_lt (by omega), Nat.sub_self]
        rfl
      · rw [if_neg (by omega), Array.getElem?_setIfInBounds_ne (by omega)]
theorem lay_at (C cs : Array Value) (off i : Nat) (h : off + C.size ≤ cs.size) : (lay C cs off)[i]? = if off ≤ i ∧ i < off + C.size then C[i - off]? else cs[i]? := by
  have := lay_list C.toList 0 off cs i (by simpa using h)
  unfold lay
  rw [← Array.foldl_toList, Array.toList_zipIdx]
  simpa using this
theorem lay_size (C cs : Array Value) (off : Nat) (h : off + C.size ≤ cs.size) : (lay C cs off).size = cs.size := by
  have key : ∀ (l : List (Value × Nat)) (ds : Array Value), (l.foldl (fun ds (c, j) => ds.setIfInBounds (off + j) c) ds).size = ds.size := by
    intro l
    induction l with
    | nil => intro ds; rfl
    | cons c l ih => intro ds; rw [List.foldl_cons, ih, Array.size_setIfInBounds]
  unfold lay
  rw [← Array.foldl_toList]
  exact key _ _
section
variable {P : Program} {ops : Array Oper} {Q : Exit → Act → World → Prop} {i : Nat} {o : Oper} {K : Act → World → Prop} {a : Act} {w : World}
theorem wpOp_build (hi : ops[i]? = some o) (hw : Region.wanted o (yielded ops a.tmps) = true) (t : TypeId) (parts : Array (Nat × Operand)) (ho : o.op = .build t parts) (cells : Array Value) (hf : P.built t (parts.map fun (i, x) => (i, a.eval x)).toList = some cells)
    (h : K (a.put o.dst (.agg cells)) w) : wpOp P ops Q i K a w :=
  wpOp_of_wp hi hw (wp_build t parts ho (by rw [hf]; rfl) (by rw [hf]; exact h))
theorem wpOp_mid (hi : ops[i]? = some o) (hw : Region.wanted o (yielded ops a.tmps) = true) (ty : TypeId) (x : Operand) (ho : o.op = .load ty x)
    (b off : Nat) (hx : a.eval x = .pointer (some ⟨b, off, none⟩)) (C : Array Value) (d : TypeDesc) (hc : w.rangeAt b off C.toList)
    (hu : P.underlying ty = some d) (hd : d.isRow = true) (hs : (P.info? ty).map (·.size) = some C.size)
    (h : K (a.put o.dst (.agg C)) w) : wpOp P ops Q i K a w :=
  wpOp_of_wp hi hw (wp_load_mid ty x ho b off hx C.toList d hc hu hd (by rw [hs, Array.length_toList]) h)
end
theorem range_below {w w1 : World} (h : Below w.heap.size w w1) {b o : Nat} {cs : List Value} (hc : w.rangeAt b o cs) : w1.rangeAt b o cs := fun j v hv => cell_below h (hc j v hv)
theorem range_of {w : World} {b : Nat} {C : Array Value} {t : TypeId} {fr : Nat × Nat} (h : w.heap[b]? = some (.cells C t fr)) (o : Nat) (cs : List Value) (hcs : ∀ j v, cs[j]? = some v → C[o + j]? = some v) : w.rangeAt b o cs := fun j v hv => (cell_of_row _ _ _ _ _ _ h).trans (hcs j v hv)
end Go.Proofs.YtgpfoamhcoipgaaDoor
/-! Values' states: with one more value, of two, what is told. -/
namespace Go.Proofs.YtgpfoamhcoipgaaDoor
open Go.RowKit
set_option linter.unusedVariables false
/-- A telling. -/
structure AV where
  n : Nat
  x : Nat
  ov : Bool
  lo : Nat
  hi : Nat
def avC (v : AV) : Array Value := #[.int .u64 (v.n : Int), .float .f64 v.x, .bool v.ov, .float .f64 v.lo, .float .f64 v.hi]
def noAV : AV := ⟨0, 0, false, 0, 0⟩
set_option maxRecDepth 100000 in
theorem zeroAgg : ∀ w, (zeroValue 38).run Tryd.prog w = .ok (.agg (avC noAV)) w := (zero_of_info (P := Tryd.prog) (v := .agg (avC noAV)) (n := 5) (by kernel_rfl)).1
set_option maxRecDepth 100000 in
theorem sizeAgg : (Tryd.prog.info? 38).map (·.size) = some 5 := by kernel_rfl
theorem avC_one (v : AV) : (avC v).all (·.oneCell') = true := by simp [avC, Value.oneCell']
/-! Structs built of structs. -/
theorem fill_step (place : Nat → Option (Nat × Nat)) (cs : Array Value) (i : Nat) (v : Value) (rest : List (Nat × Value)) (off size : Nat) (hp : place i = some (off, size)) (h1 : v.cells.size = size) (h2 : off + v.cells.size ≤ cs.size) :
    Instr.fill place cs ((i, v) :: rest) = Instr.fill place (lay v.cells cs off) rest := by
  subst h1
  rw [Instr.fill]
  simp only [hp]
  rw [if_neg (by simp; omega)]
  rfl
theorem built_of (t : TypeId) (it : TypeInfo) (z : Array Value) (fs : Array Field) (places : List (Nat × Nat)) (hi : Tryd.prog.info? t = some it) (hz : it.zero = some (.agg z)) (hu : Tryd.prog.underlying t = some (.struct fs))
    (hp : fs.toList.mapM (fun f => (Tryd.prog.info? f.type).map fun i => (f.offset, i.size)) = some places) (parts : List (Nat × Value)) : Tryd.prog.built t parts = Instr.fill (places.toArray[·]?) z parts := by
  unfold Program.built
  simp only [hi, hu, hz, hp]
  rfl
end Go.Proofs.YtgpfoamhcoipgaaDoor
/-! Values' states: of a list of values; tellings compared; the document's telling. -/
namespace Go.Proofs.YtgpfoamhcoipgaaDoor
open Go.RowKit
set_option linter.unusedVariables false
/-- Tellings compared. -/
def sameAV (a b : AV) : Bool := decide (a.n = b.n) && (decide (canon a.x = canon b.x) && (decide (a.ov = b.ov) && (decide (canon a.lo = canon b.lo) && decide (canon a.hi = canon b.hi))))
structure AV.ok (a : AV) : Prop where
  n : a.n < 18446744073709551616
  x : a.x < 18446744073709551616
  lo : a.lo < 18446744073709551616
  hi : a.hi < 18446744073709551616
set_option maxRecDepth 100000 in
theorem avC_cells (a : AV) : (avC a)[0]? = some (.int .u64 (a.n : Int)) ∧ (avC a)[1]? = some (.float .f64 a.x) ∧ (avC a)[2]? = some (.bool a.ov) ∧ (avC a)[3]? = some (.float .f64 a.lo) ∧ (avC a)[4]? = some (.float .f64 a.hi) := ⟨rfl, rfl, rfl, rfl, rfl⟩
theorem chain5 (c1 c2 c3 c4 c5 : Bool) : c1 = false ∨ (c1 = true ∧ c2 = false) ∨ (c1 = true ∧ c2 = true ∧ c3 = false) ∨ (c1 = true ∧ c2 = true ∧ c3 = true ∧ c4 = false) ∨ (c1 = true ∧ c2 = true ∧ c3 = true ∧ c4 = true ∧ c5 = false) ∨ (c1 = true ∧ c2 = true ∧ c3 = true ∧ c4 = true ∧ c5 = true) := by
  cases c1 <;> cases c2 <;> cases c3 <;> cases c4 <;> cases c5 <;> simp
theorem canon_int (p q : Nat) : ((p : Int) == (q : Int)) = decide (p = q) := by rw [Bool.eq_iff_iff, beq_iff_eq, decide_eq_true_eq]; omega
theorem bool_eq (p q : Bool) : (p == q) = decide (p = q) := by cases p <;> cases q <;> rfl

set_option maxRecDepth 100000 in
set_option maxHeartbeats 4000000 in
theorem aggSame_any (a b : AV) (w : World) (ha : a.ok) (hb : b.ok) : Calls Tryd.prog 24 #[.agg (avC a), .agg (avC b)] w fun e w' => e = .returned (.bool (sameAV a b)) ∧ Below w.heap.size w w' := by
  have Hs := Lib.hid sizeAgg
  obtain ⟨a0, a1, a2, a3, a4⟩ := avC_cells a
  obtain ⟨b0, b1, b2, b3, b4⟩ := avC_cells b
  have hA : (avC a).size = 5 := rfl
  have hB : (avC b).size = 5 := rfl
  have s1 := fun w => same_any a.x b.x w
  have s2 := fun w => same_any a.lo b.lo w
  have s3 := fun w => same_any a.hi b.hi w
  have hu : sameAV a b = (decide (a.n = b.n) && (decide (canon a.x = canon b.x) && (decide (a.ov = b.ov) && (decide (canon a.lo = canon b.lo) && decide (canon a.hi = canon b.hi))))) := rfl
  rw [hu]
  have k0 := canon_int a.n b.n
  have k2 := bool_eq a.ov b.ov
  generalize decide (a.n = b.n) = c1 at *
  generalize decide (canon a.x = canon b.x) = c2 at *
  generalize decide (a.ov = b.ov) = c3 at *
  generalize decide (canon a.lo = canon b.lo) = c4 at *
  generalize decide (canon a.hi = canon b.hi) = c5 at *
  generalize avC a = A at *
  generalize avC b = B at *
  have hb2 := below_alloc (below_alloc (Below.refl w.heap.size w) (.cells A 38)) (.cells B 38)
  have h2 := heap_alloc2_old w (.cells A 38) (.cells B 38)
  have h3 := heap_alloc2_new w (.cells A 38) (.cells B 38)
  have ca0 := (cell_of_row _ _ 0 _ _ _ h2).trans a0
  have ca1 := (cell_of_row _ _ 1 _ _ _ h2).trans a1
  have ca2 := (cell_of_row _ _ 2 _ _ _ h2).trans a2
  have ca3 := (cell_of_row _ _ 3 _ _ _ h2).trans a3
  have ca4 := (cell_of_row _ _ 4 _ _ _ h2).trans a4
  have cb0 := (cell_of_row _ _ 0 _ _ _ h3).trans b0
  have cb1 := (cell_of_row _ _ 1 _ _ _ h3).trans b1
  have cb2 := (cell_of_row _ _ 2 _ _ _ h3).trans b2
  have cb3 := (cell_of_row _ _ 3 _ _ _ h3).trans b3
  have cb4 := (cell_of_row _ _ 4 _ _ _ h3).trans b4
  clear a0 a1 a2 a3 a4 b0 b1 b2 b3 b4 hA hB h2 h3 hu
  go_enter Tryd.func24, Tryd.ntmps24
  go_upto_region 1 with fail
  generalize (w.alloc (.cells A 38)).alloc (.cells B 38) = w2 at *
  rcases chain5 c1 c2 c3 c4 c5 with rfl | ⟨rfl, rfl⟩ | ⟨rfl, rfl, rfl⟩ | ⟨rfl, rfl, rfl, rfl⟩ | ⟨rfl, rfl, rfl, rfl, rfl⟩ | ⟨rfl, rfl, rfl, rfl, rfl⟩
  all_goals
    go_wp2_with (go_at_call 34; first
      | ((with_reducible refine (s1 _).mono ?_); rintro e w3 ⟨rfl, rfl⟩)
      | ((with_reducible refine (s2 _).mono ?_); rintro e w3 ⟨rfl, rfl⟩)
      | ((with_reducible refine (s3 _).mono ?_); rintro e w3 ⟨rfl, rfl⟩))
    go_ret
    exact ⟨rfl, hb2⟩
/-! What is told of a list of values, by the document. -/
end Go.Proofs.YtgpfoamhcoipgaaDoor
