import Derived.Test.YtejkilgpcbdepaaExM
import Derived.StillTail
/-! Regions that draw their order: a fact that every operation keeps, whichever comes up. -/
namespace Go.Proofs.Ytejkilgpcbdepaa
open Go.RowKit
set_option linter.unusedVariables false

section
variable {P : Program} {ops : Array Oper} {Q : Exit → Act → World → Prop} {md : Region.Mode}

/-- How many operations are still to come. -/
def unl : Nat → Array Bool → Nat
  | 0, _ => 0
  | n + 1, l => unl n l + (if l.getD n true = true then 0 else 1)
theorem unl_past (l : Array Bool) (i : Nat) : ∀ n, n ≤ i → unl n (l.setIfInBounds i true) = unl n l := by
  intro n
  induction n with
  | zero => intro _; rfl
  | succ n ih => intro h; rw [unl, unl, ih (by omega), getD_set_ne true (by omega)]
theorem getD_set_self (l : Array Bool) (i : Nat) (d : Bool) (h : i < l.size) : (l.setIfInBounds i true).getD i d = true := by
  rw [Array.getD_eq_getD_getElem?, Array.getElem?_setIfInBounds_self_of_lt h]; rfl
theorem unl_set (l : Array Bool) (i : Nat) (hi : i < l.size) (h : l.getD i true = false) : ∀ n, i < n → unl n (l.setIfInBounds i true) + 1 = unl n l := by
  intro n
  induction n with
  | zero => intro h; omega
  | succ n ih =>
    intro hn
    rw [unl, unl]
    by_cases e : i = n
    · subst e
      rw [unl_past l i i (Nat.le_refl _), getD_set_self l i true hi, h]; simp
    · rw [getD_set_ne true e]
      have := ih (by omega)
      omega
theorem unl_zero (l : Array Bool) : ∀ n, unl n l = 0 → ∀ i, i < n → l.getD i true = true := by
  intro n
  induction n with
  | zero => intro _ i hi; omega
  | succ n ih =>
    intro h i hi
    rw [unl] at h
    by_cases e : i = n
    · subst e
      cases hc : l.getD i true with
      | true => rfl
      | false => rw [hc] at h; simp at h
    · exact ih (by omega) i (by omega)
theorem unl_le (l : Array Bool) : ∀ n, unl n l ≤ n := by
  intro n
  induction n with
  | zero => exact Nat.le_refl _
  | succ n ih => rw [unl]; split <;> omega
def Closed (md : Region.Mode) (ops : Array Oper) (listed : Array Bool) : Prop := ∀ j i, Region.waitsFor md ops j i = true → listed.getD j false = true → listed.getD i false = true
theorem dep_of {listed : Array Bool} {i j : Nat} (hr : j ∈ Region.ready md ops listed) (h : Region.waitsFor md ops j i = true) : listed.getD i false = true := by
  obtain ⟨_, o, ho, hall⟩ := mem_ready.1 hr
  obtain ⟨oj, hj, e, he, hb, rfl⟩ := Region.waitsFor_spec h
  obtain rfl : oj = o := Option.some.inj (hj.symm.trans ho)
  exact hall e he hb
theorem getD_false {l : Array Bool} {i : Nat} (h : l.getD i true = false) : l.getD i false = false := getD_both h
theorem wpAny_inv (I : Array Bool → Act → World → Prop)
    (hstep : ∀ listed a w i, listed.size = ops.size → Closed md ops listed → I listed a w → i < ops.size → listed.getD i false = false → i ∈ Region.ready md ops listed → wpOp P ops Q i (fun a' w' => I (listed.setIfInBounds i true) a' w') a w)
    (hend : ∀ listed a w, listed.size = ops.size → I listed a w → Region.ready md ops listed = [] → Q .normal a w) :
    ∀ (fuel : Nat) (listed : Array Bool) (a : Act) (w : World), listed.size = ops.size → Closed md ops listed → unl ops.size listed ≤ fuel → I listed a w → wpAny P md ops Q fuel listed a w := by
  have nr : ∀ listed : Array Bool, unl ops.size listed = 0 → Region.ready md ops listed = [] := fun listed h => by
    refine List.eq_nil_iff_forall_not_mem.2 fun i hi => ?_
    obtain ⟨h0, o, ho, _⟩ := mem_ready.1 hi
    have := unl_zero listed ops.size h i (Array.getElem?_eq_some_iff.1 ho).1
    rw [h0] at this
    cases this
  intro fuel
  induction fuel with
  | zero =>
    intro listed a w hs hc hu hI
    have hr := nr listed (by omega)
    exact ⟨hr, hend _ _ _ hs hI hr⟩
  | succ fuel ih =>
    intro listed a w hs hc hu hI
    refine ⟨fun hr => hend _ _ _ hs hI hr, fun i hi => ?_⟩
    obtain ⟨h0, o, ho, hall⟩ := mem_ready.1 hi
    have hlt := (Array.getElem?_eq_some_iff.1 ho).1
    refine wpOp_mono (fun a' w' h => ih _ _ _ (by rw [Array.size_setIfInBounds]; exact hs) (fun j k hw hj => ?_) ?_ h) (hstep listed a w i hs hc hI hlt (getD_false h0) hi)
    · by_cases e : i = j
      · subst e
        exact getD_set_true (dep_of hi hw)
      · rw [getD_set_ne false e] at hj
        exact getD_set_true (hc j k hw hj)
    · have := unl_set listed i (by omega) h0 ops.size hlt
      omega
def forwardB (md : Region.Mode) (ops : Array Oper) : Bool := (List.range ops.size).all fun j => (List.range ops.size).all fun i => !Region.waitsFor md ops j i || decide (i < j)
def inB (md : Region.Mode) (ops : Array Oper) : Bool := ops.all fun o => o.after.all fun e => !Region.binds md e || decide (e.on < ops.size)
theorem all_listed {listed : Array Bool} (hf : forwardB md ops = true) (hb : inB md ops = true) (hs : listed.size = ops.size) (h : Region.ready md ops listed = []) : ∀ i, i < ops.size → listed.getD i false = true := by
  intro i
  induction i using Nat.strongRecOn with
  | _ i ih =>
    intro hi
    cases hc : listed.getD i false with
    | true => rfl
    | false =>
      exfalso
      have hu : listed.getD i true = false := getD_in (by omega) hc
      have : i ∈ Region.ready md ops listed := by
        refine mem_ready.2 ⟨hu, ops[i], Array.getElem?_eq_getElem hi, fun e he hbd => ?_⟩
        have hin := (Array.all_eq_true'.1 ((Array.all_eq_true'.1 hb) ops[i] (Array.getElem_mem hi))) e he
        rw [hbd] at hin
        have hin2 : e.on < ops.size := by simpa using hin
        have hw : Region.waitsFor md ops i e.on = true := by
          unfold Region.waitsFor
          rw [Array.getElem?_eq_getElem hi]
          exact Array.any_eq_true'.2 ⟨e, he, by rw [hbd]; simp⟩
        have h1 := List.all_eq_true.1 (List.all_eq_true.1 hf i (List.mem_range.2 hi)) e.on (List.mem_range.2 hin2)
        rw [hw] at h1
        exact ih e.on (by simpa using h1) hin2
      rw [h] at this
      cases this
/-- A region that draws its order keeps what each of its operations keeps. -/
theorem region_inv {id : Nat} {a : Act} {w : World} (hm : P.follows .mixedOrders = true) (hf : forwardB .any ops = true) (hb : inB .any ops = true) (I : Array Bool → Act → World → Prop)
    (h0 : I (Array.replicate ops.size false) a w.drew)
    (hstep : ∀ listed a w i, listed.size = ops.size → Closed .any ops listed → I listed a w → i < ops.size → listed.getD i false = false → i ∈ Region.ready .any ops listed → wpOp P ops Q i (fun a' w' => I (listed.setIfInBounds i true) a' w') a w)
    (hend : ∀ listed a w, I listed a w → (∀ i, i < ops.size → listed.getD i false = true) → Q .normal a w) : (Code.region id ops true).wp P Q a w := by
  refine wp_region_any hm (wpAny_inv I hstep (fun listed a w hs hI hr => hend listed a w hI (all_listed hf hb hs hr)) _ _ _ _ (by simp) (fun j i _ h => ?_) (unl_le _ _) h0)
  rw [getD_replicate_false] at h
  cases h
theorem wpOp_val {i : Nat} {o : Oper} {v : Value} {K : Act → World → Prop} {a : Act} {w w' : World} (hi : ops[i]? = some o) (hw : Region.wanted o (yielded ops a.tmps) = true) (hx : (execOp a.eval o).run P w = .ok (.value v) w') (h : K (a.put o.dst v) w') : wpOp P ops Q i K a w := by
  unfold wpOp
  simp only [hi, hw, if_true]
  left
  unfold Oper.wp
  rw [hx]
  exact h
theorem wpOp_skip {i : Nat} {o : Oper} {K : Act → World → Prop} {a : Act} {w w' : World} (hi : ops[i]? = some o) (hw : Region.wanted o (yielded ops a.tmps) = true) (hx : (execOp a.eval o).run P w = .ok .skip w') (h : K (a.put o.dst undef) w') : wpOp P ops Q i K a w := by
  unfold wpOp
  simp only [hi, hw, if_true]
  left
  unfold Oper.wp
  rw [hx]
  exact h
theorem wpOp_skipped {i : Nat} {o : Oper} {K : Act → World → Prop} {a : Act} {w : World} (hi : ops[i]? = some o) (hw : Region.wanted o (yielded ops a.tmps) = false) (h : K (a.put o.dst undef) w) : wpOp P ops Q i K a w := by
  unfold wpOp
  simp only [hi, hw]
  exact h
end
end Go.Proofs.Ytejkilgpcbdepaa
