import Derived.Test.YthplelglifnhoaaPl
import Derived.StillTail
/-! Regions that draw their order: a fact that every operation keeps, whichever comes up. -/
namespace Go.Proofs.Ythplelglifnhoaa
open Go.RowKit
set_option linter.unusedVariables false

section
variable {P : Program} {ops : Array Oper} {Q : Exit → Act → World → Prop} {md : Region.Mode}

/-- How many operations are still to come. -/
def unl : Nat → Array Bool → Nat
  | 0, _ => 0
  | n + 1, l => unl n l + (if l.getD n true = true then 0 else 1)
theorem unl_past (l : Array Bool) (i : Nat) : ∀ n, n ≤ i → unl n (l.setIfInBounds i true) = unl n l := by
  intro n
  induction n with
  | zero => intro _; rfl
  | succ n ih => intro h; rw [unl, unl, ih (by omega), getD_set_ne true (by omega)]
theorem getD_set_self (l : Array Bool) (i : Nat) (d : Bool) (h : i < l.size) : (l.setIfInBounds i true).getD i d = true := by
  rw [Array.getD_eq_getD_getElem?, Array.getElem?_setIfInBounds_self_of_lt h]; rfl
theorem unl_set (l : Array Bool) (i : Nat) (hi : i < l.size) (h : l.getD i true = false) : ∀ n, i < n → unl n (l.setIfInBounds i true) + 1 = unl n l := by
  intro n
  induction n with
  | zero => intro h; omega
  | succ n ih =>
    intro hn
    rw [unl, unl]
    by_cases e : i = n
    · subst e
      rw [unl_past l i i (Nat.le_refl _), getD_set_self l i true hi, h]; simp
    · rw [getD_set_ne true e]
      have := ih (by omega)
      omega
theorem unl_zero (l : Array Bool) : ∀ n, unl n l = 0 → ∀ i, i < n → l.getD i true = true := by
  intro n
  induction n with
  | zero => intro _ i hi; omega
  | succ n ih =>
    intro h i hi
    rw [unl] at h
    by_cases e : i = n
    · subst e
      cases hc : l.getD i true with
      | true => rfl
      | false => rw [hc] at h; simp at h
    · exact ih (by omega) i (by omega)
theorem unl_le (l : Array Bool) : ∀ n, unl n l ≤ n := by
  intro n
  induction n with
  | zero => exact Nat.le_refl _
  | succ n ih => rw [unl]; split <;> omega
def Closed (md : Region.Mode) (ops : Array Oper) (listed : Array Bool) : Prop := ∀ j i, Region.waitsFor md ops j i = true → listed.getD j false = true → listed.getD i false = true
theorem dep_of {listed : Array Bool} {i j : Nat} (hr : j ∈ Region.ready md ops listed) (h : Region.waitsFor md ops j i = true) : listed.getD i false = true := by
  obtain ⟨_, o, ho, hall⟩ := mem_ready.1 hr
  obtain ⟨oj, hj, e, he, hb, rfl⟩ := Region.waitsFor_spec h
  obtain rfl : oj = o := Option.some.inj (hj.symm.trans ho)
  exact hall e he hb
theorem getD_false {l : Array Bool} {i : Nat} (h : l.getD i true = false) : l.getD i false = false := getD_both h
theorem wpAny_inv (I : Array Bool → Act → World → Prop)
    (hstep : ∀ listed a w i, listed.size = ops.size → Closed md ops listed → I listed a w → i < ops.size → listed.getD i false = false → i ∈ Region.ready md ops listed → wpOp P ops Q i (fun a' w' => I (listed.setIfInBounds i true) a' w') a w)
    (hend : ∀ listed a w, listed.size = ops.size → I listed a w → Region.ready md ops listed = [] → Q .normal a w) :
    ∀ (fuel : Nat) (listed : Array Bool) (a : Act) (w : World), listed.size = ops.size → Closed md ops listed → unl ops.size listed ≤ fuel → I listed a w → wpAny P md ops Q fuel listed a w := by
  have nr : ∀ listed : Array Bool, unl ops.size listed = 0 → Region.ready md ops listed = [] := fun listed h => by
    refine List.eq_nil_iff_forall_not_mem.2 fun i hi => ?_
    obtain ⟨h0, o, ho, _⟩ := mem_ready.1 hi
    have := unl_zero listed ops.size h i (Array.getElem?_eq_some_iff.1 ho).1
    rw [h0] at this
    cases this
  intro fuel
  induction fuel with
  | zero =>
    intro listed a w hs hc hu hI
    have hr := nr listed (by omega)
    exact ⟨hr, hend _ _ _ hs hI hr⟩
  | succ fuel ih =>
    intro listed a w hs hc hu hI
    refine ⟨fun hr => hend _ _ _ hs hI hr, fun i hi => ?_⟩
    obtain ⟨h0, o, ho, hall⟩ := mem_ready.1 hi
    have hlt := (Array.getElem?_eq_some_iff.1 ho).1
    refine wpOp_mono (fun a' w' h => ih _ _ _ (by rw [Array.size_setIfInBounds]; exact hs) (fun j k hw hj => ?_) ?_ h) (hstep listed a w i hs hc hI hlt (getD_false h0) hi)
    · by_cases e : i = j
      · subst e
        exact getD_set_true (dep_of hi hw)
      · rw [getD_set_ne false e] at hj
        exact getD_set_true (hc j k hw hj)
    · have := unl_set listed i (by omega) h0 ops.size hlt
      omega
def forwardB (md : Region.Mode) (ops : Array Oper) : Bool := (List.range ops.size).all fun j => (List.range ops.size).all fun i => !Region.waitsFor md ops j i || decide (i < j)
def inB (md : Region.Mode) (ops : Array Oper) : Bool := ops.all fun o => o.after.all fun e => !Region.binds md e || decide (e.on < ops.size)
theorem all_listed {listed : Array Bool} (hf : forwardB md ops = true) (hb : inB md ops = true) (hs : listed.size = ops.size) (h : Region.ready md ops listed = []) : ∀ i, i < ops.size → listed.getD i false = true := by
  intro i
  induction i using Nat.strongRecOn with
  | _ i ih =>
    intro hi
    cases hc : listed.getD i false with
    | true => rfl
    | false =>
      exfalso
      have hu : listed.getD i true = false := getD_in (by omega) hc
      have : i ∈ Region.ready md ops listed := by
        refine mem_ready.2 ⟨hu, ops[i], Array.getElem?_eq_getElem hi, fun e he hbd => ?_⟩
        have hin := (Array.all_eq_true'.1 ((Array.all_eq_true'.1 hb) ops[i] (Array.getElem_mem hi))) e he
        rw [hbd] at hin
        have hin2 : e.on < ops.size := by simpa using hin
        have hw : Region.waitsFor md ops i e.on = true := by
          unfold Region.waitsFor
          rw [Array.getElem?_eq_getElem hi]
          exact Array.any_eq_true'.2 ⟨e, he, by rw [hbd]; simp⟩
        have h1 := List.all_eq_true.1 (List.all_eq_true.1 hf i (List.mem_range.2 hi)) e.on (List.mem_range.2 hin2)
        rw [hw] at h1
        exact ih e.on (by simpa using h1) hin2
      rw [h] at this
      cases this
/-- A region that draws its order keeps what each of its operations keeps. -/
theorem region_inv {id : Nat} {a : Act} {w : World} (hm : P.follows .mixedOrders = true) (hf : forwardB .any ops = true) (hb : inB .any ops = true) (I : Array Bool → Act → World → Prop)
    (h0 : I (Array.replicate ops.size false) a w.drew)
    (hstep : ∀ listed a w i, listed.size = ops.size → Closed .any ops listed → I listed a w → i < ops.size → listed.getD i false = false → i ∈ Region.ready .any ops listed → wpOp P ops Q i (fun a' w' => I (listed.setIfInBounds i true) a' w') a w)
    (hend : ∀ listed a w, I listed a w → (∀ i, i < ops.size → listed.getD i false = true) → Q .normal a w) : (Code.region id ops true).wp P Q a w := by
  refine wp_region_any hm (wpAny_inv I hstep (fun listed a w hs hI hr => hend listed a w hI (all_listed hf hb hs hr)) _ _ _ _ (by simp) (fun j i _ h => ?_) (unl_le _ _) h0)
  rw [getD_replicate_false] at h
  cases h
theorem wpOp_val {i : Nat} {o : Oper} {v : Value} {K : Act → World → Prop} {a : Act} {w w' : World} (hi : ops[i]? = some o) (hw : Region.wanted o (yielded ops a.tmps) = true) (hx : (execOp a.eval o).run P w = .ok (.value v) w') (h : K (a.put o.dst v) w') : wpOp P ops Q i K a w := by
  unfold wpOp
  simp only [hi, hw, if_true]
  left
  unfold Oper.wp
  rw [hx]
  exact h
theorem wpOp_skip {i : Nat} {o : Oper} {K : Act → World → Prop} {a : Act} {w w' : World} (hi : ops[i]? = some o) (hw : Region.wanted o (yielded ops a.tmps) = true) (hx : (execOp a.eval o).run P w = .ok .skip w') (h : K (a.put o.dst undef) w') : wpOp P ops Q i K a w := by
  unfold wpOp
  simp only [hi, hw, if_true]
  left
  unfold Oper.wp
  rw [hx]
  exact h
theorem wpOp_skipped {i : Nat} {o : Oper} {K : Act → World → Prop} {a : Act} {w : World} (hi : ops[i]? = some o) (hw : Region.wanted o (yielded ops a.tmps) = false) (h : K (a.put o.dst undef) w) : wpOp P ops Q i K a w := by
  unfold wpOp
  simp only [hi, hw]
  exact h
end
end Go.Proofs.Ythplelglifnhoaa
/-! Regions that draw their order: each operation leaves a value of which a fact is known, whichever comes up first. -/
namespace Go.Proofs.Ythplelglifnhoaa
open Go.RowKit
set_option linter.unusedVariables false

section
variable {P : Program} {ops : Array Oper} {Q : Exit → Act → World → Prop}
def dstAt (ops : Array Oper) (i : Nat) : Option Tmp := (ops[i]?).bind (·.dst)
/-- Where the operations write: within the frame, each elsewhere, and none where the fixed values stand. -/
def dstsB (ops : Array Oper) (n : Nat) (T : List Nat) : Bool :=
  (List.range ops.size).all fun i => match dstAt ops i with
    | none => true
    | some d => decide (d < n) && T.all (· != d) && (List.range ops.size).all fun j => decide (i = j) || dstAt ops j != some d
theorem dsts_spec {n : Nat} {T : List Nat} (h : dstsB ops n T = true) {i d : Nat} (hi : i < ops.size) (hd : dstAt ops i = some d) : d < n ∧ (∀ t, t ∈ T → t ≠ d) ∧ ∀ j, j < ops.size → i ≠ j → dstAt ops j ≠ some d := by
  have h1 := List.all_eq_true.1 h i (List.mem_range.2 hi)
  rw [hd] at h1
  simp only [Bool.and_eq_true, decide_eq_true_eq] at h1
  obtain ⟨⟨h1, h2⟩, h3⟩ := h1
  refine ⟨h1, fun t ht => by simpa using List.all_eq_true.1 h2 t ht, fun j hj hne e => ?_⟩
  have := List.all_eq_true.1 h3 j (List.mem_range.2 hj)
  rw [e] at this
  simp [hne] at this
structure Fixed (n : Nat) (T : List (Nat × Value)) (a : Act) : Prop where
  size : a.tmps.size = n
  dfs : a.defers = []
  at_ : ∀ p, p ∈ T → a.tmps[p.1]? = some p.2
theorem region_vals {id : Nat} {a : Act} {w : World} (n : Nat) (T : List (Nat × Value)) (Vp : Nat → World → Value → Prop) (S : World → Prop)
    (hm : P.follows .mixedOrders = true) (hf : forwardB .any ops = true) (hb : inB .any ops = true) (hd : dstsB ops n (T.map (·.1)) = true)
    (hV : ∀ j w w' v, Below w.heap.size w w' → Vp j w v → Vp j w' v) (hS : ∀ w w', Below w.heap.size w w' → S w → S w')
    (h0 : Fixed n T a) (h3 : S w)
    (hstep : ∀ a w i, Fixed n T a → S w → (∀ j, Region.waitsFor .any ops i j = true → ∀ d, dstAt ops j = some d → ∃ v, a.tmps[d]? = some v ∧ Vp j w v) → i < ops.size →
      wpOp P ops Q i (fun a' w' => Below w.heap.size w w' ∧ ∃ v, a' = a.put (dstAt ops i) v ∧ Vp i w' v) a w)
    (hend : ∀ a w', Below w.heap.size w w' → Fixed n T a → S w' → (∀ j, j < ops.size → ∀ d, dstAt ops j = some d → ∃ v, a.tmps[d]? = some v ∧ Vp j w' v) → Q .normal a w') : (Code.region id ops true).wp P Q a w := by
  refine region_inv hm hf hb (fun listed a w' => Below w.heap.size w w' ∧ Fixed n T a ∧ S w' ∧ ∀ j, j < ops.size → listed.getD j false = true → ∀ d, dstAt ops j = some d → ∃ v, a.tmps[d]? = some v ∧ Vp j w' v) ?_ ?_ ?_
  · refine ⟨(Below.refl w.heap.size w).drew, h0, hS w w.drew (Below.refl _ _).drew h3, fun j _ h => ?_⟩
    rw [getD_replicate_false] at h; cases h
  · intro listed a w1 i hs hc hI hi hu hr
    obtain ⟨i1, i2, i3, i4⟩ := hI
    refine wpOp_mono ?_ (hstep a w1 i i2 i3 (fun j hw d hd' => ?_) hi)
    · rintro a' w2 ⟨b, v, rfl, hv⟩
      have hsp : ∀ d, dstAt ops i = some d → d < n ∧ (∀ t, t ∈ T.map (·.1) → t ≠ d) ∧ ∀ j, j < ops.size → i ≠ j → dstAt ops j ≠ some d := fun d h => dsts_spec hd hi h
      refine ⟨below_trans i1 b, ?_, hS _ _ b i3, fun j hj hl d hjd => ?_⟩
      · cases hdi : dstAt ops i with
        | none => exact i2
        | some d =>
          obtain ⟨_, s2, _⟩ := hsp d hdi
          refine ⟨?_, i2.dfs, fun p hp => ?_⟩
          · show (a.tmps.setIfInBounds d v).size = n
            rw [Array.size_setIfInBounds]; exact i2.size
          · show (a.tmps.setIfInBounds d v)[p.1]? = _
            rw [Array.getElem?_setIfInBounds_ne (fun e => s2 p.1 (List.mem_map.2 ⟨p, hp, rfl⟩) e.symm)]
            exact i2.at_ p hp
      · by_cases e : i = j
        · subst e
          rw [hjd]
          obtain ⟨s1, _, _⟩ := hsp d hjd
          refine ⟨v, ?_, hv⟩
          show (a.tmps.setIfInBounds d v)[d]? = _
          rw [Array.getElem?_setIfInBounds_self_of_lt (by rw [i2.size]; exact s1)]
        · rw [getD_set_ne false e] at hl
          obtain ⟨u, hu1, hu2⟩ := i4 j hj hl d hjd
          refine ⟨u, ?_, hV _ _ _ _ b hu2⟩
          cases hdi : dstAt ops i with
          | none => exact hu1
          | some d' =>
            obtain ⟨_, _, s3⟩ := hsp d' hdi
            show (a.tmps.setIfInBounds d' v)[d]? = _
            rw [Array.getElem?_setIfInBounds_ne (fun e2 : d' = d => s3 j hj e (hjd.trans (congrArg some e2.symm)))]
            exact hu1
    · have hl := dep_of hr hw
      have hj : j < ops.size := by
        obtain ⟨v, h⟩ : ∃ o, ops[j]? = some o := by
          unfold dstAt at hd'
          cases hq : ops[j]? with
          | none => rw [hq] at hd'; cases hd'
          | some o => exact ⟨o, rfl⟩
        exact (Array.getElem?_eq_some_iff.1 h).1
      exact i4 j hj hl d hd'
  · intro listed a w1 hI hall
    exact hend a w1 hI.1 hI.2.1 hI.2.2.1 (fun j hj d hd' => hI.2.2.2 j hj (hall j hj) d hd')
theorem wpOp_of_wp {i : Nat} {o : Oper} {K : Act → World → Prop} {a : Act} {w : World} (hi : ops[i]? = some o) (hw : Region.wanted o (yielded ops a.tmps) = true) (h : o.wp P a w K Q) : wpOp P ops Q i K a w := by
  unfold wpOp
  simp only [hi, hw, if_true]
  exact .inl h
end
end Go.Proofs.Ythplelglifnhoaa
/-! Regions that draw their order: what is left is what the order of the text would leave, whichever order is drawn. -/
namespace Go.Proofs.Ythplelglifnhoaa
open Go.RowKit
set_option linter.unusedVariables false

section
variable {P : Program} {ops : Array Oper} {Q : Exit → Act → World → Prop}
def upd (vals : Nat → Value) (i : Nat) (v : Value) : Nat → Value := fun j => if j = i then v else vals j
/-- The frame behind the operations, in the order of the text. -/
def putAll (ops : Array Oper) (vals : Nat → Value) (a : Act) : Nat → Act
  | 0 => a
  | n + 1 => (putAll ops vals a n).put (dstAt ops n) (vals n)
theorem put_size (a : Act) (d : Option Tmp) (v : Value) : (a.put d v).tmps.size = a.tmps.size := by
  cases d with
  | none => rfl
  | some d => show (a.tmps.setIfInBounds d v).size = _; rw [Array.size_setIfInBounds]
theorem put_dfs (a : Act) (d : Option Tmp) (v : Value) : (a.put d v).defers = a.defers := by cases d <;> rfl
theorem put_self (a : Act) (d : Tmp) (v : Value) (h : d < a.tmps.size) : (a.put (some d) v).tmps[d]? = some v := by
  show (a.tmps.setIfInBounds d v)[d]? = _
  rw [Array.getElem?_setIfInBounds_self_of_lt h]
theorem put_other (a : Act) (d : Option Tmp) (t : Tmp) (v : Value) (h : d ≠ some t) : (a.put d v).tmps[t]? = a.tmps[t]? := by
  cases d with
  | none => rfl
  | some d =>
    show (a.tmps.setIfInBounds d v)[t]? = _
    rw [Array.getElem?_setIfInBounds_ne (fun e => h (congrArg some e))]
theorem putAll_size (vals : Nat → Value) (a : Act) : ∀ n, (putAll ops vals a n).tmps.size = a.tmps.size ∧ (putAll ops vals a n).defers = a.defers := by
  intro n
  induction n with
  | zero => exact ⟨rfl, rfl⟩
  | succ n ih => exact ⟨(put_size _ _ _).trans ih.1, (put_dfs _ _ _).trans ih.2⟩
theorem putAll_other (vals : Nat → Value) (a : Act) (t : Tmp) : ∀ n, (∀ j, j < n → dstAt ops j ≠ some t) → (putAll ops vals a n).tmps[t]? = a.tmps[t]? := by
  intro n
  induction n with
  | zero => intro _; rfl
  | succ n ih =>
    intro h
    rw [putAll, put_other _ _ _ _ (h n (by omega))]
    exact ih (fun j hj => h j (by omega))
theorem putAll_at (vals : Nat → Value) (a : Act) (i : Nat) (t : Tmp) (ht : t < a.tmps.size) (hi : dstAt ops i = some t) : ∀ n, i < n → (∀ j, j < n → i ≠ j → dstAt ops j ≠ some t) → (putAll ops vals a n).tmps[t]? = some (vals i) := by
  intro n
  induction n with
  | zero => intro h; omega
  | succ n ih =>
    intro h hne
    rw [putAll]
    by_cases e : i = n
    · subst e
      rw [hi]
      exact put_self _ _ _ (by rw [(putAll_size vals a i).1]; exact ht)
    · rw [put_other _ _ _ _ (hne n (by omega) e)]
      exact ih (by omega) (fun j hj => hne j (by omega))
/-- The frame while the region runs: what is listed lies in its place, all else is as it was. -/
structure InRun (ops : Array Oper) (a0 : Act) (listed : Array Bool) (vals : Nat → Value) (a : Act) : Prop where
  size : a.tmps.size = a0.tmps.size
  dfs : a.defers = a0.defers
  at_ : ∀ j d, j < ops.size → listed.getD j false = true → dstAt ops j = some d → a.tmps[d]? = some (vals j)
  old : ∀ t, (∀ j, j < ops.size → dstAt ops j ≠ some t) → a.tmps[t]? = a0.tmps[t]?
theorem act_ext {a b : Act} (h : a.tmps = b.tmps) (k : a.defers = b.defers) : a = b := by
  cases a; cases b; cases h; cases k; rfl
theorem region_run {id : Nat} {a0 : Act} {w0 : World} (I : Array Bool → (Nat → Value) → World → Prop)
    (hm : P.follows .mixedOrders = true) (hf : forwardB .any ops = true) (hb : inB .any ops = true) (hd : dstsB ops a0.tmps.size [] = true)
    (h0 : I (Array.replicate ops.size false) (fun _ => undef) w0.drew)
    (hstep : ∀ listed vals a w i, listed.size = ops.size → Closed .any ops listed → I listed vals w → InRun ops a0 listed vals a → i < ops.size → listed.getD i false = false → i ∈ Region.ready .any ops listed →
      wpOp P ops Q i (fun a' w' => ∃ v, a' = a.put (dstAt ops i) v ∧ I (listed.setIfInBounds i true) (upd vals i v) w') a w)
    (hend : ∀ listed vals w F, I listed vals w → (∀ i, i < ops.size → listed.getD i false = true) → F = putAll ops vals a0 ops.size → Q .normal F w) : (Code.region id ops true).wp P Q a0 w0 := by
  refine region_inv hm hf hb (fun listed a w => ∃ vals, I listed vals w ∧ InRun ops a0 listed vals a) ?_ ?_ ?_
  · refine ⟨_, h0, rfl, rfl, fun j d _ h => ?_, fun t _ => rfl⟩
    rw [getD_replicate_false] at h; cases h
  · rintro listed a w i hs hc ⟨vals, hI, hR⟩ hi hu hr
    refine wpOp_mono ?_ (hstep listed vals a w i hs hc hI hR hi hu hr)
    rintro a' w' ⟨v, rfl, hI'⟩
    refine ⟨_, hI', (put_size _ _ _).trans hR.size, (put_dfs _ _ _).trans hR.dfs, fun j d hj hl hdj => ?_, fun t ht => ?_⟩
    · by_cases e : i = j
      · subst e
        obtain ⟨s1, _, _⟩ := dsts_spec hd hi hdj
        rw [hdj, put_self _ _ _ (by rw [hR.size]; exact s1)]
        simp [upd]
      · rw [getD_set_ne false e] at hl
        obtain ⟨_, _, s3⟩ := dsts_spec hd hj hdj
        rw [put_other _ _ _ _ (s3 i hi (Ne.symm e)), hR.at_ j d hj hl hdj]
        simp [upd, Ne.symm e]
    · rw [put_other _ _ _ _ (ht i hi)]
      exact hR.old t ht
  · rintro listed a w ⟨vals, hI, hR⟩ hall
    have : a = putAll ops vals a0 ops.size := by
      refine act_ext ?_ (by rw [hR.dfs, (putAll_size vals a0 _).2])
      apply Array.ext_getElem?
      intro t
      by_cases ht : ∃ j, j < ops.size ∧ dstAt ops j = some t
      · obtain ⟨j, hj, hdj⟩ := ht
        obtain ⟨s1, _, s3⟩ := dsts_spec hd hj hdj
        rw [hR.at_ j t hj (hall j hj) hdj, putAll_at vals a0 j t s1 hdj _ hj s3]
      · have hn : ∀ j, j < ops.size → dstAt ops j ≠ some t := fun j hj h => ht ⟨j, hj, h⟩
        rw [hR.old t hn, putAll_other vals a0 t _ hn]
    exact hend listed vals w a hI hall this
theorem InRun.dep {a0 a : Act} {listed : Array Bool} {vals : Nat → Value} (h : InRun ops a0 listed vals a) {i : Nat} (hr : i ∈ Region.ready .any ops listed) (j : Nat) (hw : Region.waitsFor .any ops i j = true) {d : Tmp} (hj : j < ops.size) (hd : dstAt ops j = some d) : a.tmps[d]? = some (vals j) :=
  h.at_ j d hj (dep_of hr hw) hd
def notDst (ops : Array Oper) (t : Tmp) : Bool := (List.range ops.size).all fun j => dstAt ops j != some t
theorem InRun.fixed {a0 a : Act} {listed : Array Bool} {vals : Nat → Value} (h : InRun ops a0 listed vals a) (t : Tmp) {v : Value} (hn : notDst ops t = true) (hv : a0.tmps[t]? = some v) : a.tmps[t]? = some v := by
  rw [h.old t (fun j hj => by simpa using List.all_eq_true.1 hn j (List.mem_range.2 hj))]
  exact hv
end
end Go.Proofs.Ythplelglifnhoaa
/-! Regions that draw their order: values and rows that are known (the steps are printed by wip/mkreg.py). -/
namespace Go.Proofs.Ythplelglifnhoaa
open Go.RowKit
set_option linter.unusedVariables false

section
variable {P : Program} {ops : Array Oper} {Q : Exit → Act → World → Prop} {i : Nat} {o : Oper} {K : Act → World → Prop} {a : Act} {w : World}
theorem wpOp_calls {f : FuncId} {args : Array Value} (hi : ops[i]? = some o) (hw : Region.wanted o (yielded ops a.tmps) = true) (hx : (execOp a.eval o).run P w = .ok (.enter f args) w)
    (hc : Calls P f args w fun e w' => ∃ v, e = .returned v ∧ K (a.put o.dst v) w') : wpOp P ops Q i K a w := by
  refine wpOp_of_wp hi hw ?_
  unfold Oper.wp
  rw [hx]
  exact hc.mono fun e w' ⟨v, he, hk⟩ => by subst he; exact hk
theorem wpOp_dies {f : FuncId} {args : Array Value} (hi : ops[i]? = some o) (hw : Region.wanted o (yielded ops a.tmps) = true) (hx : (execOp a.eval o).run P w = .ok (.enter f args) w)
    (hc : Calls P f args w fun e w' => ∃ p, e = .panicked p ∧ Q (.panic p) a w') : wpOp P ops Q i K a w := by
  refine wpOp_of_wp hi hw ?_
  unfold Oper.wp
  rw [hx]
  exact hc.mono fun e w' ⟨v, he, hk⟩ => by subst he; exact hk
theorem getD_is {a : Act} {t : Tmp} {v : Value} (h : a.tmps[t]? = some v) : a.tmps.getD t undef = v := by rw [Array.getD_eq_getD_getElem?, h]; rfl
theorem wanted_yes {ops : Array Oper} {o : Oper} {tmps : Array Value} {k d : Nat} {want : Bool} (hg : o.guard = some (k, want)) (hd : (ops[k]?).bind (·.dst) = some d) (ht : tmps[d]? = some (.bool want)) : Region.wanted o (yielded ops tmps) = true := by
  unfold Region.wanted
  rw [hg]
  show (yielded ops tmps k == some want) = _
  unfold yielded
  cases hk : ops[k]? with
  | none => rw [hk] at hd; cases hd
  | some o' =>
    rw [hk] at hd
    have hd' : o'.dst = some d := hd
    simp [hd', ht]
theorem wanted_no {ops : Array Oper} {o : Oper} {tmps : Array Value} {k d : Nat} {want : Bool} (hg : o.guard = some (k, want)) (hd : (ops[k]?).bind (·.dst) = some d) (ht : tmps[d]? = some (.bool (!want))) : Region.wanted o (yielded ops tmps) = false := by
  unfold Region.wanted
  rw [hg]
  show (yielded ops tmps k == some want) = _
  unfold yielded
  cases hk : ops[k]? with
  | none => rw [hk] at hd; cases hd
  | some o' =>
    rw [hk] at hd
    have hd' : o'.dst = some d := hd
    cases want <;> simp [hd', ht]
end
/-- What is known while a drawn region runs: which operations left which values, which ones rows of bytes of their own. -/
structure RegI (w0 : World) (isO : Nat → Bool) (BL : Nat → List Int) (CV : Nat → Value) (listed : Array Bool) (vals : Nat → Value) (w' : World) : Prop where
  b : Below w0.heap.size w0 w'
  val : ∀ j, isO j = false → listed.getD j false = true → vals j = CV j
  own : ∀ j, isO j = true → listed.getD j false = true → Own w' w0.heap.size 5 .u8 (vals j) (BL j)
section
variable {w0 w1 w2 : World} {isO : Nat → Bool} {BL : Nat → List Int} {CV vals : Nat → Value} {listed : Array Bool}
theorem RegI.start (w0 : World) (n : Nat) : RegI w0 isO BL CV (Array.replicate n false) (fun _ => undef) w0.drew :=
  ⟨(Below.refl _ _).drew, fun j _ h => absurd h (by rw [getD_replicate_false]; decide), fun j _ h => absurd h (by rw [getD_replicate_false]; decide)⟩
theorem RegI.keep (h : RegI w0 isO BL CV listed vals w1) (b : Below w1.heap.size w1 w2) (i : Nat) (hi : isO i = false) : RegI w0 isO BL CV (listed.setIfInBounds i true) (upd vals i (CV i)) w2 := by
  refine ⟨below_trans h.b b, fun j hj hl => ?_, fun j hj hl => ?_⟩
  · by_cases e : i = j
    · subst e; simp [upd]
    · rw [getD_set_ne false e] at hl
      simp [upd, Ne.symm e, h.val j hj hl]
  · have e : i ≠ j := fun e => by subst e; rw [hi] at hj; cases hj
    rw [getD_set_ne false e] at hl
    simp only [upd, if_neg (Ne.symm e)]
    exact (h.own j hj hl).below b
theorem RegI.keepV (h : RegI w0 isO BL CV listed vals w1) (b : Below w1.heap.size w1 w2) (i : Nat) (hi : isO i = false) {v : Value} (hv : CV i = v) : RegI w0 isO BL CV (listed.setIfInBounds i true) (upd vals i v) w2 := by
  subst hv; exact h.keep b i hi
theorem RegI.keepB (h : RegI w0 isO BL CV listed vals w1) (b : Below w1.heap.size w1 w2) (i : Nat) (hi : isO i = true) (v : Value) (hv : Own w2 w1.heap.size 5 .u8 v (BL i)) : RegI w0 isO BL CV (listed.setIfInBounds i true) (upd vals i v) w2 := by
  refine ⟨below_trans h.b b, fun j hj hl => ?_, fun j hj hl => ?_⟩
  · have e : i ≠ j := fun e => by subst e; rw [hi] at hj; cases hj
    rw [getD_set_ne false e] at hl
    simp [upd, Ne.symm e, h.val j hj hl]
  · by_cases e : i = j
    · subst e
      simp only [upd]
      exact hv.mono h.b.size
    · rw [getD_set_ne false e] at hl
      simp only [upd, if_neg (Ne.symm e)]
      exact (h.own j hj hl).below b
theorem RegI.get (h : RegI w0 isO BL CV listed vals w1) {ops : Array Oper} {a0 a : Act} (hR : InRun ops a0 listed vals a) {i : Nat} (hr : i ∈ Region.ready .any ops listed) (j : Nat) (k1 : isO j = false) (hw : Region.waitsFor .any ops i j = true) {d : Tmp} (hj : j < ops.size) (hd : dstAt ops j = some d) {v : Value} (hv : CV j = v) : a.tmps[d]? = some v := by
  rw [hR.dep hr j hw hj hd, h.val j k1 (dep_of hr hw), hv]
end
end Go.Proofs.Ythplelglifnhoaa
