import Derived.Test.YthplelglifnhoaaBase
import Derived.Maps.RangeRun
import Derived.WideKeyRuns
/-! Maps whose keys are structs: what they hold, as a list of keys and values. -/
namespace Go.Proofs.Ythplelglifnhoaa
open Go.RowKit Go.ChangeMaps
set_option linter.unusedVariables false
set_option linter.unusedSectionVars false
set_option linter.unusedSimpArgs false

section
variable {P : Program} {K V : Type} [DecidableEq K]
/-- How keys and values of a map lie. -/
structure MapTy (P : Program) (mt kt et : TypeId) (kC : K → Value) (z : Value) : Prop where
  under : P.underlying mt = some (.map kt et)
  wide : (match P.underlying kt with | some (.array _ _) | some (.struct _) => true | _ => false) = true
  check : ∀ b k w, (Instr.checkKey b 10000 kt (kC k)).run P w = .ok () w
  equal : ∀ x y w, (Op.equal kt (kC x) (kC y)).run P w = .ok (decide (x = y)) w
  same : ∀ k, Instr.sameBits 10000 (kC k) (kC k) = true
  zero : ∀ w, (zeroValue et).run P w = .ok z w
/-- What a list of keys and values holds at a key. -/
def lget (l : List (K × V)) (k : K) : Option V := (l.find? (fun p => decide (k = p.1))).map (·.2)
/-- .. and where. -/
def lidx : List (K × V) → K → Nat → Option (Nat × V)
  | [], _, _ => none
  | p :: l, k, i => if k = p.1 then some (i, p.2) else lidx l k (i + 1)
def lset : List (K × V) → K → V → List (K × V)
  | [], k, v => [(k, v)]
  | p :: l, k, v => if k = p.1 then (k, v) :: l else p :: lset l k v
theorem lset_none {k : K} {v : V} : ∀ {l : List (K × V)} {i : Nat}, lidx l k i = none → lset l k v = l ++ [(k, v)] := by
  intro l
  induction l with
  | nil => intro i _; rfl
  | cons p l ih =>
    intro i h
    rw [lidx] at h
    by_cases hk : k = p.1
    · rw [if_pos hk] at h; cases h
    · rw [if_neg hk] at h
      rw [lset, if_neg hk, ih h]; rfl
theorem lset_some {k : K} {v : V} : ∀ {l : List (K × V)} {i j : Nat} {u : V}, lidx l k i = some (j, u) → lset l k v = l.set (j - i) (k, v) := by
  intro l
  induction l with
  | nil => intro i j u h; cases h
  | cons p l ih =>
    intro i j u h
    rw [lidx] at h
    by_cases hk : k = p.1
    · rw [if_pos hk] at h
      injection h with h
      injection h with h1 h2
      subst h1
      rw [lset, if_pos hk, Nat.sub_self, List.set_cons_zero]
    · rw [if_neg hk] at h
      have hij : i + 1 ≤ j := by
        clear ih
        have aux : ∀ (l : List (K × V)) (i j : Nat) (u : V), lidx l k i = some (j, u) → i ≤ j := by
          intro l
          induction l with
          | nil => intro i j u h; cases h
          | cons q l ih =>
            intro i j u h
            rw [lidx] at h
            by_cases hq : k = q.1
            · rw [if_pos hq] at h
              injection h with h
              injection h with h1 _
              omega
            · rw [if_neg hq] at h
              have := ih _ _ _ h
              omega
        exact aux l (i + 1) j u h
      rw [lset, if_neg hk, ih h, show j - i = (j - (i + 1)) + 1 from by omega, List.set_cons_succ]
theorem lget_nil (k : K) : lget ([] : List (K × V)) k = none := rfl
theorem lget_cons (p : K × V) (l : List (K × V)) (k : K) : lget (p :: l) k = if k = p.1 then some p.2 else lget l k := by
  unfold lget
  by_cases h : k = p.1
  · rw [if_pos h, List.find?_cons_of_pos (by simpa using h)]; rfl
  · rw [if_neg h, List.find?_cons_of_neg (by simpa using h)]
theorem lget_lset (l : List (K × V)) (k k' : K) (v : V) : lget (lset l k v) k' = if k' = k then some v else lget l k' := by
  induction l with
  | nil => rw [lset, lget_cons, lget_nil]
  | cons p l ih =>
    rw [lset]
    by_cases h : k = p.1
    · rw [if_pos h, lget_cons, lget_cons]
      by_cases h2 : k' = k
      · rw [if_pos h2, if_pos h2]
      · rw [if_neg h2, if_neg h2, if_neg (by rw [← h]; exact h2)]
    · rw [if_neg h, lget_cons, lget_cons, ih]
      by_cases h3 : k' = p.1
      · rw [if_pos h3, if_pos h3, if_neg (by rw [h3]; exact fun e => h e.symm)]
      · rw [if_neg h3, if_neg h3]
theorem lidx_get (k : K) : ∀ (l : List (K × V)) (i : Nat), (lidx l k i).map (·.2) = lget l k := by
  intro l
  induction l with
  | nil => intro i; rfl
  | cons p l ih =>
    intro i
    rw [lidx]
    unfold lget
    by_cases h : k = p.1
    · rw [if_pos h, List.find?_cons_of_pos (by simpa using h)]; rfl
    · rw [if_neg h, List.find?_cons_of_neg (by simpa using h)]
      exact ih (i + 1)
theorem lidx_some {k : K} : ∀ {l : List (K × V)} {i j : Nat} {v : V}, lidx l k i = some (j, v) → i ≤ j ∧ l[j - i]? = some (k, v) := by
  intro l
  induction l with
  | nil => intro i j v h; cases h
  | cons p l ih =>
    intro i j v h
    rw [lidx] at h
    by_cases hk : k = p.1
    · rw [if_pos hk] at h
      injection h with h
      injection h with h1 h2
      subst h1 h2
      exact ⟨Nat.le_refl _, by rw [Nat.sub_self, List.getElem?_cons_zero, hk]⟩
    · rw [if_neg hk] at h
      obtain ⟨a, b⟩ := ih h
      exact ⟨by omega, by rw [show j - i = (j - (i + 1)) + 1 from by omega, List.getElem?_cons_succ]; exact b⟩
theorem lidx_none {k : K} : ∀ {l : List (K × V)} {i : Nat}, lidx l k i = none → k ∉ l.map (·.1) := by
  intro l
  induction l with
  | nil => intro i _ h; cases h
  | cons p l ih =>
    intro i h hm
    rw [lidx] at h
    by_cases hk : k = p.1
    · rw [if_pos hk] at h; cases h
    · rw [if_neg hk] at h
      rcases List.mem_cons.1 hm with h1 | h1
      · exact hk h1
      · exact ih h h1
/-- A block that is a map of these. -/
structure MapAt (kC : K → Value) (vC : V → Value) (w : World) (b : Nat) (l : List (K × V)) : Prop where
  is : ∃ es clock, w.heap[b]? = some (.map es clock) ∧ es.toList.map (fun e => (e.key, e.val)) = l.map (fun p => (kC p.1, vC p.2)) ∧ (es.toList.map (·.born)).Nodup ∧ ∀ x ∈ es.toList, x.born < clock
  once : (l.map (·.1)).Nodup
variable {mt kt et : TypeId} {kC : K → Value} {vC : V → Value} {z : Value}
theorem run_findAsk (T : MapTy P mt kt et kC z) (k : K) (w : World) : ∀ (es : List MapEntry) (l : List (K × V)) (i : Nat), es.map (fun e => (e.key, e.val)) = l.map (fun p => (kC p.1, vC p.2)) →
    (Instr.findAsking kt (kC k) es i).run P w = .ok ((lidx l k i).map fun q => (q.1, vC q.2)) w := by
  intro es
  induction es with
  | nil =>
    intro l i h
    cases l with
    | nil => rfl
    | cons p l => cases h
  | cons e es ih =>
    intro l i h
    cases l with
    | nil => cases h
    | cons p l =>
      rw [List.map_cons, List.map_cons] at h
      injection h with h1 h2
      injection h1 with h3 h4
      have hq := T.equal k p.1 w
      rw [← h3] at hq
      rw [Instr.findAsking, Sem.run_bind, hq, Result.andThen_ok, lidx]
      by_cases hk : k = p.1
      · rw [if_pos hk, decide_eq_true hk]
        simp only [if_true, h4]
        rfl
      · rw [if_neg hk, decide_eq_false hk]
        simp only [Bool.false_eq_true, if_false]
        exact ih l (i + 1) h2
theorem run_lookupK (T : MapTy P mt kt et kC z) {w : World} {b : Nat} {l : List (K × V)} (h : MapAt kC vC w b l) (k : K) (ok : Bool) :
    (Instr.lookup mt (.map (some b)) (kC k) ok).run P w = .ok (let v := ((lget l k).map vC).getD z; if ok then .tuple #[v, .bool (lget l k).isSome] else v) w := by
  obtain ⟨es, clock, hb, hrow, _, _⟩ := h.is
  have hf := run_findAsk T k w es.toList l 0 hrow
  have hg : (getObj b).run P w = .ok (.map es clock) w := MapKept.run_getObj_map hb
  rw [← lidx_get k l 0]
  unfold Instr.lookup
  simp only [Sem.run_bind, run_underlying T.under, Result.andThen_ok, hg, Sem.run_pure, T.check, run_findKey_eq w T.wide, hf]
  cases hx : lidx l k 0 with
  | none => simp only [Option.map_none, Sem.run_bind, T.zero, Result.andThen_ok, Sem.run_pure]; cases ok <;> rfl
  | some q => simp only [Option.map_some, Sem.run_pure, Result.andThen_ok]; cases ok <;> rfl
theorem run_lookup_nilK (T : MapTy P mt kt et kC z) {w : World} (k : K) (ok : Bool) :
    (Instr.lookup mt (.map none) (kC k) ok).run P w = .ok (if ok then .tuple #[z, .bool false] else z) w := by
  have hf : (Instr.findKey kt (kC k) []).run P w = .ok none w := by rw [run_findKey_eq w T.wide]; rfl
  unfold Instr.lookup
  simp only [Sem.run_bind, run_underlying T.under, Result.andThen_ok, Sem.run_pure, T.check]
  rw [hf]
  simp only [Result.andThen_ok, Sem.run_bind, T.zero, Sem.run_pure]
theorem heap_setBlock_map {w : World} {b : Nat} {es : Array MapEntry} {c : Nat} (hb : w.heap[b]? = some (.map es c)) (o : Obj) : (setBlock w b o).heap[b]? = some o := heap_setBlock_same hb o
theorem run_updateK (T : MapTy P mt kt et kC z) {w : World} {b : Nat} {l : List (K × V)} (h : MapAt kC vC w b l) (k : K) (v : V) :
    ∃ es clock, (Instr.mapUpdate mt (.map (some b)) (kC k) (vC v)).run P w = .ok () (setBlock w b (.map es clock)) ∧ MapAt kC vC (setBlock w b (.map es clock)) b (lset l k v) := by
  obtain ⟨es, clock, hb, hrow, hnd, hlt⟩ := h.is
  have hf := run_findAsk T k w es.toList l 0 hrow
  have hg : (getObj b).run P w = .ok (.map es clock) w := MapKept.run_getObj_map hb
  have hset : ∀ o, (setObj b o).run P w = .ok () (setBlock w b o) := fun o => by simp [setObj, Sem.run, hb, setBlock]
  have hlen : es.size = l.length := by have := congrArg List.length hrow; simpa using this
  cases hx : lidx l k 0 with
  | none =>
    refine ⟨es.push { key := kC k, val := vC v, born := clock }, clock + 1, ?_, ⟨⟨_, _, heap_setBlock_same hb _, ?_, ?_, ?_⟩, ?_⟩⟩
    · unfold Instr.mapUpdate
      simp only [Sem.run_bind, run_underlying T.under, Result.andThen_ok, hg, T.check, run_findKey_eq w T.wide, hf, hx, Option.map_none, hset]
    · rw [lset_none hx]
      simp only [Array.toList_push, List.map_append, List.map_cons, List.map_nil, hrow]
    · rw [Array.toList_push, List.map_append]
      refine List.nodup_append.2 ⟨hnd, by simp, ?_⟩
      intro a ha c hc
      simp only [List.map_cons, List.map_nil, List.mem_singleton] at hc
      obtain ⟨x, hx1, rfl⟩ := List.mem_map.1 ha
      have := hlt x hx1
      omega
    · intro x hx1
      rw [Array.toList_push] at hx1
      rcases List.mem_append.1 hx1 with h1 | h1
      · have := hlt x h1; omega
      · simp only [List.mem_singleton] at h1
        rw [h1]
        exact Nat.lt_succ_self _
    · rw [lset_none hx, List.map_append]
      refine List.nodup_append.2 ⟨h.once, by simp, ?_⟩
      intro a ha c hc e
      simp only [List.map_cons, List.map_nil, List.mem_singleton] at hc
      subst e hc
      exact lidx_none hx ha
  | some q =>
    obtain ⟨i, u⟩ := q
    obtain ⟨_, hi⟩ := lidx_some hx
    rw [Nat.sub_zero] at hi
    have hil : i < l.length := (List.getElem?_eq_some_iff.1 hi).1
    have hie : i < es.toList.length := by rw [Array.length_toList]; omega
    have hkey : es[i]?.map (·.key) = some (kC k) := by
      have := congrArg (fun L => L[i]?) hrow
      simp only [List.getElem?_map, hi, Option.map_some] at this
      rw [Array.getElem?_toList] at this
      cases hq : es[i]? with
      | none => rw [hq] at this; cases this
      | some e => rw [hq] at this; simp only [Option.map_some, Option.some.injEq, Prod.mk.injEq] at this ⊢; exact this.1
    have hstay : (Instr.keyThatStays (kC k) (kC k)).run P w = .ok (kC k) w := by
      unfold Instr.keyThatStays
      rw [T.same]; rfl
    have hmod : (es.modify i fun e => { e with key := kC k, val := vC v }).toList = es.toList.set i { es.toList[i] with key := kC k, val := vC v } := by
      apply List.ext_getElem?
      intro j
      rw [Array.getElem?_toList, Array.getElem?_modify, List.getElem?_set, Array.getElem?_toList]
      by_cases hj : i = j
      · subst hj
        rw [if_pos rfl, if_pos rfl, if_pos hie, Array.getElem?_eq_getElem (by rw [Array.length_toList] at hie; exact hie)]
        rfl
      · rw [if_neg hj, if_neg hj]
    refine ⟨es.modify i fun e => { e with key := kC k, val := vC v }, clock, ?_, ⟨⟨_, _, heap_setBlock_same hb _, ?_, ?_, ?_⟩, ?_⟩⟩
    · unfold Instr.mapUpdate
      simp only [Sem.run_bind, run_underlying T.under, Result.andThen_ok, hg, T.check, run_findKey_eq w T.wide, hf, hx, Option.map_some, hkey, Option.getD_some, hstay, hset]
    · rw [lset_some hx, Nat.sub_zero, hmod, List.map_set, List.map_set, hrow]
    · rw [hmod, List.map_set]
      have : (es.toList.map (·.born)).set i es.toList[i].born = es.toList.map (·.born) := by
        apply List.ext_getElem?
        intro j
        rw [List.getElem?_set]
        by_cases hj : i = j
        · subst hj
          rw [if_pos rfl, if_pos (by rw [List.length_map]; exact hie), List.getElem?_map, List.getElem?_eq_getElem hie]; rfl
        · rw [if_neg hj]
      rw [this]; exact hnd
    · intro x hx1
      rw [hmod] at hx1
      rcases List.mem_or_eq_of_mem_set hx1 with h1 | h1
      · exact hlt x h1
      · rw [h1]
        show es.toList[i].born < clock
        exact hlt _ (List.getElem_mem hie)
    · rw [lset_some hx, Nat.sub_zero, List.map_set]
      have : (l.map (·.1)).set i k = l.map (·.1) := by
        apply List.ext_getElem?
        intro j
        rw [List.getElem?_set]
        by_cases hj : i = j
        · subst hj
          rw [if_pos rfl, if_pos (by rw [List.length_map]; exact hil), List.getElem?_map, hi]; rfl
        · rw [if_neg hj]
      rw [this]; exact h.once
theorem MapAt.same {w w' : World} {b : Nat} {l : List (K × V)} (h : MapAt kC vC w b l) (e : w'.heap[b]? = w.heap[b]?) : MapAt kC vC w' b l := by
  obtain ⟨es, clock, hb, h2⟩ := h.is
  exact ⟨⟨es, clock, e.trans hb, h2⟩, h.once⟩
theorem MapAt.lt {w : World} {b : Nat} {l : List (K × V)} (h : MapAt kC vC w b l) : b < w.heap.size := by
  obtain ⟨es, clock, hb, _⟩ := h.is
  rcases Nat.lt_or_ge b w.heap.size with h1 | h1
  · exact h1
  · rw [Array.getElem?_eq_none h1] at hb; cases hb
theorem MapAt.new (w : World) : MapAt kC vC (w.alloc (.map #[] 0)) w.heap.size ([] : List (K × V)) :=
  ⟨⟨#[], 0, heap_alloc_new w _, rfl, List.nodup_nil, fun x hx => by cases hx⟩, List.nodup_nil⟩
/-- An iterator over such a map: what is still to come. -/
structure IterAt (kC : K → Value) (vC : V → Value) (w : World) (r b : Nat) (l left : List (K × V)) : Prop where
  is : ∃ es clock seen, w.heap[b]? = some (.map es clock) ∧ w.heap[r]? = some (.mapIter (some b) clock seen clock) ∧ es.toList.map (fun e => (e.key, e.val)) = l.map (fun p => (kC p.1, vC p.2)) ∧ (es.toList.map (·.born)).Nodup ∧ (∀ x ∈ es.toList, x.born < clock) ∧
    (leftOf es seen).toList.map (fun e => (e.key, e.val)) = left.map (fun p => (kC p.1, vC p.2))
  once : (l.map (·.1)).Nodup
theorem IterAt.map {w : World} {r b : Nat} {l left : List (K × V)} (h : IterAt kC vC w r b l left) : MapAt kC vC w b l := by
  obtain ⟨es, clock, seen, h1, _, h3, h4, h5, _⟩ := h.is
  exact ⟨⟨es, clock, h1, h3, h4, h5⟩, h.once⟩
theorem IterAt.same {w w' : World} {r b : Nat} {l left : List (K × V)} (h : IterAt kC vC w r b l left) (e : w'.heap[b]? = w.heap[b]?) (e2 : w'.heap[r]? = w.heap[r]?) : IterAt kC vC w' r b l left := by
  obtain ⟨es, clock, seen, h1, h2, h3⟩ := h.is
  exact ⟨⟨es, clock, seen, e.trans h1, e2.trans h2, h3⟩, h.once⟩
theorem run_rangeK (T : MapTy P mt kt et kC z) {w : World} {b : Nat} {l : List (K × V)} (h : MapAt kC vC w b l) :
    ∃ it, (Instr.range mt (.map (some b))).run P w = .ok (.pointer (some ⟨w.heap.size, 0, none⟩)) (w.alloc it) ∧ IterAt kC vC (w.alloc it) w.heap.size b l l := by
  obtain ⟨es, clock, hb, h2, h3, h4⟩ := h.is
  refine ⟨_, run_range_map w mt kt et b es clock T.under hb, ⟨⟨es, clock, #[], ?_, heap_alloc_new w _, h2, h3, h4, ?_⟩, h.once⟩⟩
  · rw [heap_alloc_old w _ h.lt]; exact hb
  · have : leftOf es #[] = es := by unfold leftOf; simp
    rw [this]; exact h2
theorem filter_one {es : List MapEntry} {A B : List MapEntry} {e : MapEntry} (hn : (es.map (·.born)).Nodup) (h : es = A ++ e :: B) : es.filter (fun x => x.born != e.born) = A ++ B := by
  subst h
  rw [List.map_append, List.map_cons] at hn
  obtain ⟨_, h2, h3⟩ := List.nodup_append.1 hn
  obtain ⟨h4, _⟩ := List.nodup_cons.1 h2
  rw [List.filter_append, List.filter_cons_of_neg (by simp)]
  congr 1
  · refine List.filter_eq_self.2 fun x hx => ?_
    have := h3 x.born (List.mem_map.2 ⟨x, hx, rfl⟩) e.born (by simp)
    simpa using this
  · refine List.filter_eq_self.2 fun x hx => ?_
    have : x.born ≠ e.born := fun q => h4 (by rw [← q]; exact List.mem_map.2 ⟨x, hx, rfl⟩)
    simpa using this
/-- The next entry, whichever it is. -/
theorem run_nextK {w : World} {r b : Nat} {l left : List (K × V)} (h : IterAt kC vC w r b l left) (ty : TypeId) (hne : r ≠ b) :
    (left = [] ∧ (Instr.next (.pointer (some ⟨r, 0, none⟩)) false ty).run P w = .ok (.tuple #[.bool false]) w) ∨
    ∃ A p B w' it, left = A ++ p :: B ∧ (Instr.next (.pointer (some ⟨r, 0, none⟩)) false ty).run P w = .ok (.tuple #[.bool true, kC p.1, vC p.2]) w' ∧ IterAt kC vC w' r b l (A ++ B) ∧ (w' = setBlock w r it ∨ w' = setBlock w.drew r it) ∧
      ∀ w2 : World, w2.heap[r]? = w'.heap[r]? → w2.heap[b]? = w'.heap[b]? → (Instr.entry (.pointer (some ⟨r, 0, none⟩))).run P w2 = .ok (.tuple #[kC p.1, vC p.2]) w2 := by
  obtain ⟨es, clock, seen, h1, h2, h3, h4, h5, h6⟩ := h.is
  rcases run_next_at (P := P) w ty r b clock clock seen es clock h2 h1 h5 (Nat.le_refl _) with ⟨k1, k2⟩ | ⟨e, he, w1, hw, k2⟩
  · left
    refine ⟨?_, k2⟩
    have := congrArg List.length h6
    simp only [List.length_map, Array.length_toList, k1] at this
    exact List.eq_nil_of_length_eq_zero this.symm
  · right
    obtain ⟨L1, L2, hL⟩ := List.append_of_mem he
    rw [hL, List.map_append, List.map_cons] at h6
    obtain ⟨A, R, rfl, hA, hR⟩ := List.map_eq_append_iff.1 h6.symm
    obtain ⟨p, B, rfl, hp, hB⟩ := List.map_eq_cons_iff.1 hR
    injection hp with hp1 hp2
    have hsb : ∀ o, (setBlock w1 r o).heap[r]? = some o ∧ (setBlock w1 r o).heap[b]? = some (.map es clock) := fun o => by
      have a1 : w1.heap[r]? = some (.mapIter (some b) clock seen clock) := by rcases hw with rfl | rfl <;> exact h2
      have a2 : w1.heap[b]? = some (.map es clock) := by rcases hw with rfl | rfl <;> exact h1
      have hr : r < w1.heap.size := (Array.getElem?_eq_some_iff.1 a1).1
      constructor
      · show (w1.heap.setIfInBounds r o)[r]? = _
        rw [Array.getElem?_setIfInBounds_self_of_lt hr]
      · show (w1.heap.setIfInBounds r o)[b]? = _
        rw [Array.getElem?_setIfInBounds_ne hne]; exact a2
    have hee : e ∈ es.toList := (mem_left he).1
    refine ⟨A, p, B, _, .mapIter (some b) clock (seen.push e.born) clock, rfl, by rw [k2, hp1, hp2], ⟨⟨es, clock, seen.push e.born, (hsb _).2, (hsb _).1, h3, h4, h5, ?_⟩, h.once⟩, ?_, fun w2 q1 q2 => ?_⟩
    · have hsub : ((leftOf es seen).toList.map (·.born)).Nodup := by
        unfold leftOf
        rw [Array.toList_filter]
        exact List.Sublist.nodup (List.Sublist.map _ List.filter_sublist) h4
      have hl2 : (leftOf es (seen.push e.born)).toList = L1 ++ L2 := by
        rw [← filter_one hsub hL]
        unfold leftOf
        rw [Array.toList_filter, Array.toList_filter, List.filter_filter]
        congr 1
        funext x
        rw [contains_push, Bool.not_or]
        cases seen.contains x.born <;> simp [bne]
      rw [hl2, List.map_append, List.map_append, hA, hB]
    · rcases hw with rfl | rfl
      · exact .inl rfl
      · exact .inr rfl
    · rw [hp1, hp2]
      exact run_entry_at w2 r b clock seen es clock e (q1.trans (hsb _).1) (q2.trans (hsb _).2) hee h4
theorem run_next_none {w : World} {r a c : Nat} {s : Array Nat} (ty : TypeId) (h : w.heap[r]? = some (.mapIter none a s c)) : (Instr.next (.pointer (some ⟨r, 0, none⟩)) false ty).run P w = .ok (.tuple #[.bool false]) w := by
  simp only [Instr.next, getObj, Sem.run_bind, Sem.run, h, Result.andThen]
  rfl
end
end Go.Proofs.Ythplelglifnhoaa
