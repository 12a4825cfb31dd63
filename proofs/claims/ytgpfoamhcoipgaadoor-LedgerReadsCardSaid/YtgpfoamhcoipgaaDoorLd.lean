import Derived.Test.YtgpfoamhcoipgaaDoorLc
import Derived.Test.YtgpfoamhcoipgaaDoorLp
import Derived.Test.YtgpfoamhcoipgaaDoorSp
import Derived.Great.BuildSlice
import Derived.Shelf.SlSortCmp.NoneTotal
/-! Panes: laid, sorted, told. -/
namespace Go.Proofs.YtgpfoamhcoipgaaDoor
open Go.RowKit Go.Sort Go.ChangeMaps Go.Shelf
set_option linter.unusedVariables false
set_option linter.unusedSectionVars false

theorem lay_whole (C z : Array Value) (h : C.size = z.size) : lay C z 0 = C := by
  apply Array.ext_getElem?
  intro i
  rw [lay_at _ _ _ _ (by omega)]
  by_cases hi : i < C.size
  · rw [if_pos ⟨Nat.zero_le _, by omega⟩, Nat.sub_zero]
  · rw [if_neg (fun h => hi (by omega)), Array.getElem?_eq_none (by omega), Array.getElem?_eq_none (by omega)]
section
variable {P : Program} {α : Type} {enc : α → List Value} {k bytes : Nat} {e : TypeId}
/-- A slice of one struct. -/
theorem wpList_buildOne {ops : Array Oper} {rest : List Oper} {o : Oper} {a : Act} {Q : Exit → Act → World → Prop} (E : Enc P e enc k bytes) (hk : k ≤ 1000) (hgd : o.guard = none) (w : World) (t : TypeId) (x : Operand) (ho : o.op = .buildSlice t 1 #[(0, x)]) (dst : Option Tmp) (hdst : o.dst = dst) (N : Nat) (hN : w.heap.size = N)
    (ht : P.underlying t = some (.slice e)) (y : α) (hx : a.eval x = .agg (enc y).toArray)
    (h : wpList P ops Q rest (a.put dst (.slice (some ⟨N, 0, none⟩) 1 1)) (w.alloc (.cells (enc y).toArray e))) : wpList P ops Q (o :: rest) a w := by
  subst hdst hN
  obtain ⟨i, z, hi, hz, hs, hb, hzs⟩ := E.info
  have hp := E.pos
  refine wpList_buildSlice hgd t e 1 #[(0, x)] ho (enc y).toArray i z ht hi hz (by rw [hs]; omega) (by rw [hs]; omega) ?_ h
  rw [hs]
  simp only [List.map_toArray, List.map_cons, List.map_nil, hx]
  have hc : (Value.agg (enc y).toArray).cells = (enc y).toArray := rfl
  have hl : (enc y).toArray.size = k := by rw [List.size_toArray, E.len]
  rw [fill_step _ _ _ (.agg (enc y).toArray) _ 0 k (by simp) hl (by rw [hc, hl]; simp), Instr.fill, hc, lay_whole _ _ (by rw [hl]; simp)]
theorem RowsAt.one {w : World} {g : Nat} {t : TypeId} {fr : Nat × Nat} {y : α} (h : w.heap[g]? = some (.cells (enc y).toArray t fr)) : RowsAt w enc (some ⟨g, 0, none⟩) [y] := by
  refine .inr ⟨g, 0, rfl, fun j v hv => ?_⟩
  rw [List.flatMap_cons, List.flatMap_nil, List.append_nil] at hv
  rw [cell_of_row _ _ _ _ _ _ h, Nat.zero_add]
  simpa using hv
variable [Inhabited α]
theorem flatK_list (E : Enc P e enc k bytes) (d : Array α) : (flatK enc k d).toList = d.toList.flatMap enc := by
  apply List.ext_getElem?
  intro t
  have hl := E.flat d.toList
  have hp := E.pos
  by_cases ht : t < d.size * k
  · have h1 : t / k < d.size := (Nat.div_lt_iff_lt_mul hp).2 ht
    have h2 : t % k < k := Nat.mod_lt _ hp
    have h3 := E.at_ d.toList (t / k) d[t / k]! (by rw [Array.getElem?_toList, getElem!_pos d _ h1]; exact Array.getElem?_eq_getElem h1) (t % k) h2
    rw [show t / k * k + t % k = t by rw [Nat.mul_comm]; exact Nat.div_add_mod t k] at h3
    rw [h3, Array.getElem?_toList, Array.getElem?_eq_getElem (by rw [size_flatK]; exact ht), ← getElem!_pos (flatK enc k d) t (by rw [size_flatK]; exact ht), get_flatK _ _ _ _ ht, getElem!_pos (enc d[t / k]!) (t % k) (by rw [E.len]; exact h2), List.getElem?_eq_getElem (by rw [E.len]; exact h2)]
  · rw [List.getElem?_eq_none (by rw [Array.length_toList, size_flatK]; omega), List.getElem?_eq_none (by rw [hl, Array.length_toList]; omega)]
theorem heap_sortK (w : World) (g m : Nat) (d : Array α) (os : Array Obj) {cur : Array Value} {t : TypeId} {fr : Nat × Nat} (hg : w.heap[g]? = some (.cells cur t fr)) : (sortWorldK enc k w g 0 m d os).heap[g]? = some (.cells (putCells id 0 (flatK enc k d) cur) t fr) := by
  have hlt := heap_lt hg
  show ((w.heap.modify g (onCells (putCells id 0 (flatK enc k d)))) ++ os)[g]? = _
  rw [Array.getElem?_append_left (by rw [Array.size_modify]; exact hlt), Array.getElem?_modify, if_pos rfl, hg]
  rfl
theorem heap_sortK_ne (w : World) (g m : Nat) (d : Array α) (os : Array Obj) {i : Nat} (hi : i < w.heap.size) (hne : i ≠ g) : (sortWorldK enc k w g 0 m d os).heap[i]? = w.heap[i]? := by
  show ((w.heap.modify g (onCells (putCells id 0 (flatK enc k d)))) ++ os)[i]? = _
  rw [Array.getElem?_append_left (by rw [Array.size_modify]; exact hi), Array.getElem?_modify, if_neg (Ne.symm hne)]
theorem OwnE.holdsK (E : Enc P e enc k bytes) {w : World} {base g n cap : Nat} {l : List α} (h : OwnE w base e k enc (.slice (some ⟨g, 0, none⟩) n cap) l) : HoldsK enc k w g 0 l.toArray ∧ g < w.heap.size ∧ n = l.length := by
  rcases h.2 with ⟨h0, _⟩ | ⟨g2, cap2, cur, h1, hb, hg, hn, hm, hs, ht⟩
  · cases h0
  · injection h1 with h1 h2 _
    injection h1 with h1
    injection h1 with h1
    subst h1
    refine ⟨fun j hj => ⟨?_, frozen_of_row hg _⟩, heap_lt hg, h2⟩
    have hj2 : j < l.length * k := by rw [size_flatK] at hj; simpa using hj
    have hf := flatK_list E l.toArray
    have h3 : (flatK enc k l.toArray)[j]? = (l.flatMap enc)[j]? := by rw [← Array.getElem?_toList, hf]
    rw [cell_of_row _ _ _ _ _ _ hg, Nat.zero_add, getElem!_pos (flatK enc k l.toArray) j hj]
    show cur[j]? = some (flatK enc k l.toArray)[j]
    rw [← Array.getElem?_eq_getElem hj, h3, ← ht, List.getElem?_take, if_pos hj2, Array.getElem?_toList]
theorem OwnE.sorted (E : Enc P e enc k bytes) {w : World} {base g n cap m : Nat} {l : List α} {d : Array α} {os : Array Obj} (h : OwnE w base e k enc (.slice (some ⟨g, 0, none⟩) n cap) l) (hd : d.size = l.length) :
    OwnE (sortWorldK enc k w g 0 m d os) base e k enc (.slice (some ⟨g, 0, none⟩) n cap) d.toList ∧ w.grownBy (sortWorldK enc k w g 0 m d os) (some g) := by
  rcases h.2 with ⟨h0, _⟩ | ⟨g2, cap2, cur, h1, hb, hg, hn, hm, hs, ht⟩
  · cases h0
  · injection h1 with h1 h2 h3
    injection h1 with h1
    injection h1 with h1
    subst h1 h3
    have hdl : d.toList.length = l.length := by rw [Array.length_toList, hd]
    refine ⟨⟨by rw [E.flat], .inr ⟨g, cap, _, by rw [hdl, h2], hb, heap_sortK w g m d os hg, by rw [hdl]; exact hn, hm, by rw [putCells, Array.size_mapIdx, hs], ?_⟩⟩, ⟨rfl, rfl, rfl, ?_, fun i hi hne => heap_sortK_ne w g m d os hi (fun q => hne (by rw [q]))⟩⟩
    · apply List.ext_getElem?
      intro t
      have hl := E.flat d.toList
      rw [hdl, List.getElem?_take]
      have hcs : l.length * k ≤ cur.size := by rw [hs]; exact Nat.mul_le_mul_right k hn
      by_cases htt : t < l.length * k
      · have h5 : t < (flatK enc k d).size := by rw [size_flatK, hd]; exact htt
        rw [if_pos htt, Array.getElem?_toList, putCells, Array.getElem?_mapIdx, Array.getElem?_eq_getElem (by omega)]
        simp only [Option.map_some]
        rw [if_pos ⟨Nat.zero_le _, by omega⟩, ← flatK_list E, Array.getElem?_toList, Array.getElem?_eq_getElem h5, Nat.sub_zero, getElem!_pos (flatK enc k d) t h5]
        rfl
      · rw [if_neg htt, List.getElem?_eq_none (by rw [hl, hdl]; omega)]
    · show w.heap.size ≤ ((w.heap.modify g _) ++ os).size
      rw [Array.size_append, Array.size_modify]; omega
end

set_option maxRecDepth 100000 in
/-- How a pane's cells lie. -/
theorem encPane : Enc Tryd.prog 40 paneL 8 72 where
  pos := by decide
  len := fun _ => rfl
  one := paneL_one
  info := ⟨_, _, rfl, rfl, rfl, rfl, rfl⟩
theorem ltOf_pane (x y : Pn) : ltOf (fun x y : Pn => nmOrd x.nm y.nm) x y = nmLt x.nm y.nm := nmOrd_neg x.nm y.nm
theorem swo_pane : SWO (ltOf fun x y : Pn => nmOrd x.nm y.nm) where
  irrefl x := by rw [ltOf_pane]; exact nmLt_irrefl _
  trans x y z h1 h2 := by rw [ltOf_pane] at *; exact nmLt_trans h1 h2
  ntrans x y z h1 h2 := by rw [ltOf_pane] at *; exact nmLt_ntrans h1 h2
theorem cmpLays_pane (blk off size : Nat) (w : World) : CmpLays Tryd.prog 26 #[] paneL 8 (fun x y : Pn => nmOrd x.nm y.nm) blk off size w :=
  fun _ _ _ _ x y => (cmpPane_any x y _).mono fun _ _ ⟨he, q, os, hw⟩ => ⟨he, q, os, hw⟩
set_option maxRecDepth 100000 in
/-- Panes put in order. -/
theorem sort_panes (w : World) (base : Nat) (v : Value) (l : List Pn) (h : OwnE w base 40 8 paneL v l) (hl : l.length ≤ 1000) :
    Calls Tryd.prog 25 #[v, .func (.func 26) #[] #[]] w fun e w' => e = .returned (.tuple #[]) ∧ ∃ l' : List Pn, l'.Perm l ∧ l'.Pairwise (fun x y => nmLt y.nm x.nm = false) ∧ OwnE w' base 40 8 paneL v l' ∧ w.grownBy w' v.ownBlock := by
  have hv := h.2
  rcases hv with ⟨rfl, h0⟩ | ⟨g, cap, cur, rfl, _⟩
  · have : l = [] := List.eq_nil_of_length_eq_zero h0
    subst this
    refine (AnyF.slices_SortFunc_none Tryd.sortPane none 0 _ w).mono ?_
    rintro e w' ⟨rfl, rfl⟩
    exact ⟨rfl, [], List.Perm.refl _, List.Pairwise.nil, h, ⟨rfl, rfl, rfl, Nat.le_refl _, fun _ _ _ => rfl⟩⟩
  · obtain ⟨hH, hg, _⟩ := h.holdsK encPane
    have eg : ∀ args w, (callFunc 26 args).run Tryd.prog w = .ok (.enter 26 args) w := enters_of Tryd.func26 (by kernel_rfl) rfl
    have hcon := AnyQ.slices_SortFunc Tryd.sortPane 8 Tryd.isAgg40 Tryd.sizeOf40 paneL (fun _ => rfl) paneL_one (fun x y : Pn => nmOrd x.nm y.nm) swo_pane 26 #[] g 0 cap l.toArray w eg (cmpLays_pane g 0 l.toArray.size w) hH hg (by rw [List.size_toArray]; omega)
    rw [List.size_toArray] at hcon
    refine hcon.mono ?_
    rintro e w' ⟨rfl, d', n, os, ⟨hp1, _, hp3⟩, hs, rfl⟩
    have hd : d'.size = l.length := by rw [hp1, List.size_toArray]
    obtain ⟨ho, hgr⟩ := h.sorted encPane (m := n) (d := d') (os := os) hd
    refine ⟨rfl, d'.toList, ?_, ?_, ho, hgr⟩
    · have e1 : d'.extract 0 l.length = d' := by rw [← hd]; simp
      have e2 : l.toArray.extract 0 l.length = l.toArray := by simp
      rw [e1, e2] at hp3
      simpa using hp3
    · rw [List.pairwise_iff_getElem]
      intro i j hi hj hij
      rw [Array.length_toList] at hi hj
      have := hs i j (Nat.zero_le _) hij (by rw [← hd]; exact hj)
      rw [ltOf_pane, getElem!_pos d' j hj, getElem!_pos d' i hi] at this
      simpa using this
end Go.Proofs.YtgpfoamhcoipgaaDoor
