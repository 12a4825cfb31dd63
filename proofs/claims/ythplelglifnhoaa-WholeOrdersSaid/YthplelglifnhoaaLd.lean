import Derived.Test.YthplelglifnhoaaLq
import Derived.Test.YthplelglifnhoaaAh
import Derived.Test.YthplelglifnhoaaLp
import Derived.Test.YthplelglifnhoaaSp
import Derived.Great.BuildSlice
import Derived.Shelf.SlSortCmp.NoneTotal
import Derived.Deep.DeepCutAuto
import Derived.Deep.CutBlock
import Derived.Deep.QuietTactic
/-! What the next texts lean on. -/
/-! Panes: laid, sorted, told. -/
namespace Go.Proofs.Ythplelglifnhoaa
open Go.RowKit Go.Sort Go.ChangeMaps Go.Shelf
set_option linter.unusedVariables false
set_option linter.unusedSectionVars false

theorem lay_whole (C z : Array Value) (h : C.size = z.size) : lay C z 0 = C := by
  apply Array.ext_getElem?
  intro i
  rw [lay_at _ _ _ _ (by omega)]
  by_cases hi : i < C.size
  · rw [if_pos ⟨Nat.zero_le _, by omega⟩, Nat.sub_zero]
  · rw [if_neg (fun h => hi (by omega)), Array.getElem?_eq_none (by omega), Array.getElem?_eq_none (by omega)]
section
variable {P : Program} {α : Type} {enc : α → List Value} {k bytes : Nat} {e : TypeId}
/-- A slice of one struct. -/
theorem wpList_buildOne {ops : Array Oper} {rest : List Oper} {o : Oper} {a : Act} {Q : Exit → Act → World → Prop} (E : Enc P e enc k bytes) (hk : k ≤ 1000) (hgd : o.guard = none) (w : World) (t : TypeId) (x : Operand) (ho : o.op = .buildSlice t 1 #[(0, x)]) (dst : Option Tmp) (hdst : o.dst = dst) (N : Nat) (hN : w.heap.size = N)
    (ht : P.underlying t = some (.slice e)) (y : α) (hx : a.eval x = .agg (enc y).toArray)
    (h : wpList P ops Q rest (a.put dst (.slice (some ⟨N, 0, none⟩) 1 1)) (w.alloc (.cells (enc y).toArray e))) : wpList P ops Q (o :: rest) a w := by
  subst hdst hN
  obtain ⟨i, z, hi, hz, hs, hb, hzs⟩ := E.info
  have hp := E.pos
  refine wpList_buildSlice hgd t e 1 #[(0, x)] ho (enc y).toArray i z ht hi hz (by rw [hs]; omega) (by rw [hs]; omega) ?_ h
  rw [hs]
  simp only [List.map_toArray, List.map_cons, List.map_nil, hx]
  have hc : (Value.agg (enc y).toArray).cells = (enc y).toArray := rfl
  have hl : (enc y).toArray.size = k := by rw [List.size_toArray, E.len]
  rw [fill_step _ _ _ (.agg (enc y).toArray) _ 0 k (by simp) hl (by rw [hc, hl]; simp), Instr.fill, hc, lay_whole _ _ (by rw [hl]; simp)]
theorem RowsAt.one {w : World} {g : Nat} {t : TypeId} {fr : Nat × Nat} {y : α} (h : w.heap[g]? = some (.cells (enc y).toArray t fr)) : RowsAt w enc (some ⟨g, 0, none⟩) [y] := by
  refine .inr ⟨g, 0, rfl, fun j v hv => ?_⟩
  rw [List.flatMap_cons, List.flatMap_nil, List.append_nil] at hv
  rw [cell_of_row _ _ _ _ _ _ h, Nat.zero_add]
  simpa using hv
variable [Inhabited α]
theorem flatK_list (E : Enc P e enc k bytes) (d : Array α) : (flatK enc k d).toList = d.toList.flatMap enc := by
  apply List.ext_getElem?
  intro t
  have hl := E.flat d.toList
  have hp := E.pos
  by_cases ht : t < d.size * k
  · have h1 : t / k < d.size := (Nat.div_lt_iff_lt_mul hp).2 ht
    have h2 : t % k < k := Nat.mod_lt _ hp
    have h3 := E.at_ d.toList (t / k) d[t / k]! (by rw [Array.getElem?_toList, getElem!_pos d _ h1]; exact Array.getElem?_eq_getElem h1) (t % k) h2
    rw [show t / k * k + t % k = t by rw [Nat.mul_comm]; exact Nat.div_add_mod t k] at h3
    rw [h3, Array.getElem?_toList, Array.getElem?_eq_getElem (by rw [size_flatK]; exact ht), ← getElem!_pos (flatK enc k d) t (by rw [size_flatK]; exact ht), get_flatK _ _ _ _ ht, getElem!_pos (enc d[t / k]!) (t % k) (by rw [E.len]; exact h2), List.getElem?_eq_getElem (by rw [E.len]; exact h2)]
  · rw [List.getElem?_eq_none (by rw [Array.length_toList, size_flatK]; omega), List.getElem?_eq_none (by rw [hl, Array.length_toList]; omega)]
theorem heap_sortK (w : World) (g m : Nat) (d : Array α) (os : Array Obj) {cur : Array Value} {t : TypeId} {fr : Nat × Nat} (hg : w.heap[g]? = some (.cells cur t fr)) : (sortWorldK enc k w g 0 m d os).heap[g]? = some (.cells (putCells id 0 (flatK enc k d) cur) t fr) := by
  have hlt := heap_lt hg
  show ((w.heap.modify g (onCells (putCells id 0 (flatK enc k d)))) ++ os)[g]? = _
  rw [Array.getElem?_append_left (by rw [Array.size_modify]; exact hlt), Array.getElem?_modify, if_pos rfl, hg]
  rfl
theorem heap_sortK_ne (w : World) (g m : Nat) (d : Array α) (os : Array Obj) {i : Nat} (hi : i < w.heap.size) (hne : i ≠ g) : (sortWorldK enc k w g 0 m d os).heap[i]? = w.heap[i]? := by
  show ((w.heap.modify g (onCells (putCells id 0 (flatK enc k d)))) ++ os)[i]? = _
  rw [Array.getElem?_append_left (by rw [Array.size_modify]; exact hi), Array.getElem?_modify, if_neg (Ne.symm hne)]
theorem OwnE.holdsK (E : Enc P e enc k bytes) {w : World} {base g n cap : Nat} {l : List α} (h : OwnE w base e k enc (.slice (some ⟨g, 0, none⟩) n cap) l) : HoldsK enc k w g 0 l.toArray ∧ g < w.heap.size ∧ n = l.length := by
  rcases h.2 with ⟨h0, _⟩ | ⟨g2, cap2, cur, h1, hb, hg, hn, hm, hs, ht⟩
  · cases h0
  · injection h1 with h1 h2 _
    injection h1 with h1
    injection h1 with h1
    subst h1
    refine ⟨fun j hj => ⟨?_, frozen_of_row hg _⟩, heap_lt hg, h2⟩
    have hj2 : j < l.length * k := by rw [size_flatK] at hj; simpa using hj
    have hf := flatK_list E l.toArray
    have h3 : (flatK enc k l.toArray)[j]? = (l.flatMap enc)[j]? := by rw [← Array.getElem?_toList, hf]
    rw [cell_of_row _ _ _ _ _ _ hg, Nat.zero_add, getElem!_pos (flatK enc k l.toArray) j hj]
    show cur[j]? = some (flatK enc k l.toArray)[j]
    rw [← Array.getElem?_eq_getElem hj, h3, ← ht, List.getElem?_take, if_pos hj2, Array.getElem?_toList]
theorem OwnE.sorted (E : Enc P e enc k bytes) {w : World} {base g n cap m : Nat} {l : List α} {d : Array α} {os : Array Obj} (h : OwnE w base e k enc (.slice (some ⟨g, 0, none⟩) n cap) l) (hd : d.size = l.length) :
    OwnE (sortWorldK enc k w g 0 m d os) base e k enc (.slice (some ⟨g, 0, none⟩) n cap) d.toList ∧ w.grownBy (sortWorldK enc k w g 0 m d os) (some g) := by
  rcases h.2 with ⟨h0, _⟩ | ⟨g2, cap2, cur, h1, hb, hg, hn, hm, hs, ht⟩
  · cases h0
  · injection h1 with h1 h2 h3
    injection h1 with h1
    injection h1 with h1
    subst h1 h3
    have hdl : d.toList.length = l.length := by rw [Array.length_toList, hd]
    refine ⟨⟨by rw [E.flat], .inr ⟨g, cap, _, by rw [hdl, h2], hb, heap_sortK w g m d os hg, by rw [hdl]; exact hn, hm, by rw [putCells, Array.size_mapIdx, hs], ?_⟩⟩, ⟨rfl, rfl, rfl, ?_, fun i hi hne => heap_sortK_ne w g m d os hi (fun q => hne (by rw [q]))⟩⟩
    · apply List.ext_getElem?
      intro t
      have hl := E.flat d.toList
      rw [hdl, List.getElem?_take]
      have hcs : l.length * k ≤ cur.size := by rw [hs]; exact Nat.mul_le_mul_right k hn
      by_cases htt : t < l.length * k
      · have h5 : t < (flatK enc k d).size := by rw [size_flatK, hd]; exact htt
        rw [if_pos htt, Array.getElem?_toList, putCells, Array.getElem?_mapIdx, Array.getElem?_eq_getElem (by omega)]
        simp only [Option.map_some]
        rw [if_pos ⟨Nat.zero_le _, by omega⟩, ← flatK_list E, Array.getElem?_toList, Array.getElem?_eq_getElem h5, Nat.sub_zero, getElem!_pos (flatK enc k d) t h5]
        rfl
      · rw [if_neg htt, List.getElem?_eq_none (by rw [hl, hdl]; omega)]
    · show w.heap.size ≤ ((w.heap.modify g _) ++ os).size
      rw [Array.size_append, Array.size_modify]; omega
end

end Go.Proofs.Ythplelglifnhoaa
/-! The ledger's Add: the walk. -/
namespace Go.Proofs.Ythplelglifnhoaa
open Go.RowKit Go.Sort Go.ChangeMaps
set_option linter.unusedVariables false
theorem run_builtK {P : Program} {ops : Array Oper} {rest : List Oper} {o : Oper} {a : Act} {Q : Exit → Act → World → Prop} {w : World} (hgd : o.guard = none) (t : TypeId) (parts : Array (Nat × Operand)) (ho : o.op = .build t parts) (cells : Array Value) (hf : P.built t (parts.map fun (i, x) => (i, a.eval x)).toList = some cells)
    (h : wpList P ops Q rest (a.put o.dst (.agg cells)) w) : wpList P ops Q (o :: rest) a w :=
  wpList_plain hgd fun K hK => wp_build t parts ho (by rw [hf]; rfl) (hK _ _ (by rw [hf]; exact h))
theorem wpList_load_midG {P : Program} {ops : Array Oper} {rest : List Oper} {op : Oper} {a : Act} {w : World} {Q : Exit → Act → World → Prop} (hw : Region.wanted op (yielded ops a.tmps) = true) (ty : TypeId) (x : Operand) (ho : op.op = .load ty x)
    (b o : Nat) (hx : a.eval x = .pointer (some ⟨b, o, none⟩)) (cs : List Value) (d : TypeDesc) (hc : w.rangeAt b o cs)
    (hu : P.underlying ty = some d) (hd : d.isRow = true) (hi : (P.info? ty).map (·.size) = some cs.length)
    (h : wpList P ops Q rest (a.put op.dst (.agg cs.toArray)) w) : wpList P ops Q (op :: rest) a w :=
  BigFrame.wpList_want hw fun K hK => wp_load_mid ty x ho b o hx cs d hc hu hd hi (hK _ _ h)
end Go.Proofs.Ythplelglifnhoaa
/-! A change as it is drawn: whatever it is, it is one. -/
namespace Go.Proofs.Ythplelglifnhoaa
open Go.RowKit Go.Sort Go.ChangeMaps
set_option linter.unusedVariables false
theorem wpList_store_in {P : Program} {ops : Array Oper} {rest : List Oper} {o : Oper} {a : Go.Act} {Q : Exit → Go.Act → World → Prop} (hgd : o.guard = none) (w : World) (ty : TypeId) (x y : Operand) (ho : o.op = .store ty x y) (g k : Nat) (D : Array Value) (hx : a.eval x = .pointer (some ⟨g, k, none⟩)) (hy : a.eval y = .agg D) (C : Array Value) (t : TypeId)
    (hg : w.heap[g]? = some (.cells C t (0, 0))) (hDC : k + D.size ≤ C.size) (h0 : 0 < D.size) (hi : (P.info? ty).map (·.size) = some D.size) (h1 : D.all (·.oneCell') = true)
    (h : wpList P ops Q rest (a.put o.dst undef) (w.setRow g (setMany C k D.toList))) : wpList P ops Q (o :: rest) a w := by
  refine wpList_store_mid hgd ty x y ho g k D hx hy (fun j hj => ⟨?_, frozen_of_row hg _⟩) hi h1 ?_
  · rw [cell_of_row _ _ _ _ _ _ hg, Array.getElem?_eq_getElem (by omega)]; rfl
  · rw [setCells_eq_setRow _ _ _ _ _ _ _ hg (by
      intro e
      have := congrArg List.length e
      rw [Array.length_toList] at this
      have h2 : D.size = 0 := this
      omega)]
    exact h
end Go.Proofs.Ythplelglifnhoaa
