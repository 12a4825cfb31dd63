import Derived.Test.YthplelglifnhoaaWi
import Derived.Deep.RegionHeld3
import Derived.OpenShut
import Derived.Laws.Cover2
/-! Two groups made by a statement; a window that comes in. -/
namespace Go.Proofs.Ythplelglifnhoaa
open Go.Shelf Go.RowKit Go.Lib Go.Sort
set_option linter.unusedVariables false
set_option linter.unusedSimpArgs false
section
open Go.ChangeShapes Go.WideShapes Go.Deep
variable {H : Type} {enc : TypeId × Value → H} {W : World} {base : Nat} {spare : Nat → Bool} {held : Bool}
theorem at_take2 {l : List Value} {i : Nat} {v : Value} (h : (l.drop i).take 1 = [v]) : l[i]? = some v := by
  have := congrArg (fun m => m[0]?) h
  simpa using this
set_option maxRecDepth 100000 in
theorem win_cells {fuel : Nat} {cs : List Value} {x : DataW H × List MemPlace} (h : DataW.trod enc Try.prog W base spare held fuel 40 cs = some x) : ∃ p : Int × Int, (-9223372036854775808 ≤ p.1 ∧ p.1 ≤ 9223372036854775807) ∧ (-9223372036854775808 ≤ p.2 ∧ p.2 ≤ 9223372036854775807) ∧ cs = winL p := by
  obtain ⟨xs, n, rfl, hx, hl, hxl, hf⟩ := DataW.trod_struct Try.underlying40 h
  have hc : Try.prog.cellsOf 40 = 2 := by kernel_rfl
  have hl5 : cs.length = 2 := by rw [hl, hc]
  have g0 := hf 0 _ rfl
  have g1 := hf 1 _ rfl
  have hxl5 : xs.length = 2 := hxl
  rw [List.getElem?_eq_getElem (by omega)] at g0 g1
  obtain ⟨n0, e0, _, w0⟩ := DataW.trod_int Try.underlying2 g0
  obtain ⟨n1, e1, _, w1⟩ := DataW.trod_int Try.underlying2 g1
  have c0 := at_take2 (l := cs) (i := 0) e0
  have c1 := at_take2 (l := cs) (i := 1) e1
  simp only [Lit.wf, IntKind.min, IntKind.max, IntKind.bits, IntKind.signed, decide_eq_true_eq, Bool.and_eq_true] at w0 w1
  refine ⟨(n0, n1), by simp at w0 ⊢; omega, by simp at w1 ⊢; omega, ?_⟩
  apply List.ext_getElem?
  intro i
  match i with
  | 0 => exact c0
  | 1 => exact c1
  | i + 2 => rw [List.getElem?_eq_none (by omega), List.getElem?_eq_none (by show 2 ≤ i + 2; omega)]
set_option maxRecDepth 100000 in
/-- A window that came in. -/
theorem open_win {v : Value} {d : DataW H} {ps : List MemPlace} {r : Reach} {b0 : Nat} (hv : Value.okWide Try.prog W r b0 40 v) (h : DataW.Trod enc Try.prog W base spare held 40 v d ps) : ∃ p : Int × Int, v = .agg (winL p).toArray := by
  obtain ⟨cs, rfl, hs⟩ := okWide_struct Try.underlying40 hv
  obtain ⟨fuel, hf⟩ := h
  obtain ⟨p, _, _, e⟩ := win_cells hf
  refine ⟨p, ?_⟩
  have e2 : cs.toList = winL p := e
  rw [← e2, Array.toArray_toList]
end
set_option maxRecDepth 100000 in
theorem built_gr2 (key : ByteArray) (s e : Int) : Try.prog.built 47 [(0, .string key), (1, .agg #[.int .i64 s, .int .i64 e])] = some (grL ⟨⟨key, s, e⟩, []⟩).toArray := by kernel_rfl
section
variable {P : Program} {α : Type} {enc : α → List Value} {k bytes : Nat} {e : TypeId}
/-- A slice of two structs. -/
theorem wpList_buildTwo {ops : Array Oper} {rest : List Oper} {o : Oper} {a : Act} {Q : Exit → Act → World → Prop} (E : Enc P e enc k bytes) (hk : k ≤ 1000) (hgd : o.guard = none) (w : World) (t : TypeId) (x1 x2 : Operand) (ho : o.op = .buildSlice t 2 #[(0, x1), (1, x2)]) (dst : Option Tmp) (hdst : o.dst = dst) (N : Nat) (hN : w.heap.size = N)
    (ht : P.underlying t = some (.slice e)) (y1 y2 : α) (hx1 : a.eval x1 = .agg (enc y1).toArray) (hx2 : a.eval x2 = .agg (enc y2).toArray)
    (h : wpList P ops Q rest (a.put dst (.slice (some ⟨N, 0, none⟩) 2 2)) (w.alloc (.cells ((enc y1) ++ (enc y2)).toArray e))) : wpList P ops Q (o :: rest) a w := by
  subst hdst hN
  obtain ⟨i, z, hi, hz, hs, hb, hzs⟩ := E.info
  have hp := E.pos
  refine wpList_buildSlice hgd t e 2 #[(0, x1), (1, x2)] ho ((enc y1) ++ (enc y2)).toArray i z ht hi hz (by rw [hs]; omega) (by rw [hs]; omega) ?_ h
  rw [hs]
  simp only [List.map_toArray, List.map_cons, List.map_nil, hx1, hx2]
  have hl1 : (enc y1).toArray.size = k := by rw [List.size_toArray, E.len]
  have hl2 : (enc y2).toArray.size = k := by rw [List.size_toArray, E.len]
  generalize hZ : (Array.range (2 * k)).map (z.cells[· % z.cells.size]!) = Z
  have hZs : Z.size = 2 * k := by rw [← hZ]; simp
  have c1 : (Value.agg (enc y1).toArray).cells = (enc y1).toArray := rfl
  have c2 : (Value.agg (enc y2).toArray).cells = (enc y2).toArray := rfl
  have s1 : (lay (enc y1).toArray Z 0).size = 2 * k := by rw [lay_size _ _ _ (by rw [hl1, hZs]; omega), hZs]
  rw [fill_step _ _ _ (.agg (enc y1).toArray) _ 0 k (by simp) hl1 (by rw [c1, hl1, hZs]; omega), c1, fill_step _ _ _ (.agg (enc y2).toArray) _ k k (by simp) hl2 (by rw [c2, hl2, s1]; omega), c2, Instr.fill]
  congr 1
  apply Array.ext_getElem?
  intro j
  rw [lay_at _ _ _ _ (by rw [hl2, s1]; omega), lay_at _ _ _ _ (by rw [hl1, hZs]; omega), hl1, hl2]
  simp only [List.getElem?_toArray]
  by_cases q1 : j < k
  · rw [if_neg (by omega), if_pos (by omega), List.getElem?_append_left (by rw [E.len]; exact q1), Nat.sub_zero]
  · by_cases q2 : j < 2 * k
    · rw [if_pos (by omega), List.getElem?_append_right (by rw [E.len]; omega), E.len]
    · rw [if_neg (by omega), if_neg (by omega), Array.getElem?_eq_none (by omega), List.getElem?_eq_none (by rw [List.length_append, E.len, E.len]; omega)]
theorem OwnE.two (E : Enc P e enc k bytes) {w : World} {base g : Nat} {y1 y2 : α} (h : w.heap[g]? = some (.cells ((enc y1) ++ (enc y2)).toArray e (0, 0))) (hb : base ≤ g) : OwnE w base e k enc (.slice (some ⟨g, 0, none⟩) 2 2) [y1, y2] := by
  refine ⟨by rw [E.flat], .inr ⟨g, 2, ((enc y1) ++ (enc y2)).toArray, rfl, hb, h, Nat.le_refl _, by decide, ?_, ?_⟩⟩
  · rw [List.size_toArray, List.length_append, E.len, E.len]; omega
  · rw [List.flatMap_cons, List.flatMap_cons, List.flatMap_nil, List.append_nil]
    show List.take (2 * k) (enc y1 ++ enc y2) = _
    rw [List.take_of_length_le (by rw [List.length_append, E.len, E.len]; omega)]
end
theorem ord_of_lt {x y : Nm} (h : nmLt x y = true) : nmOrd x y = -1 ∧ nmOrd y x = 1 := by
  have hne : ¬ (y.key.toList = x.key.toList ∧ y.s = x.s ∧ y.e = x.e) := fun q => by
    have := nmEq_of q
    subst this
    rw [nmLt_irrefl] at h; cases h
  constructor
  · unfold nmOrd; rw [if_pos h]
  · unfold nmOrd; rw [if_neg (by rw [nmLt_asymm h]; decide), if_neg hne]
theorem ord_self (x : Nm) : nmOrd x x = 0 := by
  unfold nmOrd; rw [if_neg (by rw [nmLt_irrefl]; decide), if_pos ⟨rfl, rfl, rfl⟩]
theorem ord_le {x y : Nm} (h : nmLt y x = false) : nmOrd x y ≤ 0 := by
  unfold nmOrd
  rcases nmLt_cases x y with q | q | q
  · rw [if_pos q]; decide
  · subst q; rw [if_neg (by rw [nmLt_irrefl]; decide), if_pos ⟨rfl, rfl, rfl⟩]; decide
  · rw [h] at q; cases q
end Go.Proofs.Ythplelglifnhoaa
