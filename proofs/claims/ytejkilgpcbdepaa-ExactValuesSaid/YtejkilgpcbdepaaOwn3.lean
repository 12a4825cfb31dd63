import Derived.Test.YtejkilgpcbdepaaOwn
import Derived.Deep.WholeRow
import Derived.Deep.MidRow
import Derived.Laws.ResultCell
/-! Whole rows: results. -/
namespace Go.Proofs.Ytejkilgpcbdepaa
open Go.RowKit
theorem results_row_tmp {P : Program} {fn : Func} {p u : Tmp} {ty : TypeId} (h : fn.results = #[.cell p ty, .tmp u]) (tmps : Array Value) (w : World) (g : Nat) (t : TypeId) (cs : Array Value) (fr : Nat × Nat) (d : TypeDesc)
    (hp : tmps.getD p undef = .pointer (some ⟨g, 0, none⟩)) (hg : w.heap[g]? = some (.cells cs t fr))
    (hu : P.underlying ty = some d) (hd : (match d with | .struct _ | .array _ _ => true | _ => false) = true) (hi : (P.info? ty).map (·.size) = some cs.size) :
    (results fn tmps).run P w = .ok (.tuple #[.agg cs, tmps.getD u undef]) w := by
  rw [results_cell_tmp h, hp]
  simp [asAddr, run_loadVar_row w g t ty cs fr d hg hu hd hi]
theorem run_loadCellsFrom_row {P : Program} (w : World) (g : Nat) (t : TypeId) (c : Array Value) (fr : Nat × Nat) (hg : w.heap[g]? = some (.cells c t fr)) (n : Nat) (hn : c.size = n) :
    (loadCellsFrom ⟨g, 0, none⟩ 0 n #[]).run P w = .ok c w := by
  subst hn
  have := run_loadCells_list (P := P) w ⟨g, 0, none⟩ c.toList (fun j v hv => by
    have hadd : (⟨g, 0, none⟩ : Addr).add j = ⟨g, j, none⟩ := by unfold Addr.add; split <;> simp_all
    rw [hadd, cell_of_row _ _ j c t fr hg]
    simpa using hv)
  simpa [loadCells] using this
theorem run_storeCells_row {P : Program} (w : World) (g : Nat) (t : TypeId) (cur c : Array Value) (hg : w.heap[g]? = some (.cells cur t (0, 0))) (hi : (P.info? t).map (·.size) = some c.size) (ho : cur.size = c.size) (h1 : c.all (·.oneCell') = true) :
    (storeCells ⟨g, 0, none⟩ c.toList 0).run P w = .ok () (w.setRow g c) := by
  have := run_storeVar_row (P := P) w g t t cur c hg hi ho h1
  cases hq : P.info? t with
  | none => simp [hq] at hi
  | some i =>
    have hs : c.size = i.size := by simp [hq] at hi; omega
    simpa [storeVar, sizeOf, typeInfo, hq, Value.cells, hs] using this
theorem run_sizeOf_info {P : Program} {t : TypeId} {n : Nat} (hi : (P.info? t).map (·.size) = some n) (w : World) : (sizeOf t).run P w = .ok n w := by
  cases hq : P.info? t with
  | none => simp [hq] at hi
  | some i =>
    simp [hq] at hi
    simp [sizeOf, typeInfo, hq, hi]
theorem under_cell (w : World) (C : Array Value) (e : TypeId) (o : Obj) (k : Nat) : ((w.alloc (.cells C e)).alloc o).cell? ⟨w.heap.size, k, none⟩ = C[k]? := by
  rw [cell_of_row _ _ k C e (0, 0) (heap_alloc2_old w _ _)]
theorem top_cell (w : World) (C : Array Value) (e : TypeId) (k : Nat) : (w.alloc (.cells C e)).cell? ⟨w.heap.size, k, none⟩ = C[k]? := by
  rw [cell_of_row _ _ k C e (0, 0) (heap_alloc_new w _)]
theorem setRow2 (w : World) (o : Obj) (D C : Array Value) (t : TypeId) : ((w.alloc o).alloc (.cells D t)).setRow (w.heap.size + 1) C = (w.alloc o).alloc (.cells C t) := by
  have e : (w.alloc o).heap.size = w.heap.size + 1 := by show (w.heap.push o).size = _; simp
  rw [← e, World.setRow_alloc_new]
theorem one_set {C : Array Value} (h : C.all (·.oneCell') = true) (k : Nat) (v : Value) (hv : v.oneCell' = true) : (C.setIfInBounds k v).all (·.oneCell') = true := by
  rw [Array.all_eq_true_iff_forall_mem] at h ⊢
  intro x hx
  rcases Array.mem_or_eq_of_mem_setIfInBounds hx with e | e
  · exact h x e
  · rw [e]; exact hv
end Go.Proofs.Ytejkilgpcbdepaa
