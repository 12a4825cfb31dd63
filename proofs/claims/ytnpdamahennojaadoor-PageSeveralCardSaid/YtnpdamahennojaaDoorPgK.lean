import Derived.Test.YtnpdamahennojaaDoorPgJ
import Derived.Test.YtnpdamahennojaaDoorLaid
namespace Go.Proofs.YtnpdamahennojaaDoor
open Go.RowKit Go.ChangeShapes Go.WideShapes Go.Deep
set_option linter.unusedVariables false

/-- The walk of PageSeveral. -/
theorem pageSeveral_walk {H : Type} {enc : TypeId × Value → H} (W : World) {b0 : Nat} {v : Value} {d : DataW H} {p : List MemPlace} (hv : Value.okWide Tryd.prog W .any b0 37 v)
    (h : DataW.Trod enc Tryd.prog W 0 (fun _ => true) true 37 v d p) (_ : (DataW.weightsEach Tryd.prog [37] [d]).all (· ≤ reachBytes) = true) (hL : Laid W) :
    Calls Tryd.prog 6 #[v] W fun e w' => e = .returned (.bool true) ∧ Below W.heap.size W w' := by
  obtain ⟨a, len, cap, rfl⟩ := okWide_slice Tryd.underlying37 hv
  obtain ⟨fuel, hf⟩ := h
  rcases open_int_rows Tryd.underlying37 Tryd.underlying22 Tryd.underlying5 (by kernel_rfl) (by kernel_rfl) hf with ⟨hcs, _⟩ | ⟨x, l, c, A, L, C, Z, hcs, _, hl, hm, _, hrow⟩
  · simp [Value.cells] at hcs
    obtain ⟨rfl, rfl, rfl⟩ := hcs
    exact pageSeveral_any none 0 0 (fun _ => []) (fun _ => none) (fun _ => 0) W (fun r hr => absurd hr (by omega)) (tab_of_laid hL)
  · simp [Value.cells] at hcs
    obtain ⟨rfl, rfl, rfl⟩ := hcs
    refine pageSeveral_any (some x) len cap (fun r => (Z r).take (L r)) A C W (fun r hr => ?_) (tab_of_laid hL)
    obtain ⟨r1, r2, r3, r4, r5, r6, r7⟩ := hrow r (by omega)
    have hlen : ((Z r).take (L r)).length = L r := by rw [List.length_take]; omega
    have hrd : ∀ i, i < L r → rd ((Z r).take (L r)) i = (Z r).getD i 0 := fun i hi => rd_take _ _ _ hi
    refine ⟨⟨x, rfl, by rw [hlen]; exact r1⟩, by rw [hlen]; exact r2, wf_bytes fun i hi => ?_, fun i hi => ?_⟩
    · rw [hlen] at hi
      rw [hrd i hi]
      refine r5 _ ?_
      have hz : i < (Z r).length := by omega
      rw [List.getD_eq_getElem?_getD, List.getElem?_eq_getElem hz]
      exact List.getElem_mem hz
    · rw [hlen] at hi
      rw [hrd i hi]
      cases hA : A r with
      | none => have := r6 hA; omega
      | some a' => exact ⟨a', rfl, (r7 a' hA).2 i (by omega)⟩
end Go.Proofs.YtnpdamahennojaaDoor
