import Derived.Test.YtjlhllhimoalmaaMarkD
import Derived.Deep.SlicePairs
/-! Marks: a list of what was seen, as it comes in. -/
namespace Go.Proofs.Ytjlhllhimoalmaa
open Go.RowKit Go.ChangeShapes Go.WideShapes Go.Deep
set_option linter.unusedVariables false

theorem open_seen {H : Type} {enc : TypeId × Value → H} (W : World) {b0 : Nat} {v : Value} {d : DataW H} {p : List MemPlace} (hv : Value.okWide Try.prog W .any b0 22 v)
    (h : DataW.Trod enc Try.prog W 0 (fun _ => true) true 22 v d p) :
    ∃ A len cap V0 V1, v = .slice A len cap ∧ len ≤ cap ∧ Pairs W A len V0 V1 ∧ ∀ i, i < len → (-9223372036854775808 ≤ V0 i ∧ V0 i ≤ 9223372036854775807) ∧ -9223372036854775808 ≤ V1 i ∧ V1 i ≤ 9223372036854775807 := by
  obtain ⟨a, len, cap, rfl⟩ := okWide_slice Try.underlying22 hv
  obtain ⟨fuel, hf⟩ := h
  rcases open_slice_pairs Try.underlying22 Try.underlying36 (by kernel_rfl) rfl rfl (by kernel_rfl) (by kernel_rfl) hf with ⟨hcs, _⟩ | ⟨x, l, c, m, k, V0, V1, D0, D1, P0, P1, hcs, _, hl, hm, hmm, hx, hall⟩
  · simp [Value.cells] at hcs
    obtain ⟨rfl, rfl, rfl⟩ := hcs
    exact ⟨none, 0, 0, fun _ => 0, fun _ => 0, rfl, Nat.le_refl _, fun i hi => absurd hi (by omega), fun i hi => absurd hi (by omega)⟩
  · simp [Value.cells] at hcs
    obtain ⟨rfl, rfl, rfl⟩ := hcs
    simp only [if_true] at hmm
    subst hmm
    have hint : ∀ i, i < m → ∃ N0 N1, V0 i = .int .i64 N0 ∧ V1 i = .int .i64 N1 ∧ (Lit.int .i64 N0).wf = true ∧ (Lit.int .i64 N1).wf = true := fun i hi => by
      obtain ⟨N0, h1, _, h3⟩ := DataW.trod_int Try.underlying3 (hall i hi).2.2.1
      obtain ⟨N1, k1, _, k3⟩ := DataW.trod_int Try.underlying2 (hall i hi).2.2.2
      simp only [List.cons.injEq, and_true] at h1 k1
      exact ⟨N0, N1, h1, k1, h3, k3⟩
    refine ⟨some x, len, m, fun i => match V0 i with | .int _ n => n | _ => 0, fun i => match V1 i with | .int _ n => n | _ => 0, rfl, hl, fun i hi => ?_, fun i hi => ?_⟩
    · obtain ⟨N0, N1, e0, e1, _, _⟩ := hint i (by omega)
      obtain ⟨c0, c1, _⟩ := hall i (by omega)
      refine ⟨x, rfl, ?_, ?_⟩
      · simp only [e0] at c0 ⊢; exact c0
      · simp only [e1] at c1 ⊢; exact c1
    · obtain ⟨N0, N1, e0, e1, f0, f1⟩ := hint i (by omega)
      simp only [e0, e1]
      simp [Lit.wf, IntKind.min, IntKind.max, IntKind.bits, IntKind.signed] at f0 f1
      omega

theorem markNone_walk {H : Type} {enc : TypeId × Value → H} (W : World) (a0 : Int) (wa0 : (Lit.int .u8 a0).wf = true) {b0 : Nat} {v : Value} {d : DataW H} {p : List MemPlace} (hv : Value.okWide Try.prog W .any b0 22 v)
    (h : DataW.Trod enc Try.prog W 0 (fun _ => true) true 22 v d p) {ts : List TypeId} {ds : List (DataW H)} (_ : (DataW.weightsEach Try.prog ts ds).all (· ≤ reachBytes) = true) (a2 : Int) (wa2 : (Lit.int .u8 a2).wf = true) :
    Calls Try.prog 4 #[.int .u8 a0, v, .int .u8 a2] W fun e w' => e = .returned (.bool true) ∧ Below W.heap.size W w' := by
  obtain ⟨A, len, cap, V0, V1, rfl, _, hr, hb⟩ := open_seen W hv h
  simp [Lit.wf, IntKind.min, IntKind.max, IntKind.bits, IntKind.signed] at wa0 wa2
  exact markNone_any a0 a2 A len cap V0 V1 W (by omega) (by omega) hr (fun i hi => (hb i hi).1)
end Go.Proofs.Ytjlhllhimoalmaa
