import Derived.Test.YthplelglifnhoaaWk
import Derived.Test.YthplelglifnhoaaWl
import Derived.Test.YthplelglifnhoaaWm
/-! WholeOrders. -/
namespace Go.Proofs.Ythplelglifnhoaa
open Go.RowKit
set_option linter.unusedVariables false
theorem beq_cases (x y : Nm) : (x.key.toList == y.key.toList) = false ∨ (x.key.toList == y.key.toList) = true ∧ (x.s == y.s) = false ∨ (x.key.toList == y.key.toList) = true ∧ (x.s == y.s) = true ∧ (x.e == y.e) = false ∨ x = y := by
  by_cases h1 : x.key.toList = y.key.toList
  · by_cases h2 : x.s = y.s
    · by_cases h3 : x.e = y.e
      · exact .inr (.inr (.inr (nmEq_of ⟨h1, h2, h3⟩)))
      · exact .inr (.inr (.inl ⟨by simp [h1], by simp [h2], by simpa using h3⟩))
    · exact .inr (.inl ⟨by simp [h1], by simpa using h2⟩)
  · exact .inl (by simpa using h1)
set_option maxRecDepth 100000 in
theorem orders_any (x y : Nm) (w : World) :
    Calls Try.prog 9 #[.string x.key, .string y.key, .agg #[.int .i64 x.s, .int .i64 x.e], .agg #[.int .i64 y.s, .int .i64 y.e]] w fun en w' => en = .returned (.bool true) ∧ Below w.heap.size w w' := by
  have hne : ∀ {a b : Nm}, nmLt a b = true → a ≠ b := fun {a b} h q => by rw [q, nmLt_irrefl] at h; cases h
  rcases nmLt_cases x y with h | h | h
  · have ho := ord_of_lt h
    refine orders_lt x y (-1) 1 true _ _ _ ho.1 ho.2 h rfl rfl rfl ⟨⟨rfl, rfl, rfl⟩, ?_⟩ w
    rcases beq_cases x y with q | q | q | q
    · exact .inl q
    · exact .inr (.inl q)
    · exact .inr (.inr q)
    · exact absurd q (hne h)
  · subst h
    exact orders_eq x x 0 0 false true true true (ord_self x) (ord_self x) (nmLt_irrefl x) (by simp) (by simp) (by simp) ⟨rfl, rfl, rfl, rfl, rfl, rfl⟩ w
  · have ho := ord_of_lt h
    refine orders_gt x y 1 (-1) false _ _ _ ho.2 ho.1 (nmLt_asymm h) rfl rfl rfl ⟨⟨rfl, rfl, rfl⟩, ?_⟩ w
    rcases beq_cases x y with q | q | q | q
    · exact .inl q
    · exact .inr (.inl q)
    · exact .inr (.inr q)
    · exact absurd q.symm (hne h)
set_option maxRecDepth 100000 in
theorem wholeOrders_walk {H : Type} {enc : TypeId × Value → H} (W : World) {base : Nat} {sp : Nat → Bool} {hd : Bool} {r : Reach} {b0 : Nat} (a0 : ByteArray) (wa0 : a0.size ≤ maxLen) (a1 : ByteArray) (wa1 : a1.size ≤ maxLen) {v2 v3 : Value} {d2 d3 : DataW H} {p2 p3 : List MemPlace} {ts : List TypeId} {ds : List (DataW H)}
    (k2 : Value.okWide Try.prog W r b0 40 v2) (h2 : DataW.Trod enc Try.prog W base sp hd 40 v2 d2 p2) (hz2 : (DataW.weightsEach Try.prog ts ds).all (· ≤ reachBytes) = true)
    (k3 : Value.okWide Try.prog W r b0 40 v3) (h3 : DataW.Trod enc Try.prog W base sp hd 40 v3 d3 p3) (hz3 : (DataW.weightsEach Try.prog ts ds).all (· ≤ reachBytes) = true) :
    Calls Try.prog 9 #[.string a0, .string a1, v2, v3] W fun e w' => e = .returned (.bool true) ∧ Below W.heap.size W w' := by
  obtain ⟨p, rfl⟩ := open_win k2 h2
  obtain ⟨q, rfl⟩ := open_win k3 h3
  have h := orders_any (Nm.mk a0 p.1 p.2) (Nm.mk a1 q.1 q.2) W
  simp only [winL]
  exact h
end Go.Proofs.Ythplelglifnhoaa
