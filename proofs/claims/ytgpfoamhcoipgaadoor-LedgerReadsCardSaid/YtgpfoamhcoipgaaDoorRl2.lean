import Derived.Test.YtgpfoamhcoipgaaDoorLg
import Derived.Deep.DeepCutAuto
import Derived.Deep.QuietTactic
import Derived.Test.YtgpfoamhcoipgaaDoorRt
/-! A change as it is drawn: whatever it is, it is one. -/
namespace Go.Proofs.YtgpfoamhcoipgaaDoor
open Go.RowKit Go.Sort Go.ChangeMaps
set_option linter.unusedVariables false
theorem wpList_store_in {P : Program} {ops : Array Oper} {rest : List Oper} {o : Oper} {a : Go.Act} {Q : Exit → Go.Act → World → Prop} (hgd : o.guard = none) (w : World) (ty : TypeId) (x y : Operand) (ho : o.op = .store ty x y) (g k : Nat) (D : Array Value) (hx : a.eval x = .pointer (some ⟨g, k, none⟩)) (hy : a.eval y = .agg D) (C : Array Value) (t : TypeId)
    (hg : w.heap[g]? = some (.cells C t (0, 0))) (hDC : k + D.size ≤ C.size) (h0 : 0 < D.size) (hi : (P.info? ty).map (·.size) = some D.size) (h1 : D.all (·.oneCell') = true)
    (h : wpList P ops Q rest (a.put o.dst undef) (w.setRow g (setMany C k D.toList))) : wpList P ops Q (o :: rest) a w := by
  refine wpList_store_mid hgd ty x y ho g k D hx hy (fun j hj => ⟨?_, frozen_of_row hg _⟩) hi h1 ?_
  · rw [cell_of_row _ _ _ _ _ _ hg, Array.getElem?_eq_getElem (by omega)]; rfl
  · rw [setCells_eq_setRow _ _ _ _ _ _ _ hg (by
      intro e
      have := congrArg List.length e
      rw [Array.length_toList] at this
      have h2 : D.size = 0 := this
      omega)]
    exact h
end Go.Proofs.YtgpfoamhcoipgaaDoor
/-! Changes read: the closure. -/
namespace Go.Proofs.YtgpfoamhcoipgaaDoor
open Go.RowKit Go.Sort Go.ChangeMaps
set_option linter.unusedVariables false
set_option linter.unusedSectionVars false
attribute [-simp] Tryd.isAgg34 Tryd.sizeOf34 Tryd.typeInfo34 Tryd.type34
attribute [-simp] Tryd.isAgg40 Tryd.sizeOf40 Tryd.typeInfo40 Tryd.type40
attribute [-simp] Tryd.isAgg38 Tryd.sizeOf38 Tryd.typeInfo38 Tryd.type38
attribute [-simp] Tryd.isAgg43 Tryd.sizeOf43 Tryd.typeInfo43 Tryd.type43

/-- All but a reader and a variable is as it was. -/
structure Two (g gl : Nat) (w w' : World) : Prop where
  os : w'.os = w.os
  tape : w'.tape = w.tape
  output : w'.output = w.output
  size : w.heap.size ≤ w'.heap.size
  block : ∀ i, i < w.heap.size → i ≠ g → i ≠ gl → w'.heap[i]? = w.heap[i]?
theorem Two.refl (g gl : Nat) (w : World) : Two g gl w w := ⟨rfl, rfl, rfl, Nat.le_refl _, fun _ _ _ _ => rfl⟩
theorem Two.grown {g gl : Nat} {w w1 w2 : World} (h : Two g gl w w1) {row : Option Nat} (k : w1.grownBy w2 row) (hr : ∀ q, row = some q → q = g ∨ w.heap.size ≤ q) : Two g gl w w2 :=
  ⟨k.os.trans h.os, k.tape.trans h.tape, k.output.trans h.output, Nat.le_trans h.size k.size, fun i hi h1 h2 => (k.block i (Nat.lt_of_lt_of_le hi h.size) (fun e => by
    rcases hr i e.symm with q | q
    · exact h1 q
    · omega)).trans (h.block i hi h1 h2)⟩
theorem Two.below {g gl : Nat} {w w1 w2 : World} (h : Two g gl w w1) (b : Below w1.heap.size w1 w2) : Two g gl w w2 := h.grown (grown_of_below b none) (fun q e => by cases e)
theorem Two.setCell {g gl : Nat} {w w1 : World} (h : Two g gl w w1) {k : Nat} (hk : k = gl ∨ w.heap.size ≤ k) (j : Nat) (u : Value) : Two g gl w (w1.setCell ⟨k, j, none⟩ u) :=
  ⟨h.os, h.tape, h.output, by simpa using h.size, fun i hi h1 h2 => (Below.heap_setCell w1 ⟨k, j, none⟩ u i (by show i ≠ k; rcases hk with q | q <;> omega)).trans (h.block i hi h1 h2)⟩
theorem Two.setRow {g gl : Nat} {w w1 : World} (h : Two g gl w w1) {k : Nat} (hk : w.heap.size ≤ k) (C : Array Value) : Two g gl w (w1.setRow k C) :=
  h.grown (row := some k) (by
    have := grown_setRowN (grown_refl w1 (some k)) (k := w1.heap.size) (Nat.le_refl _) C
    exact ⟨rfl, rfl, rfl, by show _ ≤ (w1.setRow k C).heap.size; unfold World.setRow; simp, fun i hi hne => setRow_other w1 k i C (fun e => hne (by rw [e]))⟩) (fun q e => by injection e with e; subst e; exact .inr hk)
theorem RdSt.grownO {w w' : World} {g B : Nat} {xs : List Int} (h : RdSt w g B xs) {row : Option Nat} (k : w.grownBy w' row) (hr : ∀ q, row = some q → B ≤ q ∧ q ≠ g) : RdSt w' g B xs := by
  obtain ⟨A, cap, hc, h1, h2, h3⟩ := h.cell
  have hlt := h.lt
  have hgb : w'.heap[g]? = w.heap[g]? := k.block g hlt (fun e => (hr g e.symm).2 rfl)
  refine ⟨⟨A, cap, (cell_same (a := ⟨g, 0, none⟩) hgb).trans hc, h1, ?_, h3⟩, ?_⟩
  · by_cases hx : xs = []
    · rw [hx]; exact Reads.nil _ _ _
    · exact h2.grown k (fun a e q => by
        have h4 := (h3 hx a e).2
        have h5 := (hr a.block q.symm).1
        omega)
  · have := h.frozen
    unfold World.frozen? at this ⊢
    rw [hgb]
    exact this
/-- While changes are read. -/
structure LdI (g gl B : Nat) (w : World) (v : Value) (acc : List Ch) (xs : List Int) (wr : World) : Prop where
  rd : RdSt wr g B xs
  b8 : Bytes8 xs
  cell : wr.heap[gl]? = some (.cells #[v] 24 (0, 0))
  own : OwnE wr w.heap.size 43 10 chL v acc
  two : Two g gl w wr
/-- Which blocks stand apart. -/
structure LdS (g gl B : Nat) (w : World) : Prop where
  ne : g ≠ gl
  B : B ≤ gl
  g : g < w.heap.size
  gl : gl < w.heap.size
theorem LdI.read {g gl B : Nat} {w wr w2 : World} {v : Value} {acc : List Ch} {xs ys : List Int} (S : LdS g gl B w) (h : LdI g gl B w v acc xs wr) (hs : RdSt w2 g B ys) (h8 : Bytes8 ys) (k : wr.grownBy w2 (some g)) : LdI g gl B w v acc ys w2 :=
  ⟨hs, h8, (RdSt.row k h.cell (Ne.symm S.ne)), h.own.kept k (by
    cases hv : v.ownBlock with
    | none => exact .inl rfl
    | some q =>
      refine .inr fun e => ?_
      injection e with e
      have := (h.own.lt q hv).1
      have := S.g
      omega), h.two.grown k (fun q e => by injection e with e; exact .inl e.symm)⟩
theorem LdI.below {g gl B : Nat} {w wr w2 : World} {v : Value} {acc : List Ch} {xs : List Int} (h : LdI g gl B w v acc xs wr) (b : Below wr.heap.size wr w2) : LdI g gl B w v acc xs w2 :=
  ⟨h.rd.below b, h.b8, (b.block _ (heap_lt h.cell)).trans h.cell, h.own.below b, h.two.below b⟩
theorem LdI.setCell {g gl B : Nat} {w wr : World} {v : Value} {acc : List Ch} {xs : List Int} (S : LdS g gl B w) (h : LdI g gl B w v acc xs wr) {k : Nat} (hk : w.heap.size ≤ k) (hv : v.ownBlock ≠ some k) (j : Nat) (u : Value) : LdI g gl B w v acc xs (wr.setCell ⟨k, j, none⟩ u) :=
  ⟨h.rd.setCell (by have := S.B; have := S.gl; omega) (by have := S.g; omega) j u, h.b8, (Below.heap_setCell wr ⟨k, j, none⟩ u gl (by show gl ≠ k; have := S.gl; omega)).trans h.cell, h.own.setCell hv j u, h.two.setCell (.inr hk) j u⟩
theorem LdI.setRow {g gl B : Nat} {w wr : World} {v : Value} {acc : List Ch} {xs : List Int} (S : LdS g gl B w) (h : LdI g gl B w v acc xs wr) {k : Nat} (hk : w.heap.size ≤ k) (hv : v.ownBlock ≠ some k) (C : Array Value) : LdI g gl B w v acc xs (wr.setRow k C) :=
  ⟨h.rd.setRow (by have := S.B; have := S.gl; omega) (by have := S.g; omega) C, h.b8, (setRow_other wr k gl C (by have := S.gl; omega)).trans h.cell, h.own.kept (row := some k) ⟨rfl, rfl, rfl, by unfold World.setRow; simp, fun i hi hne => setRow_other wr k i C (fun e => hne (by rw [e]))⟩ (.inr hv), h.two.setRow hk C⟩
def CsPost (g gl B : Nat) (w : World) (R : Option (List Ch × List Int)) (e : Ending) (w' : World) : Prop :=
  Two g gl w w' ∧ ((R = none ∧ e = badP) ∨ ∃ L rest v, R = some (L, rest) ∧ e = .returned (.tuple #[]) ∧ LdI g gl B w v L rest w')
end Go.Proofs.YtgpfoamhcoipgaaDoor
