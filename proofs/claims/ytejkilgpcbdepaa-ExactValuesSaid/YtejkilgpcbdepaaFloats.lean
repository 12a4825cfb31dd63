import Derived.Test.YtejkilgpcbdepaaOwn
import Derived.Deep.Slices
/-! A slice of numbers as it comes in. -/
namespace Go.Proofs.Ytejkilgpcbdepaa
open Go.RowKit Go.ChangeShapes Go.WideShapes Go.Deep

def fd (xs : List Nat) (i : Nat) : Nat := xs.getD i 0
theorem fd_eq (xs : List Nat) (i : Nat) (h : i < xs.length) : fd xs i = xs[i] := by
  rw [fd, List.getD_eq_getElem?_getD, List.getElem?_eq_getElem h]; rfl
theorem take_snocF (xs : List Nat) (k : Nat) (h : k < xs.length) : xs.take (k + 1) = xs.take k ++ [fd xs k] := by
  rw [List.take_succ_eq_append_getElem h, fd_eq xs k h]
/-- A slice of numbers that reads as a list of words. -/
def FReads (w : World) (A : Option Addr) (xs : List Nat) : Prop := ∀ i, i < xs.length → ∃ a, A = some a ∧ w.cell? (a.add i) = some (.float .f64 (fd xs i))
theorem FReads.below {w w' : World} {A : Option Addr} {xs : List Nat} (h : FReads w A xs) (hb : Below w.heap.size w w') : FReads w' A xs := fun i hi => by
  obtain ⟨a, rfl, hc⟩ := h i hi
  exact ⟨a, rfl, cell_below hb hc⟩
theorem FReads.nil (w : World) (A : Option Addr) : FReads w A [] := fun i hi => absurd hi (by simp)
def Words64 (xs : List Nat) : Prop := ∀ i, i < xs.length → fd xs i < 18446744073709551616
section
variable {H : Type} {enc : TypeId × Value → H} {P : Program} {W : World} {base : Nat} {spare : Nat → Bool} {held : Bool}
theorem trod_float {t : TypeId} {k : FloatKind} {fuel : Nat} {cs : List Value} {x : DataW H × List MemPlace} (ht : P.underlying t = some (.float k)) (h : DataW.trod enc P W base spare held fuel t cs = some x) :
    ∃ n, cs = [.float k n] ∧ (Lit.float k n).wf = true := by
  cases fuel with
  | zero => simp [DataW.trod] at h
  | succ n =>
    unfold DataW.trod at h
    rw [ht] at h
    split at h <;> simp_all
theorem open_floats {t e : TypeId} {v : Value} {d : DataW H} {ps : List MemPlace} {ts : List TypeId} {ds : List (DataW H)} {j : Nat} {r : Reach} {b0 : Nat}
    (hu : P.underlying t = some (.slice e)) (he : P.underlying e = some (.float .f64)) (hc : P.cellsOf e = 1) (_ : P.bytesOf e = 8) (hv : Value.okWide P W r b0 t v)
    (_ : (DataW.weightsEach P ts ds).all (· ≤ reachBytes) = true) (_ : ts[j]? = some t) (_ : ds[j]? = some d)
    (h : DataW.Trod enc P W base spare held t v d ps) :
    ∃ A cap, ∃ xs : List Nat, v = .slice A xs.length cap ∧ xs.length ≤ cap ∧ cap ≤ maxLen ∧ FReads W A xs ∧ Words64 xs := by
  obtain ⟨a, len, cap, rfl⟩ := okWide_slice hu hv
  obtain ⟨fuel, hf⟩ := h
  rcases open_slice hu hf with ⟨hcs, _⟩ | ⟨x, l, c, m, n, D, Pl, hcs, _, hl, hm, hmm, _, hall⟩
  · simp [Value.cells] at hcs
    obtain ⟨rfl, rfl, rfl⟩ := hcs
    exact ⟨none, 0, [], rfl, by simp, by simp [maxLen], FReads.nil _ _, fun i hi => absurd hi (by simp)⟩
  · simp [Value.cells] at hcs
    obtain ⟨rfl, rfl, rfl⟩ := hcs
    have hlm : len ≤ m := by rw [hmm]; split <;> omega
    have hone : ∀ i, i < len → ∃ y, W.cell? (x.add i) = some (.float .f64 y) ∧ y < 18446744073709551616 := fun i hi => by
      obtain ⟨cs', h1, h2⟩ := hall i (by omega)
      obtain ⟨y, rfl, hw⟩ := trod_float he h2
      rw [hc, Nat.mul_one] at h1
      exact ⟨y, cell_of_cells?_one h1, of_decide_eq_true hw⟩
    let f : Nat → Nat := fun i => match W.cell? (x.add i) with | some (.float .f64 y) => y | _ => 0
    have hlen : ((List.range len).map f).length = len := by simp
    have hfd : ∀ i, i < len → fd ((List.range len).map f) i = f i := fun i hi => by simp [fd, List.getD_eq_getElem?_getD, hi]
    refine ⟨some x, cap, (List.range len).map f, by rw [hlen], by rw [hlen]; exact hl, hm, fun i hi => ?_, fun i hi => ?_⟩
    · rw [hlen] at hi
      obtain ⟨y, h1, _⟩ := hone i hi
      refine ⟨x, rfl, ?_⟩
      rw [hfd i hi, h1]
      simp only [f, h1]
    · rw [hlen] at hi
      obtain ⟨y, h1, h2⟩ := hone i hi
      rw [hfd i hi]
      simp only [f, h1]
      exact h2
end
end Go.Proofs.Ytejkilgpcbdepaa
