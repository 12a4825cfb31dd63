import Derived.Test.YtejkilgpcbdepaaChecked
import Derived.WalkKit
import Derived.WalkLawsBesides
import Derived.WalkSpells
import Derived.Lib.Hide
import Derived.SizedLaws
import Derived.ChangeSlices
import Derived.Lib.SlBytesConst
namespace Go.Proofs.Ytejkilgpcbdepaa
open Go.RowKit Go.ChangeShapes Go.WideShapes

/-! Words for memory, of no function. -/
theorem cell_lt {w : World} {a : Addr} {v : Value} (h : w.cell? a = some v) : a.block < w.heap.size := World.block_lt_of_cell? w a h
theorem cell_new (w : World) (C : Array Value) (e : TypeId) (f : Nat × Nat) (j : Nat) : (w.alloc (.cells C e f)).cell? ((⟨w.heap.size, 0, none⟩ : Addr).add j) = C[j]? := by
  have h : (⟨w.heap.size, 0, none⟩ : Addr).add j = ⟨w.heap.size, j, none⟩ := by unfold Addr.add; split <;> simp_all
  rw [h]
  simp only [World.cell?]
  rw [heap_alloc_new]
  rfl
theorem add_plain (g j : Nat) : (⟨g, 0, none⟩ : Addr).add j = ⟨g, j, none⟩ := by unfold Addr.add; split <;> simp_all
theorem below_alloc {w W : World} (h : Below w.heap.size w W) (o : Obj) : Below w.heap.size w (W.alloc o) := h.alloc h.size o
theorem below_trans {w w1 w2 : World} (h : Below w.heap.size w w1) (k : Below w1.heap.size w1 w2) : Below w.heap.size w w2 := h.trans (k.mono h.size)
theorem below_drewN {B : Nat} {w W : World} (h : Below B w W) (n : Nat) : Below B w (W.drewN n) := ⟨h.os, h.tape, h.output, h.size, h.block⟩
theorem cell_below {w w1 : World} (h : Below w.heap.size w w1) {a : Addr} {v : Value} (hc : w.cell? a = some v) : w1.cell? a = some v := (h.cell (cell_lt hc)).trans hc

/-- An element of a list. -/
def rd (xs : List Int) (i : Nat) : Int := xs.getD i 0
theorem rd_eq (xs : List Int) (i : Nat) (h : i < xs.length) : rd xs i = xs[i] := by
  rw [rd, List.getD_eq_getElem?_getD, List.getElem?_eq_getElem h]; rfl
theorem take_snoc (xs : List Int) (k : Nat) (h : k < xs.length) : xs.take (k + 1) = xs.take k ++ [rd xs k] := by
  rw [List.take_succ_eq_append_getElem h, rd_eq xs k h]

/-- A slice of whole numbers that reads as a list. -/
def Reads (w : World) (k : IntKind) (A : Option Addr) (xs : List Int) : Prop :=
  ∀ i, i < xs.length → ∃ a, A = some a ∧ w.cell? (a.add i) = some (.int k (rd xs i))
theorem Reads.below {w w' : World} {k : IntKind} {A : Option Addr} {xs : List Int} (h : Reads w k A xs) (hb : Below w.heap.size w w') : Reads w' k A xs :=
  fun i hi => by
    obtain ⟨a, rfl, hc⟩ := h i hi
    exact ⟨a, rfl, cell_below hb hc⟩
theorem Reads.nil (w : World) (k : IntKind) (A : Option Addr) : Reads w k A [] := fun i hi => absurd hi (by simp)
theorem Reads.new {w : World} {k : IntKind} {xs : List Int} {C : Array Value} {e : TypeId} {f : Nat × Nat} (h : ∀ i, i < xs.length → C[i]? = some (.int k (rd xs i))) :
    Reads (w.alloc (.cells C e f)) k (some ⟨w.heap.size, 0, none⟩) xs := fun i hi => ⟨_, rfl, by rw [cell_new]; exact h i hi⟩
def Bytes8 (l : List Int) : Prop := ∀ i, i < l.length → 0 ≤ rd l i ∧ rd l i ≤ 255

section
variable {H : Type} {enc : TypeId × Value → H} {P : Program} {W : World} {base : Nat} {spare : Nat → Bool} {held : Bool}
/-- A slice of whole numbers that came in. -/
theorem open_nums {t e : TypeId} {k : IntKind} {v : Value} {d : DataW H} {ps : List MemPlace} {ts : List TypeId} {ds : List (DataW H)} {j B : Nat} {r : Reach} {b0 : Nat}
    (hu : P.underlying t = some (.slice e)) (he : P.underlying e = some (.int k)) (hc : P.cellsOf e = 1) (hB : P.bytesOf e = B) (hv : Value.okWide P W r b0 t v)
    (hsz : (DataW.weightsEach P ts ds).all (· ≤ reachBytes) = true) (hts : ts[j]? = some t) (hds : ds[j]? = some d)
    (h : DataW.Trod enc P W base spare held t v d ps) :
    ∃ A cap, ∃ xs : List Int, v = .slice A xs.length cap ∧ xs.length ≤ cap ∧ xs.length * B ≤ 140737488351232 ∧ Reads W k A xs ∧ ∀ i, i < xs.length → (Lit.int k (rd xs i)).wf = true := by
  obtain ⟨a, len, cap, rfl⟩ := okWide_slice hu hv
  obtain ⟨fuel, hf⟩ := h
  rcases open_ints hu he hc hf with ⟨hcs, _⟩ | ⟨x, l, c, zs, hcs, _, hl, hm, hz, hx, hcell, hwz⟩
  · simp [Value.cells] at hcs
    obtain ⟨rfl, rfl, rfl⟩ := hcs
    exact ⟨none, 0, [], rfl, by simp, by simp, Reads.nil _ _ _, fun i hi => absurd hi (by simp)⟩
  · simp [Value.cells] at hcs
    obtain ⟨rfl, rfl, rfl⟩ := hcs
    obtain ⟨hx, _⟩ := Prod.mk.inj hx
    subst hx
    have z := sized_slice hsz hts hds hu
    rw [hB] at z
    have hl2 : len ≤ zs.length := by
      rw [hz]
      split
      · exact hl
      · exact Nat.le_refl _
    have h1 : (lits (H := H) k (zs.take len)).length + (lits (H := H) k (zs.drop len)).length = zs.length := by
      simp [lits]
      omega
    rw [h1] at z
    have hlen : (zs.take len).length = len := by rw [List.length_take]; omega
    have hrd : ∀ i, i < len → rd (zs.take len) i = zs.getD i 0 := fun i hi => by
      simp [rd, List.getD_eq_getElem?_getD, hi]
    refine ⟨some x, cap, zs.take len, by rw [hlen], by rw [hlen]; exact hl, by rw [hlen]; exact Nat.le_trans (Nat.mul_le_mul_right _ hl2) z, fun i hi => ⟨x, rfl, ?_⟩, fun i hi => ?_⟩
    · rw [hrd i (by omega)]; exact hcell i (by omega)
    · rw [hrd i (by omega)]
      refine hwz _ ?_
      rw [List.getD_eq_getElem?_getD, List.getElem?_eq_getElem (by omega : i < zs.length)]
      exact List.getElem_mem _
theorem wf_bytes {l : List Int} (h : ∀ i, i < l.length → (Lit.int .u8 (rd l i)).wf = true) : Bytes8 l := fun i hi => by
  have := h i hi
  simp [Lit.wf, IntKind.min, IntKind.max, IntKind.bits, IntKind.signed] at this
  omega
end
end Go.Proofs.Ytejkilgpcbdepaa
