import Derived.Test.YthplelglifnhoaaChecked
import Derived.WalkKit
import Derived.WalkLawsBesides
import Derived.WalkSpells
import Derived.Lib.Hide
import Derived.SizedLaws
import Derived.ChangeSlices
import Derived.Lib.SlBytesConst
import Derived.Maps.AppendAt
import Derived.Deep.AppendLies
import Derived.Laws.BytesArg
import Derived.OwnWalk
import Derived.Deep.QuietTactic
import Derived.BigQuiet
import Derived.Deep.RegionHeld3
import Derived.StillTailTactics
import Derived.Deep.WholeRow
import Derived.Deep.MidRow
import Derived.Laws.ResultCell
import Derived.Deep.Slices
namespace Go.Proofs.Ythplelglifnhoaa
open Go.RowKit Go.ChangeShapes Go.WideShapes

/-! Words for memory, of no function. -/
theorem cell_lt {w : World} {a : Addr} {v : Value} (h : w.cell? a = some v) : a.block < w.heap.size := World.block_lt_of_cell? w a h
theorem cell_new (w : World) (C : Array Value) (e : TypeId) (f : Nat × Nat) (j : Nat) : (w.alloc (.cells C e f)).cell? ((⟨w.heap.size, 0, none⟩ : Addr).add j) = C[j]? := by
  have h : (⟨w.heap.size, 0, none⟩ : Addr).add j = ⟨w.heap.size, j, none⟩ := by unfold Addr.add; split <;> simp_all
  rw [h]
  simp only [World.cell?]
  rw [heap_alloc_new]
  rfl
theorem add_plain (g j : Nat) : (⟨g, 0, none⟩ : Addr).add j = ⟨g, j, none⟩ := by unfold Addr.add; split <;> simp_all
theorem below_alloc {w W : World} (h : Below w.heap.size w W) (o : Obj) : Below w.heap.size w (W.alloc o) := h.alloc h.size o
theorem below_trans {w w1 w2 : World} (h : Below w.heap.size w w1) (k : Below w1.heap.size w1 w2) : Below w.heap.size w w2 := h.trans (k.mono h.size)
theorem below_drewN {B : Nat} {w W : World} (h : Below B w W) (n : Nat) : Below B w (W.drewN n) := ⟨h.os, h.tape, h.output, h.size, h.block⟩
theorem cell_below {w w1 : World} (h : Below w.heap.size w w1) {a : Addr} {v : Value} (hc : w.cell? a = some v) : w1.cell? a = some v := (h.cell (cell_lt hc)).trans hc

/-- An element of a list. -/
def rd (xs : List Int) (i : Nat) : Int := xs.getD i 0
theorem rd_eq (xs : List Int) (i : Nat) (h : i < xs.length) : rd xs i = xs[i] := by
  rw [rd, List.getD_eq_getElem?_getD, List.getElem?_eq_getElem h]; rfl
theorem take_snoc (xs : List Int) (k : Nat) (h : k < xs.length) : xs.take (k + 1) = xs.take k ++ [rd xs k] := by
  rw [List.take_succ_eq_append_getElem h, rd_eq xs k h]

/-- A slice of whole numbers that reads as a list. -/
def Reads (w : World) (k : IntKind) (A : Option Addr) (xs : List Int) : Prop :=
  ∀ i, i < xs.length → ∃ a, A = some a ∧ w.cell? (a.add i) = some (.int k (rd xs i))
theorem Reads.below {w w' : World} {k : IntKind} {A : Option Addr} {xs : List Int} (h : Reads w k A xs) (hb : Below w.heap.size w w') : Reads w' k A xs :=
  fun i hi => by
    obtain ⟨a, rfl, hc⟩ := h i hi
    exact ⟨a, rfl, cell_below hb hc⟩
theorem Reads.nil (w : World) (k : IntKind) (A : Option Addr) : Reads w k A [] := fun i hi => absurd hi (by simp)
theorem Reads.new {w : World} {k : IntKind} {xs : List Int} {C : Array Value} {e : TypeId} {f : Nat × Nat} (h : ∀ i, i < xs.length → C[i]? = some (.int k (rd xs i))) :
    Reads (w.alloc (.cells C e f)) k (some ⟨w.heap.size, 0, none⟩) xs := fun i hi => ⟨_, rfl, by rw [cell_new]; exact h i hi⟩
def Bytes8 (l : List Int) : Prop := ∀ i, i < l.length → 0 ≤ rd l i ∧ rd l i ≤ 255

section
variable {H : Type} {enc : TypeId × Value → H} {P : Program} {W : World} {base : Nat} {spare : Nat → Bool} {held : Bool}
/-- A slice of whole numbers that came in. -/
theorem open_nums {t e : TypeId} {k : IntKind} {v : Value} {d : DataW H} {ps : List MemPlace} {ts : List TypeId} {ds : List (DataW H)} {j B : Nat} {r : Reach} {b0 : Nat}
    (hu : P.underlying t = some (.slice e)) (he : P.underlying e = some (.int k)) (hc : P.cellsOf e = 1) (hB : P.bytesOf e = B) (hv : Value.okWide P W r b0 t v)
    (hsz : (DataW.weightsEach P ts ds).all (· ≤ reachBytes) = true) (hts : ts[j]? = some t) (hds : ds[j]? = some d)
    (h : DataW.Trod enc P W base spare held t v d ps) :
    ∃ A cap, ∃ xs : List Int, v = .slice A xs.length cap ∧ xs.length ≤ cap ∧ xs.length * B ≤ 140737488351232 ∧ Reads W k A xs ∧ ∀ i, i < xs.length → (Lit.int k (rd xs i)).wf = true := by
  obtain ⟨a, len, cap, rfl⟩ := okWide_slice hu hv
  obtain ⟨fuel, hf⟩ := h
  rcases open_ints hu he hc hf with ⟨hcs, _⟩ | ⟨x, l, c, zs, hcs, _, hl, hm, hz, hx, hcell, hwz⟩
  · simp [Value.cells] at hcs
    obtain ⟨rfl, rfl, rfl⟩ := hcs
    exact ⟨none, 0, [], rfl, by simp, by simp, Reads.nil _ _ _, fun i hi => absurd hi (by simp)⟩
  · simp [Value.cells] at hcs
    obtain ⟨rfl, rfl, rfl⟩ := hcs
    obtain ⟨hx, _⟩ := Prod.mk.inj hx
    subst hx
    have z := sized_slice hsz hts hds hu
    rw [hB] at z
    have hl2 : len ≤ zs.length := by
      rw [hz]
      split
      · exact hl
      · exact Nat.le_refl _
    have h1 : (lits (H := H) k (zs.take len)).length + (lits (H := H) k (zs.drop len)).length = zs.length := by
      simp [lits]
      omega
    rw [h1] at z
    have hlen : (zs.take len).length = len := by rw [List.length_take]; omega
    have hrd : ∀ i, i < len → rd (zs.take len) i = zs.getD i 0 := fun i hi => by
      simp [rd, List.getD_eq_getElem?_getD, hi]
    refine ⟨some x, cap, zs.take len, by rw [hlen], by rw [hlen]; exact hl, by rw [hlen]; exact Nat.le_trans (Nat.mul_le_mul_right _ hl2) z, fun i hi => ⟨x, rfl, ?_⟩, fun i hi => ?_⟩
    · rw [hrd i (by omega)]; exact hcell i (by omega)
    · rw [hrd i (by omega)]
      refine hwz _ ?_
      rw [List.getD_eq_getElem?_getD, List.getElem?_eq_getElem (by omega : i < zs.length)]
      exact List.getElem_mem _
theorem wf_bytes {l : List Int} (h : ∀ i, i < l.length → (Lit.int .u8 (rd l i)).wf = true) : Bytes8 l := fun i hi => by
  have := h i hi
  simp [Lit.wf, IntKind.min, IntKind.max, IntKind.bits, IntKind.signed] at this
  omega
end
end Go.Proofs.Ythplelglifnhoaa
namespace Go.Proofs.Ythplelglifnhoaa
open Go.RowKit Go.ChangeShapes Go.WideShapes

theorem add_add (a : Addr) (i j : Nat) : (a.add i).add j = a.add (i + j) := by
  unfold Addr.add
  by_cases hi : i = 0 <;> by_cases hj : j = 0 <;> simp [hi, hj, Nat.add_assoc]
theorem Reads.lit {w : World} {k : IntKind} {a : Addr} {xs : List Int} (h : Reads w k (some a) xs) (i : Nat) (hi : i < xs.length) : w.cell? (a.add i) = some (.int k (rd xs i)) := by
  obtain ⟨_, e, hc⟩ := h i hi
  cases e
  exact hc
theorem Reads.some_ {w : World} {k : IntKind} {A : Option Addr} {xs : List Int} (h : Reads w k A xs) (hi : 0 < xs.length) : ∃ a, A = some a := by
  obtain ⟨a, h, _⟩ := h 0 hi; exact ⟨a, h⟩
theorem rd_drop (xs : List Int) (j i : Nat) : rd (xs.drop j) i = rd xs (j + i) := by
  simp [rd, List.getD_eq_getElem?_getD, List.getElem?_drop]
theorem rd_take (xs : List Int) (j i : Nat) (h : i < j) : rd (xs.take j) i = rd xs i := by
  simp [rd, List.getD_eq_getElem?_getD, h]
/-- Where a slice that is cut at j begins. -/
def cutAt (A : Option Addr) (cap j : Nat) : Option Addr := if cap = j then A else A.map (·.add j)
theorem Reads.drop {w : World} {k : IntKind} {A : Option Addr} {xs : List Int} (h : Reads w k A xs) (j : Nat) : Reads w k (A.map (·.add j)) (xs.drop j) := fun i hi => by
  rw [List.length_drop] at hi
  obtain ⟨a, rfl, hc⟩ := h (j + i) (by omega)
  exact ⟨a.add j, rfl, by rw [add_add, rd_drop]; exact hc⟩
theorem Reads.cut {w : World} {k : IntKind} {A : Option Addr} {xs : List Int} (h : Reads w k A xs) (cap j : Nat) (hc : xs.length ≤ cap) : Reads w k (cutAt A cap j) (xs.drop j) := by
  unfold cutAt
  split
  · rename_i e
    rw [List.drop_eq_nil_of_le (by omega)]
    exact Reads.nil _ _ _
  · exact h.drop j
theorem Reads.take {w : World} {k : IntKind} {A : Option Addr} {xs : List Int} (h : Reads w k A xs) (j : Nat) : Reads w k A (xs.take j) := fun i hi => by
  rw [List.length_take] at hi
  obtain ⟨a, rfl, hc⟩ := h i (by omega)
  exact ⟨a, rfl, by rw [rd_take xs j i (by omega)]; exact hc⟩
theorem Bytes8.drop {l : List Int} (h : Bytes8 l) (j : Nat) : Bytes8 (l.drop j) := fun i hi => by
  rw [List.length_drop] at hi; rw [rd_drop]; exact h _ (by omega)
theorem Bytes8.take {l : List Int} (h : Bytes8 l) (j : Nat) : Bytes8 (l.take j) := fun i hi => by
  rw [List.length_take] at hi; rw [rd_take l j i (by omega)]; exact h _ (by omega)
theorem rd_append (xs ys : List Int) (i : Nat) : rd (xs ++ ys) i = if i < xs.length then rd xs i else rd ys (i - xs.length) := by
  simp only [rd, List.getD_eq_getElem?_getD, List.getElem?_append]
  split <;> rfl
theorem Bytes8.append {l m : List Int} (h : Bytes8 l) (k : Bytes8 m) : Bytes8 (l ++ m) := fun i hi => by
  rw [List.length_append] at hi; rw [rd_append]
  split
  · exact h i ‹_›
  · exact k _ (by omega)
theorem Bytes8.nil : Bytes8 [] := fun i hi => absurd hi (by simp)
theorem Bytes8.cons {b : Int} {l : List Int} (hb : 0 ≤ b ∧ b ≤ 255) (h : Bytes8 l) : Bytes8 (b :: l) := fun i hi => by
  match i with
  | 0 => exact hb
  | i + 1 => exact h i (by simpa using hi)

/-- A slice of whole numbers that the call made itself: it owns its row. -/
def Own (w : World) (base : Nat) (e : TypeId) (k : IntKind) (v : Value) (xs : List Int) : Prop := w.ownsRow base e 1 v xs.length (xs.map (Value.int k))
theorem Own.nil (w : World) (base : Nat) (e : TypeId) (k : IntKind) : Own w base e k (.slice none 0 0) [] := World.ownsRow_nil w base e 1
theorem Own.lt {w : World} {base : Nat} {e : TypeId} {k : IntKind} {v : Value} {xs : List Int} (h : Own w base e k v xs) : ∀ g, v.ownBlock = some g → base ≤ g ∧ g < w.heap.size := World.ownsRow.lt h
theorem Own.form {w : World} {base : Nat} {e : TypeId} {k : IntKind} {v : Value} {xs : List Int} (h : Own w base e k v xs) : ∃ A cap, v = .slice A xs.length cap ∧ xs.length ≤ cap ∧ Reads w k A xs := by
  rcases h.2 with ⟨rfl, h0⟩ | ⟨g, cap, cur, rfl, hb, hg, hn, hm, hs, ht⟩
  · have : xs = [] := List.eq_nil_of_length_eq_zero h0
    subst this
    exact ⟨none, 0, rfl, by simp, Reads.nil _ _ _⟩
  · refine ⟨_, cap, rfl, hn, fun i hi => ⟨_, rfl, ?_⟩⟩
    refine World.ownsRow.cells h (g := g) rfl i _ ?_
    rw [List.getElem?_map, List.getElem?_eq_getElem hi, rd_eq xs i hi]; rfl
theorem Own.below {w w' : World} {base : Nat} {e : TypeId} {k : IntKind} {v : Value} {xs : List Int} (h : Own w base e k v xs) (hb : Below w.heap.size w w') : Own w' base e k v xs :=
  World.ownsRow.kept (row := none) h ⟨hb.os, hb.tape, hb.output, hb.size, fun i hi _ => hb.block i hi⟩ (by cases hv : v.ownBlock <;> simp)
theorem Own.alloc {w : World} {base : Nat} {e : TypeId} {k : IntKind} {v : Value} {xs : List Int} (h : Own w base e k v xs) (o : Obj) : Own (w.alloc o) base e k v xs := h.below ((Below.refl _ _).alloc (Nat.le_refl _) o)
theorem Own.mono {w : World} {base base' : Nat} {e : TypeId} {k : IntKind} {v : Value} {xs : List Int} (h : Own w base e k v xs) (hb : base' ≤ base) : Own w base' e k v xs := by
  refine ⟨h.1, ?_⟩
  rcases h.2 with h2 | ⟨g, cap, cur, hv, hg, r⟩
  · exact .inl h2
  · exact .inr ⟨g, cap, cur, hv, Nat.le_trans hb hg, r⟩
theorem Own.kept {w w' : World} {row : Option Nat} {base : Nat} {e : TypeId} {k : IntKind} {v : Value} {xs : List Int} (h : Own w base e k v xs) (hg : w.grownBy w' row) (hne : v.ownBlock = none ∨ v.ownBlock ≠ row) : Own w' base e k v xs := World.ownsRow.kept h hg hne
theorem Own.new (w : World) (base : Nat) (e : TypeId) (k : IntKind) (xs : List Int) (C : Array Value) (hC : C.toList = xs.map (Value.int k)) (hb : base ≤ w.heap.size) (hm : xs.length ≤ maxLen) :
    Own (w.alloc (.cells C e)) base e k (.slice (some ⟨w.heap.size, 0, none⟩) xs.length xs.length) xs := by
  have hs : C.size = xs.length := by rw [← Array.length_toList, hC, List.length_map]
  refine ⟨by simp, .inr ⟨w.heap.size, xs.length, C, rfl, hb, heap_alloc_new w _, Nat.le_refl _, hm, by omega, ?_⟩⟩
  rw [hC, Nat.mul_one, List.take_of_length_le (by simp)]
theorem Reads.one (w : World) (e : TypeId) (k : IntKind) (b : Int) : Reads (w.alloc (.cells #[.int k b] e)) k (some ⟨w.heap.size, 0, none⟩) [b] := Reads.new fun i hi => by
  have h0 : i = 0 := by simp at hi; omega
  subst h0
  rfl
theorem results_tmp4 {fn : Func} {t u v x : Tmp} (h : fn.results = #[.tmp t, .tmp u, .tmp v, .tmp x]) (tmps : Array Value) (P : Program) (w : World) :
    (results fn tmps).run P w = .ok (.tuple #[tmps.getD t undef, tmps.getD u undef, tmps.getD v undef, tmps.getD x undef]) w := by simp [results, h]
/-- A slice's length, said otherwise. -/
theorem calls_len {P : Program} {f : FuncId} {A : Option Addr} {m n c : Nat} {w : World} {R : Ending → World → Prop} (h : m = n) (k : Calls P f #[.slice A m c] w R) : Calls P f #[.slice A n c] w R := h ▸ k
theorem quiet_of_left {P : Program} {f : FuncId} {args : Array Value} {w : World} {n : Nat} {v : Value} (h : Calls P f args (w.drewN n) fun e w' => e = .returned v ∧ w.drewN n = w') :
    Calls P f args (w.drewN n) fun e w'' => e = .returned v ∧ ∃ m, w'' = w.drewN m := h.mono fun _ _ ⟨he, hm⟩ => ⟨he, n, hm.symm⟩
theorem quiet_of_drew {P : Program} {f : FuncId} {args : Array Value} {w : World} {n : Nat} {v : Value} (h : Calls P f args (w.drewN n) fun e w' => e = .returned v ∧ ∃ m, w' = (w.drewN n).drewN m) :
    Calls P f args (w.drewN n) fun e w'' => e = .returned v ∧ ∃ m, w'' = w.drewN m := h.mono fun _ _ ⟨he, m, hm⟩ => ⟨he, n + m, by rw [hm, World.drewN_drewN]⟩
theorem Reads.drewN {w : World} {k : IntKind} {A : Option Addr} {xs : List Int} (h : Reads w k A xs) (n : Nat) : Reads (w.drewN n) k A xs := h
/-- A row that is read, read again behind an append onto an owned one. -/
theorem Reads.grown {w w' : World} {row : Option Nat} {k : IntKind} {A : Option Addr} {xs : List Int} (h : Reads w k A xs) (hg : w.grownBy w' row) (hr : ∀ a, A = some a → some a.block ≠ row) : Reads w' k A xs := fun i hi => by
  obtain ⟨a, rfl, hc⟩ := h i hi
  refine ⟨a, rfl, hg.cell hc ?_⟩
  have : (a.add i).block = a.block := by unfold Addr.add; split <;> rfl
  rw [this]; exact hr a rfl

theorem grown_trans {w w1 w2 : World} {r r' : Option Nat} (h : w.grownBy w1 r) (h' : w1.grownBy w2 r') (hr : ∀ k, r' = some k → r = some k ∨ w.heap.size ≤ k) : w.grownBy w2 r :=
  ⟨h'.os.trans h.os, h'.tape.trans h.tape, h'.output.trans h.output, Nat.le_trans h.size h'.size, fun k hk hne => (h'.block k (Nat.lt_of_lt_of_le hk h.size) (fun e => by
    rcases hr k e.symm with h1 | h1
    · exact hne h1.symm
    · omega)).trans (h.block k hk hne)⟩
theorem grown_refl (w : World) (r : Option Nat) : w.grownBy w r := ⟨rfl, rfl, rfl, Nat.le_refl _, fun _ _ _ => rfl⟩
theorem grown_of_below {w w' : World} (h : Below w.heap.size w w') (r : Option Nat) : w.grownBy w' r := ⟨h.os, h.tape, h.output, h.size, fun k hk _ => h.block k hk⟩
theorem below_of_grown {w w' : World} {r : Option Nat} (h : w.grownBy w' r) (hr : ∀ k, r = some k → w.heap.size ≤ k) : Below w.heap.size w w' :=
  ⟨h.os, h.tape, h.output, h.size, fun k hk => h.block k hk (fun e => by have := hr k e.symm; omega)⟩
section
variable {P : Program} {ops : Array Oper} {rest : List Oper} {o : Oper} {a : Act} {Q : Exit → Act → World → Prop}
/-- append(s, x...): s is the call's own, x whatever reads as a list. -/
theorem run_append_reads (w : World) (base : Nat) (t ty e : TypeId) (k : IntKind) (bytes : Nat) (ht : P.underlying t = some (.slice e)) (hinfo : (P.info? e).map (fun i => (i.zero, i.size, i.bytes)) = some (some (.int k 0), 1, bytes))
    (v : Value) (xs : List Int) (hown : Own w base e k v xs) (A : Option Addr) (c : Nat) (ys : List Int) (hy : Reads w k A ys)
    (h63 : xs.length + ys.length ≤ maxLen) (hbytes : (xs.length + ys.length) * bytes ≤ 140737488355328) (hbase : base ≤ w.heap.size) :
    ∃ v' w', (Builtin.append_ #[t, t] ty #[v, .slice A ys.length c]).run P w = .ok v' w' ∧ Own w' base e k v' (xs ++ ys) ∧ w.grownBy w' v.ownBlock ∧ (v'.ownBlock = v.ownBlock ∨ v'.ownBlock = some w.heap.size) := by
  obtain ⟨i, hi, hz, hs, hb⟩ := info_parts hinfo
  cases A with
  | none =>
    have h0 : ys = [] := by
      cases ys with
      | nil => rfl
      | cons y ys => obtain ⟨a, h, _⟩ := hy 0 (by simp); cases h
    subst h0
    have hrun : (Builtin.append_ #[t, t] ty #[v, .slice none 0 c]).run P w = .ok v w := by
      rcases hown.2 with ⟨rfl, h0⟩ | ⟨g, cap, cur, rfl, _, _, hnc, _⟩
      · simp [Builtin.append_, run_underlying ht, sizeOf, typeInfo, hi, Builtin.lenOf, Builtin.firstCells]
      · simp [Builtin.append_, run_underlying ht, sizeOf, typeInfo, hi, Builtin.lenOf, Builtin.firstCells, hnc, storeCells]
    exact ⟨v, w, hrun, by simpa using hown, ⟨rfl, rfl, rfl, Nat.le_refl _, fun _ _ _ => rfl⟩, .inl rfl⟩
  | some a =>
    obtain ⟨v', w', hrun, h2, h3, _, h5⟩ := run_append_own_at (P := P) w base t ty e i (.int k 0) 1 bytes ht hi hz hs hb rfl (by omega) v xs.length (xs.map (Value.int k)) hown a ys.length c (ys.map (Value.int k)) (by simp)
      (fun j u hu => by
        have hj : j < ys.length := by
          rcases Nat.lt_or_ge j ys.length with h | h
          · exact h
          · rw [List.getElem?_eq_none (by simpa using h)] at hu; cases hu
        obtain ⟨a', e', hc⟩ := hy j hj
        cases e'
        rw [List.getElem?_map, List.getElem?_eq_getElem hj] at hu
        rw [hc, rd_eq ys j hj]; simpa using hu)
      (fun u hu => by obtain ⟨x, _, rfl⟩ := List.mem_map.1 hu; rfl) h63 hbytes hbase
    exact ⟨v', w', hrun, by unfold Own; rw [List.length_append, List.map_append]; exact h2, h3, h5⟩
theorem wp_append {K : Act → World → Prop} (w : World) (s x : Operand) (t : TypeId) (ho : o.op = .call { callee := .builtin .append, args := #[s, x], argTypes := #[t, t] })
    (base : Nat) (e : TypeId) (k : IntKind) (bytes : Nat) (ht : P.underlying t = some (.slice e)) (hinfo : (P.info? e).map (fun i => (i.zero, i.size, i.bytes)) = some (some (.int k 0), 1, bytes))
    (v : Value) (xs : List Int) (hs : a.eval s = v) (hown : Own w base e k v xs) (A : Option Addr) (c : Nat) (ys : List Int) (hx : a.eval x = .slice A ys.length c) (hy : Reads w k A ys)
    (h63 : xs.length + ys.length ≤ maxLen) (hbytes : (xs.length + ys.length) * bytes ≤ 140737488355328) (hbase : base ≤ w.heap.size)
    (h : ∀ v' w', Own w' base e k v' (xs ++ ys) → w.grownBy w' v.ownBlock → (v'.ownBlock = v.ownBlock ∨ v'.ownBlock = some w.heap.size) → K (a.put o.dst v') w') : o.wp P a w K Q := by
  obtain ⟨v', w', hrun, h2, h3, h4⟩ := run_append_reads (P := P) w base t o.type e k bytes ht hinfo v xs hown A c ys hy h63 hbytes hbase
  unfold Oper.wp execOp
  simp only [ho, resolve, invoke, builtin, Sem.run_bind, Sem.run_pure, Result.andThen_ok, List.map_toArray, List.map_cons, List.map_nil, hs, hx, hrun]
  exact h v' w' h2 h3 h4
theorem wpList_append (hgd : o.guard = none) (w : World) (s x : Operand) (t : TypeId) (ho : o.op = .call { callee := .builtin .append, args := #[s, x], argTypes := #[t, t] })
    (base : Nat) (e : TypeId) (k : IntKind) (bytes : Nat) (ht : P.underlying t = some (.slice e)) (hinfo : (P.info? e).map (fun i => (i.zero, i.size, i.bytes)) = some (some (.int k 0), 1, bytes))
    (v : Value) (xs : List Int) (hs : a.eval s = v) (hown : Own w base e k v xs) (A : Option Addr) (c : Nat) (ys : List Int) (hx : a.eval x = .slice A ys.length c) (hy : Reads w k A ys)
    (h63 : xs.length + ys.length ≤ maxLen) (hbytes : (xs.length + ys.length) * bytes ≤ 140737488355328) (hbase : base ≤ w.heap.size)
    (h : ∀ v' w', Own w' base e k v' (xs ++ ys) → w.grownBy w' v.ownBlock → (v'.ownBlock = v.ownBlock ∨ v'.ownBlock = some w.heap.size) → wpList P ops Q rest (a.put o.dst v') w') : wpList P ops Q (o :: rest) a w :=
  wpList_plain hgd fun _ hK => wp_append w s x t ho base e k bytes ht hinfo v xs hs hown A c ys hx hy h63 hbytes hbase fun v' w' h2 h3 h4 => hK _ _ (h v' w' h2 h3 h4)
/-- string(x) of a slice that reads as a list. -/
theorem run_string_reads (w : World) (src dst e : TypeId) (hs : P.underlying src = some (.slice e)) (he : P.underlying e = some (.int .u8)) (hd : P.underlying dst = some .string)
    (A : Option Addr) (c : Nat) (xs : List Int) (h : Reads w .u8 A xs) : (convert src dst (.slice A xs.length c)).run P w = .ok (.string (strOfNums xs)) w := by
  cases A with
  | none =>
    have h0 : xs = [] := by
      cases xs with
      | nil => rfl
      | cons y ys => obtain ⟨a, h, _⟩ := h 0 (by simp); cases h
    subst h0
    exact run_convert_bytes_nil w src e hs he 0 c dst hd
  | some a =>
    have hl : (loadCells a xs.length).run P w = .ok (xs.map (Value.int .u8)).toArray w := by
      have := run_loadCells_list (P := P) w a (xs.map (Value.int .u8)) (fun j v hj => by
        have hjl : j < xs.length := by
          rcases Nat.lt_or_ge j xs.length with h | h
          · exact h
          · simp [List.getElem?_eq_none (show (xs.map (Value.int .u8)).length ≤ j by simpa using h)] at hj
        obtain ⟨a', e', hc⟩ := h j hjl
        cases e'
        rw [hc, rd_eq xs j hjl]
        rw [List.getElem?_map, List.getElem?_eq_getElem hjl] at hj
        exact hj)
      simpa using this
    rw [run_convert_bytes_string w src dst e _ xs.length c hs he hd, run_bytesToString w _ xs.length c xs hl, foldl_push_bytes]
    simp [strOfNums, ByteArray.empty, ByteArray.emptyWithCapacity]
    rfl
end
theorem strOfNums_inj {xs ys : List Int} (hx : Bytes8 xs) (hy : Bytes8 ys) (h : strOfNums xs = strOfNums ys) : xs = ys := by
  have h' := congrArg (fun s : ByteArray => s.data.toList) h
  simp only [strOfNums_data] at h'
  have hl : xs.length = ys.length := by have := congrArg List.length h'; simpa using this
  apply List.ext_getElem hl
  intro i h1 h2
  have e := congrArg (·[i]?) h'
  simp only [List.getElem?_map, List.getElem?_eq_getElem h1, List.getElem?_eq_getElem h2, Option.map_some, Option.some.injEq] at e
  have bx := hx i h1; have by' := hy i h2
  rw [rd_eq xs i h1] at bx; rw [rd_eq ys i h2] at by'
  have e2 := congrArg UInt8.toNat e
  simp only [UInt8.toNat_ofNat'] at e2
  omega
theorem str_eq (xs : List Int) : ((strOfNums xs).toList == (strOfNums xs).toList) = true := beq_self_eq_true _
theorem str_ne {xs ys : List Int} (hx : Bytes8 xs) (hy : Bytes8 ys) (h : xs ≠ ys) : ((strOfNums xs).toList == (strOfNums ys).toList) = false := by
  rw [beq_eq_false_iff_ne]
  intro e
  rw [ByteArray.toList_eq, ByteArray.toList_eq] at e
  refine h (strOfNums_inj hx hy ?_)
  have : ∀ a b : ByteArray, a.data.toList = b.data.toList → a = b := fun a b hab => by
    cases a; cases b
    simp only [ByteArray.mk.injEq]
    exact Array.toList_inj.1 hab
  exact this _ _ e
end Go.Proofs.Ythplelglifnhoaa
namespace Go.Proofs.Ythplelglifnhoaa
open Go.RowKit
set_option linter.unusedVariables false
theorem Own.form1 {w : World} {base : Nat} {e : TypeId} {k : IntKind} {v : Value} {xs : List Int} (h : Own w base e k v xs) (hp : 0 < xs.length) :
    ∃ g cap, v = .slice (some ⟨g, 0, none⟩) xs.length cap ∧ xs.length ≤ cap ∧ base ≤ g ∧ g < w.heap.size := by
  rcases h.2 with ⟨rfl, h0⟩ | ⟨g, cap, cur, rfl, hb, hg, hn, hm, hs, ht⟩
  · omega
  · exact ⟨g, cap, rfl, hn, hb, (Array.getElem?_eq_some_iff.1 hg).1⟩
theorem Own.cell {w : World} {base : Nat} {e : TypeId} {k : IntKind} {g n c : Nat} {xs : List Int} (h : Own w base e k (.slice (some ⟨g, 0, none⟩) n c) xs) (i : Nat) (hi : i < xs.length) : w.cell? ⟨g, i, none⟩ = some (.int k (rd xs i)) := by
  have := World.ownsRow.cells h (g := g) rfl i (.int k (rd xs i)) (by rw [List.getElem?_map, List.getElem?_eq_getElem hi, rd_eq xs i hi]; rfl)
  rwa [add_plain] at this
theorem Own.frozen {w : World} {base : Nat} {e : TypeId} {k : IntKind} {g n c : Nat} {xs : List Int} (h : Own w base e k (.slice (some ⟨g, 0, none⟩) n c) xs) (i : Nat) : w.frozen? ⟨g, i, none⟩ = false := by
  rcases h.2 with ⟨h1, _⟩ | ⟨g', cap, cur, h1, hb, hg, _⟩
  · cases h1
  · cases h1
    simp [World.frozen?, hg]
theorem Own.store {w : World} {base : Nat} {e : TypeId} {k : IntKind} {g n c : Nat} {xs : List Int} (h : Own w base e k (.slice (some ⟨g, 0, none⟩) n c) xs) (i : Nat) (hi : i < xs.length) (x : Int) :
    Own (w.setCell ⟨g, i, none⟩ (.int k x)) base e k (.slice (some ⟨g, 0, none⟩) n c) (xs.set i x) := by
  rcases h.2 with ⟨h1, _⟩ | ⟨g', cap, cur, h1, hb, hg, hn, hm, hs, ht⟩
  · cases h1
  · cases h1
    refine ⟨by simp, .inr ⟨g, c, cur.setIfInBounds i (.int k x), by simp, hb, ?_, by simpa using hn, hm, by simpa using hs, ?_⟩⟩
    · simp [World.setCell, Array.getElem?_modify, hg]
    · rw [Array.toList_setIfInBounds, List.take_set, List.length_set, ht, List.map_set]
theorem rd_set (xs : List Int) (i j : Nat) (x : Int) (hi : i < xs.length) : rd (xs.set i x) j = if j = i then x else rd xs j := by
  simp only [rd, List.getD_eq_getElem?_getD, List.getElem?_set]
  by_cases h : i = j
  · subst h; simp [hi]
  · rw [if_neg h, if_neg (fun e => h e.symm)]
theorem Bytes8.set {l : List Int} (h : Bytes8 l) (i : Nat) (x : Int) (hx : 0 ≤ x ∧ x ≤ 255) : Bytes8 (l.set i x) := fun j hj => by
  rw [List.length_set] at hj
  by_cases hi : i < l.length
  · rw [rd_set l i j x hi]
    split
    · exact hx
    · exact h j hj
  · rw [List.set_eq_of_length_le (by omega)]; exact h j hj
theorem calls_lenv {P : Program} {f : FuncId} {A : Option Addr} {m n c : Nat} {v : Value} {w : World} {R : Ending → World → Prop} (h : m = n) (k : Calls P f #[.slice A m c, v] w R) : Calls P f #[.slice A n c, v] w R := h ▸ k
end Go.Proofs.Ythplelglifnhoaa
/-! Whole rows: results. -/
namespace Go.Proofs.Ythplelglifnhoaa
open Go.RowKit
theorem results_row_tmp {P : Program} {fn : Func} {p u : Tmp} {ty : TypeId} (h : fn.results = #[.cell p ty, .tmp u]) (tmps : Array Value) (w : World) (g : Nat) (t : TypeId) (cs : Array Value) (fr : Nat × Nat) (d : TypeDesc)
    (hp : tmps.getD p undef = .pointer (some ⟨g, 0, none⟩)) (hg : w.heap[g]? = some (.cells cs t fr))
    (hu : P.underlying ty = some d) (hd : (match d with | .struct _ | .array _ _ => true | _ => false) = true) (hi : (P.info? ty).map (·.size) = some cs.size) :
    (results fn tmps).run P w = .ok (.tuple #[.agg cs, tmps.getD u undef]) w := by
  rw [results_cell_tmp h, hp]
  simp [asAddr, run_loadVar_row w g t ty cs fr d hg hu hd hi]
theorem run_loadCellsFrom_row {P : Program} (w : World) (g : Nat) (t : TypeId) (c : Array Value) (fr : Nat × Nat) (hg : w.heap[g]? = some (.cells c t fr)) (n : Nat) (hn : c.size = n) :
    (loadCellsFrom ⟨g, 0, none⟩ 0 n #[]).run P w = .ok c w := by
  subst hn
  have := run_loadCells_list (P := P) w ⟨g, 0, none⟩ c.toList (fun j v hv => by
    have hadd : (⟨g, 0, none⟩ : Addr).add j = ⟨g, j, none⟩ := by unfold Addr.add; split <;> simp_all
    rw [hadd, cell_of_row _ _ j c t fr hg]
    simpa using hv)
  simpa [loadCells] using this
theorem run_storeCells_row {P : Program} (w : World) (g : Nat) (t : TypeId) (cur c : Array Value) (hg : w.heap[g]? = some (.cells cur t (0, 0))) (hi : (P.info? t).map (·.size) = some c.size) (ho : cur.size = c.size) (h1 : c.all (·.oneCell') = true) :
    (storeCells ⟨g, 0, none⟩ c.toList 0).run P w = .ok () (w.setRow g c) := by
  have := run_storeVar_row (P := P) w g t t cur c hg hi ho h1
  cases hq : P.info? t with
  | none => simp [hq] at hi
  | some i =>
    have hs : c.size = i.size := by simp [hq] at hi; omega
    simpa [storeVar, sizeOf, typeInfo, hq, Value.cells, hs] using this
theorem run_sizeOf_info {P : Program} {t : TypeId} {n : Nat} (hi : (P.info? t).map (·.size) = some n) (w : World) : (sizeOf t).run P w = .ok n w := by
  cases hq : P.info? t with
  | none => simp [hq] at hi
  | some i =>
    simp [hq] at hi
    simp [sizeOf, typeInfo, hq, hi]
theorem under_cell (w : World) (C : Array Value) (e : TypeId) (o : Obj) (k : Nat) : ((w.alloc (.cells C e)).alloc o).cell? ⟨w.heap.size, k, none⟩ = C[k]? := by
  rw [cell_of_row _ _ k C e (0, 0) (heap_alloc2_old w _ _)]
theorem top_cell (w : World) (C : Array Value) (e : TypeId) (k : Nat) : (w.alloc (.cells C e)).cell? ⟨w.heap.size, k, none⟩ = C[k]? := by
  rw [cell_of_row _ _ k C e (0, 0) (heap_alloc_new w _)]
theorem setRow2 (w : World) (o : Obj) (D C : Array Value) (t : TypeId) : ((w.alloc o).alloc (.cells D t)).setRow (w.heap.size + 1) C = (w.alloc o).alloc (.cells C t) := by
  have e : (w.alloc o).heap.size = w.heap.size + 1 := by show (w.heap.push o).size = _; simp
  rw [← e, World.setRow_alloc_new]
theorem one_set {C : Array Value} (h : C.all (·.oneCell') = true) (k : Nat) (v : Value) (hv : v.oneCell' = true) : (C.setIfInBounds k v).all (·.oneCell') = true := by
  rw [Array.all_eq_true_iff_forall_mem] at h ⊢
  intro x hx
  rcases Array.mem_or_eq_of_mem_setIfInBounds hx with e | e
  · exact h x e
  · rw [e]; exact hv
end Go.Proofs.Ythplelglifnhoaa
/-! Append of rows of any size onto an owned one. -/
namespace Go.Proofs.Ythplelglifnhoaa
open Go.RowKit
section
variable {P : Program} {ops : Array Oper} {rest : List Oper} {o : Oper} {a : Act} {Q : Exit → Act → World → Prop}
theorem wpList_append_row (hgd : o.guard = none) (w : World) (s x : Operand) (t : TypeId) (ho : o.op = .call { callee := .builtin .append, args := #[s, x], argTypes := #[t, t] })
    (base : Nat) (e : TypeId) (i : TypeInfo) (z : Value) (size bytes : Nat) (ht : P.underlying t = some (.slice e)) (hi : P.info? e = some i) (hz : i.zero = some z)
    (hsize : i.size = size) (hby : i.bytes = bytes) (hzs : z.cells.size = size) (hsz : 0 < size)
    (v : Value) (n : Nat) (xs : List Value) (hs : a.eval s = v) (hown : w.ownsRow base e size v n xs)
    (ad : Addr) (m c : Nat) (news : List Value) (hx : a.eval x = .slice (some ad) m c) (hl : news.length = m * size) (hnews : ∀ j u, news[j]? = some u → w.cell? (ad.add j) = some u) (h1 : ∀ u ∈ news, u.oneCell' = true)
    (h63 : n + m ≤ maxLen) (hbytes : (n + m) * bytes ≤ 140737488355328) (hbase : base ≤ w.heap.size)
    (h : ∀ v' w', w'.ownsRow base e size v' (n + m) (xs ++ news) → w.grownBy w' v.ownBlock → (v'.ownBlock = v.ownBlock ∨ v'.ownBlock = some w.heap.size) → wpList P ops Q rest (a.put o.dst v') w') : wpList P ops Q (o :: rest) a w :=
  wpList_plain hgd fun K hK => by
    obtain ⟨v', w', hrun, h2, h3, _, h5⟩ := run_append_own_at (P := P) w base t o.type e i z size bytes ht hi hz hsize hby hzs hsz v n xs hown ad m c news hl hnews h1 h63 hbytes hbase
    unfold Oper.wp execOp
    simp only [ho, resolve, invoke, builtin, Sem.run_bind, Sem.run_pure, Result.andThen_ok, List.map_toArray, List.map_cons, List.map_nil, hs, hx, hrun]
    exact hK _ _ (h v' w' h2 h3 h5)
end
end Go.Proofs.Ythplelglifnhoaa
/-! A slice of numbers as it comes in. -/
namespace Go.Proofs.Ythplelglifnhoaa
open Go.RowKit Go.ChangeShapes Go.WideShapes Go.Deep

def fd (xs : List Nat) (i : Nat) : Nat := xs.getD i 0
theorem fd_eq (xs : List Nat) (i : Nat) (h : i < xs.length) : fd xs i = xs[i] := by
  rw [fd, List.getD_eq_getElem?_getD, List.getElem?_eq_getElem h]; rfl
theorem take_snocF (xs : List Nat) (k : Nat) (h : k < xs.length) : xs.take (k + 1) = xs.take k ++ [fd xs k] := by
  rw [List.take_succ_eq_append_getElem h, fd_eq xs k h]
/-- A slice of numbers that reads as a list of words. -/
def FReads (w : World) (A : Option Addr) (xs : List Nat) : Prop := ∀ i, i < xs.length → ∃ a, A = some a ∧ w.cell? (a.add i) = some (.float .f64 (fd xs i))
theorem FReads.below {w w' : World} {A : Option Addr} {xs : List Nat} (h : FReads w A xs) (hb : Below w.heap.size w w') : FReads w' A xs := fun i hi => by
  obtain ⟨a, rfl, hc⟩ := h i hi
  exact ⟨a, rfl, cell_below hb hc⟩
theorem FReads.nil (w : World) (A : Option Addr) : FReads w A [] := fun i hi => absurd hi (by simp)
def Words64 (xs : List Nat) : Prop := ∀ i, i < xs.length → fd xs i < 18446744073709551616
section
variable {H : Type} {enc : TypeId × Value → H} {P : Program} {W : World} {base : Nat} {spare : Nat → Bool} {held : Bool}
theorem trod_float {t : TypeId} {k : FloatKind} {fuel : Nat} {cs : List Value} {x : DataW H × List MemPlace} (ht : P.underlying t = some (.float k)) (h : DataW.trod enc P W base spare held fuel t cs = some x) :
    ∃ n, cs = [.float k n] ∧ (Lit.float k n).wf = true := by
  cases fuel with
  | zero => simp [DataW.trod] at h
  | succ n =>
    unfold DataW.trod at h
    rw [ht] at h
    split at h <;> simp_all
theorem open_floats {t e : TypeId} {v : Value} {d : DataW H} {ps : List MemPlace} {ts : List TypeId} {ds : List (DataW H)} {j : Nat} {r : Reach} {b0 : Nat}
    (hu : P.underlying t = some (.slice e)) (he : P.underlying e = some (.float .f64)) (hc : P.cellsOf e = 1) (_ : P.bytesOf e = 8) (hv : Value.okWide P W r b0 t v)
    (_ : (DataW.weightsEach P ts ds).all (· ≤ reachBytes) = true) (_ : ts[j]? = some t) (_ : ds[j]? = some d)
    (h : DataW.Trod enc P W base spare held t v d ps) :
    ∃ A cap, ∃ xs : List Nat, v = .slice A xs.length cap ∧ xs.length ≤ cap ∧ cap ≤ maxLen ∧ FReads W A xs ∧ Words64 xs := by
  obtain ⟨a, len, cap, rfl⟩ := okWide_slice hu hv
  obtain ⟨fuel, hf⟩ := h
  rcases open_slice hu hf with ⟨hcs, _⟩ | ⟨x, l, c, m, n, D, Pl, hcs, _, hl, hm, hmm, _, hall⟩
  · simp [Value.cells] at hcs
    obtain ⟨rfl, rfl, rfl⟩ := hcs
    exact ⟨none, 0, [], rfl, by simp, by simp [maxLen], FReads.nil _ _, fun i hi => absurd hi (by simp)⟩
  · simp [Value.cells] at hcs
    obtain ⟨rfl, rfl, rfl⟩ := hcs
    have hlm : len ≤ m := by rw [hmm]; split <;> omega
    have hone : ∀ i, i < len → ∃ y, W.cell? (x.add i) = some (.float .f64 y) ∧ y < 18446744073709551616 := fun i hi => by
      obtain ⟨cs', h1, h2⟩ := hall i (by omega)
      obtain ⟨y, rfl, hw⟩ := trod_float he h2
      rw [hc, Nat.mul_one] at h1
      exact ⟨y, cell_of_cells?_one h1, of_decide_eq_true hw⟩
    let f : Nat → Nat := fun i => match W.cell? (x.add i) with | some (.float .f64 y) => y | _ => 0
    have hlen : ((List.range len).map f).length = len := by simp
    have hfd : ∀ i, i < len → fd ((List.range len).map f) i = f i := fun i hi => by simp [fd, List.getD_eq_getElem?_getD, hi]
    refine ⟨some x, cap, (List.range len).map f, by rw [hlen], by rw [hlen]; exact hl, hm, fun i hi => ?_, fun i hi => ?_⟩
    · rw [hlen] at hi
      obtain ⟨y, h1, _⟩ := hone i hi
      refine ⟨x, rfl, ?_⟩
      rw [hfd i hi, h1]
      simp only [f, h1]
    · rw [hlen] at hi
      obtain ⟨y, h1, h2⟩ := hone i hi
      rw [hfd i hi]
      simp only [f, h1]
      exact h2
end
end Go.Proofs.Ythplelglifnhoaa
