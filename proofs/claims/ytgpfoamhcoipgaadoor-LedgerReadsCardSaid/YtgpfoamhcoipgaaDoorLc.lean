import Derived.Test.YtgpfoamhcoipgaaDoorLa
/-! What stands beside a ledger; a map laid into another. -/
namespace Go.Proofs.YtgpfoamhcoipgaaDoor
open Go.RowKit Go.Sort Go.ChangeMaps
set_option linter.unusedVariables false
set_option linter.unusedSectionVars false

/-- All but the ledger, its map and its changes is as it was. -/
structure Oth (gb : Nat) (m v : Value) (w w' : World) : Prop where
  os : w'.os = w.os
  tape : w'.tape = w.tape
  output : w'.output = w.output
  size : w.heap.size ≤ w'.heap.size
  block : ∀ i, i < w.heap.size → i ≠ gb → m ≠ .map (some i) → v.ownBlock ≠ some i → w'.heap[i]? = w.heap[i]?
theorem Oth.of_below {gb : Nat} {m v : Value} {w w' : World} (h : Below w.heap.size w w') : Oth gb m v w w' := ⟨h.os, h.tape, h.output, h.size, fun i hi _ _ _ => h.block i hi⟩
theorem Oth.below {gb : Nat} {m v : Value} {w w1 w2 : World} (h : Oth gb m v w w1) (b : Below w1.heap.size w1 w2) : Oth gb m v w w2 :=
  ⟨b.os.trans h.os, b.tape.trans h.tape, b.output.trans h.output, Nat.le_trans h.size b.size, fun i hi h1 h2 h3 => (b.block i (Nat.lt_of_lt_of_le hi h.size)).trans (h.block i hi h1 h2 h3)⟩
theorem Oth.setCell {gb : Nat} {m v : Value} {w w1 : World} (h : Oth gb m v w w1) (k : Nat) (u : Value) : Oth gb m v w (w1.setCell ⟨gb, k, none⟩ u) :=
  ⟨h.os, h.tape, h.output, by simpa using h.size, fun i hi h1 h2 h3 => (Below.heap_setCell w1 ⟨gb, k, none⟩ u i (fun e => h1 e)).trans (h.block i hi h1 h2 h3)⟩
theorem Oth.setBlock {gb : Nat} {m v : Value} {w w1 : World} (h : Oth gb m v w w1) {b : Nat} (hb : w.heap.size ≤ b ∨ m = .map (some b)) (o : Obj) : Oth gb m v w (setBlock w1 b o) :=
  ⟨h.os, h.tape, h.output, by show _ ≤ (w1.heap.setIfInBounds b o).size; rw [Array.size_setIfInBounds]; exact h.size, fun i hi h1 h2 h3 => by
    show (w1.heap.setIfInBounds b o)[i]? = _
    rw [Array.getElem?_setIfInBounds_ne (fun e => by
      rcases hb with hb | hb
      · omega
      · exact h2 (by rw [hb, e]))]
    exact h.block i hi h1 h2 h3⟩
theorem Oth.grown {gb : Nat} {m v p : Value} {w w1 w2 : World} (h : Oth gb m v w w1) (g : w1.grownBy w2 p.ownBlock) (hp : ∀ k, p.ownBlock = some k → v.ownBlock = some k ∨ w.heap.size ≤ k) : Oth gb m v w w2 :=
  ⟨g.os.trans h.os, g.tape.trans h.tape, g.output.trans h.output, Nat.le_trans h.size g.size, fun i hi h1 h2 h3 => (g.block i (Nat.lt_of_lt_of_le hi h.size) (fun e => by
    rcases hp i e.symm with q | q
    · exact h3 q
    · omega)).trans (h.block i hi h1 h2 h3)⟩
theorem heap_setBlock_ne (w : World) {b i : Nat} (h : i ≠ b) (o : Obj) : (setBlock w b o).heap[i]? = w.heap[i]? := by
  show (w.heap.setIfInBounds b o)[i]? = _
  rw [Array.getElem?_setIfInBounds_ne (Ne.symm h)]
theorem OwnE.ne_cells {α : Type} {enc : α → List Value} {k : Nat} {e t : TypeId} {w : World} {base g : Nat} {v : Value} {l : List α} (h : OwnE w base e k enc v l) {C : Array Value} {fr : Nat × Nat} (hg : w.heap[g]? = some (.cells C t fr)) (hne : t ≠ e) : v.ownBlock ≠ some g := fun q => by
  rcases h.2 with ⟨rfl, _⟩ | ⟨g2, cap, cur, rfl, _, hg2, _⟩
  · cases q
  · injection q with q
    have q : g2 = g := q
    subst q
    rw [hg] at hg2
    injection hg2 with hg2
    injection hg2 with _ h3 _
    exact hne h3
theorem OwnE.ne_map {α : Type} {enc : α → List Value} {k : Nat} {e : TypeId} {w : World} {base g : Nat} {v : Value} {l : List α} (h : OwnE w base e k enc v l) {es : Array MapEntry} {c : Nat} (hg : w.heap[g]? = some (.map es c)) : v.ownBlock ≠ some g := fun q => by
  rcases h.2 with ⟨rfl, _⟩ | ⟨g2, cap, cur, rfl, _, hg2, _⟩
  · cases q
  · injection q with q
    have q : g2 = g := q
    subst q
    rw [hg] at hg2
    cases hg2
theorem OwnE.setBlock {α : Type} {enc : α → List Value} {k : Nat} {e : TypeId} {w : World} {base g : Nat} {v : Value} {l : List α} (h : OwnE w base e k enc v l) (hne : v.ownBlock ≠ some g) (o : Obj) : OwnE (setBlock w g o) base e k enc v l :=
  h.kept (row := some g) ⟨rfl, rfl, rfl, by show _ ≤ (w.heap.setIfInBounds g o).size; rw [Array.size_setIfInBounds]; exact Nat.le_refl _, fun i _ hi => heap_setBlock_ne w (fun q => hi (by rw [q])) o⟩ (.inr hne)
theorem OwnE.setCell {α : Type} {enc : α → List Value} {k : Nat} {e : TypeId} {w : World} {base g : Nat} {v : Value} {l : List α} (h : OwnE w base e k enc v l) (hne : v.ownBlock ≠ some g) (j : Nat) (u : Value) : OwnE (w.setCell ⟨g, j, none⟩ u) base e k enc v l :=
  h.kept (row := some g) ⟨rfl, rfl, rfl, by simp, fun i _ hi => Below.heap_setCell w ⟨g, j, none⟩ u i (fun q => hi (by rw [q]))⟩ (.inr hne)
section
variable {K V : Type} [DecidableEq K] {kC : K → Value} {vC : V → Value}
theorem IterAt.lt {w : World} {r b : Nat} {l left : List (K × V)} (h : IterAt kC vC w r b l left) : r < w.heap.size := by
  obtain ⟨es, clock, seen, _, h2, _⟩ := h.is
  rcases Nat.lt_or_ge r w.heap.size with h1 | h1
  · exact h1
  · rw [Array.getElem?_eq_none h1] at h2; cases h2
/-- How many are still to come. -/
def itLeft (w : World) (r b : Nat) : Nat := match w.heap[r]?, w.heap[b]? with
  | some (.mapIter _ _ seen _), some (.map es _) => (leftOf es seen).size
  | _, _ => 0
theorem IterAt.left {w : World} {r b : Nat} {l left : List (K × V)} (h : IterAt kC vC w r b l left) : itLeft w r b = left.length := by
  obtain ⟨es, clock, seen, h1, h2, _, _, _, h6⟩ := h.is
  unfold itLeft
  rw [h1, h2]
  have := congrArg List.length h6
  simpa using this
theorem lget_mem {l : List (K × V)} (hn : (l.map (·.1)).Nodup) {p : K × V} (hp : p ∈ l) : lget l p.1 = some p.2 := by
  induction l with
  | nil => cases hp
  | cons q l ih =>
    rw [List.map_cons] at hn
    obtain ⟨h1, h2⟩ := List.nodup_cons.1 hn
    rw [lget_cons]
    rcases List.mem_cons.1 hp with rfl | hp
    · rw [if_pos rfl]
    · rw [if_neg (fun e => h1 (by rw [← e]; exact List.mem_map.2 ⟨p, hp, rfl⟩))]
      exact ih h2 hp
theorem lget_out {l : List (K × V)} {k : K} (h : k ∉ l.map (·.1)) : lget l k = none := by
  induction l with
  | nil => rfl
  | cons q l ih =>
    rw [List.map_cons, List.mem_cons, not_or] at h
    rw [lget_cons, if_neg h.1]
    exact ih h.2
theorem lget_app (A B : List (K × V)) (k : K) : lget (A ++ B) k = (lget A k).or (lget B k) := by
  induction A with
  | nil => rfl
  | cons q A ih =>
    rw [List.cons_append, lget_cons, lget_cons]
    split
    · rfl
    · exact ih
/-- One entry laid into another map: the entries that are still to come are one less. -/
theorem lay_step {mp mA A B : List (K × V)} {p : K × V} {f g : K → V} {z : V} (hn : (mp.map (·.1)).Nodup) (hs : (A ++ p :: B).Sublist mp) (hg : ∀ k v, lget mp k = some v → v = g k)
    (h : ∀ k, (lget mA k).getD z = if (lget (A ++ p :: B) k).isSome = true ∨ lget mp k = none then f k else g k) :
    ∀ k, (lget (lset mA p.1 p.2) k).getD z = if (lget (A ++ B) k).isSome = true ∨ lget mp k = none then f k else g k := fun k => by
  have hm : p ∈ mp := hs.subset (by simp)
  have hpm := lget_mem hn hm
  have hnd : ((A ++ p :: B).map (·.1)).Nodup := List.Sublist.nodup (hs.map _) hn
  rw [List.map_append, List.map_cons] at hnd
  obtain ⟨_, h2, h3⟩ := List.nodup_append.1 hnd
  obtain ⟨h4, _⟩ := List.nodup_cons.1 h2
  rw [lget_lset]
  by_cases hk : k = p.1
  · subst hk
    have hA : p.1 ∉ A.map (·.1) := fun q => h3 p.1 q p.1 (by simp) rfl
    rw [if_pos rfl, lget_app, lget_out hA, lget_out h4, hpm]
    simp only [Option.none_or, Option.isSome_none, Bool.false_eq_true, false_or, reduceCtorEq, if_false]
    exact hg _ _ hpm
  · rw [if_neg hk, h k, lget_app, lget_app, lget_cons, if_neg hk]
end

theorem cell_of_eq {w w' : World} {g : Nat} (h : w'.heap[g]? = w.heap[g]?) (i : Nat) : w'.cell? ⟨g, i, none⟩ = w.cell? ⟨g, i, none⟩ := by simp [World.cell?, h]
section
variable {P : Program} {α : Type} {enc : α → List Value} {k bytes : Nat} {e : TypeId}
theorem RowsAt.setBlock {w : World} {A : Option Addr} {l : List α} (h : RowsAt w enc A l) {b : Nat} (hb : ∀ j, w.cell? ⟨b, j, none⟩ = none) (o : Obj) : RowsAt (setBlock w b o) enc A l := by
  rcases h with h | ⟨g, off, h1, h2⟩
  · exact .inl h
  · refine .inr ⟨g, off, h1, fun j u hu => ?_⟩
    have := h2 j u hu
    by_cases hg : g = b
    · subst hg; rw [hb] at this; cases this
    · exact (cell_of_eq (heap_setBlock_ne w hg o) _).trans this
theorem RowsAt.setCell (E : Enc P e enc k bytes) {w : World} {A : Option Addr} {l : List α} (h : RowsAt w enc A l) {gb : Nat} {C : Array Value} {t : TypeId} {fr : Nat × Nat} (hb : w.heap[gb]? = some (.cells C t fr)) (hC : C.size < k) (j : Nat) (u : Value) : RowsAt (w.setCell ⟨gb, j, none⟩ u) enc A l := by
  rcases h with h | ⟨g, off, h1, h2⟩
  · exact .inl h
  · cases l with
    | nil => exact .inl rfl
    | cons x l =>
      refine .inr ⟨g, off, h1, fun i v hv => ?_⟩
      have hg : g ≠ gb := fun hg => by
        subst hg
        have hx : ((x :: l).flatMap enc)[k - 1]? = (enc x)[k - 1]? := by
          rw [List.flatMap_cons, List.getElem?_append_left (by rw [E.len]; have := E.pos; omega)]
        have hx2 : ((x :: l).flatMap enc)[k - 1]? = some ((enc x)[k - 1]'(by rw [E.len]; have := E.pos; omega)) := by rw [hx]; exact List.getElem?_eq_getElem _
        have := h2 _ _ hx2
        simp only [World.cell?, hb] at this
        rw [Array.getElem?_eq_none (by have := E.pos; omega)] at this
        simp at this
      exact (cell_of_eq (Below.heap_setCell w ⟨gb, j, none⟩ u g hg) _).trans (h2 i v hv)
end
/-- Which blocks are apart while a map is laid into another. -/
structure LaySt (gb : Nat) (m v : Value) (w : World) (bA bN r : Nat) : Prop where
  rN : r ≠ bN
  rA : r ≠ bA
  rg : r ≠ gb
  AN : bA ≠ bN
  Ag : bA ≠ gb
  vA : v.ownBlock ≠ some bA
  vr : v.ownBlock ≠ some r
  r0 : w.heap.size ≤ r
  A0 : w.heap.size ≤ bA ∨ m = .map (some bA)
/-- While a map is laid into another. -/
structure LayI (gb base : Nat) (m v : Value) (L : List Ch) (w : World) (bA bN r : Nat) (mp : List (Nm × Std)) (f fj : Nm → Std) (PA : Option Addr) (more : List Ch) (wr : World) (left mA : List (Nm × Std)) : Prop where
  it : IterAt nmC stC wr r bN mp left
  sub : left.Sublist mp
  at_ : MapAt nmC stC wr bA mA
  val : ∀ k, (lget mA k).getD st0 = if (lget left k).isSome = true ∨ lget mp k = none then f k else fj k
  led : wr.heap[gb]? = some (.cells #[v, .map (some bA)] 32 (0, 0))
  own : OwnE wr base 43 10 chL v L
  oth : Oth gb m v w wr
  rows : RowsAt wr chL PA more
theorem LayI.start {gb base : Nat} {m v : Value} {L : List Ch} {w : World} {bA bN : Nat} {mp : List (Nm × Std)} {f fj : Nm → Std} {PA : Option Addr} {more : List Ch} {w2 : World} {it : Obj} {mA : List (Nm × Std)} (hI : IterAt nmC stC (w2.alloc it) w2.heap.size bN mp mp) (hA : MapAt nmC stC w2 bA mA)
    (hv : ∀ k, (lget mA k).getD st0 = f k) (hmp : ∀ k, (lget mp k).getD (f k) = fj k) (hg : w2.heap[gb]? = some (.cells #[v, .map (some bA)] 32 (0, 0))) (ho : OwnE w2 base 43 10 chL v L) (hoth : Oth gb m v w w2) (hrw : RowsAt w2 chL PA more) :
    LayI gb base m v L w bA bN w2.heap.size mp f fj PA more (w2.alloc it) mp mA :=
  have b := below_alloc (Below.refl w2.heap.size w2) it
  ⟨hI, List.Sublist.refl _, hA.same (b.block _ hA.lt), fun k => by
    rw [hv k]
    cases h : lget mp k with
    | none => simp
    | some s => simp, (b.block _ (heap_lt hg)).trans hg, ho.below b, hoth.below b, hrw.below b⟩
theorem LayI.below {gb base : Nat} {m v : Value} {L : List Ch} {w : World} {bA bN r : Nat} {mp : List (Nm × Std)} {f fj : Nm → Std} {PA : Option Addr} {more : List Ch} {wr w' : World} {left mA : List (Nm × Std)} (h : LayI gb base m v L w bA bN r mp f fj PA more wr left mA) (b : Below wr.heap.size wr w') : LayI gb base m v L w bA bN r mp f fj PA more w' left mA :=
  ⟨h.it.same (b.block _ h.it.map.lt) (b.block _ h.it.lt), h.sub, h.at_.same (b.block _ h.at_.lt), h.val, (b.block _ (heap_lt h.led)).trans h.led, h.own.below b, h.oth.below b, h.rows.below b⟩
theorem LayI.next {gb base : Nat} {m v : Value} {L : List Ch} {w : World} {bA bN r : Nat} {mp : List (Nm × Std)} {f fj : Nm → Std} {PA : Option Addr} {more : List Ch} {wr w' : World} {A B mA : List (Nm × Std)} {p : Nm × Std} {it : Obj} (S : LaySt gb m v w bA bN r) (h : LayI gb base m v L w bA bN r mp f fj PA more wr (A ++ p :: B) mA)
    (hw : w' = setBlock wr r it ∨ w' = setBlock wr.drew r it) : MapAt nmC stC w' bA mA ∧ w'.heap[gb]? = some (.cells #[v, .map (some bA)] 32 (0, 0)) ∧ OwnE w' base 43 10 chL v L ∧ Oth gb m v w w' ∧ RowsAt w' chL PA more := by
  have key : ∀ w1 : World, w1 = wr ∨ w1 = wr.drew → w' = setBlock w1 r it → MapAt nmC stC w' bA mA ∧ w'.heap[gb]? = some (.cells #[v, .map (some bA)] 32 (0, 0)) ∧ OwnE w' base 43 10 chL v L ∧ Oth gb m v w w' ∧ RowsAt w' chL PA more := fun w1 h1 e => by
    have b : Below wr.heap.size wr w1 := by
      rcases h1 with rfl | rfl
      · exact Below.refl _ _
      · exact (Below.refl _ _).drew
    have h2 := h.below b
    subst e
    refine ⟨h2.at_.same (heap_setBlock_ne _ (Ne.symm S.rA) _), (heap_setBlock_ne _ (Ne.symm S.rg) _).trans h2.led, h2.own.setBlock S.vr _, h2.oth.setBlock (.inl S.r0) _, h2.rows.setBlock (fun j => by obtain ⟨es, ck, seen, _, q, _⟩ := h2.it.is; simp [World.cell?, q]) _⟩
  rcases hw with e | e
  · exact key _ (.inl rfl) e
  · exact key _ (.inr rfl) e
theorem LayI.step {gb base : Nat} {m v : Value} {L : List Ch} {w : World} {bA bN r : Nat} {mp : List (Nm × Std)} {f fj : Nm → Std} {PA : Option Addr} {more : List Ch} {wr w' w9 wq : World} {A B mA : List (Nm × Std)} {p : Nm × Std} {it o : Obj} (hmp : ∀ k, (lget mp k).getD (f k) = fj k) (S : LaySt gb m v w bA bN r) (h : LayI gb base m v L w bA bN r mp f fj PA more wr (A ++ p :: B) mA)
    (hw : w' = setBlock wr r it ∨ w' = setBlock wr.drew r it) (hI : IterAt nmC stC w' r bN mp (A ++ B)) (b9 : Below w'.heap.size w' w9) (bq : Below w9.heap.size w9 wq) (hM : MapAt nmC stC (setBlock wq bA o) bA (lset mA p.1 p.2)) :
    LayI gb base m v L w bA bN r mp f fj PA more (setBlock wq bA o) (A ++ B) (lset mA p.1 p.2) := by
  obtain ⟨h1, h2, h3, h4, h5⟩ := h.next S hw
  have b : Below w'.heap.size w' wq := below_trans b9 bq
  have hl : (A ++ B).Sublist mp := List.Sublist.trans (List.Sublist.append (List.Sublist.refl A) (List.sublist_cons_self p B)) h.sub
  refine ⟨hI.same ((heap_setBlock_ne _ (Ne.symm S.AN) _).trans (b.block _ hI.map.lt)) ((heap_setBlock_ne _ S.rA _).trans (b.block _ hI.lt)), hl, hM, ?_, (heap_setBlock_ne _ (Ne.symm S.Ag) _).trans ((b.block _ (heap_lt h2)).trans h2), (h3.below b).setBlock S.vA _, (h4.below b).setBlock S.A0 _, (h5.below b).setBlock (fun j => by obtain ⟨es, ck, q, _⟩ := (h1.same (b.block _ h1.lt)).is; simp [World.cell?, q]) _⟩
  exact lay_step hI.once h.sub (fun k u hk => by have := hmp k; rw [hk] at this; exact this) h.val
end Go.Proofs.YtgpfoamhcoipgaaDoor
