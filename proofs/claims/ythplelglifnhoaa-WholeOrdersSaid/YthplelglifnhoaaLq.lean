import Derived.Test.YthplelglifnhoaaMp
import Derived.Deep.MidRow
import Derived.Test.YthplelglifnhoaaDr
/-! Slices of structs; a map's operations in a walk. -/
namespace Go.Proofs.Ythplelglifnhoaa
open Go.RowKit Go.ChangeMaps
set_option linter.unusedVariables false
set_option linter.unusedSectionVars false

section
variable {P : Program} {α : Type} {enc : α → List Value} {k bytes : Nat} {e : TypeId}
/-- How the elements of a slice lie. -/
structure Enc (P : Program) (e : TypeId) (enc : α → List Value) (k bytes : Nat) : Prop where
  pos : 0 < k
  len : ∀ x, (enc x).length = k
  one : ∀ x v, v ∈ enc x → v.oneCell' = true
  info : ∃ i z, P.info? e = some i ∧ i.zero = some z ∧ i.size = k ∧ i.bytes = bytes ∧ z.cells.size = k
theorem Enc.flat (E : Enc P e enc k bytes) : ∀ l : List α, (l.flatMap enc).length = l.length * k := by
  intro l
  induction l with
  | nil => simp
  | cons x l ih => rw [List.flatMap_cons, List.length_append, E.len, ih, List.length_cons, Nat.add_mul, Nat.one_mul, Nat.add_comm]
theorem Enc.at_ (E : Enc P e enc k bytes) : ∀ (l : List α) (i : Nat) (x : α), l[i]? = some x → ∀ j, j < k → (l.flatMap enc)[i * k + j]? = (enc x)[j]? := by
  intro l
  induction l with
  | nil => intro i x h; cases h
  | cons y l ih =>
    intro i x h j hj
    rw [List.flatMap_cons]
    cases i with
    | zero =>
      rw [List.getElem?_cons_zero] at h
      injection h with h
      subst h
      rw [Nat.zero_mul, Nat.zero_add, List.getElem?_append_left (by rw [E.len]; exact hj)]
    | succ i =>
      rw [List.getElem?_cons_succ] at h
      rw [List.getElem?_append_right (by rw [E.len, Nat.add_mul]; omega), E.len, show (i + 1) * k + j - k = i * k + j by rw [Nat.add_mul]; omega]
      exact ih i x h j hj
theorem Enc.oneFlat (E : Enc P e enc k bytes) (l : List α) : ∀ u ∈ l.flatMap enc, u.oneCell' = true := fun u hu => by
  obtain ⟨x, _, h⟩ := List.mem_flatMap.1 hu
  exact E.one x u h
/-- A slice that reads as these. -/
def RowsAt (w : World) (enc : α → List Value) (A : Option Addr) (l : List α) : Prop := l = [] ∨ ∃ g off, A = some ⟨g, off, none⟩ ∧ w.rangeAt g off (l.flatMap enc)
theorem RowsAt.nil (w : World) (A : Option Addr) : RowsAt w enc A ([] : List α) := .inl rfl
theorem RowsAt.below {w w' : World} {A : Option Addr} {l : List α} (h : RowsAt w enc A l) (b : Below w.heap.size w w') : RowsAt w' enc A l := by
  rcases h with h | ⟨g, off, h1, h2⟩
  · exact .inl h
  · exact .inr ⟨g, off, h1, fun j v hv => cell_below b (h2 j v hv)⟩
theorem RowsAt.row (E : Enc P e enc k bytes) {w : World} {A : Option Addr} {l : List α} (h : RowsAt w enc A l) {i : Nat} {x : α} (hi : l[i]? = some x) : ∃ g off, A = some ⟨g, off, none⟩ ∧ w.rangeAt g (off + i * k) (enc x) := by
  rcases h with h | ⟨g, off, h1, h2⟩
  · subst h; cases hi
  · refine ⟨g, off, h1, fun j v hv => ?_⟩
    have hj : j < k := by have := (List.getElem?_eq_some_iff.1 hv).1; rwa [E.len] at this
    rw [Nat.add_assoc]
    exact h2 (i * k + j) v (by rw [E.at_ l i x hi j hj]; exact hv)
/-- A slice of the call's own. -/
def OwnE (w : World) (base : Nat) (e : TypeId) (k : Nat) (enc : α → List Value) (v : Value) (l : List α) : Prop := w.ownsRow base e k v l.length (l.flatMap enc)
theorem OwnE.nil (w : World) (base : Nat) : OwnE w base e k enc (.slice none 0 0) ([] : List α) := World.ownsRow_nil w base e k
theorem OwnE.lt {w : World} {base : Nat} {v : Value} {l : List α} (h : OwnE w base e k enc v l) : ∀ g, v.ownBlock = some g → base ≤ g ∧ g < w.heap.size := World.ownsRow.lt h
theorem OwnE.kept {w w' : World} {row : Option Nat} {base : Nat} {v : Value} {l : List α} (h : OwnE w base e k enc v l) (hg : w.grownBy w' row) (hne : v.ownBlock = none ∨ v.ownBlock ≠ row) : OwnE w' base e k enc v l := World.ownsRow.kept h hg hne
theorem OwnE.below {w w' : World} {base : Nat} {v : Value} {l : List α} (h : OwnE w base e k enc v l) (hb : Below w.heap.size w w') : OwnE w' base e k enc v l :=
  World.ownsRow.kept (row := none) h ⟨hb.os, hb.tape, hb.output, hb.size, fun i hi _ => hb.block i hi⟩ (by cases hv : v.ownBlock <;> simp)
theorem OwnE.mono {w : World} {base base' : Nat} {v : Value} {l : List α} (h : OwnE w base e k enc v l) (hb : base' ≤ base) : OwnE w base' e k enc v l := by
  refine ⟨h.1, ?_⟩
  rcases h.2 with h2 | ⟨g, cap, cur, hv, hg, r⟩
  · exact .inl h2
  · exact .inr ⟨g, cap, cur, hv, Nat.le_trans hb hg, r⟩
theorem OwnE.form {w : World} {base : Nat} {v : Value} {l : List α} (h : OwnE w base e k enc v l) : ∃ A cap, v = .slice A l.length cap ∧ l.length ≤ cap ∧ RowsAt w enc A l := by
  rcases h.2 with ⟨rfl, h0⟩ | ⟨g, cap, cur, rfl, hb, hg, hn, hm, hs, ht⟩
  · have : l = [] := List.eq_nil_of_length_eq_zero h0
    subst this
    exact ⟨none, 0, rfl, by simp, RowsAt.nil _ _⟩
  · refine ⟨_, cap, rfl, hn, .inr ⟨g, 0, rfl, fun j v hv => ?_⟩⟩
    have := World.ownsRow.cells h (g := g) rfl j v hv
    rw [Addr.add_mid] at this
    exact this
theorem run_appendE (E : Enc P e enc k bytes) (w : World) (base : Nat) (t ty : TypeId) (ht : P.underlying t = some (.slice e)) (v : Value) (xs : List α) (hown : OwnE w base e k enc v xs) (A : Option Addr) (c : Nat) (ys : List α) (hy : RowsAt w enc A ys)
    (hl : xs.length + ys.length ≤ maxLen) (hbytes : (xs.length + ys.length) * bytes ≤ 140737488355328) (hbase : base ≤ w.heap.size) :
    ∃ v' w', (Builtin.append_ #[t, t] ty #[v, .slice A ys.length c]).run P w = .ok v' w' ∧ OwnE w' base e k enc v' (xs ++ ys) ∧ w.grownBy w' v.ownBlock ∧ (v'.ownBlock = v.ownBlock ∨ v'.ownBlock = some w.heap.size) := by
  obtain ⟨i, z, hi, hz, hs, hb, hzs⟩ := E.info
  have fin : ∀ (ad : Addr), A = some ad → (∀ j u, (ys.flatMap enc)[j]? = some u → w.cell? (ad.add j) = some u) →
      ∃ v' w', (Builtin.append_ #[t, t] ty #[v, .slice A ys.length c]).run P w = .ok v' w' ∧ OwnE w' base e k enc v' (xs ++ ys) ∧ w.grownBy w' v.ownBlock ∧ (v'.ownBlock = v.ownBlock ∨ v'.ownBlock = some w.heap.size) := fun ad hA hn => by
    subst hA
    obtain ⟨v', w', hrun, h2, h3, _, h5⟩ := run_append_own_at (P := P) w base t ty e i z k bytes ht hi hz hs hb hzs E.pos v xs.length (xs.flatMap enc) hown ad ys.length c (ys.flatMap enc) (E.flat ys) hn (E.oneFlat ys) hl hbytes hbase
    exact ⟨v', w', hrun, by unfold OwnE; rw [List.length_append, List.flatMap_append]; exact h2, h3, h5⟩
  cases A with
  | none =>
    have h0 : ys = [] := by
      rcases hy with h | ⟨_, _, h, _⟩
      · exact h
      · cases h
    subst h0
    have hrun : (Builtin.append_ #[t, t] ty #[v, .slice none 0 c]).run P w = .ok v w := by
      rcases hown.2 with ⟨rfl, h0⟩ | ⟨g, cap, cur, rfl, _, _, hnc, _⟩
      · simp [Builtin.append_, run_underlying ht, sizeOf, typeInfo, hi, Builtin.lenOf, Builtin.firstCells]
      · simp [Builtin.append_, run_underlying ht, sizeOf, typeInfo, hi, Builtin.lenOf, Builtin.firstCells, hnc, storeCells]
    exact ⟨v, w, hrun, by simpa using hown, ⟨rfl, rfl, rfl, Nat.le_refl _, fun _ _ _ => rfl⟩, .inl rfl⟩
  | some ad =>
    refine fin ad rfl fun j u hu => ?_
    rcases hy with h | ⟨g, off, h1, h2⟩
    · subst h; simp at hu
    · injection h1 with h1
      subst h1
      rw [Addr.add_mid]
      exact h2 j u hu
theorem wpList_appendE {ops : Array Oper} {rest : List Oper} {o : Oper} {a : Act} {Q : Exit → Act → World → Prop} (E : Enc P e enc k bytes) (hgd : o.guard = none) (w : World) (s x : Operand) (t : TypeId) (ho : o.op = .call { callee := .builtin .append, args := #[s, x], argTypes := #[t, t] })
    (base : Nat) (ht : P.underlying t = some (.slice e)) (v : Value) (xs : List α) (hs : a.eval s = v) (hown : OwnE w base e k enc v xs) (A : Option Addr) (c : Nat) (ys : List α) (hx : a.eval x = .slice A ys.length c) (hy : RowsAt w enc A ys)
    (hl : xs.length + ys.length ≤ maxLen) (hbytes : (xs.length + ys.length) * bytes ≤ 140737488355328) (hbase : base ≤ w.heap.size)
    (h : ∀ v' w', OwnE w' base e k enc v' (xs ++ ys) → w.grownBy w' v.ownBlock → (v'.ownBlock = v.ownBlock ∨ v'.ownBlock = some w.heap.size) → wpList P ops Q rest (a.put o.dst v') w') : wpList P ops Q (o :: rest) a w :=
  wpList_plain hgd fun K hK => by
    obtain ⟨v', w', hrun, h2, h3, h4⟩ := run_appendE E w base t o.type ht v xs hown A c ys hy hl hbytes hbase
    unfold Oper.wp execOp
    simp only [ho, resolve, invoke, builtin, Sem.run_bind, Sem.run_pure, Result.andThen_ok, List.map_toArray, List.map_cons, List.map_nil, hs, hx, hrun]
    exact hK _ _ (h v' w' h2 h3 h4)
end
section
variable {P : Program} {K V : Type} [DecidableEq K] {mt kt et : TypeId} {kC : K → Value} {vC : V → Value} {z : Value} {ops : Array Oper} {rest : List Oper} {o : Oper} {a : Act} {Q : Exit → Act → World → Prop}
theorem wpList_lookupK (T : MapTy P mt kt et kC z) (hgd : o.guard = none) (w : World) (m x : Operand) (ok : Bool) (ho : o.op = .lookup mt m x ok) (b : Nat) (l : List (K × V)) (hm : a.eval m = .map (some b)) (hM : MapAt kC vC w b l) (q : K) (hx : a.eval x = kC q)
    (h : wpList P ops Q rest (a.put o.dst (let v := ((lget l q).map vC).getD z; if ok then .tuple #[v, .bool (lget l q).isSome] else v)) w) : wpList P ops Q (o :: rest) a w :=
  wpList_plain hgd fun K' hK => by
    have hrun := run_lookupK T hM q ok
    unfold Oper.wp execOp
    simp only [ho, hm, hx, Sem.run_bind, hrun, Result.andThen_ok]
    exact hK _ _ h
theorem wpList_updateK (T : MapTy P mt kt et kC z) (hgd : o.guard = none) (w : World) (m x y : Operand) (ho : o.op = .mapUpdate mt m x y) (b : Nat) (l : List (K × V)) (hm : a.eval m = .map (some b)) (hM : MapAt kC vC w b l) (q : K) (hx : a.eval x = kC q) (v : V) (hy : a.eval y = vC v)
    (h : ∀ es clock, MapAt kC vC (setBlock w b (.map es clock)) b (lset l q v) → wpList P ops Q rest (a.put o.dst undef) (setBlock w b (.map es clock))) : wpList P ops Q (o :: rest) a w :=
  wpList_plain hgd fun K' hK => by
    obtain ⟨es, clock, hrun, hM2⟩ := run_updateK T hM q v
    unfold Oper.wp execOp
    simp only [ho, hm, hx, hy, Sem.run_bind, hrun, Result.andThen_ok]
    exact hK _ _ (h es clock hM2)
theorem run_makeMapK (t : TypeId) (w : World) : (Instr.makeMap t none).run P w = .ok (.map (some w.heap.size)) (w.alloc (.map #[] 0)) := by
  first | rfl | (simp [Instr.makeMap]; done) | (simp [Instr.makeMap, newObj]; done)
theorem wpList_makeMapK (hgd : o.guard = none) (w : World) (t : TypeId) (ho : o.op = .makeMap t none) (dst : Option Tmp) (hdst : o.dst = dst) (N : Nat) (hN : w.heap.size = N)
    (h : wpList P ops Q rest (a.put dst (.map (some N))) (w.alloc (.map #[] 0))) : wpList P ops Q (o :: rest) a w := by
  subst hdst hN
  refine wpList_plain hgd fun K hK => ?_
  unfold Oper.wp execOp
  simp only [ho, Option.map_none, Sem.run_bind, run_makeMapK, Result.andThen_ok]
  exact hK _ _ h
theorem wpOp_lookup {i : Nat} {K' : Act → World → Prop} {w : World} (hi : ops[i]? = some o) (hw : Region.wanted o (yielded ops a.tmps) = true) (mt : TypeId) (m x : Operand) (ok : Bool) (ho : o.op = .lookup mt m x ok) {mv kv v : Value} (hm : a.eval m = mv) (hx : a.eval x = kv)
    (hrun : (Instr.lookup mt mv kv ok).run P w = .ok v w) (h : K' (a.put o.dst v) w) : wpOp P ops Q i K' a w := by
  refine wpOp_of_wp hi hw ?_
  unfold Oper.wp execOp
  simp only [ho, hm, hx, Sem.run_bind, hrun, Result.andThen_ok]
  exact h
theorem wpList_rangeK (T : MapTy P mt kt et kC z) (hgd : o.guard = none) (w : World) (x : Operand) (ho : o.op = .range mt x) (b : Nat) (l : List (K × V)) (hx : a.eval x = .map (some b)) (hM : MapAt kC vC w b l)
    (h : ∀ it, IterAt kC vC (w.alloc it) w.heap.size b l l → wpList P ops Q rest (a.put o.dst (.pointer (some ⟨w.heap.size, 0, none⟩))) (w.alloc it)) : wpList P ops Q (o :: rest) a w :=
  wpList_plain hgd fun K' hK => by
    obtain ⟨it, hrun, hI⟩ := run_rangeK T hM
    unfold Oper.wp execOp
    simp only [ho, hx, Sem.run_bind, hrun, Result.andThen_ok]
    exact hK _ _ (h it hI)
theorem wpList_nextK (hgd : o.guard = none) (w : World) (x : Operand) (ho : o.op = .next x false) (r b : Nat) (l left : List (K × V)) (hx : a.eval x = .pointer (some ⟨r, 0, none⟩)) (hI : IterAt kC vC w r b l left) (hne : r ≠ b)
    (h0 : left = [] → wpList P ops Q rest (a.put o.dst (.tuple #[.bool false])) w)
    (h1 : ∀ A p B w' it, left = A ++ p :: B → IterAt kC vC w' r b l (A ++ B) → (w' = setBlock w r it ∨ w' = setBlock w.drew r it) →
      (∀ w2 : World, w2.heap[r]? = w'.heap[r]? → w2.heap[b]? = w'.heap[b]? → (Instr.entry (.pointer (some ⟨r, 0, none⟩))).run P w2 = .ok (.tuple #[kC p.1, vC p.2]) w2) →
      wpList P ops Q rest (a.put o.dst (.tuple #[.bool true, kC p.1, vC p.2])) w') : wpList P ops Q (o :: rest) a w :=
  wpList_plain hgd fun K' hK => by
    rcases run_nextK (P := P) hI o.type hne with ⟨e, hrun⟩ | ⟨A, p, B, w', it, e, hrun, hI2, hw, he⟩
    · unfold Oper.wp execOp
      simp only [ho, hx, Sem.run_bind, hrun, Result.andThen_ok]
      exact hK _ _ (h0 e)
    · unfold Oper.wp execOp
      simp only [ho, hx, Sem.run_bind, hrun, Result.andThen_ok]
      exact hK _ _ (h1 A p B w' it e hI2 hw he)
theorem wpList_entryK (hgd : o.guard = none) (w : World) (x : Operand) (ho : o.op = .entry x) (r : Nat) (hx : a.eval x = .pointer (some ⟨r, 0, none⟩)) (v : Value) (hrun : (Instr.entry (.pointer (some ⟨r, 0, none⟩))).run P w = .ok v w)
    (h : wpList P ops Q rest (a.put o.dst v) w) : wpList P ops Q (o :: rest) a w :=
  wpList_plain hgd fun K' hK => by
    unfold Oper.wp execOp
    simp only [ho, hx, Sem.run_bind, hrun, Result.andThen_ok]
    exact hK _ _ h
theorem wpOp_updateK (T : MapTy P mt kt et kC z) {i : Nat} {K' : Act → World → Prop} {w : World} (hi : ops[i]? = some o) (hw : Region.wanted o (yielded ops a.tmps) = true) (m x y : Operand) (ho : o.op = .mapUpdate mt m x y) (b : Nat) (l : List (K × V)) (hm : a.eval m = .map (some b)) (hM : MapAt kC vC w b l) (q : K) (hx : a.eval x = kC q) (v : V) (hy : a.eval y = vC v)
    (h : ∀ es clock, MapAt kC vC (setBlock w b (.map es clock)) b (lset l q v) → K' (a.put o.dst undef) (setBlock w b (.map es clock))) : wpOp P ops Q i K' a w := by
  obtain ⟨es, clock, hrun, hM2⟩ := run_updateK T hM q v
  refine wpOp_of_wp hi hw ?_
  unfold Oper.wp execOp
  simp only [ho, hm, hx, hy, Sem.run_bind, hrun, Result.andThen_ok]
  exact h es clock hM2
/-- As RegI; of the last operation a fact. -/
structure RegF (w0 : World) (n : Nat) (Fin : World → Prop) (isO : Nat → Bool) (BL : Nat → List Int) (CV : Nat → Value) (listed : Array Bool) (vals : Nat → Value) (w' : World) : Prop where
  pre : listed.getD n false = false → RegI w0 isO BL CV listed vals w'
  fin : listed.getD n false = true → Fin w'
theorem RegF.start (w0 : World) (n m : Nat) (Fin : World → Prop) {isO : Nat → Bool} {BL : Nat → List Int} {CV : Nat → Value} : RegF w0 n Fin isO BL CV (Array.replicate m false) (fun _ => undef) w0.drew :=
  ⟨fun _ => RegI.start w0 m, fun h => absurd h (by rw [getD_replicate_false]; decide)⟩
theorem RegF.of {w0 : World} {n : Nat} {Fin : World → Prop} {isO : Nat → Bool} {BL : Nat → List Int} {CV : Nat → Value} {listed : Array Bool} {i : Nat} {w : World} {v : Nat → Value} (h : RegI w0 isO BL CV (listed.setIfInBounds i true) v w) (hn : listed.getD n false = false) (hi : i ≠ n) : RegF w0 n Fin isO BL CV (listed.setIfInBounds i true) v w :=
  ⟨fun _ => h, fun hl => by rw [getD_set_ne false hi, hn] at hl; cases hl⟩
theorem RegF.done {w0 w1 : World} {n : Nat} {Fin : World → Prop} {isO : Nat → Bool} {BL : Nat → List Int} {CV : Nat → Value} {listed : Array Bool} {v : Nat → Value} (h : Fin w1) (hs : n < listed.size) : RegF w0 n Fin isO BL CV (listed.setIfInBounds n true) v w1 :=
  ⟨fun hl => (by rw [getD_set_self listed n false hs] at hl; cases hl), fun _ => h⟩
end
end Go.Proofs.Ythplelglifnhoaa
