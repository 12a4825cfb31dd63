import Derived.Test.YthplelglifnhoaaWc
import Derived.Test.YthplelglifnhoaaAh
/-! How groups lie; a value put into them. -/
namespace Go.Proofs.Ythplelglifnhoaa
open Go.Shelf Go.RowKit Go.Lib Go.Sort
set_option linter.unusedVariables false
set_option linter.unusedSimpArgs false
attribute [-simp] Try.isAgg47 Try.sizeOf47 Try.typeInfo47 Try.type47
attribute [-simp] Try.isAgg45 Try.sizeOf45 Try.typeInfo45 Try.type45
attribute [-simp] Try.isAgg36 Try.sizeOf36 Try.typeInfo36 Try.type36
attribute [-simp] Try.isAgg40 Try.sizeOf40 Try.typeInfo40 Try.type40
attribute [-simp] Try.isAgg28 Try.sizeOf28 Try.typeInfo28 Try.type28

instance : Inhabited Gr := ⟨⟨⟨⟨#[]⟩, 0, 0⟩, []⟩⟩
def grS (nm : Nm) (C : Array Value) : List Value := .string nm.key :: .int .i64 nm.s :: .int .i64 nm.e :: C.toList
def grL (g : Gr) : List Value := grS g.nm (asC (asOf g.xs))
theorem grL_len (g : Gr) : (grL g).length = 46 := by
  unfold grL grS
  simp only [List.length_cons, Array.length_toList, asC_size]
theorem grL_one (g : Gr) : ∀ v ∈ grL g, v.oneCell' = true := fun v hv => by
  unfold grL grS at hv
  simp only [List.mem_cons] at hv
  rcases hv with rfl | rfl | rfl | hv
  · rfl
  · rfl
  · rfl
  · have := asC_one (asOf g.xs)
    rw [Array.all_eq_true] at this
    obtain ⟨i, hi, he⟩ := List.getElem_of_mem hv
    rw [Array.length_toList] at hi
    have := this i hi
    rw [← he]
    simpa using this
set_option maxRecDepth 100000 in
theorem encGr : Enc Try.prog 47 grL 46 344 where
  pos := by decide
  len := grL_len
  one := grL_one
  info := ⟨_, _, rfl, rfl, rfl, rfl, rfl⟩
set_option maxRecDepth 100000 in
theorem sizeGr : (Try.prog.info? 47).map (·.size) = some 46 := by kernel_rfl

/-- A part of an element written over. -/
theorem OwnE.setIn {α : Type} {P : Program} {enc : α → List Value} {k bytes : Nat} {e : TypeId} (E : Enc P e enc k bytes) {w : World} {base g n cap : Nat} {l : List α} (h : OwnE w base e k enc (.slice (some ⟨g, 0, none⟩) n cap) l) {C : Array Value} (hg : w.heap[g]? = some (.cells C e (0, 0)))
    {i : Nat} {x y : α} (hx : l[i]? = some x) (o : Nat) (D : List Value) (hD : o + D.length ≤ k) (hy : ∀ c, c < k → (enc y)[c]? = if o ≤ c ∧ c < o + D.length then D[c - o]? else (enc x)[c]?) :
    OwnE (w.setRow g (setMany C (i * k + o) D)) base e k enc (.slice (some ⟨g, 0, none⟩) n cap) (l.set i y) ∧ w.grownBy (w.setRow g (setMany C (i * k + o) D)) (some g) := by
  rcases h.2 with ⟨h0, _⟩ | ⟨g2, cap2, cur, h1, hb, hg2, hn, hm, hs, ht⟩
  · cases h0
  · injection h1 with h1 h2 h3
    injection h1 with h1
    injection h1 with h1
    subst h1 h3
    rw [hg] at hg2
    injection hg2 with hg2
    injection hg2 with hg2 _ _
    subst hg2
    have hil := (List.getElem?_eq_some_iff.1 hx).1
    have hkb : ∀ q, q < l.length → q * k + k ≤ l.length * k := fun q hq => by
      have := Nat.mul_le_mul_right k (show q + 1 ≤ l.length from hq); rwa [Nat.add_mul, Nat.one_mul] at this
    have hcs : l.length * k ≤ C.size := by rw [hs]; exact Nat.mul_le_mul_right k hn
    have hib := hkb i hil
    refine ⟨⟨by rw [E.flat], .inr ⟨g, cap, _, by rw [List.length_set, h2], hb, setRow_heap _ _ _ _ _ _ hg, by rw [List.length_set]; exact hn, hm, by rw [setMany_size]; exact hs, ?_⟩⟩, ⟨rfl, rfl, rfl, ?_, fun j hj hne => setRow_other w g j _ (fun q => hne (by rw [q]))⟩⟩
    · apply List.ext_getElem?
      intro t
      have hl := E.flat (l.set i y)
      rw [List.length_set] at hl ⊢
      rw [List.getElem?_take]
      by_cases htt : t < l.length * k
      · rw [if_pos htt, Array.getElem?_toList, setMany_at _ _ _ _ (by omega)]
        have hp := E.pos
        have hq : t / k < l.length := (Nat.div_lt_iff_lt_mul hp).2 htt
        have hc : t % k < k := Nat.mod_lt _ hp
        have e1 : t / k * k + t % k = t := by rw [Nat.mul_comm]; exact Nat.div_add_mod t k
        have hCt : C[t]? = (l.flatMap enc)[t]? := by
          have : (List.take (l.length * k) C.toList)[t]? = (l.flatMap enc)[t]? := by rw [ht]
          rwa [List.getElem?_take, if_pos htt, Array.getElem?_toList] at this
        rw [hCt]
        by_cases c1 : t / k = i
        · have h3 := E.at_ (l.set i y) i y (by rw [List.getElem?_set, if_pos rfl, if_pos hil]) (t % k) hc
          have h4 := E.at_ l i x hx (t % k) hc
          rw [c1] at e1
          rw [e1] at h3 h4
          rw [h3, h4, hy _ hc]
          by_cases c2 : o ≤ t % k ∧ t % k < o + D.length
          · rw [if_pos c2, if_pos (by omega), show t - (i * k + o) = t % k - o by omega]
          · rw [if_neg c2, if_neg (by omega)]
        · have h3 := E.at_ (l.set i y) (t / k) l[t / k] (by rw [List.getElem?_set, if_neg (Ne.symm c1)]; exact List.getElem?_eq_getElem hq) (t % k) hc
          have h4 := E.at_ l (t / k) l[t / k] (List.getElem?_eq_getElem hq) (t % k) hc
          rw [e1] at h3 h4
          rw [h3, h4, if_neg]
          rcases Nat.lt_or_gt_of_ne c1 with c | c
          · have := Nat.mul_le_mul_right k (show t / k + 1 ≤ i from c)
            rw [Nat.add_mul, Nat.one_mul] at this
            omega
          · have := Nat.mul_le_mul_right k (show i + 1 ≤ t / k from c)
            rw [Nat.add_mul, Nat.one_mul] at this
            omega
      · rw [if_neg htt, List.getElem?_eq_none (by rw [hl]; omega)]
    · rw [setRow_size]; exact Nat.le_refl _
section
variable {P : Program} {ops : Array Oper} {o : Oper} {a : Act} {w : World} {K : Act → World → Prop} {Q : Exit → Act → World → Prop} {F : Prop}
theorem step_wp (hgd : o.guard = none) (h : o.wp P a w K Q) : if Region.wanted o (yielded ops a.tmps) = true then Oper.wp P o a w K Q else F := by
  have hw : Region.wanted o (yielded ops a.tmps) = true := by simp [Region.wanted, hgd]
  rw [if_pos hw]; exact h
theorem step_built (t : TypeId) (parts : Array (Nat × Operand)) (ho : o.op = .build t parts) (hgd : o.guard = none) (cells : Array Value) (hf : P.built t (parts.map fun (i, x) => (i, a.eval x)).toList = some cells)
    (h : K (a.put o.dst (.agg cells)) w) : if Region.wanted o (yielded ops a.tmps) = true then Oper.wp P o a w K Q else F :=
  step_wp hgd (wp_build t parts ho (by rw [hf]; rfl) (by rw [hf]; exact h))
variable {α : Type} {enc : α → List Value} {k bytes : Nat} {e : TypeId}
theorem step_buildOne (E : Enc P e enc k bytes) (hk : k ≤ 1000) (t : TypeId) (x : Operand) (ho : o.op = .buildSlice t 1 #[(0, x)]) (hgd : o.guard = none) (N : Nat) (hN : w.heap.size = N)
    (ht : P.underlying t = some (.slice e)) (y : α) (hx : a.eval x = .agg (enc y).toArray)
    (h : K (a.put o.dst (.slice (some ⟨N, 0, none⟩) 1 1)) (w.alloc (.cells (enc y).toArray e))) : if Region.wanted o (yielded ops a.tmps) = true then Oper.wp P o a w K Q else F := by
  subst hN
  obtain ⟨i, z, hi, hz, hs, hb, hzs⟩ := E.info
  have hp := E.pos
  refine step_wp hgd (wp_buildSlice t e 1 #[(0, x)] ho (enc y).toArray i z ht hi hz (by rw [hs]; omega) (by rw [hs]; omega) ?_ h)
  rw [hs]
  simp only [List.map_toArray, List.map_cons, List.map_nil, hx]
  have hc : (Value.agg (enc y).toArray).cells = (enc y).toArray := rfl
  have hl : (enc y).toArray.size = k := by rw [List.size_toArray, E.len]
  rw [fill_step _ _ _ (.agg (enc y).toArray) _ 0 k (by simp) hl (by rw [hc, hl]; simp), Instr.fill, hc, lay_whole _ _ (by rw [hl]; simp)]
theorem step_appendE (E : Enc P e enc k bytes) (s x : Operand) (t : TypeId) (ho : o.op = .call { callee := .builtin .append, args := #[s, x], argTypes := #[t, t] }) (hgd : o.guard = none)
    (base : Nat) (ht : P.underlying t = some (.slice e)) (v : Value) (xs : List α) (hs : a.eval s = v) (hown : OwnE w base e k enc v xs) (A : Option Addr) (c : Nat) (ys : List α) (hx : a.eval x = .slice A ys.length c) (hy : RowsAt w enc A ys)
    (hl : xs.length + ys.length ≤ maxLen) (hbytes : (xs.length + ys.length) * bytes ≤ 140737488355328) (hbase : base ≤ w.heap.size)
    (h : ∀ v' w', OwnE w' base e k enc v' (xs ++ ys) → w.grownBy w' v.ownBlock → (v'.ownBlock = v.ownBlock ∨ v'.ownBlock = some w.heap.size) → K (a.put o.dst v') w') : if Region.wanted o (yielded ops a.tmps) = true then Oper.wp P o a w K Q else F := by
  obtain ⟨v', w', hrun, h2, h3, h4⟩ := run_appendE E w base t o.type ht v xs hown A c ys hy hl hbytes hbase
  refine step_wp hgd ?_
  unfold Oper.wp execOp
  simp only [ho, resolve, invoke, builtin, Sem.run_bind, Sem.run_pure, Result.andThen_ok, List.map_toArray, List.map_cons, List.map_nil, hs, hx, hrun]
  exact h v' w' h2 h3 h4
theorem step_load_mid (ty : TypeId) (x : Operand) (ho : o.op = .load ty x) (hgd : o.guard = none)
    (b off : Nat) (hx : a.eval x = .pointer (some ⟨b, off, none⟩)) (cs : List Value) (d : TypeDesc) (hc : w.rangeAt b off cs)
    (hu : P.underlying ty = some d) (hd : d.isRow = true) (hi : (P.info? ty).map (·.size) = some cs.length)
    (h : K (a.put o.dst (.agg cs.toArray)) w) : if Region.wanted o (yielded ops a.tmps) = true then Oper.wp P o a w K Q else F :=
  step_wp hgd (wp_load_mid ty x ho b off hx cs d hc hu hd hi h)
theorem step_store_in (ty : TypeId) (x y : Operand) (ho : o.op = .store ty x y) (hgd : o.guard = none) (g q : Nat) (D : Array Value) (hx : a.eval x = .pointer (some ⟨g, q, none⟩)) (hy : a.eval y = .agg D) (C : Array Value) (t : TypeId)
    (hg : w.heap[g]? = some (.cells C t (0, 0))) (hDC : q + D.size ≤ C.size) (h0 : 0 < D.size) (hi : (P.info? ty).map (·.size) = some D.size) (h1 : D.all (·.oneCell') = true)
    (h : K (a.put o.dst undef) (w.setRow g (setMany C q D.toList))) : if Region.wanted o (yielded ops a.tmps) = true then Oper.wp P o a w K Q else F := by
  refine step_wp hgd (wp_store_mid ty x y ho g q D hx hy (fun j hj => ⟨?_, frozen_of_row hg _⟩) hi h1 ?_)
  · rw [cell_of_row _ _ _ _ _ _ hg, Array.getElem?_eq_getElem (by omega)]; rfl
  · rw [setCells_eq_setRow _ _ _ _ _ _ _ hg (by
      intro e
      have := congrArg List.length e
      rw [Array.length_toList] at this
      have h2 : D.size = 0 := this
      omega)]
    exact h
theorem wp_buildOne (E : Enc P e enc k bytes) (hk : k ≤ 1000) (t : TypeId) (x : Operand) (ho : o.op = .buildSlice t 1 #[(0, x)])
    (ht : P.underlying t = some (.slice e)) (y : α) (hx : a.eval x = .agg (enc y).toArray)
    (h : K (a.put o.dst (.slice (some ⟨w.heap.size, 0, none⟩) 1 1)) (w.alloc (.cells (enc y).toArray e))) : o.wp P a w K Q := by
  obtain ⟨i, z, hi, hz, hs, hb, hzs⟩ := E.info
  have hp := E.pos
  refine wp_buildSlice t e 1 #[(0, x)] ho (enc y).toArray i z ht hi hz (by rw [hs]; omega) (by rw [hs]; omega) ?_ h
  rw [hs]
  simp only [List.map_toArray, List.map_cons, List.map_nil, hx]
  have hc : (Value.agg (enc y).toArray).cells = (enc y).toArray := rfl
  have hl : (enc y).toArray.size = k := by rw [List.size_toArray, E.len]
  rw [fill_step _ _ _ (.agg (enc y).toArray) _ 0 k (by simp) hl (by rw [hc, hl]; simp), Instr.fill, hc, lay_whole _ _ (by rw [hl]; simp)]
theorem wp_appendE (E : Enc P e enc k bytes) (s x : Operand) (t : TypeId) (ho : o.op = .call { callee := .builtin .append, args := #[s, x], argTypes := #[t, t] })
    (base : Nat) (ht : P.underlying t = some (.slice e)) (v : Value) (xs : List α) (hs : a.eval s = v) (hown : OwnE w base e k enc v xs) (A : Option Addr) (c : Nat) (ys : List α) (hx : a.eval x = .slice A ys.length c) (hy : RowsAt w enc A ys)
    (hl : xs.length + ys.length ≤ maxLen) (hbytes : (xs.length + ys.length) * bytes ≤ 140737488355328) (hbase : base ≤ w.heap.size)
    (h : ∀ v' w', OwnE w' base e k enc v' (xs ++ ys) → w.grownBy w' v.ownBlock → (v'.ownBlock = v.ownBlock ∨ v'.ownBlock = some w.heap.size) → K (a.put o.dst v') w') : o.wp P a w K Q := by
  obtain ⟨v', w', hrun, h2, h3, h4⟩ := run_appendE E w base t o.type ht v xs hown A c ys hy hl hbytes hbase
  unfold Oper.wp execOp
  simp only [ho, resolve, invoke, builtin, Sem.run_bind, Sem.run_pure, Result.andThen_ok, List.map_toArray, List.map_cons, List.map_nil, hs, hx, hrun]
  exact h v' w' h2 h3 h4
theorem grown_of {w wa wb : World} {row : Option Nat} (b : Below w.heap.size w wa) (g : wa.grownBy wb row) : w.grownBy wb row :=
  ⟨g.os.trans b.os, g.tape.trans b.tape, g.output.trans b.output, Nat.le_trans b.size g.size, fun i hi hne => (g.block i (Nat.lt_of_lt_of_le hi b.size) hne).trans (b.block i hi)⟩
theorem OwnE.row {α : Type} {P : Program} {enc : α → List Value} {k bytes : Nat} {e : TypeId} (E : Enc P e enc k bytes) {w : World} {base g n cap : Nat} {l : List α} (h : OwnE w base e k enc (.slice (some ⟨g, 0, none⟩) n cap) l) {i : Nat} {x : α} (hi : l[i]? = some x) :
    w.rangeAt g (i * k) (enc x) ∧ ∃ C, w.heap[g]? = some (.cells C e (0, 0)) ∧ i * k + k ≤ C.size ∧ g < w.heap.size := by
  rcases h.2 with ⟨h0, _⟩ | ⟨g2, cap2, cur, h1, hb, hg2, hn, hm, hs, ht⟩
  · cases h0
  · injection h1 with h1 h2 h3
    injection h1 with h1
    injection h1 with h1
    subst h1
    have hil := (List.getElem?_eq_some_iff.1 hi).1
    have hkb : i * k + k ≤ l.length * k := by have := Nat.mul_le_mul_right k (show i + 1 ≤ l.length from hil); rwa [Nat.add_mul, Nat.one_mul] at this
    have hcs : l.length * k ≤ cur.size := by rw [hs]; exact Nat.mul_le_mul_right k hn
    refine ⟨fun j v hj => ?_, cur, hg2, Nat.le_trans hkb hcs, heap_lt hg2⟩
    have hjk : j < k := by have := (List.getElem?_eq_some_iff.1 hj).1; rwa [E.len] at this
    rw [cell_of_row _ _ _ _ _ _ hg2, ← Array.getElem?_toList]
    have e1 : (List.take (l.length * k) cur.toList)[i * k + j]? = (l.flatMap enc)[i * k + j]? := by rw [ht]
    rw [List.getElem?_take, if_pos (by omega)] at e1
    rw [e1, E.at_ l i x hi j hjk]; exact hj
theorem rangeAt_drop {w : World} {g off m : Nat} {A B : List Value} (h : w.rangeAt g off (A ++ B)) (hm : A.length = m) : w.rangeAt g (off + m) B := fun j v hj => by
  have := h (m + j) v (by rw [List.getElem?_append_right (by omega), ← hm, Nat.add_sub_cancel_left]; exact hj)
  rwa [← Nat.add_assoc] at this
end
/-- A region that draws its order and ends by a row made, put behind a slice, and the slice handed on: operations n, n + 1, n + 2. -/
structure RegT (w0 : World) (n : Nat) (row : Obj) (Fin : Value → World → Prop) (isO : Nat → Bool) (BL : Nat → List Int) (CV : Nat → Value) (listed : Array Bool) (vals : Nat → Value) (w' : World) : Prop where
  pre : listed.getD n false = false → RegI w0 isO BL CV listed vals w'
  mid : listed.getD n false = true → listed.getD (n + 1) false = false → (∀ j, j < n → listed.getD j false = true → vals j = CV j) ∧ ∃ wq, Below w0.heap.size w0 wq ∧ w' = wq.alloc row ∧ vals n = .slice (some ⟨wq.heap.size, 0, none⟩) 1 1
  fin : listed.getD (n + 1) false = true → Fin (vals (n + 1)) w'
  asg : listed.getD (n + 2) false = true → vals (n + 2) = vals (n + 1)
section
variable {w0 w : World} {n : Nat} {row : Obj} {Fin : Value → World → Prop} {isO : Nat → Bool} {BL : Nat → List Int} {CV vals v : Nat → Value} {listed : Array Bool}
theorem RegT.start (w0 : World) (n m : Nat) (row : Obj) (Fin : Value → World → Prop) : RegT w0 n row Fin isO BL CV (Array.replicate m false) (fun _ => undef) w0.drew :=
  ⟨fun _ => RegI.start w0 m, fun h => absurd h (by rw [getD_replicate_false]; decide), fun h => absurd h (by rw [getD_replicate_false]; decide), fun h => absurd h (by rw [getD_replicate_false]; decide)⟩
theorem RegT.of {i : Nat} (h : RegI w0 isO BL CV (listed.setIfInBounds i true) v w) (h0 : listed.getD n false = false) (i0 : i ≠ n) (h1 : listed.getD (n + 1) false = false) (i1 : i ≠ n + 1) (h2 : listed.getD (n + 2) false = false) (i2 : i ≠ n + 2) :
    RegT w0 n row Fin isO BL CV (listed.setIfInBounds i true) v w :=
  ⟨fun _ => h, fun q => absurd q (by rw [getD_set_ne false i0, h0]; decide), fun q => absurd q (by rw [getD_set_ne false i1, h1]; decide), fun q => absurd q (by rw [getD_set_ne false i2, h2]; decide)⟩
theorem RegT.midkeep (h : RegT w0 n row Fin isO BL CV listed vals w) (h0 : listed.getD n false = true) (h1 : listed.getD (n + 1) false = false) (h2 : listed.getD (n + 2) false = false) (i : Nat) (hi : i < n) :
    RegT w0 n row Fin isO BL CV (listed.setIfInBounds i true) (upd vals i (CV i)) w := by
  obtain ⟨hv, wq, hb, hw, he⟩ := h.mid h0 h1
  refine ⟨fun q => absurd q (by rw [getD_set_ne false (by omega), h0]; decide), fun _ _ => ⟨fun j hj hl => ?_, wq, hb, hw, ?_⟩, fun q => absurd q (by rw [getD_set_ne false (by omega), h1]; decide), fun q => absurd q (by rw [getD_set_ne false (by omega), h2]; decide)⟩
  · by_cases e : i = j
    · subst e; simp [upd]
    · rw [getD_set_ne false e] at hl
      have : upd vals i (CV i) j = vals j := by simp [upd, Ne.symm e]
      rw [this]; exact hv j hj hl
  · have : upd vals i (CV i) n = vals n := by simp [upd, show n ≠ i by omega]
    rw [this]; exact he
theorem RegT.build (h : RegI w0 isO BL CV listed vals w) (hO : ∀ j, isO j = false) (h1 : listed.getD (n + 1) false = false) (h2 : listed.getD (n + 2) false = false) (hs : n < listed.size) :
    RegT w0 n row Fin isO BL CV (listed.setIfInBounds n true) (upd vals n (.slice (some ⟨w.heap.size, 0, none⟩) 1 1)) (w.alloc row) := by
  refine ⟨fun q => absurd q (by rw [getD_set_self listed n false hs]; decide), fun _ _ => ⟨fun j hj hl => ?_, w, h.b, rfl, by simp [upd]⟩, fun q => absurd q (by rw [getD_set_ne false (by omega), h1]; decide), fun q => absurd q (by rw [getD_set_ne false (by omega), h2]; decide)⟩
  rw [getD_set_ne false (by omega)] at hl
  have : upd vals n (.slice (some ⟨w.heap.size, 0, none⟩) 1 1) j = vals j := by simp [upd, show j ≠ n by omega]
  rw [this]; exact h.val j (hO j) hl
theorem RegT.app {v' : Value} (hf : Fin v' w) (h0 : listed.getD n false = true) (h2 : listed.getD (n + 2) false = false) (hs : n + 1 < listed.size) : RegT w0 n row Fin isO BL CV (listed.setIfInBounds (n + 1) true) (upd vals (n + 1) v') w :=
  ⟨fun q => absurd q (by rw [getD_set_ne false (by omega), h0]; decide), fun _ q => absurd q (by rw [getD_set_self listed (n + 1) false hs]; decide), fun _ => by simpa [upd] using hf, fun q => absurd q (by rw [getD_set_ne false (by omega), h2]; decide)⟩
theorem RegT.assign (h : RegT w0 n row Fin isO BL CV listed vals w) (h0 : listed.getD n false = true) (h1 : listed.getD (n + 1) false = true) : RegT w0 n row Fin isO BL CV (listed.setIfInBounds (n + 2) true) (upd vals (n + 2) (vals (n + 1))) w :=
  ⟨fun q => absurd q (by rw [getD_set_ne false (by omega), h0]; decide), fun _ q => absurd q (by rw [getD_set_ne false (by omega), h1]; decide), fun _ => by have := h.fin h1; simpa [upd] using this, fun _ => by simp [upd]⟩
end
end Go.Proofs.Ythplelglifnhoaa
