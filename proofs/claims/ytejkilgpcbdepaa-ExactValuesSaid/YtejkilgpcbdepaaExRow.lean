import Derived.Test.YtejkilgpcbdepaaExB
/-! Exact sums: rows that lie at the head of a block; the words of a finite number. -/
namespace Go.Proofs.Ytejkilgpcbdepaa
open Go.RowKit
set_option linter.unusedVariables false

theorem setCell_eq_setRow {w : World} {g k : Nat} {C : Array Value} {t : TypeId} {fr : Nat × Nat} (h : w.heap[g]? = some (.cells C t fr)) (v : Value) : w.setCell ⟨g, k, none⟩ v = w.setRow g (C.setIfInBounds k v) := by
  simp only [World.setRow, World.setCell]
  congr 1
  apply Array.ext_getElem?
  intro i
  rw [Array.getElem?_modify, Array.getElem?_modify]
  by_cases hi : g = i
  · subst hi
    simp [h]
  · simp [hi]
theorem setRow_setRow {w : World} {g : Nat} {C D : Array Value} : (w.setRow g C).setRow g D = w.setRow g D := by
  simp only [World.setRow]
  congr 1
  apply Array.ext_getElem?
  intro i
  rw [Array.getElem?_modify, Array.getElem?_modify, Array.getElem?_modify]
  by_cases hi : g = i
  · subst hi
    simp only [if_true, Option.map_map]
    congr 1
    funext o
    cases o <;> rfl
  · simp [hi]
/-- A row with a list written over it from o on. -/
def setMany (C : Array Value) (o : Nat) : List Value → Array Value
  | [] => C
  | v :: r => setMany (C.setIfInBounds o v) (o + 1) r
theorem setMany_size (L : List Value) : ∀ (C : Array Value) (o : Nat), (setMany C o L).size = C.size := by
  induction L with
  | nil => intro C o; rfl
  | cons v r ih => intro C o; rw [setMany, ih, Array.size_setIfInBounds]
theorem setMany_at (L : List Value) : ∀ (C : Array Value) (o i : Nat), o + L.length ≤ C.size → (setMany C o L)[i]? = if o ≤ i ∧ i < o + L.length then L[i - o]? else C[i]? := by
  induction L with
  | nil => intro C o i _; rw [if_neg (fun h => by have := h.1; have := h.2; rw [List.length_nil] at this; omega)]; rfl
  | cons v r ih =>
    intro C o i h
    rw [List.length_cons] at h
    rw [setMany, ih _ _ _ (by rw [Array.size_setIfInBounds]; omega), List.length_cons]
    by_cases h1 : o + 1 ≤ i ∧ i < o + 1 + r.length
    · rw [if_pos h1, if_pos (by omega)]
      obtain ⟨j, hj⟩ : ∃ j, i - o = j + 1 := ⟨i - o - 1, by omega⟩
      rw [hj, List.getElem?_cons_succ, show i - (o + 1) = j by omega]
    · rw [if_neg h1]
      by_cases h2 : i = o
      · subst h2
        rw [if_pos (by omega), Nat.sub_self, List.getElem?_cons_zero, Array.getElem?_setIfInBounds_self_of_lt (by omega)]
      · rw [if_neg (by omega), Array.getElem?_setIfInBounds_ne (by omega)]
theorem setCells_eq_setRow (L : List Value) : ∀ (w : World) (g o : Nat) (C : Array Value) (t : TypeId) (fr : Nat × Nat), w.heap[g]? = some (.cells C t fr) → L ≠ [] → w.setCells g o L = w.setRow g (setMany C o L) := by
  induction L with
  | nil => intro w g o C t fr _ h; exact absurd rfl h
  | cons v r ih =>
    intro w g o C t fr h _
    rw [World.setCells, setMany]
    by_cases hr : r = []
    · subst hr
      exact setCell_eq_setRow h v
    · rw [setCell_eq_setRow h, ih _ g (o + 1) _ t fr (setRow_heap _ _ _ _ _ _ h) hr, setRow_setRow]
theorem sumC_front (s : St) (N : Nat) : setMany (sumC s) 0 (ws N).toList = sumC { s with w := N } := by
  have hl : (ws N).toList.length = 35 := by rw [Array.length_toList, ws_size]
  apply Array.ext_getElem?
  intro i
  rw [setMany_at _ _ _ _ (by rw [hl, sumC_size]; omega), hl]
  by_cases h : 0 ≤ i ∧ i < 0 + 35
  · rw [if_pos h, sumC_w _ i (by omega), Nat.sub_zero, Array.getElem?_toList, ws_at _ _ (by omega)]
  · rw [if_neg h]
    obtain ⟨j, rfl⟩ : ∃ j, i = 35 + j := ⟨i - 35, by omega⟩
    rw [sumC_f, sumC_f]
section
variable {P : Program} {ops : Array Oper} {rest : List Oper} {o : Oper} {a : Act} {Q : Exit → Act → World → Prop}
theorem wpList_load_front (hgd : o.guard = none) (w : World) (ty : TypeId) (x : Operand) (ho : o.op = .load ty x) (g : Nat) (hx : a.eval x = .pointer (some ⟨g, 0, none⟩)) (C D : Array Value) (t : TypeId) (fr : Nat × Nat) (d : TypeDesc)
    (hg : w.heap[g]? = some (.cells C t fr)) (hD : ∀ i, i < D.size → C[i]? = D[i]?) (hu : P.underlying ty = some d) (hd : d.isRow = true) (hi : (P.info? ty).map (·.size) = some D.size)
    (h : wpList P ops Q rest (a.put o.dst (.agg D)) w) : wpList P ops Q (o :: rest) a w := by
  refine wpList_load_mid hgd ty x ho g 0 hx D.toList d (fun j v hv => ?_) hu hd (by rw [Array.length_toList]; exact hi) (by rw [Array.toArray_toList]; exact h)
  have hj : j < D.size := by
    rcases Nat.lt_or_ge j D.size with h | h
    · exact h
    · rw [List.getElem?_eq_none (by rw [Array.length_toList]; exact h)] at hv; cases hv
  rw [Nat.zero_add, cell_of_row _ _ j _ _ _ hg, hD j hj]
  simpa using hv
theorem wpList_store_front (hgd : o.guard = none) (w : World) (ty : TypeId) (x y : Operand) (ho : o.op = .store ty x y) (g : Nat) (D : Array Value) (hx : a.eval x = .pointer (some ⟨g, 0, none⟩)) (hy : a.eval y = .agg D) (C : Array Value) (t : TypeId)
    (hg : w.heap[g]? = some (.cells C t (0, 0))) (hDC : D.size ≤ C.size) (h0 : 0 < D.size) (hi : (P.info? ty).map (·.size) = some D.size) (h1 : D.all (·.oneCell') = true)
    (h : wpList P ops Q rest (a.put o.dst undef) (w.setRow g (setMany C 0 D.toList))) : wpList P ops Q (o :: rest) a w := by
  refine wpList_store_mid hgd ty x y ho g 0 D hx hy (fun j hj => ⟨?_, frozen_of_row hg _⟩) hi h1 ?_
  · rw [cell_of_row _ _ _ _ _ _ hg, Nat.zero_add, Array.getElem?_eq_getElem (by omega)]; rfl
  · rw [setCells_eq_setRow _ _ _ _ _ _ _ hg (by
      intro e
      have := congrArg List.length e
      rw [Array.length_toList] at this
      have h2 : D.size = 0 := this
      omega)]
    exact h
end
theorem wdn_shift_lo (m k i : Nat) (h : 64 * (i + 1) ≤ k) : wdn (m * 2 ^ k) i = 0 := by
  unfold wdn
  have e : m * 2 ^ k = m * 2 ^ (k - 64 * (i + 1)) * 18446744073709551616 * 2 ^ (64 * i) := by
    rw [Nat.mul_assoc, Nat.mul_assoc, show (18446744073709551616 : Nat) = 2 ^ 64 from rfl, ← Nat.pow_add, ← Nat.pow_add]
    congr 2; omega
  rw [e, Nat.mul_div_cancel _ (Nat.two_pow_pos _), Nat.mul_mod_left]
theorem wdn_shift_at (m k q r : Nat) (h : k = 64 * q + r) : wdn (m * 2 ^ k) q = m * 2 ^ r % 18446744073709551616 := by
  unfold wdn
  rw [h, Nat.pow_add, show m * (2 ^ (64 * q) * 2 ^ r) = m * 2 ^ r * 2 ^ (64 * q) by rw [Nat.mul_comm (2 ^ (64 * q)), Nat.mul_assoc], Nat.mul_div_cancel _ (Nat.two_pow_pos _)]
theorem wdn_shift_next (m k q r : Nat) (h : k = 64 * q + r) (hr : r < 64) (hm : m < 18446744073709551616) : wdn (m * 2 ^ k) (q + 1) = m / 2 ^ (64 - r) := by
  unfold wdn
  have hlt : m / 2 ^ (64 - r) < 18446744073709551616 := Nat.lt_of_le_of_lt (Nat.div_le_self _ _) hm
  rw [pow_step, ← Nat.div_div_eq_div_mul, h, Nat.pow_add, show m * (2 ^ (64 * q) * 2 ^ r) = m * 2 ^ r * 2 ^ (64 * q) by rw [Nat.mul_comm (2 ^ (64 * q)), Nat.mul_assoc], Nat.mul_div_cancel _ (Nat.two_pow_pos _)]
  rw [show (18446744073709551616 : Nat) = 2 ^ (64 - r) * 2 ^ r by rw [← Nat.pow_add, show 64 - r + r = 64 by omega], Nat.mul_div_mul_right _ _ (Nat.two_pow_pos _)]
  rw [← Nat.pow_add, show 64 - r + r = 64 by omega]
  exact Nat.mod_eq_of_lt hlt
theorem wdn_shift_hi (m k q r i : Nat) (h : k = 64 * q + r) (hr : r < 64) (hm : m < 18446744073709551616) (hi : q + 2 ≤ i) : wdn (m * 2 ^ k) i = 0 := by
  unfold wdn
  have : m * 2 ^ k < 2 ^ (64 * i) := by
    have h1 : m * 2 ^ k < 2 ^ 64 * 2 ^ k := Nat.mul_lt_mul_of_pos_right hm (Nat.two_pow_pos _)
    rw [← Nat.pow_add] at h1
    exact Nat.lt_of_lt_of_le h1 (Nat.pow_le_pow_right (by omega) (by omega))
  rw [Nat.div_eq_of_lt this]
theorem wsB (m k q r : Nat) (h : k = 64 * q + r) (hr : r < 64) (hm : m < 18446744073709551616) (hq : q ≤ 31) :
    ((ws 0).setIfInBounds q (.int .u64 (IntKind.u64.wrap ((m : Int) * 2 ^ r)))).setIfInBounds (q + 1) (.int .u64 ((m : Int) / 2 ^ (64 - r))) = ws (m * 2 ^ k) := by
  have e1 : IntKind.u64.wrap ((m : Int) * 2 ^ r) = ((m * 2 ^ r % 18446744073709551616 : Nat) : Int) := by rw [IntKind.wrap_u64]; simp
  have e2 : (m : Int) / 2 ^ (64 - r) = ((m / 2 ^ (64 - r) : Nat) : Int) := by simp
  rw [e1, e2]
  apply Array.ext_getElem?
  intro i
  by_cases hi : i < 35
  · rw [ws_at _ _ hi]
    by_cases h1 : i = q + 1
    · subst h1
      rw [Array.getElem?_setIfInBounds_self_of_lt (by rw [Array.size_setIfInBounds, ws_size]; omega)]
      unfold wdv
      rw [wdn_shift_next m k q r h hr hm]
    · rw [Array.getElem?_setIfInBounds_ne (by omega)]
      by_cases h2 : i = q
      · subst h2
        rw [Array.getElem?_setIfInBounds_self_of_lt (by rw [ws_size]; omega)]
        unfold wdv
        rw [wdn_shift_at m k i r h]
      · rw [Array.getElem?_setIfInBounds_ne (by omega), ws_at _ _ hi]
        unfold wdv
        have : wdn 0 i = 0 := by simp [wdn]
        rw [this]
        rcases Nat.lt_or_ge i q with h3 | h3
        · rw [wdn_shift_lo m k i (by omega)]
        · rw [wdn_shift_hi m k q r i h hr hm (by omega)]
  · rw [Array.getElem?_eq_none (by simp [ws_size]; omega), Array.getElem?_eq_none (by rw [ws_size]; omega)]
end Go.Proofs.Ytejkilgpcbdepaa
