import Derived.Test.YtgpfoamhcoipgaaDoorLd
/-! The ledger's Len, All, View. -/
namespace Go.Proofs.YtgpfoamhcoipgaaDoor
open Go.RowKit Go.Sort Go.ChangeMaps
set_option linter.unusedVariables false
attribute [-simp] Tryd.isAgg34 Tryd.sizeOf34 Tryd.typeInfo34 Tryd.type34
attribute [-simp] Tryd.isAgg40 Tryd.sizeOf40 Tryd.typeInfo40 Tryd.type40
attribute [-simp] Tryd.isAgg38 Tryd.sizeOf38 Tryd.typeInfo38 Tryd.type38
attribute [-simp] Tryd.isAgg43 Tryd.sizeOf43 Tryd.typeInfo43 Tryd.type43
attribute [-simp] Tryd.isAgg65 Tryd.sizeOf65 Tryd.typeInfo65 Tryd.type65
attribute [-simp] Tryd.isAgg67 Tryd.sizeOf67 Tryd.typeInfo67 Tryd.type67

theorem layP (z : Array Value) (hz : z.size = 8) (b : Value) (W C : Array Value) (hW : W.size = 2) (hC : C.size = 5) (i : Nat) :
    (lay C (lay W (lay #[b] z 0) 1) 3)[i]? = (#[b] ++ W ++ C)[i]? := by
  have s1 : (lay #[b] z 0).size = 8 := by rw [lay_size _ _ _ (by rw [hz]; exact of_decide_eq_true rfl), hz]
  have s2 : (lay W (lay #[b] z 0) 1).size = 8 := by rw [lay_size _ _ _ (by rw [s1, hW]; decide), s1]
  rw [lay_at _ _ _ _ (by rw [s2, hC]; decide), lay_at _ _ _ _ (by rw [s1, hW]; decide), lay_at _ _ _ _ (by rw [hz]; exact of_decide_eq_true rfl), hC, hW]
  have e2 : (#[b] : Array Value).size = 1 := rfl
  have e3 : (#[b] ++ W).size = 3 := by rw [Array.size_append, e2, hW]
  rw [e2, Array.getElem?_append, e3, Array.getElem?_append, e2]
  by_cases h3 : i < 3
  · rw [if_neg (show ¬(3 ≤ i ∧ i < 3 + 5) by omega), if_pos h3]
    by_cases h1 : i < 1
    · rw [if_neg (show ¬(1 ≤ i ∧ i < 1 + 2) by omega), if_pos (show 0 ≤ i ∧ i < 0 + 1 by omega), if_pos h1]; rfl
    · rw [if_pos (show 1 ≤ i ∧ i < 1 + 2 by omega), if_neg h1]
  · by_cases h8 : i < 8
    · rw [if_pos (show 3 ≤ i ∧ i < 3 + 5 by omega), if_neg h3]
    · rw [if_neg (show ¬(3 ≤ i ∧ i < 3 + 5) by omega), if_neg (show ¬(1 ≤ i ∧ i < 1 + 2) by omega), if_neg (show ¬(0 ≤ i ∧ i < 0 + 1) by omega), if_neg h3, Array.getElem?_eq_none (by rw [hz]; omega), Array.getElem?_eq_none (by rw [hC]; omega)]
set_option maxRecDepth 100000 in
theorem built_pane0 (b : Value) (hb : b.cells = #[b]) (W C : Array Value) (hW : W.size = 2) (hC : C.size = 5) : Tryd.prog.built 40 [(0, b), (1, .agg W), (2, .agg C)] = some (#[b] ++ W ++ C) := by
  rw [built_of 40 Tryd.t40 (paneL default).toArray _ [(0, 1), (1, 2), (3, 5)] (by kernel_rfl) (by kernel_rfl) Tryd.underlying40 (by kernel_rfl)]
  have hz : (paneL default).toArray.size = 8 := rfl
  generalize (paneL default).toArray = z at *
  have s1 : (lay #[b] z 0).size = 8 := by rw [lay_size _ _ _ (by rw [hz]; exact of_decide_eq_true rfl), hz]
  have s2 : (lay W (lay #[b] z 0) 1).size = 8 := by rw [lay_size _ _ _ (by rw [s1, hW]; decide), s1]
  rw [fill_step _ _ _ _ _ 0 1 rfl (by rw [hb]; rfl) (by rw [hb, hz]; exact of_decide_eq_true rfl), hb, fill_step _ _ _ (.agg W) _ 1 2 rfl hW (by show 1 + W.size ≤ (lay #[b] z 0).size; rw [s1, hW]; decide),
    fill_step _ _ _ (.agg C) _ 3 5 rfl hC (by show 3 + C.size ≤ (lay W (lay #[b] z 0) 1).size; rw [s2, hC]; decide), Instr.fill]
  congr 1
  exact Array.ext_getElem? (layP z hz _ W C hW hC)
theorem built_pane (x : Nm) (a : AV) : Tryd.prog.built 40 [(0, .string x.key), (1, .agg #[.int .i64 x.s, .int .i64 x.e]), (2, .agg (avC a))] = some (paneL ⟨x, a⟩).toArray := (built_pane0 (.string x.key) rfl #[.int .i64 x.s, .int .i64 x.e] (avC a) rfl rfl).trans rfl
/-- The panes that are there, of a ledger's entries. -/
def liveOf (l : List (Nm × Std)) : List Pn := l.filterMap fun p => if p.2.live = true then some ⟨p.1, p.2.a⟩ else none
theorem liveOf_app (A B : List (Nm × Std)) : liveOf (A ++ B) = liveOf A ++ liveOf B := List.filterMap_append
theorem liveOf_cons (p : Nm × Std) (B : List (Nm × Std)) : liveOf (p :: B) = if p.2.live = true then ⟨p.1, p.2.a⟩ :: liveOf B else liveOf B := by
  unfold liveOf
  rw [List.filterMap_cons]
  by_cases h : p.2.live = true
  · simp [h]
  · simp [h]
theorem liveOf_mem {l : List (Nm × Std)} {x : Pn} : x ∈ liveOf l ↔ ∃ p ∈ l, p.2.live = true ∧ x = ⟨p.1, p.2.a⟩ := by
  unfold liveOf
  rw [List.mem_filterMap]
  constructor
  · rintro ⟨p, hp, h⟩
    by_cases hl : p.2.live = true
    · rw [if_pos hl] at h
      injection h with h
      exact ⟨p, hp, hl, h.symm⟩
    · rw [if_neg hl] at h; cases h
  · rintro ⟨p, hp, hl, rfl⟩
    exact ⟨p, hp, by rw [if_pos hl]⟩
theorem liveOf_names (l : List (Nm × Std)) : ((liveOf l).map (·.nm)).Sublist (l.map (·.1)) := by
  induction l with
  | nil => exact List.Sublist.slnil
  | cons p l ih =>
    rw [liveOf_cons, List.map_cons]
    split
    · rw [List.map_cons]; exact ih.cons_cons _
    · exact ih.cons _
theorem lget_some_mem {K V : Type} [DecidableEq K] {l : List (K × V)} {k : K} {v : V} (h : lget l k = some v) : (k, v) ∈ l := by
  induction l with
  | nil => cases h
  | cons p l ih =>
    rw [lget_cons] at h
    by_cases hk : k = p.1
    · rw [if_pos hk] at h
      injection h with h
      subst hk h
      exact List.mem_cons_self
    · rw [if_neg hk] at h
      exact List.mem_cons_of_mem _ (ih h)
/-- What View tells. -/
structure ViewIs (f : Nm → Std) (vs : List Pn) : Prop where
  mem : ∀ x, x ∈ vs ↔ (f x.nm).live = true ∧ x.a = (f x.nm).a
  sorted : vs.Pairwise (fun x y => nmLt x.nm y.nm = true)
theorem sorted_unique {α : Type} {R : α → α → Prop} (hi : ∀ x, ¬ R x x) (ht : ∀ x y z, R x y → R y z → R x z) : ∀ {a b : List α}, a.Pairwise R → b.Pairwise R → (∀ x, x ∈ a ↔ x ∈ b) → a = b
  | [], b, _, _, h => by
    cases b with
    | nil => rfl
    | cons y b => exact absurd ((h y).2 List.mem_cons_self) (by simp)
  | x :: a, b, ha, hb, h => by
    cases b with
    | nil => exact absurd ((h x).1 List.mem_cons_self) (by simp)
    | cons y b =>
      rw [List.pairwise_cons] at ha hb
      have hxy : x = y := by
        rcases List.mem_cons.1 ((h x).1 List.mem_cons_self) with q | q
        · exact q
        · rcases List.mem_cons.1 ((h y).2 List.mem_cons_self) with q2 | q2
          · exact q2.symm
          · exact absurd (ht _ _ _ (hb.1 x q) (ha.1 y q2)) (hi y)
      subst hxy
      rw [sorted_unique hi ht ha.2 hb.2 fun z => ?_]
      constructor
      · intro hz
        rcases List.mem_cons.1 ((h z).1 (List.mem_cons_of_mem _ hz)) with q | q
        · subst q; exact absurd (ha.1 z hz) (hi z)
        · exact q
      · intro hz
        rcases List.mem_cons.1 ((h z).2 (List.mem_cons_of_mem _ hz)) with q | q
        · subst q; exact absurd (hb.1 z hz) (hi z)
        · exact q
theorem ViewIs.unique {f : Nm → Std} {a b : List Pn} (ha : ViewIs f a) (hb : ViewIs f b) : a = b :=
  sorted_unique (R := fun x y : Pn => nmLt x.nm y.nm = true) (fun x => by rw [nmLt_irrefl]; decide) (fun x y z h1 h2 => nmLt_trans h1 h2) ha.sorted hb.sorted fun x => (ha.mem x).trans (hb.mem x).symm
theorem nm_eq {x y : Nm} (h : x.key.toList = y.key.toList ∧ x.s = y.s ∧ x.e = y.e) : x = y := by
  obtain ⟨k1, a, b⟩ := x
  obtain ⟨k2, c, d⟩ := y
  obtain ⟨h1, h2, h3⟩ := h
  have := toList_inj.1 h1
  simp only at this h2 h3
  subst this h2 h3
  rfl
theorem viewIs_of {f : Nm → Std} {mp : List (Nm × Std)} {l : List Pn} (hn : (mp.map (·.1)).Nodup) (hf : ∀ n, (lget mp n).getD st0 = f n) (hp : l.Perm (liveOf mp)) (hs : l.Pairwise (fun x y => nmLt y.nm x.nm = false)) : ViewIs f l := by
  constructor
  · intro x
    rw [hp.mem_iff, liveOf_mem]
    constructor
    · rintro ⟨p, hm, hl, rfl⟩
      have := hf p.1
      rw [lget_mem hn hm] at this
      have this : p.2 = f p.1 := this
      rw [← this]
      exact ⟨hl, rfl⟩
    · rintro ⟨h1, h2⟩
      have := hf x.nm
      cases hq : lget mp x.nm with
      | none => rw [hq] at this; rw [← this] at h1; cases h1
      | some s =>
        rw [hq] at this
        have this : s = f x.nm := this
        refine ⟨(x.nm, s), lget_some_mem hq, by rw [this]; exact h1, ?_⟩
        obtain ⟨nm, a⟩ := x
        rw [this]
        exact congrArg _ h2
  · have hnd : (l.map (·.nm)).Nodup := (hp.map _).nodup_iff.2 (List.Sublist.nodup (liveOf_names mp) hn)
    rw [List.Nodup, List.pairwise_map] at hnd
    refine (List.pairwise_and_iff.2 ⟨hs, hnd⟩).imp ?_
    rintro a b ⟨h1, h2⟩
    rcases nmLt_total a.nm b.nm with q | q | q
    · exact q
    · exact absurd (nm_eq q) h2
    · rw [q] at h1; cases h1
end Go.Proofs.YtgpfoamhcoipgaaDoor
