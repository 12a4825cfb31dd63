import Derived.Test.YthplelglifnhoaaLo
import Derived.Test.YthplelglifnhoaaLp
/-! Events in groups, in plain Lean: what putting pairs of names and values into ordered groups comes to. -/
namespace Go.Proofs.Ythplelglifnhoaa
set_option linter.unusedVariables false
set_option linter.unusedSectionVars false

structure Ev where
  off : Int
  part : Int
  t : Int
  key : ByteArray
  val : Nat
structure Gr where
  nm : Nm
  xs : List Nat
theorem nmEq_of {x y : Nm} (h : x.key.toList = y.key.toList ∧ x.s = y.s ∧ x.e = y.e) : x = y := by
  obtain ⟨a, b, c⟩ := x
  obtain ⟨a', b', c'⟩ := y
  obtain ⟨h1, h2, h3⟩ := h
  have := toList_inj.1 h1
  simp only at h2 h3
  subst this h2 h3
  rfl
theorem nmLt_cases (x y : Nm) : nmLt x y = true ∨ x = y ∨ nmLt y x = true := by
  rcases nmLt_total x y with h | h | h
  · exact .inl h
  · exact .inr (.inl (nmEq_of h))
  · exact .inr (.inr h)
theorem nmLt_asymm {x y : Nm} (h : nmLt x y = true) : nmLt y x = false := by
  cases h2 : nmLt y x with
  | false => rfl
  | true => have := nmLt_trans h h2; rw [nmLt_irrefl] at this; cases this

/-- Groups that stand in order, of pairs of a name and a value. -/
structure Grp (P : List (Nm × Nat)) (gs : List Gr) : Prop where
  asc : gs.Pairwise (fun a b => nmLt a.nm b.nm = true)
  sub : ∀ g ∈ gs, ∃ p ∈ P, p.1 = g.nm
  all : ∀ p ∈ P, ∃ g ∈ gs, g.nm = p.1
  val : ∀ g ∈ gs, g.xs.Perm ((P.filter (fun p => decide (p.1 = g.nm))).map (·.2))
theorem Grp.none : Grp [] [] := ⟨List.Pairwise.nil, (fun g h => by cases h), (fun p h => by cases h), (fun g h => by cases h)⟩
theorem filter_other {P : List (Nm × Nat)} {nm : Nm} (h : ∀ p ∈ P, p.1 ≠ nm) : P.filter (fun p => decide (p.1 = nm)) = [] := by
  rw [List.filter_eq_nil_iff]
  intro p hp
  simpa using h p hp
theorem Grp.push {P : List (Nm × Nat)} {gs : List Gr} (h : Grp P gs) (nm : Nm) (v : Nat) (hn : ∀ g ∈ gs, nmLt g.nm nm = true) : Grp (P ++ [(nm, v)]) (gs ++ [⟨nm, [v]⟩]) where
  asc := List.pairwise_append.2 ⟨h.asc, List.pairwise_singleton _ _, fun a ha b hb => by rw [List.mem_singleton] at hb; subst hb; exact hn a ha⟩
  sub := fun g hg => by
    rw [List.mem_append, List.mem_singleton] at hg
    rcases hg with hg | rfl
    · obtain ⟨p, hp, e⟩ := h.sub g hg
      exact ⟨p, List.mem_append_left _ hp, e⟩
    · exact ⟨(nm, v), by simp, rfl⟩
  all := fun p hp => by
    rw [List.mem_append, List.mem_singleton] at hp
    rcases hp with hp | rfl
    · obtain ⟨g, hg, e⟩ := h.all p hp
      exact ⟨g, List.mem_append_left _ hg, e⟩
    · exact ⟨⟨nm, [v]⟩, by simp, rfl⟩
  val := fun g hg => by
    rw [List.mem_append, List.mem_singleton] at hg
    rw [List.filter_append, List.map_append]
    rcases hg with hg | rfl
    · have hne : nm ≠ g.nm := fun e => by have := hn g hg; rw [e, nmLt_irrefl] at this; cases this
      rw [show [(nm, v)].filter (fun p => decide (p.1 = g.nm)) = [] from by simp [hne]]
      simpa using h.val g hg
    · rw [filter_other (fun p hp e => by
        obtain ⟨g, hg, e2⟩ := h.all p hp
        have := hn g hg
        rw [e2, e, nmLt_irrefl] at this; cases this)]
      simp
theorem Grp.more {P : List (Nm × Nat)} {gs : List Gr} (h : Grp P gs) (nm : Nm) (v : Nat) {i : Nat} {g : Gr} (hi : gs[i]? = some g) (hg : g.nm = nm) : Grp (P ++ [(nm, v)]) (gs.set i ⟨nm, g.xs ++ [v]⟩) where
  asc := by
    have e : (gs.set i ⟨nm, g.xs ++ [v]⟩).map (·.nm) = gs.map (·.nm) := by
      rw [List.map_set]
      apply List.ext_getElem?
      intro j
      rw [List.getElem?_set, List.length_map, List.getElem?_map]
      by_cases q : i = j
      · subst q
        rw [if_pos rfl, hi]
        have := (List.getElem?_eq_some_iff.1 hi).1
        rw [if_pos this, ← hg]; rfl
      · rw [if_neg q]
    have h2 : (gs.map (·.nm)).Pairwise (fun a b => nmLt a b = true) := List.pairwise_map.2 h.asc
    rw [← e] at h2
    exact List.pairwise_map.1 h2
  sub := fun g' hg' => by
    rcases List.mem_or_eq_of_mem_set hg' with q | rfl
    · obtain ⟨p, hp, e⟩ := h.sub g' q
      exact ⟨p, List.mem_append_left _ hp, e⟩
    · exact ⟨(nm, v), by simp, rfl⟩
  all := fun p hp => by
    have hlt := (List.getElem?_eq_some_iff.1 hi).1
    have hnew : (⟨nm, g.xs ++ [v]⟩ : Gr) ∈ gs.set i ⟨nm, g.xs ++ [v]⟩ := List.mem_set hlt _
    have key : p.1 = nm → ∃ g' ∈ gs.set i ⟨nm, g.xs ++ [v]⟩, g'.nm = p.1 := fun e => ⟨_, hnew, e.symm⟩
    rw [List.mem_append, List.mem_singleton] at hp
    rcases hp with hp | rfl
    · by_cases e : p.1 = nm
      · exact key e
      · obtain ⟨g', hg', e2⟩ := h.all p hp
        obtain ⟨j, hj⟩ := List.mem_iff_getElem?.1 hg'
        refine ⟨g', List.mem_iff_getElem?.2 ⟨j, ?_⟩, e2⟩
        rw [List.getElem?_set, if_neg (fun q => ?_)]
        · exact hj
        · subst q; rw [hi] at hj; injection hj with hj; subst hj; exact e (e2.symm.trans hg)
    · exact key rfl
  val := fun g' hg' => by
    rw [List.filter_append, List.map_append]
    obtain ⟨j, hj⟩ := List.mem_iff_getElem?.1 hg'
    rw [List.getElem?_set] at hj
    have hlt := (List.getElem?_eq_some_iff.1 hi).1
    by_cases q : i = j
    · subst q
      rw [if_pos rfl, if_pos hlt] at hj
      injection hj with hj
      subst hj
      have hv := h.val g (List.mem_iff_getElem?.2 ⟨i, hi⟩)
      rw [hg] at hv
      simpa using hv.append_right [v]
    · rw [if_neg q] at hj
      have hne : nm ≠ g'.nm := fun e => by
        have hp := List.pairwise_iff_getElem.1 h.asc
        obtain ⟨h1, h2⟩ := List.getElem?_eq_some_iff.1 hi
        obtain ⟨h3, h4⟩ := List.getElem?_eq_some_iff.1 hj
        rcases Nat.lt_or_gt_of_ne q with r | r
        · have := hp i j h1 h3 r
          rw [h2, h4, hg, e, nmLt_irrefl] at this; cases this
        · have := hp j i h3 h1 r
          rw [h2, h4, hg, e, nmLt_irrefl] at this; cases this
      rw [show [(nm, v)].filter (fun p => decide (p.1 = g'.nm)) = [] from by simp [hne]]
      simpa using h.val g' (List.mem_iff_getElem?.2 ⟨j, hj⟩)
/-- The groups are told by the pairs alone, in whichever order. -/
theorem Grp.unique {P P' : List (Nm × Nat)} (hP : P.Perm P') : ∀ {gs gs' : List Gr}, gs.Pairwise (fun a b => nmLt a.nm b.nm = true) → gs'.Pairwise (fun a b => nmLt a.nm b.nm = true) → (∀ nm, (∃ g ∈ gs, g.nm = nm) ↔ ∃ g ∈ gs', g.nm = nm) → gs.map (·.nm) = gs'.map (·.nm) := by
  intro gs
  induction gs with
  | nil =>
    intro gs' _ _ h
    cases gs' with
    | nil => rfl
    | cons g l => obtain ⟨x, hx, _⟩ := (h g.nm).2 ⟨g, by simp, rfl⟩; cases hx
  | cons g l ih =>
    intro gs' h1 h2 h
    cases gs' with
    | nil => obtain ⟨x, hx, _⟩ := (h g.nm).1 ⟨g, by simp, rfl⟩; cases hx
    | cons g' l' =>
      rw [List.pairwise_cons] at h1 h2
      have e : g.nm = g'.nm := by
        obtain ⟨x, hx, ex⟩ := (h g.nm).1 ⟨g, by simp, rfl⟩
        obtain ⟨y, hy, ey⟩ := (h g'.nm).2 ⟨g', by simp, rfl⟩
        rcases List.mem_cons.1 hx with rfl | hx
        · exact ex.symm
        · rcases List.mem_cons.1 hy with rfl | hy
          · exact ey
          · have a := h2.1 x hx
            have b := h1.1 y hy
            rw [ex] at a; rw [ey] at b
            rw [nmLt_asymm a] at b; cases b
      rw [List.map_cons, List.map_cons, e]
      congr 1
      refine ih h1.2 h2.2 fun nm => ⟨fun ⟨x, hx, ex⟩ => ?_, fun ⟨x, hx, ex⟩ => ?_⟩
      · obtain ⟨y, hy, ey⟩ := (h nm).1 ⟨x, List.mem_cons_of_mem _ hx, ex⟩
        rcases List.mem_cons.1 hy with rfl | hy
        · have := h1.1 x hx; rw [ex, ← ey, ← e, nmLt_irrefl] at this; cases this
        · exact ⟨y, hy, ey⟩
      · obtain ⟨y, hy, ey⟩ := (h nm).2 ⟨x, List.mem_cons_of_mem _ hx, ex⟩
        rcases List.mem_cons.1 hy with rfl | hy
        · have := h2.1 x hx; rw [ex, ← ey, e, nmLt_irrefl] at this; cases this
        · exact ⟨y, hy, ey⟩
theorem Grp.names {P P' : List (Nm × Nat)} {gs gs' : List Gr} (h : Grp P gs) (h' : Grp P' gs') (hP : P.Perm P') : gs.map (·.nm) = gs'.map (·.nm) :=
  Grp.unique hP h.asc h'.asc fun nm => ⟨fun ⟨g, hg, e⟩ => by
    obtain ⟨p, hp, e2⟩ := h.sub g hg
    obtain ⟨g', hg', e3⟩ := h'.all p (hP.mem_iff.1 hp)
    exact ⟨g', hg', e3.trans (e2.trans e)⟩, fun ⟨g, hg, e⟩ => by
    obtain ⟨p, hp, e2⟩ := h'.sub g hg
    obtain ⟨g', hg', e3⟩ := h.all p (hP.mem_iff.2 hp)
    exact ⟨g', hg', e3.trans (e2.trans e)⟩⟩
theorem Grp.same {P P' : List (Nm × Nat)} {gs gs' : List Gr} (h : Grp P gs) (h' : Grp P' gs') (hP : P.Perm P') : gs.length = gs'.length ∧ ∀ (i : Nat) (g g' : Gr), gs[i]? = some g → gs'[i]? = some g' → g.nm = g'.nm ∧ g.xs.Perm g'.xs := by
  have e := h.names h' hP
  refine ⟨by simpa using congrArg List.length e, fun i g g' hg hg' => ?_⟩
  have e1 : g.nm = g'.nm := by
    have := congrArg (fun l : List Nm => l[i]?) e
    simp only [List.getElem?_map, hg, hg'] at this
    simpa using this
  refine ⟨e1, (h.val g (List.mem_iff_getElem?.2 ⟨i, hg⟩)).trans (List.Perm.trans ?_ (h'.val g' (List.mem_iff_getElem?.2 ⟨i, hg'⟩)).symm)⟩
  rw [e1]
  exact (hP.filter _).map _
theorem Grp.of_perm {P P' : List (Nm × Nat)} {gs : List Gr} (h : Grp P gs) (hP : P.Perm P') : Grp P' gs :=
  ⟨h.asc, fun g hg => by obtain ⟨p, hp, e⟩ := h.sub g hg; exact ⟨p, hP.mem_iff.1 hp, e⟩, fun p hp => h.all p (hP.mem_iff.2 hp), fun g hg => (h.val g hg).trans ((hP.filter _).map _)⟩
theorem Grp.sorted {P : List (Nm × Nat)} {gs gs' : List Gr} (h : Grp P gs) (hp : gs'.Perm gs) (hs : gs'.Pairwise (fun x y => nmLt y.nm x.nm = false)) : gs' = gs := by
  have nd : (gs'.map (·.nm)).Nodup := by
    refine (hp.map _).nodup_iff.2 ?_
    refine List.pairwise_map.2 (h.asc.imp fun {a b} q e => ?_)
    rw [e, nmLt_irrefl] at q; cases q
  have h2 : gs'.Pairwise (fun a b => nmLt a.nm b.nm = true) := by
    refine ((List.pairwise_map.1 nd).and hs).imp fun {a b} q => ?_
    rcases nmLt_cases a.nm b.nm with r | r | r
    · exact r
    · exact absurd r q.1
    · rw [q.2] at r; cases r
  refine List.Perm.eq_of_pairwise (le := fun a b => nmLt a.nm b.nm = true) (fun a b _ _ q r => ?_) h2 h.asc hp
  rw [nmLt_asymm q] at r; cases r

/-! Windows of one size. -/
def ofS (size step t : Int) : List (Int × Int) := (List.range (t / step - (t - size) / step).toNat).map fun i => (step * ((t - size) / step + 1 + (i : Nat)), step * ((t - size) / step + 1 + (i : Nat)) + size)
theorem mem_ofS {size step t : Int} {w : Int × Int} : w ∈ ofS size step t ↔ ∃ q : Int, (t - size) / step < q ∧ q ≤ t / step ∧ w = (step * q, step * q + size) := by
  unfold ofS
  rw [List.mem_map]
  constructor
  · rintro ⟨i, hi, rfl⟩
    rw [List.mem_range] at hi
    exact ⟨(t - size) / step + 1 + (i : Nat), by omega, by omega, rfl⟩
  · rintro ⟨q, h1, h2, rfl⟩
    refine ⟨(q - (t - size) / step - 1).toNat, List.mem_range.2 (by omega), ?_⟩
    rw [show (t - size) / step + 1 + (((q - (t - size) / step - 1).toNat : Nat) : Int) = q by omega]
theorem ofS_asc {size step t : Int} (hs : 1 ≤ step) : (ofS size step t).Pairwise (fun a b => a.1 < b.1) := by
  unfold ofS
  refine List.pairwise_map.2 (List.pairwise_lt_range.imp fun {a b} h => ?_)
  refine Int.mul_lt_mul_of_pos_left ?_ (by omega)
  omega
def nmE (e : Ev) (w : Int × Int) : Nm := ⟨e.key, w.1, w.2⟩
def pairsE (size step : Int) (e : Ev) : List (Nm × Nat) := (ofS size step e.t).map fun w => (nmE e w, e.val)
/-- One stands ahead of, or beside another. -/
def EvLe (x y : Ev) : Prop := Op.bytesLess y.key.toList x.key.toList = false ∧ (x.key = y.key → x.t ≤ y.t)

def meetB (s e s2 e2 : Int) : Bool := decide (s < e2) && decide (s2 < e)
/-- A value put into a list of groups, from its end. -/
def putAt (kd : Nat) (l : List Gr) (e : Ev) (w : Int × Int) : Nat → List Gr
  | 0 => l ++ [⟨nmE e w, [e.val]⟩]
  | i + 1 => match l[i]? with
    | none => l ++ [⟨nmE e w, [e.val]⟩]
    | some g =>
      if g.nm.key = e.key then
        if kd = 2 ∧ meetB g.nm.s g.nm.e w.1 w.2 = true then l.set i ⟨⟨g.nm.key, min g.nm.s w.1, max g.nm.e w.2⟩, g.xs ++ [e.val]⟩
        else if g.nm.s = w.1 ∧ g.nm.e = w.2 then l.set i ⟨g.nm, g.xs ++ [e.val]⟩
        else if i + 32 ≤ l.length ∨ kd ≠ 1 then l ++ [⟨nmE e w, [e.val]⟩] else putAt kd l e w i
      else l ++ [⟨nmE e w, [e.val]⟩]
theorem put_new {kd : Nat} {l : List Gr} {e : Ev} {w : Int × Int} (hk : kd ≠ 2) (h : ∀ g ∈ l, g.nm ≠ nmE e w) : ∀ n, putAt kd l e w n = l ++ [⟨nmE e w, [e.val]⟩] := by
  intro n
  induction n with
  | zero => rfl
  | succ i ih =>
    rw [putAt]
    split
    · rfl
    · rename_i g hg
      by_cases c1 : g.nm.key = e.key
      · rw [if_pos c1, if_neg (fun q => hk q.1)]
        by_cases c2 : g.nm.s = w.1 ∧ g.nm.e = w.2
        · exfalso
          refine h g (List.mem_iff_getElem?.2 ⟨i, hg⟩) ?_
          obtain ⟨⟨a, b, c⟩, d⟩ := g
          simp only at c1 c2
          rw [c1, c2.1, c2.2]; rfl
        · rw [if_neg c2]
          split
          · rfl
          · exact ih
      · rw [if_neg c1]
theorem put_old {kd : Nat} {l : List Gr} {e : Ev} {w : Int × Int} (hk : kd ≠ 2) {i : Nat} {g : Gr} (hi : l[i]? = some g) (hg : g.nm = nmE e w) (hl : ∀ (j : Nat) (g' : Gr), i < j → l[j]? = some g' → g'.nm.key = e.key ∧ g'.nm ≠ nmE e w)
    (hn : i + 1 = l.length ∨ kd = 1 ∧ l.length ≤ i + 32) : ∀ n, i < n → n ≤ l.length → putAt kd l e w n = l.set i ⟨nmE e w, g.xs ++ [e.val]⟩ := by
  intro n
  induction n with
  | zero => intro h; omega
  | succ k ih =>
    intro h1 h2
    rw [putAt]
    by_cases c : k = i
    · subst c
      rw [hi]
      simp only [hg]
      rw [if_pos (show (nmE e w).key = e.key from rfl), if_neg (fun q => hk q.1), if_pos ⟨rfl, rfl⟩]
    · have hk2 : k < l.length := by omega
      rw [List.getElem?_eq_getElem hk2]
      obtain ⟨q1, q2⟩ := hl k l[k] (by omega) (List.getElem?_eq_getElem hk2)
      simp only
      rw [if_pos q1, if_neg (fun q => hk q.1), if_neg (fun q => q2 ?_), if_neg (by omega)]
      · exact ih (by omega) (by omega)
      · generalize l[k] = g2 at q q1
        obtain ⟨⟨a, b, c⟩, d⟩ := g2
        simp only at q1 q
        rw [q1, q.1, q.2]; rfl
end Go.Proofs.Ythplelglifnhoaa
/-! Events in groups, in plain Lean: events in order, put one by one, come to the groups of their pairs. -/
namespace Go.Proofs.Ythplelglifnhoaa
set_option linter.unusedVariables false
set_option linter.unusedSectionVars false

theorem div_low {t size step : Int} (h1 : 1 ≤ step) (h : size ≤ 16 * step) : t / step - 16 ≤ (t - size) / step := by
  have e : (t + (-16) * step) / step = t / step + (-16) := Int.add_mul_ediv_right _ _ (by omega)
  have := Int.ediv_le_ediv (c := step) (a := t + (-16) * step) (b := t - size) (by omega) (by omega)
  omega
theorem div_one {t size : Int} (h1 : 1 ≤ size) : (t - size) / size = t / size - 1 := by
  have e : (t + (-1) * size) / size = t / size + (-1) := Int.add_mul_ediv_right _ _ (by omega)
  rw [show t - size = t + (-1) * size by omega, e]; omega
theorem div_mono {a b step : Int} (h1 : 1 ≤ step) (h : a ≤ b) : a / step ≤ b / step := Int.ediv_le_ediv (by omega) h
theorem mul_lt {a b step : Int} (h1 : 1 ≤ step) : step * a < step * b ↔ a < b := ⟨fun h => Int.lt_of_mul_lt_mul_left h (by omega), fun h => Int.mul_lt_mul_of_pos_left h (by omega)⟩

theorem put_grp {kd : Nat} {size step : Int} (hk : kd = 0 ∧ step = size ∨ kd = 1 ∧ size ≤ 16 * step) (h1 : 1 ≤ step) {E0 : List Ev} {e : Ev} {ws0 ws1 : List (Int × Int)} {w : Int × Int} (hE : ∀ x ∈ E0, EvLe x e) (hw : ofS size step e.t = ws0 ++ w :: ws1) {gs : List Gr}
    (h : Grp (E0.flatMap (pairsE size step) ++ ws0.map (fun w => (nmE e w, e.val))) gs) :
    Grp (E0.flatMap (pairsE size step) ++ (ws0 ++ [w]).map (fun w => (nmE e w, e.val))) (putAt kd gs e w gs.length) := by
  rw [List.map_append, ← List.append_assoc]
  show Grp (_ ++ [(nmE e w, e.val)]) _
  obtain ⟨q, hq1, hq2, rfl⟩ := mem_ofS.1 (show w ∈ ofS size step e.t by rw [hw]; simp)
  have hasc := ofS_asc (size := size) (t := e.t) h1
  rw [hw, List.pairwise_append] at hasc
  have F0 : ∀ p ∈ E0.flatMap (pairsE size step) ++ ws0.map (fun w => (nmE e w, e.val)), ∃ r : Int, p.1.s = step * r ∧ p.1.e = step * r + size ∧ Op.bytesLess e.key.toList p.1.key.toList = false ∧ (p.1.key = e.key → r ≤ e.t / step ∧ ((∃ p2 ∈ E0.flatMap (pairsE size step), p2.1 = nmE e (step * q, step * q + size)) ∨ r < q)) := by
    intro p hp
    rw [List.mem_append, List.mem_flatMap, List.mem_map] at hp
    rcases hp with ⟨x, hx, hp⟩ | ⟨w2, hw2, rfl⟩
    · unfold pairsE at hp
      rw [List.mem_map] at hp
      obtain ⟨w2, hw2, rfl⟩ := hp
      obtain ⟨r, hr1, hr2, rfl⟩ := mem_ofS.1 hw2
      refine ⟨r, rfl, rfl, (hE x hx).1, fun hkey => ?_⟩
      have ht : x.t ≤ e.t := (hE x hx).2 hkey
      have m1 := div_mono (step := step) h1 ht
      have m2 := div_mono (step := step) (a := x.t - size) (b := e.t - size) h1 (by omega)
      refine ⟨by omega, ?_⟩
      by_cases c : q ≤ x.t / step
      · refine .inl ⟨(nmE x (step * q, step * q + size), x.val), ?_, ?_⟩
        · rw [List.mem_flatMap]
          exact ⟨x, hx, List.mem_map.2 ⟨_, mem_ofS.2 ⟨q, by omega, c, rfl⟩, rfl⟩⟩
        · have hkey : x.key = e.key := hkey
          simp only [nmE]; rw [hkey]
      · exact .inr (by omega)
    · have hm : w2 ∈ ofS size step e.t := by rw [hw]; exact List.mem_append_left _ hw2
      obtain ⟨r, hr1, hr2, rfl⟩ := mem_ofS.1 hm
      refine ⟨r, rfl, rfl, bl_irrefl _, fun _ => ⟨hr2, .inr ?_⟩⟩
      have := hasc.2.2 _ hw2 _ (List.mem_cons_self ..)
      exact (mul_lt h1).1 this
  have F1 : ∀ g ∈ gs, ∃ r : Int, g.nm.s = step * r ∧ g.nm.e = step * r + size ∧ Op.bytesLess e.key.toList g.nm.key.toList = false ∧ (g.nm.key = e.key → r ≤ e.t / step ∧ ((∃ p2 ∈ E0.flatMap (pairsE size step), p2.1 = nmE e (step * q, step * q + size)) ∨ r < q)) := by
    intro g hg
    obtain ⟨p, hp, ep⟩ := h.sub g hg
    have := F0 p hp
    rwa [ep] at this
  have hk2 : kd ≠ 2 := by omega
  by_cases hm : ∃ g ∈ gs, g.nm = nmE e (step * q, step * q + size)
  · obtain ⟨g, hg, eg⟩ := hm
    obtain ⟨i, hi⟩ := List.mem_iff_getElem?.1 hg
    obtain ⟨hil, hie⟩ := List.getElem?_eq_some_iff.1 hi
    have pw := List.pairwise_iff_getElem.1 h.asc
    have keyof : ∀ (j : Nat) (g' : Gr), i < j → gs[j]? = some g' → g'.nm.key = e.key ∧ nmLt g.nm g'.nm = true := fun j g' hj hg' => by
      obtain ⟨hjl, hje⟩ := List.getElem?_eq_some_iff.1 hg'
      have lt := pw i j hil hjl hj
      rw [hie, hje] at lt
      refine ⟨?_, lt⟩
      rcases (nmLt_iff _ _).1 lt with c | c
      · obtain ⟨r, _, _, hb, _⟩ := F1 g' (List.mem_iff_getElem?.2 ⟨j, hg'⟩)
        rw [eg] at c
        rw [show (nmE e (step * q, step * q + size)).key = e.key from rfl, hb] at c; cases c
      · rw [eg] at c
        exact (toList_inj.1 c.1).symm
    have climb : ∀ d : Nat, i + d < gs.length → ∃ (g' : Gr) (r : Int), gs[i + d]? = some g' ∧ g'.nm.key = e.key ∧ g'.nm.s = step * r ∧ g'.nm.e = step * r + size ∧ q + d ≤ r := by
      intro d
      induction d with
      | zero => intro _; exact ⟨g, q, hi, by rw [eg]; rfl, by rw [eg]; rfl, by rw [eg]; rfl, by simp⟩
      | succ d ih =>
        intro hd
        obtain ⟨g', r, hg', k', s', e', b'⟩ := ih (by omega)
        have hd2 : i + (d + 1) < gs.length := hd
        obtain ⟨k2, _⟩ := keyof (i + (d + 1)) gs[i + (d + 1)] (by omega) (List.getElem?_eq_getElem hd2)
        obtain ⟨r2, s2, e2, _, _⟩ := F1 gs[i + (d + 1)] (List.getElem_mem hd2)
        refine ⟨gs[i + (d + 1)], r2, List.getElem?_eq_getElem hd2, k2, s2, e2, ?_⟩
        obtain ⟨hl, he⟩ := List.getElem?_eq_some_iff.1 hg'
        have lt := pw (i + d) (i + (d + 1)) hl hd2 (by omega)
        rw [he] at lt
        rcases (nmLt_iff _ _).1 lt with c | ⟨_, c⟩
        · rw [k', k2, bl_irrefl] at c; cases c
        · rw [s', s2, e', e2] at c
          have : step * r < step * r2 := by omega
          have := (mul_lt h1).1 this
          omega
    have hlen : gs.length - 1 - i < (e.t / step - (e.t - size) / step).toNat := by
      obtain ⟨g', r, hg', k', s', e', b'⟩ := climb (gs.length - 1 - i) (by omega)
      obtain ⟨r2, s2, e2, _, hr⟩ := F1 g' (List.mem_iff_getElem?.2 ⟨_, hg'⟩)
      have hr2 := (hr k').1
      have : ¬ r < r2 := fun c => by have := (mul_lt h1).2 c; omega
      have : ¬ r2 < r := fun c => by have := (mul_lt h1).2 c; omega
      omega
    rw [put_old hk2 hi eg (fun j g' hj hg' => ⟨(keyof j g' hj hg').1, fun q' => by have := (keyof j g' hj hg').2; rw [q', eg, nmLt_irrefl] at this; cases this⟩) ?_ gs.length (by omega) (Nat.le_refl _)]
    · exact h.more _ _ hi eg
    · rcases hk with ⟨h0, hs⟩ | ⟨h0, hs⟩
      · subst hs
        have := div_one (t := e.t) h1
        left; omega
      · have := div_low (t := e.t) h1 hs
        right; omega
  · rw [put_new hk2 (fun g hg c => hm ⟨g, hg, c⟩)]
    refine h.push _ _ fun g hg => ?_
    obtain ⟨r, s, e', hb, hr⟩ := F1 g hg
    rcases bl_total g.nm.key.toList e.key.toList with c | c | c
    · exact (nmLt_iff _ _).2 (.inl c)
    · rcases (hr (toList_inj.1 c)).2 with ⟨p2, hp2, ep2⟩ | c2
      · obtain ⟨g2, hg2, eg2⟩ := h.all p2 (List.mem_append_left _ hp2)
        exact absurd ⟨g2, hg2, eg2.trans ep2⟩ hm
      · exact (nmLt_iff _ _).2 (.inr ⟨c, .inl (by rw [s]; exact (mul_lt h1).2 c2)⟩)
    · rw [hb] at c; cases c

/-! Sessions. -/
structure Sess (size : Int) (es : List Ev) (nm : Nm) : Prop where
  ne : nm.s < nm.e
  lo : ∃ e ∈ es, e.key = nm.key ∧ e.t = nm.s
  hi : ∃ e ∈ es, e.key = nm.key ∧ e.t + size = nm.e
  cov : ∀ x, nm.s < x → x < nm.e → ∃ e ∈ es, e.key = nm.key ∧ e.t < x ∧ x < e.t + size
  clo : ∀ e ∈ es, e.key = nm.key → e.t + size ≤ nm.s ∨ nm.e ≤ e.t ∨ nm.s ≤ e.t ∧ e.t + size ≤ nm.e
def Has (size : Int) (nm : Nm) (e : Ev) : Prop := e.key = nm.key ∧ nm.s ≤ e.t ∧ e.t + size ≤ nm.e
instance (size : Int) (nm : Nm) (e : Ev) : Decidable (Has size nm e) := by unfold Has; infer_instance
theorem Sess.cong {size : Int} {es es' : List Ev} {nm : Nm} (h : Sess size es nm) (hm : ∀ e, e ∈ es ↔ e ∈ es') : Sess size es' nm :=
  ⟨h.ne, (by obtain ⟨e, he, r⟩ := h.lo; exact ⟨e, (hm e).1 he, r⟩), (by obtain ⟨e, he, r⟩ := h.hi; exact ⟨e, (hm e).1 he, r⟩), fun x h1 h2 => (by obtain ⟨e, he, r⟩ := h.cov x h1 h2; exact ⟨e, (hm e).1 he, r⟩), fun e he => h.clo e ((hm e).2 he)⟩
theorem Sess.uniq {size : Int} {es : List Ev} (hs : 1 ≤ size) {a b : Nm} (ha : Sess size es a) (hb : Sess size es b) {e : Ev} (h1 : Has size a e) (h2 : Has size b e) : a = b := by
  obtain ⟨k1, l1, r1⟩ := h1
  obtain ⟨k2, l2, r2⟩ := h2
  have hkey : a.key = b.key := k1.symm.trans k2
  have lo : ∀ (a b : Nm), Sess size es a → Sess size es b → a.key = b.key → a.s ≤ e.t → e.t + size ≤ a.e → b.s ≤ e.t → e.t + size ≤ b.e → ¬ b.s < a.s := by
    intro a b ha hb hk l1 r1 l2 r2 c
    obtain ⟨u, hu, ku, u1, u2⟩ := hb.cov a.s c (by omega)
    rcases ha.clo u hu (ku.trans hk.symm) with q | q | q <;> omega
  have hi : ∀ (a b : Nm), Sess size es a → Sess size es b → a.key = b.key → a.s ≤ e.t → e.t + size ≤ a.e → b.s ≤ e.t → e.t + size ≤ b.e → ¬ a.e < b.e := by
    intro a b ha hb hk l1 r1 l2 r2 c
    obtain ⟨u, hu, ku, u1, u2⟩ := hb.cov a.e (by omega) c
    rcases ha.clo u hu (ku.trans hk.symm) with q | q | q <;> omega
  have e1 := lo a b ha hb hkey l1 r1 l2 r2
  have e2 := lo b a hb ha hkey.symm l2 r2 l1 r1
  have e3 := hi a b ha hb hkey l1 r1 l2 r2
  have e4 := hi b a hb ha hkey.symm l2 r2 l1 r1
  obtain ⟨ka, sa, ea⟩ := a
  obtain ⟨kb, sb, eb⟩ := b
  simp only at hkey e1 e2 e3 e4
  subst hkey
  have : sa = sb := by omega
  have : ea = eb := by omega
  subst sa ea
  rfl
theorem Sess.first {size : Int} {es : List Ev} (hs : 1 ≤ size) {a : Nm} (h : Sess size es a) : ∃ e ∈ es, e.key = a.key ∧ e.t = a.s ∧ Has size a e := by
  obtain ⟨e, he, k, t⟩ := h.lo
  refine ⟨e, he, k, t, k, by omega, ?_⟩
  have := h.ne
  rcases h.clo e he k with q | q | q <;> omega
theorem Sess.apart {size : Int} {es : List Ev} (hs : 1 ≤ size) {a b : Nm} (ha : Sess size es a) (hb : Sess size es b) (hk : a.key = b.key) (hne : a ≠ b) : a.e ≤ b.s ∨ b.e ≤ a.s := by
  have half : ∀ a b : Nm, Sess size es a → Sess size es b → a.key = b.key → a ≠ b → b.s ≤ a.s → b.e ≤ a.s := by
    intro a b ha hb hk hne hle
    obtain ⟨e, he, k, t, hh⟩ := ha.first hs
    rcases hb.clo e he (k.trans hk) with q | q | q
    · omega
    · omega
    · exact absurd (ha.uniq hs hb hh ⟨k.trans hk, q.1, q.2⟩) hne
  rcases Int.le_total b.s a.s with c | c
  · exact .inr (half a b ha hb hk hne c)
  · exact .inl (half b a hb ha hk.symm (Ne.symm hne) c)

/-- Sessions of events in order. -/
structure SJ (size : Int) (es : List Ev) (gs : List Gr) : Prop where
  asc : gs.Pairwise (fun a b => nmLt a.nm b.nm = true)
  ses : ∀ g ∈ gs, Sess size es g.nm
  has : ∀ e ∈ es, ∃ g ∈ gs, Has size g.nm e
  val : ∀ g ∈ gs, g.xs = (es.filter (fun e => decide (Has size g.nm e))).map (·.val)
theorem SJ.none {size : Int} : SJ size [] [] := ⟨List.Pairwise.nil, (fun g h => by cases h), (fun p h => by cases h), (fun g h => by cases h)⟩
theorem SJ.push {size : Int} (hs : 1 ≤ size) {es : List Ev} {gs : List Gr} (h : SJ size es gs) (e : Ev) (h1 : ∀ g ∈ gs, nmLt g.nm ⟨e.key, e.t, e.t + size⟩ = true) (h2 : ∀ x ∈ es, x.key = e.key → x.t + size ≤ e.t) :
    SJ size (es ++ [e]) (gs ++ [⟨⟨e.key, e.t, e.t + size⟩, [e.val]⟩]) := by
  have gone : ∀ g ∈ gs, g.nm.key = e.key → g.nm.e ≤ e.t := fun g hg hk => by
    obtain ⟨x, hx, k, t⟩ := (h.ses g hg).hi
    have := h2 x hx (k.trans hk)
    omega
  refine ⟨List.pairwise_append.2 ⟨h.asc, List.pairwise_singleton _ _, fun a ha b hb => by rw [List.mem_singleton] at hb; subst hb; exact h1 a ha⟩, ?_, ?_, ?_⟩
  · intro g hg
    rw [List.mem_append, List.mem_singleton] at hg
    rcases hg with hg | rfl
    · have q := h.ses g hg
      refine ⟨q.ne, ?_, ?_, ?_, ?_⟩
      · obtain ⟨x, hx, r⟩ := q.lo; exact ⟨x, List.mem_append_left _ hx, r⟩
      · obtain ⟨x, hx, r⟩ := q.hi; exact ⟨x, List.mem_append_left _ hx, r⟩
      · intro y y1 y2
        obtain ⟨x, hx, r⟩ := q.cov y y1 y2; exact ⟨x, List.mem_append_left _ hx, r⟩
      · intro x hx k
        rw [List.mem_append, List.mem_singleton] at hx
        rcases hx with hx | rfl
        · exact q.clo x hx k
        · exact .inr (.inl (gone g hg k.symm))
    · refine ⟨show e.t < e.t + size by omega, ⟨e, by simp, rfl, rfl⟩, ⟨e, by simp, rfl, rfl⟩, fun y y1 y2 => ⟨e, by simp, rfl, y1, y2⟩, fun x hx k => ?_⟩
      rw [List.mem_append, List.mem_singleton] at hx
      rcases hx with hx | rfl
      · exact .inl (h2 x hx k)
      · exact .inr (.inr ⟨Int.le_refl _, Int.le_refl _⟩)
  · intro x hx
    rw [List.mem_append, List.mem_singleton] at hx
    rcases hx with hx | rfl
    · obtain ⟨g, hg, r⟩ := h.has x hx
      exact ⟨g, List.mem_append_left _ hg, r⟩
    · exact ⟨⟨⟨x.key, x.t, x.t + size⟩, [x.val]⟩, by simp, rfl, Int.le_refl _, Int.le_refl _⟩
  · intro g hg
    rw [List.mem_append, List.mem_singleton] at hg
    rw [List.filter_append, List.map_append]
    rcases hg with hg | rfl
    · have hn : ¬ Has size g.nm e := fun q => by
        have := gone g hg q.1.symm
        have := q.2.2
        omega
      rw [show [e].filter (fun e => decide (Has size g.nm e)) = [] from by simp [hn]]
      simpa using h.val g hg
    · rw [show es.filter (fun x => decide (Has size ⟨e.key, e.t, e.t + size⟩ x)) = [] from by
        rw [List.filter_eq_nil_iff]
        intro x hx
        rw [decide_eq_true_eq]
        intro q
        have := h2 x hx q.1
        have := q.2.1
        simp only at this
        omega]
      have hh : Has size ⟨e.key, e.t, e.t + size⟩ e := ⟨rfl, Int.le_refl _, Int.le_refl _⟩
      simp [hh]
theorem SJ.put {size : Int} (hs : 1 ≤ size) {es : List Ev} {gs : List Gr} (h : SJ size es gs) (e : Ev) (hE : ∀ x ∈ es, EvLe x e) : SJ size (es ++ [e]) (putAt 2 gs e (e.t, e.t + size) gs.length) := by
  rcases List.eq_nil_or_concat gs with rfl | ⟨l, g, rfl⟩
  · exact h.push hs e (fun g hg => by cases hg) (fun x hx => by obtain ⟨g, hg, _⟩ := h.has x hx; cases hg)
  · rw [List.concat_eq_append] at h ⊢
    have hgm : g ∈ l ++ [g] := by simp
    have hidx : (l ++ [g])[l.length]? = some g := by simp
    rw [List.length_append, List.length_singleton, putAt, hidx]
    simp only
    have hS := h.ses g hgm
    have hfirst : Op.bytesLess e.key.toList g.nm.key.toList = false := by
      obtain ⟨x, hx, k, _⟩ := hS.lo
      rw [← k]; exact (hE x hx).1
    have hasc := List.pairwise_append.1 h.asc
    have hbefore : ∀ g' ∈ l, nmLt g'.nm g.nm = true := fun g' hg' => hasc.2.2 g' hg' g (by simp)
    by_cases hkey : g.nm.key = e.key
    · rw [if_pos hkey]
      obtain ⟨x0, hx0, k0, t0⟩ := hS.lo
      have hle := (hE x0 hx0).2 (k0.trans hkey)
      obtain ⟨x1, hx1, k1, t1⟩ := hS.hi
      have hle1 := (hE x1 hx1).2 (k1.trans hkey)
      have others : ∀ g' ∈ l, g'.nm.key = e.key → g'.nm.e ≤ g.nm.s := fun g' hg' k' => by
        have lt := hbefore g' hg'
        have hne : g'.nm ≠ g.nm := fun c => by rw [c, nmLt_irrefl] at lt; cases lt
        have hn := hS.ne
        rcases (h.ses g' (List.mem_append_left _ hg')).apart hs hS (k'.trans hkey.symm) hne with c | c
        · exact c
        · rcases (nmLt_iff _ _).1 lt with d | ⟨_, d⟩
          · rw [k', hkey, bl_irrefl] at d; cases d
          · omega
      by_cases hmeet : e.t < g.nm.e
      · rw [if_pos ⟨trivial, by unfold meetB; simp only [Bool.and_eq_true, decide_eq_true_eq]; omega⟩]
        rw [show min g.nm.s (e.t, e.t + size).1 = g.nm.s from by show min g.nm.s e.t = _; omega, show max g.nm.e (e.t, e.t + size).2 = e.t + size from by show max g.nm.e (e.t + size) = _; omega]
        rw [List.set_append_right _ _ (Nat.le_refl _), Nat.sub_self]
        show SJ size _ (l ++ [⟨⟨g.nm.key, g.nm.s, e.t + size⟩, g.xs ++ [e.val]⟩])
        have hn := hS.ne
        refine ⟨List.pairwise_append.2 ⟨hasc.1, List.pairwise_singleton _ _, fun a ha b hb => ?_⟩, ?_, ?_, ?_⟩
        · rw [List.mem_singleton] at hb; subst hb
          rcases (nmLt_iff _ _).1 (hbefore a ha) with d | ⟨d0, d⟩
          · exact (nmLt_iff _ _).2 (.inl d)
          · exact (nmLt_iff _ _).2 (.inr ⟨d0, by show a.nm.s < g.nm.s ∨ a.nm.s = g.nm.s ∧ a.nm.e < e.t + size; omega⟩)
        · intro g' hg'
          rw [List.mem_append, List.mem_singleton] at hg'
          rcases hg' with hg' | rfl
          · have q := h.ses g' (List.mem_append_left _ hg')
            refine ⟨q.ne, ?_, ?_, ?_, ?_⟩
            · obtain ⟨x, hx, r⟩ := q.lo; exact ⟨x, List.mem_append_left _ hx, r⟩
            · obtain ⟨x, hx, r⟩ := q.hi; exact ⟨x, List.mem_append_left _ hx, r⟩
            · intro y y1 y2
              obtain ⟨x, hx, r⟩ := q.cov y y1 y2; exact ⟨x, List.mem_append_left _ hx, r⟩
            · intro x hx k
              rw [List.mem_append, List.mem_singleton] at hx
              rcases hx with hx | rfl
              · exact q.clo x hx k
              · have := others g' hg' k.symm
                exact .inr (.inl (by omega))
          · refine ⟨show g.nm.s < e.t + size by omega, ⟨x0, List.mem_append_left _ hx0, k0, t0⟩, ⟨e, by simp, hkey.symm, rfl⟩, fun y y1 y2 => ?_, fun x hx k => ?_⟩
            · simp only at y1 y2
              by_cases c : y < g.nm.e
              · obtain ⟨x, hx, r⟩ := hS.cov y y1 c; exact ⟨x, List.mem_append_left _ hx, r⟩
              · exact ⟨e, by simp, hkey.symm, by omega, y2⟩
            · rw [List.mem_append, List.mem_singleton] at hx
              simp only at k ⊢
              rcases hx with hx | rfl
              · have hx2 := (hE x hx).2 (k.trans hkey)
                rcases hS.clo x hx k with q | q | q
                · exact .inl q
                · omega
                · exact .inr (.inr ⟨q.1, by omega⟩)
              · exact .inr (.inr ⟨by omega, Int.le_refl _⟩)
        · intro x hx
          rw [List.mem_append, List.mem_singleton] at hx
          rcases hx with hx | rfl
          · obtain ⟨g', hg', r⟩ := h.has x hx
            rw [List.mem_append, List.mem_singleton] at hg'
            rcases hg' with hg' | rfl
            · exact ⟨g', List.mem_append_left _ hg', r⟩
            · refine ⟨⟨⟨g'.nm.key, g'.nm.s, e.t + size⟩, g'.xs ++ [e.val]⟩, by simp, r.1, r.2.1, ?_⟩
              have := (hE x hx).2 (r.1.trans hkey)
              show x.t + size ≤ e.t + size
              omega
          · exact ⟨⟨⟨g.nm.key, g.nm.s, x.t + size⟩, g.xs ++ [x.val]⟩, by simp, hkey.symm, by show g.nm.s ≤ x.t; omega, Int.le_refl _⟩
        · intro g' hg'
          rw [List.mem_append, List.mem_singleton] at hg'
          rw [List.filter_append, List.map_append]
          rcases hg' with hg' | rfl
          · have hno : ¬ Has size g'.nm e := fun q => by
              have := others g' hg' q.1.symm
              have := q.2.2
              omega
            rw [show [e].filter (fun e => decide (Has size g'.nm e)) = [] from by simp [hno]]
            simpa using h.val g' (List.mem_append_left _ hg')
          · have hh : Has size ⟨g.nm.key, g.nm.s, e.t + size⟩ e := ⟨hkey.symm, by show g.nm.s ≤ e.t; omega, Int.le_refl _⟩
            rw [show [e].filter (fun x => decide (Has size ⟨g.nm.key, g.nm.s, e.t + size⟩ x)) = [e] from by simp [hh]]
            simp only [List.map_cons, List.map_nil]
            rw [h.val g hgm]
            congr 2
            apply List.filter_congr
            intro x hx
            rw [decide_eq_decide]
            constructor
            · intro r
              have := (hE x hx).2 (r.1.trans hkey)
              exact ⟨r.1, r.2.1, by show x.t + size ≤ e.t + size; omega⟩
            · intro r
              have hx2 := (hE x hx).2 (Eq.trans r.1 hkey)
              have r2 : g.nm.s ≤ x.t := r.2.1
              refine ⟨r.1, r.2.1, ?_⟩
              rcases hS.clo x hx r.1 with q | q | q <;> omega
      · have hnm : meetB g.nm.s g.nm.e (e.t, e.t + size).1 (e.t, e.t + size).2 = false := by unfold meetB; simp only [Bool.and_eq_false_iff, decide_eq_false_iff_not]; omega
        rw [if_neg (by rw [hnm]; simp), if_neg (fun q => by have := q.1; have := q.2; simp only at *; omega), if_pos (.inr (by decide))]
        refine h.push hs e (fun g' hg' => ?_) (fun x hx k => ?_)
        · have hn := hS.ne
          have hg2 : nmLt g.nm ⟨e.key, e.t, e.t + size⟩ = true := (nmLt_iff _ _).2 (.inr ⟨by rw [hkey], .inl (by show g.nm.s < e.t; omega)⟩)
          rw [List.mem_append, List.mem_singleton] at hg'
          rcases hg' with hg' | rfl
          · exact nmLt_trans (hbefore g' hg') hg2
          · exact hg2
        · obtain ⟨g', hg', r⟩ := h.has x hx
          have r3 := r.2.2
          have hn := hS.ne
          rw [List.mem_append, List.mem_singleton] at hg'
          rcases hg' with hg' | rfl
          · have := others g' hg' (r.1.symm.trans k)
            omega
          · omega
    · rw [if_neg hkey]
      have hless : Op.bytesLess g.nm.key.toList e.key.toList = true := by
        rcases bl_total g.nm.key.toList e.key.toList with c | c | c
        · exact c
        · exact absurd (toList_inj.1 c) hkey
        · rw [hfirst] at c; cases c
      refine h.push hs e (fun g' hg' => ?_) (fun x hx k => ?_)
      · have hg2 : nmLt g.nm ⟨e.key, e.t, e.t + size⟩ = true := (nmLt_iff _ _).2 (.inl hless)
        rw [List.mem_append, List.mem_singleton] at hg'
        rcases hg' with hg' | rfl
        · exact nmLt_trans (hbefore g' hg') hg2
        · exact hg2
      · exfalso
        obtain ⟨g', hg', r⟩ := h.has x hx
        have k' : g'.nm.key = e.key := r.1.symm.trans k
        rw [List.mem_append, List.mem_singleton] at hg'
        rcases hg' with hg' | rfl
        · rcases (nmLt_iff _ _).1 (hbefore g' hg') with d | ⟨d, _⟩
          · rw [k', hfirst] at d; cases d
          · rw [k'] at d; exact hkey (toList_inj.1 d).symm
        · exact hkey k'
theorem filter_map_of {α : Type} (es : List α) (f : α → Nm) (v : α → Nat) (nm : Nm) (p : α → Bool) (h : ∀ e ∈ es, decide (f e = nm) = p e) : ((es.map (fun e => (f e, v e))).filter (fun q => decide (q.1 = nm))).map (·.2) = (es.filter p).map v := by
  induction es with
  | nil => rfl
  | cons x l ih =>
    rw [List.map_cons, List.filter_cons, List.filter_cons]
    have hx := h x (by simp)
    have := ih (fun e he => h e (List.mem_cons_of_mem _ he))
    simp only [hx]
    cases p x
    · simpa using this
    · simpa using this
/-- How windows are made. -/
structure Cf where
  kd : Nat
  size : Int
  step : Int
def Cf.st (c : Cf) : Int := if c.kd = 0 then c.size else c.step
structure Cf.ok (c : Cf) : Prop where
  kd : c.kd ≤ 2
  size : 1 ≤ c.size
  slide : c.kd = 1 → 1 ≤ c.step ∧ c.step ≤ c.size ∧ c.size ≤ 16 * c.step
def wsC (c : Cf) (t : Int) : List (Int × Int) := if c.kd = 2 then [(t, t + c.size)] else ofS c.size c.st t
/-- The pairs of names and values of events. -/
def PairsOf (c : Cf) (es : List Ev) (P : List (Nm × Nat)) : Prop :=
  (c.kd = 2 → ∃ f : Ev → Nm, (∀ e ∈ es, Sess c.size es (f e) ∧ Has c.size (f e) e) ∧ P = es.map (fun e => (f e, e.val))) ∧ (c.kd ≠ 2 → P = es.flatMap (pairsE c.size c.st))
theorem PairsOf.perm {c : Cf} (hc : c.ok) {es es' : List Ev} {P P' : List (Nm × Nat)} (h : PairsOf c es P) (h' : PairsOf c es' P') (hp : es.Perm es') : P.Perm P' := by
  by_cases k : c.kd = 2
  · obtain ⟨f, hf, rfl⟩ := h.1 k
    obtain ⟨f', hf', rfl⟩ := h'.1 k
    have e : es.map (fun e => (f e, e.val)) = es.map (fun e => (f' e, e.val)) := by
      apply List.map_congr_left
      intro x hx
      have a := hf x hx
      have b := hf' x (hp.mem_iff.1 hx)
      rw [a.1.uniq hc.size (b.1.cong fun e => hp.mem_iff.symm) a.2 b.2]
    rw [e]
    exact hp.map _
  · rw [h.2 k, h'.2 k]
    exact hp.flatMap_right _
def gsOf (c : Cf) (es : List Ev) (gs : List Gr) : List Gr := es.foldl (fun gs e => (wsC c e.t).foldl (fun gs w => putAt c.kd gs e w gs.length) gs) gs
theorem grp_ws {c : Cf} (hc : c.ok) (hk : c.kd ≠ 2) {E0 : List Ev} {e : Ev} (hE : ∀ x ∈ E0, EvLe x e) : ∀ (ws1 ws0 : List (Int × Int)) (gs : List Gr), ofS c.size c.st e.t = ws0 ++ ws1 → Grp (E0.flatMap (pairsE c.size c.st) ++ ws0.map (fun w => (nmE e w, e.val))) gs →
    Grp ((E0 ++ [e]).flatMap (pairsE c.size c.st)) (ws1.foldl (fun gs w => putAt c.kd gs e w gs.length) gs) := by
  intro ws1
  induction ws1 with
  | nil =>
    intro ws0 gs hw h
    rw [List.append_nil] at hw
    rw [List.flatMap_append, List.flatMap_cons, List.flatMap_nil, List.append_nil, List.foldl_nil]
    unfold pairsE at h ⊢
    rw [hw]; exact h
  | cons w ws1 ih =>
    intro ws0 gs hw h
    rw [List.foldl_cons]
    have hst : 1 ≤ c.st ∧ (c.kd = 0 ∧ c.st = c.size ∨ c.kd = 1 ∧ c.size ≤ 16 * c.st) := by
      unfold Cf.st
      have h1 := hc.kd
      have h2 := hc.size
      have h3 := hc.slide
      by_cases q : c.kd = 0
      · rw [if_pos q]; exact ⟨h2, .inl ⟨q, rfl⟩⟩
      · rw [if_neg q]
        have k1 : c.kd = 1 := by omega
        exact ⟨(h3 k1).1, .inr ⟨k1, (h3 k1).2.2⟩⟩
    exact ih (ws0 ++ [w]) _ (by rw [hw]; simp) (put_grp hst.2 hst.1 hE hw h)
theorem grp_of {c : Cf} (hc : c.ok) (hk : c.kd ≠ 2) : ∀ (E1 E0 : List Ev) (gs : List Gr), (E0 ++ E1).Pairwise EvLe → Grp (E0.flatMap (pairsE c.size c.st)) gs → Grp ((E0 ++ E1).flatMap (pairsE c.size c.st)) (gsOf c E1 gs) := by
  intro E1
  induction E1 with
  | nil => intro E0 gs _ h; rw [List.append_nil]; exact h
  | cons e E1 ih =>
    intro E0 gs hp h
    have hE : ∀ x ∈ E0, EvLe x e := fun x hx => (List.pairwise_append.1 hp).2.2 x hx e (by simp)
    have := grp_ws hc hk hE (ofS c.size c.st e.t) [] gs (by simp) (by simpa using h)
    have h2 := ih (E0 ++ [e]) _ (by simpa using hp) this
    rw [show E0 ++ [e] ++ E1 = E0 ++ e :: E1 by simp] at h2
    unfold gsOf at h2 ⊢
    rw [List.foldl_cons, show wsC c e.t = ofS c.size c.st e.t from if_neg hk]
    exact h2
theorem sj_of {c : Cf} (hc : c.ok) (hk : c.kd = 2) : ∀ (E1 E0 : List Ev) (gs : List Gr), (E0 ++ E1).Pairwise EvLe → SJ c.size E0 gs → SJ c.size (E0 ++ E1) (gsOf c E1 gs) := by
  intro E1
  induction E1 with
  | nil => intro E0 gs _ h; rw [List.append_nil]; exact h
  | cons e E1 ih =>
    intro E0 gs hp h
    have hE : ∀ x ∈ E0, EvLe x e := fun x hx => (List.pairwise_append.1 hp).2.2 x hx e (by simp)
    have h2 := ih (E0 ++ [e]) _ (by simpa using hp) (h.put hc.size e hE)
    rw [show E0 ++ [e] ++ E1 = E0 ++ e :: E1 by simp] at h2
    unfold gsOf at h2 ⊢
    rw [List.foldl_cons, show wsC c e.t = [(e.t, e.t + c.size)] from if_pos hk, hk] 
    rw [hk] at h2
    exact h2
/-- What the code puts together is the groups of the events' pairs. -/
theorem groups_are {c : Cf} (hc : c.ok) {es : List Ev} (hs : es.Pairwise EvLe) : ∃ P, PairsOf c es P ∧ Grp P (gsOf c es []) := by
  by_cases k : c.kd = 2
  · have h := sj_of hc k es [] [] (by simpa using hs) SJ.none
    rw [List.nil_append] at h
    have hex : ∀ e : Ev, ∃ nm : Nm, e ∈ es → (∃ g ∈ gsOf c es [], g.nm = nm) ∧ Has c.size nm e := fun e => by
      by_cases he : e ∈ es
      · obtain ⟨g, hg, r⟩ := h.has e he
        exact ⟨g.nm, fun _ => ⟨⟨g, hg, rfl⟩, r⟩⟩
      · exact ⟨⟨e.key, 0, 0⟩, fun q => absurd q he⟩
    obtain ⟨f, hf⟩ : ∃ f : Ev → Nm, ∀ e, e ∈ es → (∃ g ∈ gsOf c es [], g.nm = f e) ∧ Has c.size (f e) e := ⟨fun e => Classical.choose (hex e), fun e => Classical.choose_spec (hex e)⟩
    have hS : ∀ e ∈ es, Sess c.size es (f e) ∧ Has c.size (f e) e := fun e he => by
      obtain ⟨⟨g, hg, q⟩, r⟩ := hf e he
      exact ⟨q ▸ h.ses g hg, r⟩
    refine ⟨es.map (fun e => (f e, e.val)), ⟨fun _ => ⟨f, hS, rfl⟩, fun q => absurd k q⟩, h.asc, ?_, ?_, ?_⟩
    · intro g hg
      obtain ⟨e, he, _, _, r⟩ := (h.ses g hg).first hc.size
      exact ⟨(f e, e.val), List.mem_map.2 ⟨e, he, rfl⟩, (hS e he).1.uniq hc.size (h.ses g hg) (hS e he).2 r⟩
    · intro p hp
      obtain ⟨e, he, rfl⟩ := List.mem_map.1 hp
      obtain ⟨⟨g, hg, q⟩, _⟩ := hf e he
      exact ⟨g, hg, q⟩
    · intro g hg
      rw [h.val g hg, filter_map_of es f (·.val) g.nm (fun e => decide (Has c.size g.nm e))]
      intro e he
      rw [decide_eq_decide]
      constructor
      · intro q; rw [← q]; exact (hS e he).2
      · intro q; exact (hS e he).1.uniq hc.size (h.ses g hg) (hS e he).2 q
  · have h := grp_of hc k es [] [] (by simpa using hs) (by simpa using Grp.none)
    exact ⟨_, ⟨fun q => absurd q k, fun _ => rfl⟩, h⟩
end Go.Proofs.Ythplelglifnhoaa
