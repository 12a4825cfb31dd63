import Derived.Test.YtgpfoamhcoipgaaLg
/-! The document's view of changes: plain. -/
namespace Go.Proofs.Ytgpfoamhcoipgaa
open Go.RowKit Go.Sort Go.ChangeMaps
set_option linter.unusedVariables false
set_option linter.unusedSectionVars false

theorem _root_.List.reverseRecOn' {α : Type} {motive : List α → Prop} (l : List α) (nil : motive []) (snoc : ∀ (l : List α) (a : α), motive l → motive (l ++ [a])) : motive l := by
  have key : ∀ n (l : List α), l.length = n → motive l := by
    intro n
    induction n with
    | zero => intro l h; rw [List.eq_nil_of_length_eq_zero h]; exact nil
    | succ n ih =>
      intro l h
      have hne : l ≠ [] := by intro e; rw [e] at h; cases h
      rw [← List.dropLast_concat_getLast hne]
      exact snoc _ _ (ih _ (by rw [List.length_dropLast]; omega))
  exact key _ l rfl
def vStep (c : Ch) (s : List Pn × Bool) (y : Pn) : List Pn × Bool :=
  if y.nm = c.p.nm then s else if s.2 = false ∧ nmLt c.p.nm y.nm = true then (s.1 ++ [c.p] ++ [y], true) else (s.1 ++ [y], s.2)
def vFold (c : Ch) (P : List Pn) : List Pn × Bool := P.foldl (vStep c) ([], !c.put)
def vFin (c : Ch) (s : List Pn × Bool) : List Pn := if s.2 = true then s.1 else s.1 ++ [c.p]
def vOne (out : List Pn) (c : Ch) : List Pn := vFin c (vFold c out)
def viewR (L : List Ch) : List Pn := L.foldl vOne []
theorem vFold_snoc (c : Ch) (P : List Pn) (y : Pn) : vFold c (P ++ [y]) = vStep c (vFold c P) y := by unfold vFold; rw [List.foldl_append]; rfl
theorem viewR_snoc (L : List Ch) (c : Ch) : viewR (L ++ [c]) = vOne (viewR L) c := by unfold viewR; rw [List.foldl_append]; rfl
/-- Panes in order. -/
abbrev Ris (l : List Pn) : Prop := l.Pairwise (fun x y => nmLt x.nm y.nm = true)
structure VInv (c : Ch) (P Q : List Pn) (s : List Pn × Bool) : Prop where
  ris : Ris s.1
  mem : ∀ x, x ∈ s.1 ↔ (x ∈ P ∧ x.nm ≠ c.p.nm) ∨ (s.2 = true ∧ c.put = true ∧ x = c.p)
  no : s.2 = false → c.put = true ∧ ∀ y ∈ P, y.nm ≠ c.p.nm → nmLt y.nm c.p.nm = true
  yes : s.2 = true → c.put = true → ∀ q ∈ Q, nmLt c.p.nm q.nm = true
theorem ris_snoc {l : List Pn} {y : Pn} (h : Ris l) (k : ∀ x ∈ l, nmLt x.nm y.nm = true) : Ris (l ++ [y]) :=
  List.pairwise_append.2 ⟨h, List.pairwise_singleton _ _, fun a ha b hb => by rw [List.mem_singleton] at hb; rw [hb]; exact k a ha⟩
theorem vInv_step {c : Ch} {P Q : List Pn} {y : Pn} {s : List Pn × Bool} (h : VInv c P (y :: Q) s) (ho : Ris (P ++ y :: Q)) : VInv c (P ++ [y]) Q (vStep c s y) := by
  obtain ⟨_, h2, h3⟩ := List.pairwise_append.1 ho
  rw [List.pairwise_cons] at h2
  have hPy : ∀ x ∈ P, nmLt x.nm y.nm = true := fun x hx => h3 x hx y List.mem_cons_self
  unfold vStep
  by_cases e : y.nm = c.p.nm
  · rw [if_pos e]
    refine ⟨h.ris, fun x => ?_, fun hn => ⟨(h.no hn).1, fun z hz hne => ?_⟩, fun hy hp q hq => h.yes hy hp q (List.mem_cons_of_mem _ hq)⟩
    · rw [h.mem x, List.mem_append, List.mem_singleton]
      constructor
      · rintro (⟨a, b⟩ | b)
        · exact .inl ⟨.inl a, b⟩
        · exact .inr b
      · rintro (⟨a | a, b⟩ | b)
        · exact .inl ⟨a, b⟩
        · rw [a] at b; exact absurd e b
        · exact .inr b
    · rw [List.mem_append, List.mem_singleton] at hz
      rcases hz with hz | hz
      · exact (h.no hn).2 z hz hne
      · rw [hz] at hne; exact absurd e hne
  · rw [if_neg e]
    by_cases hb : s.2 = false ∧ nmLt c.p.nm y.nm = true
    · rw [if_pos hb]
      obtain ⟨hp, hlt⟩ := h.no hb.1
      have hall : ∀ x ∈ s.1, nmLt x.nm c.p.nm = true := fun x hx => by
        rcases (h.mem x).1 hx with ⟨a, b⟩ | ⟨a, _⟩
        · exact hlt x a b
        · rw [hb.1] at a; cases a
      refine ⟨ris_snoc (ris_snoc h.ris hall) (fun x hx => ?_), fun x => ?_, fun hn => (by cases hn), fun _ _ q hq => nmLt_trans hb.2 (h2.1 q hq)⟩
      · rw [List.mem_append, List.mem_singleton] at hx
        rcases hx with hx | hx
        · exact nmLt_trans (hall x hx) hb.2
        · rw [hx]; exact hb.2
      · show x ∈ s.1 ++ [c.p] ++ [y] ↔ _
        rw [List.mem_append, List.mem_append, h.mem x, List.mem_append, List.mem_singleton, List.mem_singleton]
        constructor
        · rintro ((( ⟨a, b⟩ | ⟨a, _⟩) | a) | a)
          · exact .inl ⟨.inl a, b⟩
          · rw [hb.1] at a; cases a
          · exact .inr ⟨rfl, hp, a⟩
          · exact .inl ⟨.inr a, by rw [a]; exact e⟩
        · rintro (⟨a | a, b⟩ | ⟨_, _, a⟩)
          · exact .inl (.inl (.inl ⟨a, b⟩))
          · exact .inr a
          · exact .inl (.inr a)
    · rw [if_neg hb]
      have hall : ∀ x ∈ s.1, nmLt x.nm y.nm = true := fun x hx => by
        rcases (h.mem x).1 hx with ⟨a, b⟩ | ⟨a, b, d⟩
        · exact hPy x a
        · rw [d]; exact h.yes a b y List.mem_cons_self
      refine ⟨ris_snoc h.ris hall, fun x => ?_, fun hn => ⟨(h.no hn).1, fun z hz hne => ?_⟩, fun hy hp q hq => h.yes hy hp q (List.mem_cons_of_mem _ hq)⟩
      · show x ∈ s.1 ++ [y] ↔ _
        rw [List.mem_append, h.mem x, List.mem_append, List.mem_singleton]
        constructor
        · rintro ((⟨a, b⟩ | a) | a)
          · exact .inl ⟨.inl a, b⟩
          · exact .inr a
          · exact .inl ⟨.inr a, by rw [a]; exact e⟩
        · rintro (⟨a | a, b⟩ | a)
          · exact .inl (.inl ⟨a, b⟩)
          · exact .inr a
          · exact .inl (.inr a)
      · rw [List.mem_append, List.mem_singleton] at hz
        rcases hz with hz | hz
        · exact (h.no hn).2 z hz hne
        · rw [hz]
          rcases nmLt_total c.p.nm y.nm with q | q | q
          · exact absurd ⟨hn, q⟩ hb
          · exact absurd (nm_eq q).symm e
          · exact q
theorem vInv_fold {c : Ch} {out : List Pn} (ho : Ris out) : ∀ (P Q : List Pn), out = P ++ Q → VInv c P Q (vFold c P) := by
  intro P
  induction P using List.reverseRecOn' with
  | nil =>
    intro Q e
    refine ⟨List.Pairwise.nil, fun x => ?_, fun h => ?_, fun h hp => ?_⟩
    · show x ∈ ([] : List Pn) ↔ _
      constructor
      · intro h; cases h
      · rintro (⟨h, _⟩ | ⟨h, hp, _⟩)
        · cases h
        · have : (!c.put) = true := h
          rw [hp] at this; cases this
    · have : (!c.put) = false := h
      exact ⟨by simpa using this, fun y hy => by cases hy⟩
    · have : (!c.put) = true := h
      rw [hp] at this; cases this
  | snoc P y ih =>
    intro Q e
    rw [List.append_assoc, List.singleton_append] at e
    rw [vFold_snoc]
    exact vInv_step (ih (y :: Q) e) (e ▸ ho)
theorem vOne_spec {c : Ch} {out : List Pn} (ho : Ris out) : Ris (vOne out c) ∧ ∀ x, x ∈ vOne out c ↔ (x ∈ out ∧ x.nm ≠ c.p.nm) ∨ (c.put = true ∧ x = c.p) := by
  have h := vInv_fold (c := c) ho out [] (by rw [List.append_nil])
  unfold vOne vFin
  by_cases hd : (vFold c out).2 = true
  · rw [if_pos hd]
    refine ⟨h.ris, fun x => (h.mem x).trans ?_⟩
    constructor
    · rintro (a | ⟨_, a⟩)
      · exact .inl a
      · exact .inr a
    · rintro (a | a)
      · exact .inl a
      · exact .inr ⟨hd, a⟩
  · rw [if_neg hd]
    have hd : (vFold c out).2 = false := by simpa using hd
    obtain ⟨hp, hlt⟩ := h.no hd
    have hall : ∀ x ∈ (vFold c out).1, nmLt x.nm c.p.nm = true := fun x hx => by
      rcases (h.mem x).1 hx with ⟨a, b⟩ | ⟨a, _⟩
      · exact hlt x a b
      · rw [hd] at a; cases a
    refine ⟨ris_snoc h.ris hall, fun x => ?_⟩
    rw [List.mem_append, h.mem x, List.mem_singleton]
    constructor
    · rintro ((a | ⟨a, _⟩) | a)
      · exact .inl a
      · rw [hd] at a; cases a
      · exact .inr ⟨hp, a⟩
    · rintro (a | ⟨_, a⟩)
      · exact .inl (.inl a)
      · exact .inr a
theorem viewIs_one {f : Nm → Std} {out : List Pn} {c : Ch} {s : Std} (h : ViewIs f out) (hs : stepS (f c.p.nm) c = some s) : ViewIs (putF f c.p.nm s) (vOne out c) := by
  obtain ⟨h1, h2⟩ := vOne_spec (c := c) h.sorted
  have hsl : s.live = c.put ∧ (c.put = true → s.a = c.p.a) := by
    unfold stepS at hs
    split at hs
    · rename_i q
      injection hs with hs
      subst hs
      exact ⟨q.1.symm, fun _ => rfl⟩
    · split at hs
      · rename_i q
        injection hs with hs
        subst hs
        exact ⟨q.1.symm, fun hp => by rw [q.1] at hp; cases hp⟩
      · cases hs
  refine ⟨fun x => (h2 x).trans ?_, h1⟩
  unfold putF
  by_cases e : x.nm = c.p.nm
  · rw [if_pos e, hsl.1]
    constructor
    · rintro (⟨_, a⟩ | ⟨a, b⟩)
      · exact absurd e a
      · exact ⟨a, by rw [hsl.2 a, b]⟩
    · rintro ⟨a, b⟩
      refine .inr ⟨a, ?_⟩
      rw [hsl.2 a] at b
      obtain ⟨nm, av⟩ := x
      obtain ⟨_, _, ⟨nm2, av2⟩⟩ := c
      simp only at e b
      rw [e, b]
  · rw [if_neg e, ← h.mem x]
    constructor
    · rintro (⟨a, _⟩ | ⟨_, a⟩)
      · exact a
      · rw [a] at e; exact absurd rfl e
    · intro a; exact .inl ⟨a, e⟩
theorem viewIs_add : ∀ {l : List Ch} {f f' : Nm → Std} {out : List Pn}, ViewIs f out → addF f l = some f' → ViewIs f' (l.foldl vOne out)
  | [], f, f', out, h, e => by injection e with e; subst e; exact h
  | c :: l, f, f', out, h, e => by
    rw [addF] at e
    cases hs : stepS (f c.p.nm) c with
    | none => rw [hs] at e; cases e
    | some s =>
      rw [hs] at e
      exact viewIs_add (l := l) (viewIs_one h hs) e
theorem viewIs_R {L : List Ch} {f : Nm → Std} (h : addF (fun _ => st0) L = some f) : ViewIs f (viewR L) :=
  viewIs_add (f := fun _ => st0) (out := []) ⟨fun x => ⟨fun h => (by cases h), fun h => (by cases h.1)⟩, List.Pairwise.nil⟩ h
theorem vFold_len (c : Ch) : ∀ P : List Pn, (vFold c P).1.length ≤ P.length + (if (vFold c P).2 = true then 1 else 0) := by
  intro P
  induction P using List.reverseRecOn' with
  | nil => exact Nat.zero_le _
  | snoc P y ih =>
    rw [vFold_snoc, List.length_append, List.length_singleton]
    unfold vStep
    split
    · omega
    · split
      · rename_i q
        rw [q.1] at ih
        simp at ih ⊢
        omega
      · simp at ih ⊢
        omega
theorem vOne_len (out : List Pn) (c : Ch) : (vOne out c).length ≤ out.length + 1 := by
  have := vFold_len c out
  unfold vOne vFin
  split
  · rename_i h; rw [if_pos h] at this; exact this
  · rename_i h; rw [if_neg h] at this; simp; exact this
theorem viewR_len (L : List Ch) : (viewR L).length ≤ L.length := by
  induction L using List.reverseRecOn' with
  | nil => exact Nat.zero_le _
  | snoc L c ih =>
    rw [viewR_snoc, List.length_append, List.length_singleton]
    exact Nat.le_trans (vOne_len _ _) (by omega)
end Go.Proofs.Ytgpfoamhcoipgaa
