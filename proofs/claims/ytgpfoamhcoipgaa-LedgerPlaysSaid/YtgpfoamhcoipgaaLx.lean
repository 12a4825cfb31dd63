import Derived.Test.YtgpfoamhcoipgaaLs
import Derived.Test.YtgpfoamhcoipgaaLv
/-! The ledger and the document: plain. -/
namespace Go.Proofs.Ytgpfoamhcoipgaa
open Go.RowKit Go.Sort Go.ChangeMaps
set_option linter.unusedVariables false
set_option linter.unusedSectionVars false

/-- How the document's standing and the ledger's go together. -/
structure Sim (s t : Std) : Prop where
  live : s.live = t.live
  next : s.next = t.next
  a : t.live = true → s.a = t.a
theorem sim_step {n : Nm} {s t t' : Std} {c : Ch} (h : Sim s t) (hc : c.ok) (hn : c.p.nm = n) (e : stepS t c = some t') : Sim (refStep n s c) t' := by
  unfold refStep
  rw [if_pos hn]
  unfold stepS at e
  split at e
  · rename_i q
    injection e with e
    subst e
    exact ⟨q.1, by rw [if_pos q.1]; exact q.2.2, fun _ => rfl⟩
  · split at e
    · rename_i q
      injection e with e
      subst e
      exact ⟨q.1, by show (if c.put = true then c.rev else (c.rev + 1) % 18446744073709551616) = _; rw [if_neg (by rw [q.1]; decide), q.2.2.1], fun h => by cases h⟩
    · cases e
theorem sim_next {L : List Ch} {c : Ch} {t : Std} (h : Sim (refSt c.p.nm L) t) : nextR L c = (stepS t c).isSome := by
  unfold nextR stepS
  rw [h.live, h.next]
  cases hp : c.put
  · rw [if_neg (by decide), if_neg (fun q => by cases q.1)]
    cases hl : t.live
    · rw [if_neg (fun q => by cases q.2.1)]; rfl
    · rw [h.a hl]
      by_cases hr : c.rev = t.next
      · cases hs : sameAV c.p.a t.a
        · rw [if_neg (fun q => by cases q.2.2.2)]; simp
        · rw [if_pos ⟨rfl, rfl, hr, rfl⟩]; simp [hr]
      · rw [if_neg (fun q => hr q.2.2.1)]; simp [hr]
  · rw [if_pos rfl]
    cases hl : t.live
    · by_cases hr : c.rev = t.next
      · rw [if_pos ⟨rfl, rfl, hr⟩]; simp [hr]
      · rw [if_neg (fun q => hr q.2.2), if_neg (fun q => by cases q.1)]; simp [hr]
    · rw [if_neg (fun q => by cases q.2.1), if_neg (fun q => by cases q.1)]; rfl
theorem addF_app : ∀ {l m : List Ch} {f : Nm → Std}, addF f (l ++ m) = (addF f l).bind fun g => addF g m
  | [], m, f => rfl
  | c :: l, m, f => by
    rw [List.cons_append, addF, addF]
    cases stepS (f c.p.nm) c with
    | none => rfl
    | some s => exact addF_app (l := l)
/-- A list that may be taken from the beginning. -/
def Taken (L : List Ch) (f : Nm → Std) : Prop := addF (fun _ => st0) L = some f
theorem taken_sim {L : List Ch} {f : Nm → Std} (h : Taken L f) (hL : ∀ c ∈ L, c.ok) (n : Nm) : Sim (refSt n L) (f n) := by
  unfold Taken at h
  have key : ∀ (l M : List Ch) (g f : Nm → Std), (∀ n, Sim (refSt n M) (g n)) → (∀ c ∈ l, c.ok) → addF g l = some f → ∀ n, Sim (refSt n (M ++ l)) (f n) := by
    intro l
    induction l with
    | nil =>
      intro M g f hg _ e n
      injection e with e
      subst e
      rw [List.append_nil]; exact hg n
    | cons c l ih =>
      intro M g f hg ho e n
      rw [addF] at e
      cases hs : stepS (g c.p.nm) c with
      | none => rw [hs] at e; cases e
      | some s =>
        rw [hs] at e
        have := ih (M ++ [c]) (putF g c.p.nm s) f (fun k => by
          rw [refSt_snoc]
          unfold putF
          by_cases hk : k = c.p.nm
          · rw [if_pos hk]
            rw [hk]
            exact sim_step (hg _) (ho c List.mem_cons_self) rfl hs
          · rw [if_neg hk]
            unfold refStep
            rw [if_neg (fun q => hk q.symm)]
            exact hg k) (fun x hx => ho x (List.mem_cons_of_mem _ hx)) e n
        rw [List.append_assoc, List.singleton_append] at this
        exact this
  exact key L [] (fun _ => st0) f (fun n => ⟨rfl, rfl, fun _ => rfl⟩) hL h n
theorem taken_next {L : List Ch} {f : Nm → Std} {c : Ch} (h : Taken L f) (hL : ∀ c ∈ L, c.ok) : nextR L c = (stepS (f c.p.nm) c).isSome := sim_next (taken_sim h hL _)
theorem taken_snoc {L : List Ch} {f : Nm → Std} {c : Ch} {s : Std} (h : Taken L f) (hs : stepS (f c.p.nm) c = some s) : Taken (L ++ [c]) (putF f c.p.nm s) := by
  unfold Taken at *
  rw [addF_app, h, Option.bind_some, addF, hs]
  rfl
theorem taken_app {L m : List Ch} {f g : Nm → Std} (h : Taken L f) (hm : addF f m = some g) : Taken (L ++ m) g := by
  unfold Taken at *
  rw [addF_app, h, Option.bind_some, hm]
theorem taken_nil : Taken [] (fun _ => st0) := rfl
theorem addR_eq : ∀ {m L : List Ch} {f : Nm → Std}, Taken L f → (∀ c ∈ L, c.ok) → (∀ c ∈ m, c.ok) → addR L m = (addF f m).map fun _ => L ++ m
  | [], L, f, h, _, _ => by
    show some L = some (L ++ [])
    rw [List.append_nil]
  | c :: m, L, f, h, hL, hm => by
    rw [addR, addF, taken_next h hL]
    cases hs : stepS (f c.p.nm) c with
    | none => rfl
    | some s =>
      show (if true = true then addR (L ++ [c]) m else none) = (addF (putF f c.p.nm s) m).map _
      rw [if_pos rfl, addR_eq (taken_snoc h hs) (fun x hx => by
        rcases List.mem_append.1 hx with q | q
        · exact hL x q
        · rw [List.mem_singleton] at q; rw [q]; exact hm c List.mem_cons_self) (fun x hx => hm x (List.mem_cons_of_mem _ hx)), List.append_assoc, List.singleton_append]
theorem viewR_ok {L : List Ch} {f : Nm → Std} (h : Taken L f) (S : StdOk L f) : ∀ x ∈ viewR L, x.a.ok := fun x hx => by
  have := ((viewIs_R h).mem x).1 hx
  rw [this.2]
  exact (S.ok _).1
end Go.Proofs.Ytgpfoamhcoipgaa
