import Derived.Test.YtgpfoamhcoipgaaLx
/-! Revisions: plain. -/
namespace Go.Proofs.Ytgpfoamhcoipgaa
open Go.RowKit Go.Sort Go.ChangeMaps
set_option linter.unusedVariables false

def zCh : Ch := ⟨false, 0, default⟩
def putsOf (n : Nm) (P : List Ch) : Nat := P.foldl (fun p c => if c.p.nm = n ∧ c.put = true then p + 1 else p) 0
def lastOf (n : Nm) (P : List Ch) : Ch := P.foldl (fun l c => if c.p.nm = n then c else l) zCh
theorem putsOf_snoc (n : Nm) (P : List Ch) (c : Ch) : putsOf n (P ++ [c]) = if c.p.nm = n ∧ c.put = true then putsOf n P + 1 else putsOf n P := by unfold putsOf; rw [List.foldl_append]; rfl
theorem lastOf_snoc (n : Nm) (P : List Ch) (c : Ch) : lastOf n (P ++ [c]) = if c.p.nm = n then c else lastOf n P := by unfold lastOf; rw [List.foldl_append]; rfl
theorem putsOf_le (n : Nm) (P : List Ch) : putsOf n P ≤ P.length := by
  induction P using List.reverseRecOn' with
  | nil => exact Nat.zero_le _
  | snoc P c ih =>
    rw [putsOf_snoc, List.length_append, List.length_singleton]
    split <;> omega
theorem lastOf_ok {n : Nm} {P : List Ch} (h : ∀ c ∈ P, c.ok) : (lastOf n P).ok := by
  induction P using List.reverseRecOn' with
  | nil => exact ⟨show 0 < 18446744073709551616 by decide, noAV_okK⟩
  | snoc P c ih =>
    rw [lastOf_snoc]
    split
    · exact h c (by simp)
    · exact ih (fun x hx => h x (by simp [hx]))
/-- What stands, by the puts and the last change. -/
structure RevI (s : Std) (p : Nat) (l : Ch) : Prop where
  live : s.live = l.put
  next : s.next + (if s.live = true then 1 else 0) = p
  rev : s.live = true → l.rev = s.next ∧ l.p.a = s.a
theorem revI_step {s t : Std} {p : Nat} {l c : Ch} (h : RevI s p l) (hp : p < 1000000) (e : stepS s c = some t) : RevI t (if c.put = true then p + 1 else p) c := by
  unfold stepS at e
  split at e
  · rename_i q
    injection e with e
    subst e
    have hn := h.next
    rw [q.2.1] at hn
    refine ⟨q.1.symm, ?_, fun _ => ⟨q.2.2, rfl⟩⟩
    show s.next + (if true = true then 1 else 0) = _
    rw [if_pos rfl, if_pos q.1]
    simp at hn
    omega
  · split at e
    · rename_i q
      injection e with e
      subst e
      have hn := h.next
      rw [q.2.1] at hn
      refine ⟨q.1.symm, ?_, fun hh => by cases hh⟩
      show (s.next + 1) % 18446744073709551616 + (if false = true then 1 else 0) = _
      rw [if_neg (by decide), if_neg (by rw [q.1]; decide)]
      simp at hn
      omega
    · cases e
theorem revI_of : ∀ {P : List Ch} {f : Nm → Std}, Taken P f → P.length ≤ 1000 → ∀ n, RevI (f n) (putsOf n P) (lastOf n P) := by
  have key : ∀ (l M : List Ch) (g f : Nm → Std), (∀ n, RevI (g n) (putsOf n M) (lastOf n M)) → addF g l = some f → (M ++ l).length ≤ 1000 → ∀ n, RevI (f n) (putsOf n (M ++ l)) (lastOf n (M ++ l)) := by
    intro l
    induction l with
    | nil =>
      intro M g f hg e _ n
      injection e with e
      subst e
      rw [List.append_nil]; exact hg n
    | cons c l ih =>
      intro M g f hg e hl n
      rw [addF] at e
      cases hs : stepS (g c.p.nm) c with
      | none => rw [hs] at e; cases e
      | some s =>
        rw [hs] at e
        have hM : M.length ≤ 1000 := by rw [List.length_append] at hl; omega
        have := ih (M ++ [c]) (putF g c.p.nm s) f (fun k => by
          rw [putsOf_snoc, lastOf_snoc]
          unfold putF
          by_cases hk : k = c.p.nm
          · rw [if_pos hk, if_pos hk.symm]
            have h1 := hg c.p.nm
            rw [← hk] at h1
            have := revI_step (c := c) (t := s) h1 (by have := putsOf_le k M; omega) (by rw [hk]; exact hs)
            by_cases hp : c.put = true
            · rw [if_pos ⟨hk.symm, hp⟩]; rwa [if_pos hp] at this
            · rw [if_neg (fun q => hp q.2)]; rwa [if_neg hp] at this
          · rw [if_neg hk, if_neg (fun q => hk q.1.symm), if_neg (fun q => hk q.symm)]
            exact hg k) e (by rw [List.append_assoc, List.singleton_append]; exact hl) n
        rw [List.append_assoc, List.singleton_append] at this
        exact this
  intro P f h hl n
  exact key P [] (fun _ => st0) f (fun n => ⟨rfl, rfl, fun h => by cases h⟩) h hl n
theorem sameAV_symm (a b : AV) : sameAV a b = sameAV b a := by
  unfold sameAV
  simp only [eq_comm]
/-- What the statement asks of one change. -/
structure RevOk (p : Nat) (l c : Ch) : Prop where
  put : c.put = true → c.rev = p ∧ l.put = false
  not : c.put = false → l.put = true ∧ l.rev = c.rev ∧ sameAV l.p.a c.p.a = true
theorem revOk_of {P : List Ch} {f : Nm → Std} {c : Ch} {s : Std} (h : Taken P f) (hl : P.length ≤ 1000) (e : stepS (f c.p.nm) c = some s) : RevOk (putsOf c.p.nm P) (lastOf c.p.nm P) c := by
  have hr := revI_of h hl c.p.nm
  have hn := hr.next
  unfold stepS at e
  split at e
  · rename_i q
    rw [q.2.1] at hn
    refine ⟨fun _ => ⟨?_, ?_⟩, fun hp => (by rw [q.1] at hp; cases hp)⟩
    · simp at hn
      rw [q.2.2]; exact hn
    · rw [← hr.live]; exact q.2.1
  · split at e
    · rename_i q
      obtain ⟨r1, r2⟩ := hr.rev q.2.1
      refine ⟨fun hp => (by rw [q.1] at hp; cases hp), fun _ => ⟨by rw [← hr.live]; exact q.2.1, by rw [r1]; exact q.2.2.1.symm, ?_⟩⟩
      rw [r2, sameAV_symm]; exact q.2.2.2
    · cases e
theorem taken_at {L : List Ch} {f : Nm → Std} (h : Taken L f) {i : Nat} {c : Ch} (hi : L[i]? = some c) : ∃ g s, Taken (L.take i) g ∧ stepS (g c.p.nm) c = some s := by
  have hlt := (List.getElem?_eq_some_iff.1 hi).1
  have hd : L.drop i = c :: L.drop (i + 1) := by rw [List.drop_eq_getElem_cons hlt]; congr 1; rw [List.getElem?_eq_getElem hlt] at hi; exact Option.some.inj hi
  have h2 : addF (fun _ => st0) (L.take i ++ L.drop i) = some f := by rw [List.take_append_drop]; exact h
  rw [addF_app] at h2
  cases hq : addF (fun _ => st0) (L.take i) with
  | none => rw [hq] at h2; cases h2
  | some g =>
    rw [hq, hd, Option.bind_some, addF] at h2
    cases hs : stepS (g c.p.nm) c with
    | none => rw [hs] at h2; cases h2
    | some s => exact ⟨g, s, hq, hs⟩
end Go.Proofs.Ytgpfoamhcoipgaa
