import Derived.Test.YtejkilgpcbdepaaExInv
/-! Regions that draw their order: each operation leaves a value of which a fact is known, whichever comes up first. -/
namespace Go.Proofs.Ytejkilgpcbdepaa
open Go.RowKit
set_option linter.unusedVariables false

section
variable {P : Program} {ops : Array Oper} {Q : Exit → Act → World → Prop}
def dstAt (ops : Array Oper) (i : Nat) : Option Tmp := (ops[i]?).bind (·.dst)
/-- Where the operations write: within the frame, each elsewhere, and none where the fixed values stand. -/
def dstsB (ops : Array Oper) (n : Nat) (T : List Nat) : Bool :=
  (List.range ops.size).all fun i => match dstAt ops i with
    | none => true
    | some d => decide (d < n) && T.all (· != d) && (List.range ops.size).all fun j => decide (i = j) || dstAt ops j != some d
theorem dsts_spec {n : Nat} {T : List Nat} (h : dstsB ops n T = true) {i d : Nat} (hi : i < ops.size) (hd : dstAt ops i = some d) : d < n ∧ (∀ t, t ∈ T → t ≠ d) ∧ ∀ j, j < ops.size → i ≠ j → dstAt ops j ≠ some d := by
  have h1 := List.all_eq_true.1 h i (List.mem_range.2 hi)
  rw [hd] at h1
  simp only [Bool.and_eq_true, decide_eq_true_eq] at h1
  obtain ⟨⟨h1, h2⟩, h3⟩ := h1
  refine ⟨h1, fun t ht => by simpa using List.all_eq_true.1 h2 t ht, fun j hj hne e => ?_⟩
  have := List.all_eq_true.1 h3 j (List.mem_range.2 hj)
  rw [e] at this
  simp [hne] at this
structure Fixed (n : Nat) (T : List (Nat × Value)) (a : Act) : Prop where
  size : a.tmps.size = n
  dfs : a.defers = []
  at_ : ∀ p, p ∈ T → a.tmps[p.1]? = some p.2
theorem region_vals {id : Nat} {a : Act} {w : World} (n : Nat) (T : List (Nat × Value)) (Vp : Nat → World → Value → Prop) (S : World → Prop)
    (hm : P.follows .mixedOrders = true) (hf : forwardB .any ops = true) (hb : inB .any ops = true) (hd : dstsB ops n (T.map (·.1)) = true)
    (hV : ∀ j w w' v, Below w.heap.size w w' → Vp j w v → Vp j w' v) (hS : ∀ w w', Below w.heap.size w w' → S w → S w')
    (h0 : Fixed n T a) (h3 : S w)
    (hstep : ∀ a w i, Fixed n T a → S w → (∀ j, Region.waitsFor .any ops i j = true → ∀ d, dstAt ops j = some d → ∃ v, a.tmps[d]? = some v ∧ Vp j w v) → i < ops.size →
      wpOp P ops Q i (fun a' w' => Below w.heap.size w w' ∧ ∃ v, a' = a.put (dstAt ops i) v ∧ Vp i w' v) a w)
    (hend : ∀ a w', Below w.heap.size w w' → Fixed n T a → S w' → (∀ j, j < ops.size → ∀ d, dstAt ops j = some d → ∃ v, a.tmps[d]? = some v ∧ Vp j w' v) → Q .normal a w') : (Code.region id ops true).wp P Q a w := by
  refine region_inv hm hf hb (fun listed a w' => Below w.heap.size w w' ∧ Fixed n T a ∧ S w' ∧ ∀ j, j < ops.size → listed.getD j false = true → ∀ d, dstAt ops j = some d → ∃ v, a.tmps[d]? = some v ∧ Vp j w' v) ?_ ?_ ?_
  · refine ⟨(Below.refl w.heap.size w).drew, h0, hS w w.drew (Below.refl _ _).drew h3, fun j _ h => ?_⟩
    rw [getD_replicate_false] at h; cases h
  · intro listed a w1 i hs hc hI hi hu hr
    obtain ⟨i1, i2, i3, i4⟩ := hI
    refine wpOp_mono ?_ (hstep a w1 i i2 i3 (fun j hw d hd' => ?_) hi)
    · rintro a' w2 ⟨b, v, rfl, hv⟩
      have hsp : ∀ d, dstAt ops i = some d → d < n ∧ (∀ t, t ∈ T.map (·.1) → t ≠ d) ∧ ∀ j, j < ops.size → i ≠ j → dstAt ops j ≠ some d := fun d h => dsts_spec hd hi h
      refine ⟨below_trans i1 b, ?_, hS _ _ b i3, fun j hj hl d hjd => ?_⟩
      · cases hdi : dstAt ops i with
        | none => exact i2
        | some d =>
          obtain ⟨_, s2, _⟩ := hsp d hdi
          refine ⟨?_, i2.dfs, fun p hp => ?_⟩
          · show (a.tmps.setIfInBounds d v).size = n
            rw [Array.size_setIfInBounds]; exact i2.size
          · show (a.tmps.setIfInBounds d v)[p.1]? = _
            rw [Array.getElem?_setIfInBounds_ne (fun e => s2 p.1 (List.mem_map.2 ⟨p, hp, rfl⟩) e.symm)]
            exact i2.at_ p hp
      · by_cases e : i = j
        · subst e
          rw [hjd]
          obtain ⟨s1, _, _⟩ := hsp d hjd
          refine ⟨v, ?_, hv⟩
          show (a.tmps.setIfInBounds d v)[d]? = _
          rw [Array.getElem?_setIfInBounds_self_of_lt (by rw [i2.size]; exact s1)]
        · rw [getD_set_ne false e] at hl
          obtain ⟨u, hu1, hu2⟩ := i4 j hj hl d hjd
          refine ⟨u, ?_, hV _ _ _ _ b hu2⟩
          cases hdi : dstAt ops i with
          | none => exact hu1
          | some d' =>
            obtain ⟨_, _, s3⟩ := hsp d' hdi
            show (a.tmps.setIfInBounds d' v)[d]? = _
            rw [Array.getElem?_setIfInBounds_ne (fun e2 : d' = d => s3 j hj e (hjd.trans (congrArg some e2.symm)))]
            exact hu1
    · have hl := dep_of hr hw
      have hj : j < ops.size := by
        obtain ⟨v, h⟩ : ∃ o, ops[j]? = some o := by
          unfold dstAt at hd'
          cases hq : ops[j]? with
          | none => rw [hq] at hd'; cases hd'
          | some o => exact ⟨o, rfl⟩
        exact (Array.getElem?_eq_some_iff.1 h).1
      exact i4 j hj hl d hd'
  · intro listed a w1 hI hall
    exact hend a w1 hI.1 hI.2.1 hI.2.2.1 (fun j hj d hd' => hI.2.2.2 j hj (hall j hj) d hd')
theorem wpOp_of_wp {i : Nat} {o : Oper} {K : Act → World → Prop} {a : Act} {w : World} (hi : ops[i]? = some o) (hw : Region.wanted o (yielded ops a.tmps) = true) (h : o.wp P a w K Q) : wpOp P ops Q i K a w := by
  unfold wpOp
  simp only [hi, hw, if_true]
  exact .inl h
end
end Go.Proofs.Ytejkilgpcbdepaa
