import Derived.Test.YtejkilgpcbdepaaExRun
/-! Regions that draw their order: values and rows that are known (the steps are printed by wip/mkreg.py). -/
namespace Go.Proofs.Ytejkilgpcbdepaa
open Go.RowKit
set_option linter.unusedVariables false

section
variable {P : Program} {ops : Array Oper} {Q : Exit → Act → World → Prop} {i : Nat} {o : Oper} {K : Act → World → Prop} {a : Act} {w : World}
theorem wpOp_calls {f : FuncId} {args : Array Value} (hi : ops[i]? = some o) (hw : Region.wanted o (yielded ops a.tmps) = true) (hx : (execOp a.eval o).run P w = .ok (.enter f args) w)
    (hc : Calls P f args w fun e w' => ∃ v, e = .returned v ∧ K (a.put o.dst v) w') : wpOp P ops Q i K a w := by
  refine wpOp_of_wp hi hw ?_
  unfold Oper.wp
  rw [hx]
  exact hc.mono fun e w' ⟨v, he, hk⟩ => by subst he; exact hk
theorem getD_is {a : Act} {t : Tmp} {v : Value} (h : a.tmps[t]? = some v) : a.tmps.getD t undef = v := by rw [Array.getD_eq_getD_getElem?, h]; rfl
theorem wanted_yes {ops : Array Oper} {o : Oper} {tmps : Array Value} {k d : Nat} {want : Bool} (hg : o.guard = some (k, want)) (hd : (ops[k]?).bind (·.dst) = some d) (ht : tmps[d]? = some (.bool want)) : Region.wanted o (yielded ops tmps) = true := by
  unfold Region.wanted
  rw [hg]
  show (yielded ops tmps k == some want) = _
  unfold yielded
  cases hk : ops[k]? with
  | none => rw [hk] at hd; cases hd
  | some o' =>
    rw [hk] at hd
    have hd' : o'.dst = some d := hd
    simp [hd', ht]
theorem wanted_no {ops : Array Oper} {o : Oper} {tmps : Array Value} {k d : Nat} {want : Bool} (hg : o.guard = some (k, want)) (hd : (ops[k]?).bind (·.dst) = some d) (ht : tmps[d]? = some (.bool (!want))) : Region.wanted o (yielded ops tmps) = false := by
  unfold Region.wanted
  rw [hg]
  show (yielded ops tmps k == some want) = _
  unfold yielded
  cases hk : ops[k]? with
  | none => rw [hk] at hd; cases hd
  | some o' =>
    rw [hk] at hd
    have hd' : o'.dst = some d := hd
    cases want <;> simp [hd', ht]
end
/-- What is known while a drawn region runs: which operations left which values, which ones rows of bytes of their own. -/
structure RegI (w0 : World) (isO : Nat → Bool) (BL : Nat → List Int) (CV : Nat → Value) (listed : Array Bool) (vals : Nat → Value) (w' : World) : Prop where
  b : Below w0.heap.size w0 w'
  val : ∀ j, isO j = false → listed.getD j false = true → vals j = CV j
  own : ∀ j, isO j = true → listed.getD j false = true → Own w' w0.heap.size 5 .u8 (vals j) (BL j)
section
variable {w0 w1 w2 : World} {isO : Nat → Bool} {BL : Nat → List Int} {CV vals : Nat → Value} {listed : Array Bool}
theorem RegI.start (w0 : World) (n : Nat) : RegI w0 isO BL CV (Array.replicate n false) (fun _ => undef) w0.drew :=
  ⟨(Below.refl _ _).drew, fun j _ h => absurd h (by rw [getD_replicate_false]; decide), fun j _ h => absurd h (by rw [getD_replicate_false]; decide)⟩
theorem RegI.keep (h : RegI w0 isO BL CV listed vals w1) (b : Below w1.heap.size w1 w2) (i : Nat) (hi : isO i = false) : RegI w0 isO BL CV (listed.setIfInBounds i true) (upd vals i (CV i)) w2 := by
  refine ⟨below_trans h.b b, fun j hj hl => ?_, fun j hj hl => ?_⟩
  · by_cases e : i = j
    · subst e; simp [upd]
    · rw [getD_set_ne false e] at hl
      simp [upd, Ne.symm e, h.val j hj hl]
  · have e : i ≠ j := fun e => by subst e; rw [hi] at hj; cases hj
    rw [getD_set_ne false e] at hl
    simp only [upd, if_neg (Ne.symm e)]
    exact (h.own j hj hl).below b
theorem RegI.keepV (h : RegI w0 isO BL CV listed vals w1) (b : Below w1.heap.size w1 w2) (i : Nat) (hi : isO i = false) {v : Value} (hv : CV i = v) : RegI w0 isO BL CV (listed.setIfInBounds i true) (upd vals i v) w2 := by
  subst hv; exact h.keep b i hi
theorem RegI.keepB (h : RegI w0 isO BL CV listed vals w1) (b : Below w1.heap.size w1 w2) (i : Nat) (hi : isO i = true) (v : Value) (hv : Own w2 w1.heap.size 5 .u8 v (BL i)) : RegI w0 isO BL CV (listed.setIfInBounds i true) (upd vals i v) w2 := by
  refine ⟨below_trans h.b b, fun j hj hl => ?_, fun j hj hl => ?_⟩
  · have e : i ≠ j := fun e => by subst e; rw [hi] at hj; cases hj
    rw [getD_set_ne false e] at hl
    simp [upd, Ne.symm e, h.val j hj hl]
  · by_cases e : i = j
    · subst e
      simp only [upd]
      exact hv.mono h.b.size
    · rw [getD_set_ne false e] at hl
      simp only [upd, if_neg (Ne.symm e)]
      exact (h.own j hj hl).below b
theorem RegI.get (h : RegI w0 isO BL CV listed vals w1) {ops : Array Oper} {a0 a : Act} (hR : InRun ops a0 listed vals a) {i : Nat} (hr : i ∈ Region.ready .any ops listed) (j : Nat) (k1 : isO j = false) (hw : Region.waitsFor .any ops i j = true) {d : Tmp} (hj : j < ops.size) (hd : dstAt ops j = some d) {v : Value} (hv : CV j = v) : a.tmps[d]? = some v := by
  rw [hR.dep hr j hw hj hd, h.val j k1 (dep_of hr hw), hv]
end
end Go.Proofs.Ytejkilgpcbdepaa
