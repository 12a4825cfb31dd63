import Derived.Test.YtejkilgpcbdepaaExVals
/-! Regions that draw their order: what is left is what the order of the text would leave, whichever order is drawn. -/
namespace Go.Proofs.Ytejkilgpcbdepaa
open Go.RowKit
set_option linter.unusedVariables false

section
variable {P : Program} {ops : Array Oper} {Q : Exit → Act → World → Prop}
def upd (vals : Nat → Value) (i : Nat) (v : Value) : Nat → Value := fun j => if j = i then v else vals j
/-- The frame behind the operations, in the order of the text. -/
def putAll (ops : Array Oper) (vals : Nat → Value) (a : Act) : Nat → Act
  | 0 => a
  | n + 1 => (putAll ops vals a n).put (dstAt ops n) (vals n)
theorem put_size (a : Act) (d : Option Tmp) (v : Value) : (a.put d v).tmps.size = a.tmps.size := by
  cases d with
  | none => rfl
  | some d => show (a.tmps.setIfInBounds d v).size = _; rw [Array.size_setIfInBounds]
theorem put_dfs (a : Act) (d : Option Tmp) (v : Value) : (a.put d v).defers = a.defers := by cases d <;> rfl
theorem put_self (a : Act) (d : Tmp) (v : Value) (h : d < a.tmps.size) : (a.put (some d) v).tmps[d]? = some v := by
  show (a.tmps.setIfInBounds d v)[d]? = _
  rw [Array.getElem?_setIfInBounds_self_of_lt h]
theorem put_other (a : Act) (d : Option Tmp) (t : Tmp) (v : Value) (h : d ≠ some t) : (a.put d v).tmps[t]? = a.tmps[t]? := by
  cases d with
  | none => rfl
  | some d =>
    show (a.tmps.setIfInBounds d v)[t]? = _
    rw [Array.getElem?_setIfInBounds_ne (fun e => h (congrArg some e))]
theorem putAll_size (vals : Nat → Value) (a : Act) : ∀ n, (putAll ops vals a n).tmps.size = a.tmps.size ∧ (putAll ops vals a n).defers = a.defers := by
  intro n
  induction n with
  | zero => exact ⟨rfl, rfl⟩
  | succ n ih => exact ⟨(put_size _ _ _).trans ih.1, (put_dfs _ _ _).trans ih.2⟩
theorem putAll_other (vals : Nat → Value) (a : Act) (t : Tmp) : ∀ n, (∀ j, j < n → dstAt ops j ≠ some t) → (putAll ops vals a n).tmps[t]? = a.tmps[t]? := by
  intro n
  induction n with
  | zero => intro _; rfl
  | succ n ih =>
    intro h
    rw [putAll, put_other _ _ _ _ (h n (by omega))]
    exact ih (fun j hj => h j (by omega))
theorem putAll_at (vals : Nat → Value) (a : Act) (i : Nat) (t : Tmp) (ht : t < a.tmps.size) (hi : dstAt ops i = some t) : ∀ n, i < n → (∀ j, j < n → i ≠ j → dstAt ops j ≠ some t) → (putAll ops vals a n).tmps[t]? = some (vals i) := by
  intro n
  induction n with
  | zero => intro h; omega
  | succ n ih =>
    intro h hne
    rw [putAll]
    by_cases e : i = n
    · subst e
      rw [hi]
      exact put_self _ _ _ (by rw [(putAll_size vals a i).1]; exact ht)
    · rw [put_other _ _ _ _ (hne n (by omega) e)]
      exact ih (by omega) (fun j hj => hne j (by omega))
/-- The frame while the region runs: what is listed lies in its place, all else is as it was. -/
structure InRun (ops : Array Oper) (a0 : Act) (listed : Array Bool) (vals : Nat → Value) (a : Act) : Prop where
  size : a.tmps.size = a0.tmps.size
  dfs : a.defers = a0.defers
  at_ : ∀ j d, j < ops.size → listed.getD j false = true → dstAt ops j = some d → a.tmps[d]? = some (vals j)
  old : ∀ t, (∀ j, j < ops.size → dstAt ops j ≠ some t) → a.tmps[t]? = a0.tmps[t]?
theorem act_ext {a b : Act} (h : a.tmps = b.tmps) (k : a.defers = b.defers) : a = b := by
  cases a; cases b; cases h; cases k; rfl
theorem region_run {id : Nat} {a0 : Act} {w0 : World} (I : Array Bool → (Nat → Value) → World → Prop)
    (hm : P.follows .mixedOrders = true) (hf : forwardB .any ops = true) (hb : inB .any ops = true) (hd : dstsB ops a0.tmps.size [] = true)
    (h0 : I (Array.replicate ops.size false) (fun _ => undef) w0.drew)
    (hstep : ∀ listed vals a w i, listed.size = ops.size → Closed .any ops listed → I listed vals w → InRun ops a0 listed vals a → i < ops.size → listed.getD i false = false → i ∈ Region.ready .any ops listed →
      wpOp P ops Q i (fun a' w' => ∃ v, a' = a.put (dstAt ops i) v ∧ I (listed.setIfInBounds i true) (upd vals i v) w') a w)
    (hend : ∀ listed vals w F, I listed vals w → (∀ i, i < ops.size → listed.getD i false = true) → F = putAll ops vals a0 ops.size → Q .normal F w) : (Code.region id ops true).wp P Q a0 w0 := by
  refine region_inv hm hf hb (fun listed a w => ∃ vals, I listed vals w ∧ InRun ops a0 listed vals a) ?_ ?_ ?_
  · refine ⟨_, h0, rfl, rfl, fun j d _ h => ?_, fun t _ => rfl⟩
    rw [getD_replicate_false] at h; cases h
  · rintro listed a w i hs hc ⟨vals, hI, hR⟩ hi hu hr
    refine wpOp_mono ?_ (hstep listed vals a w i hs hc hI hR hi hu hr)
    rintro a' w' ⟨v, rfl, hI'⟩
    refine ⟨_, hI', (put_size _ _ _).trans hR.size, (put_dfs _ _ _).trans hR.dfs, fun j d hj hl hdj => ?_, fun t ht => ?_⟩
    · by_cases e : i = j
      · subst e
        obtain ⟨s1, _, _⟩ := dsts_spec hd hi hdj
        rw [hdj, put_self _ _ _ (by rw [hR.size]; exact s1)]
        simp [upd]
      · rw [getD_set_ne false e] at hl
        obtain ⟨_, _, s3⟩ := dsts_spec hd hj hdj
        rw [put_other _ _ _ _ (s3 i hi (Ne.symm e)), hR.at_ j d hj hl hdj]
        simp [upd, Ne.symm e]
    · rw [put_other _ _ _ _ (ht i hi)]
      exact hR.old t ht
  · rintro listed a w ⟨vals, hI, hR⟩ hall
    have : a = putAll ops vals a0 ops.size := by
      refine act_ext ?_ (by rw [hR.dfs, (putAll_size vals a0 _).2])
      apply Array.ext_getElem?
      intro t
      by_cases ht : ∃ j, j < ops.size ∧ dstAt ops j = some t
      · obtain ⟨j, hj, hdj⟩ := ht
        obtain ⟨s1, _, s3⟩ := dsts_spec hd hj hdj
        rw [hR.at_ j t hj (hall j hj) hdj, putAll_at vals a0 j t s1 hdj _ hj s3]
      · have hn : ∀ j, j < ops.size → dstAt ops j ≠ some t := fun j hj h => ht ⟨j, hj, h⟩
        rw [hR.old t hn, putAll_other vals a0 t _ hn]
    exact hend listed vals w a hI hall this
theorem InRun.dep {a0 a : Act} {listed : Array Bool} {vals : Nat → Value} (h : InRun ops a0 listed vals a) {i : Nat} (hr : i ∈ Region.ready .any ops listed) (j : Nat) (hw : Region.waitsFor .any ops i j = true) {d : Tmp} (hj : j < ops.size) (hd : dstAt ops j = some d) : a.tmps[d]? = some (vals j) :=
  h.at_ j d hj (dep_of hr hw) hd
def notDst (ops : Array Oper) (t : Tmp) : Bool := (List.range ops.size).all fun j => dstAt ops j != some t
theorem InRun.fixed {a0 a : Act} {listed : Array Bool} {vals : Nat → Value} (h : InRun ops a0 listed vals a) (t : Tmp) {v : Value} (hn : notDst ops t = true) (hv : a0.tmps[t]? = some v) : a.tmps[t]? = some v := by
  rw [h.old t (fun j hj => by simpa using List.all_eq_true.1 hn j (List.mem_range.2 hj))]
  exact hv
end
end Go.Proofs.Ytejkilgpcbdepaa
