import Derived.Test.YtgpfoamhcoipgaaLn
import Derived.Test.YtgpfoamhcoipgaaLk
/-! Revisions: a drawn region, one change more. -/
namespace Go.Proofs.Ytgpfoamhcoipgaa
open Go.RowKit Go.Sort Go.ChangeMaps
set_option linter.unusedVariables false
set_option linter.unusedSectionVars false
attribute [-simp] Try.isAgg36 Try.sizeOf36 Try.typeInfo36 Try.type36
attribute [-simp] Try.isAgg38 Try.sizeOf38 Try.typeInfo38 Try.type38
attribute [-simp] Try.isAgg40 Try.sizeOf40 Try.typeInfo40 Try.type40
attribute [-simp] Try.isAgg27 Try.sizeOf27 Try.typeInfo27 Try.type27

theorem wanted_undef {ops : Array Oper} {o : Oper} {tmps : Array Value} {k d : Nat} {want : Bool} (hg : o.guard = some (k, want)) (hd : (ops[k]?).bind (·.dst) = some d) (ht : tmps[d]? = some undef) : Region.wanted o (yielded ops tmps) = false := by
  unfold Region.wanted
  rw [hg]
  show (yielded ops tmps k == some want) = _
  unfold yielded
  cases hk : ops[k]? with
  | none => rw [hk] at hd; cases hd
  | some o' =>
    rw [hk] at hd
    have hd' : o'.dst = some d := hd
    simp [hd', ht, undef]
/-- What is known while the region runs that draws a change from all the changes. -/
structure RegC (w0 : World) (L : List Ch) (CV : Nat → Value) (listed : Array Bool) (vals : Nat → Value) (w' : World) : Prop where
  b : Below w0.heap.size w0 w'
  val : ∀ j, j < 4 → listed.getD j false = true → vals j = CV j
  all : listed.getD 4 false = true → listed.getD 7 false = false → ∃ A cap, vals 4 = .slice A L.length cap ∧ RowsAt w' chL A L
  ch : listed.getD 5 false = true → ∃ c : Ch, c.ok ∧ vals 5 = .agg (chA c)
  al : listed.getD 6 false = true → ∃ g C, vals 6 = .pointer (some ⟨g, 0, none⟩) ∧ w0.heap.size ≤ g ∧ w'.heap[g]? = some (.cells C 38 (0, 0)) ∧ C.size = 10 ∧ (listed.getD 7 false = true → ∃ c : Ch, c.ok ∧ C = chA c)
section
variable {w0 w1 w2 : World} {L : List Ch} {CV vals : Nat → Value} {listed : Array Bool}
theorem RegC.start (w0 : World) (m : Nat) : RegC w0 L CV (Array.replicate m false) (fun _ => undef) w0.drew :=
  ⟨(Below.refl _ _).drew, fun j _ h => absurd h (by rw [getD_replicate_false]; decide), fun h => absurd h (by rw [getD_replicate_false]; decide), fun h => absurd h (by rw [getD_replicate_false]; decide), fun h => absurd h (by rw [getD_replicate_false]; decide)⟩
theorem RegC.val_set (h : RegC w0 L CV listed vals w1) {i : Nat} {v : Value} (hv : i < 4 → v = CV i) : ∀ j, j < 4 → (listed.setIfInBounds i true).getD j false = true → upd vals i v j = CV j := fun j hj hl => by
  by_cases e : i = j
  · subst e; simp [upd, hv hj]
  · rw [getD_set_ne false e] at hl
    simp [upd, Ne.symm e, h.val j hj hl]
theorem RegC.ch_set (h : RegC w0 L CV listed vals w1) {i : Nat} {v : Value} (hi : i ≠ 5) : (listed.setIfInBounds i true).getD 5 false = true → ∃ c : Ch, c.ok ∧ upd vals i v 5 = .agg (chA c) := fun hl => by
  rw [getD_set_ne false hi] at hl
  obtain ⟨c, hc, e⟩ := h.ch hl
  exact ⟨c, hc, by simp [upd, Ne.symm hi, e]⟩
theorem RegC.all_set (h : RegC w0 L CV listed vals w1) (b : Below w1.heap.size w1 w2) {i : Nat} {v : Value} (hi : i ≠ 4) (hi7 : i ≠ 7) : (listed.setIfInBounds i true).getD 4 false = true → (listed.setIfInBounds i true).getD 7 false = false → ∃ A cap, upd vals i v 4 = .slice A L.length cap ∧ RowsAt w2 chL A L := fun hl h7 => by
  rw [getD_set_ne false hi] at hl
  rw [getD_set_ne false hi7] at h7
  obtain ⟨A, cap, e, hr⟩ := h.all hl h7
  exact ⟨A, cap, by simp [upd, Ne.symm hi, e], hr.below b⟩
theorem RegC.al_set (h : RegC w0 L CV listed vals w1) (b : Below w1.heap.size w1 w2) {i : Nat} {v : Value} (hi : i ≠ 6) (hi7 : i ≠ 7) : (listed.setIfInBounds i true).getD 6 false = true → ∃ g C, upd vals i v 6 = .pointer (some ⟨g, 0, none⟩) ∧ w0.heap.size ≤ g ∧ w2.heap[g]? = some (.cells C 38 (0, 0)) ∧ C.size = 10 ∧ ((listed.setIfInBounds i true).getD 7 false = true → ∃ c : Ch, c.ok ∧ C = chA c) := fun hl => by
  rw [getD_set_ne false hi] at hl
  obtain ⟨g, C, e, hg, hh, hs, hf⟩ := h.al hl
  refine ⟨g, C, by simp [upd, Ne.symm hi, e], hg, (b.block g (heap_lt hh)).trans hh, hs, fun h7 => ?_⟩
  rw [getD_set_ne false hi7] at h7
  exact hf h7
theorem RegC.keep (h : RegC w0 L CV listed vals w1) (i : Nat) (hi : i < 4) : RegC w0 L CV (listed.setIfInBounds i true) (upd vals i (CV i)) w1 :=
  ⟨h.b, h.val_set (fun _ => rfl), h.all_set (Below.refl _ _) (by omega) (by omega), h.ch_set (by omega), h.al_set (Below.refl _ _) (by omega) (by omega)⟩
theorem RegC.keepV (h : RegC w0 L CV listed vals w1) (i : Nat) (hi : i < 4) {v : Value} (hv : CV i = v) : RegC w0 L CV (listed.setIfInBounds i true) (upd vals i v) w1 := by subst hv; exact h.keep i hi
theorem RegC.keep4 (h : RegC w0 L CV listed vals w1) (b : Below w1.heap.size w1 w2) {A : Option Addr} {cap : Nat} (hr : RowsAt w2 chL A L) : RegC w0 L CV (listed.setIfInBounds 4 true) (upd vals 4 (.slice A L.length cap)) w2 :=
  ⟨below_trans h.b b, h.val_set (fun q => by omega), fun _ _ => ⟨A, cap, by simp [upd], hr⟩, h.ch_set (by decide), h.al_set b (by decide) (by decide)⟩
theorem RegC.keep5 (h : RegC w0 L CV listed vals w1) (b : Below w1.heap.size w1 w2) {c : Ch} (hc : c.ok) : RegC w0 L CV (listed.setIfInBounds 5 true) (upd vals 5 (.agg (chA c))) w2 :=
  ⟨below_trans h.b b, h.val_set (fun q => by omega), h.all_set b (by decide) (by decide), fun _ => ⟨c, hc, by simp [upd]⟩, h.al_set b (by decide) (by decide)⟩
theorem RegC.alloc (h : RegC w0 L CV listed vals w1) {C : Array Value} (hC : C.size = 10) (h7 : listed.getD 7 false = false) : RegC w0 L CV (listed.setIfInBounds 6 true) (upd vals 6 (.pointer (some ⟨w1.heap.size, 0, none⟩))) (w1.alloc (.cells C 38)) :=
  ⟨below_alloc h.b _, h.val_set (fun q => by omega), h.all_set (below_alloc (Below.refl _ _) _) (by decide) (by decide), h.ch_set (by decide), fun _ => ⟨w1.heap.size, C, by simp [upd], h.b.size, heap_alloc_new w1 _, hC, fun q => by rw [getD_set_ne false (by decide), h7] at q; cases q⟩⟩
theorem RegC.store (h : RegC w0 L CV listed vals w1) {g : Nat} (hg : w0.heap.size ≤ g) (e : vals 6 = .pointer (some ⟨g, 0, none⟩)) {C : Array Value} (hh : w1.heap[g]? = some (.cells C 38 (0, 0))) {c : Ch} (hc : c.ok) (hs : 7 < listed.size) : RegC w0 L CV (listed.setIfInBounds 7 true) (upd vals 7 undef) (w1.setRow g (chA c)) :=
  ⟨below_setRow h.b hg _, h.val_set (fun q => by omega), fun _ q => (by rw [getD_set_self _ _ _ hs] at q; cases q), h.ch_set (by decide), fun _ => ⟨g, chA c, by simp [upd, e], hg, setRow_heap _ _ _ _ _ _ hh, rfl, fun _ => ⟨c, hc, rfl⟩⟩⟩
end
end Go.Proofs.Ytgpfoamhcoipgaa
