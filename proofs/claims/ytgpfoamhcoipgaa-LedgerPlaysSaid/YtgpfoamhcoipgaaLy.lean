import Derived.Test.YtgpfoamhcoipgaaSm
import Derived.OpenShut
import Derived.Laws.Cover2
import Derived.Test.YtgpfoamhcoipgaaLx
import Derived.Test.YtgpfoamhcoipgaaLh
import Derived.Deep.Slices
/-! Tellings that are the same, and their bytes: the law. -/
namespace Go.Proofs.Ytgpfoamhcoipgaa
open Go.RowKit
set_option linter.unusedVariables false
section
open Go.ChangeShapes Go.WideShapes Go.Deep
variable {H : Type} {enc : TypeId × Value → H} {P : Program} {W : World} {base : Nat} {spare : Nat → Bool} {held : Bool}
theorem trod_flt {fuel : Nat} {t : TypeId} {k : FloatKind} {cs : List Value} {x : DataW H × List MemPlace} (ht : P.underlying t = some (.float k)) (h : DataW.trod enc P W base spare held fuel t cs = some x) : ∃ b, cs = [.float k b] ∧ (Lit.float k b).wf = true := by
  cases fuel with
  | zero => simp [DataW.trod] at h
  | succ n =>
    unfold DataW.trod at h
    rw [ht] at h
    split at h <;> simp_all
theorem at_take {l : List Value} {i : Nat} {v : Value} (h : (l.drop i).take 1 = [v]) : l[i]? = some v := by
  have := congrArg (fun m => m[0]?) h
  simpa using this
set_option maxRecDepth 100000 in
/-- A telling's cells. -/
theorem agg_cells {fuel : Nat} {cs : List Value} {x : DataW H × List MemPlace} (h : DataW.trod enc Try.prog W base spare held fuel 34 cs = some x) : ∃ a : AV, a.ok ∧ cs = (avC a).toList := by
  obtain ⟨xs, n, rfl, hx, hl, hxl, hf⟩ := DataW.trod_struct Try.underlying34 h
  have hc : Try.prog.cellsOf 34 = 5 := by kernel_rfl
  have hl5 : cs.length = 5 := by rw [hl, hc]
  have g0 := hf 0 _ rfl
  have g1 := hf 1 _ rfl
  have g2 := hf 2 _ rfl
  have g3 := hf 3 _ rfl
  have g4 := hf 4 _ rfl
  have hxl5 : xs.length = 5 := hxl
  rw [List.getElem?_eq_getElem (by omega)] at g0 g1 g2 g3 g4
  obtain ⟨n0, e0, _, w0⟩ := DataW.trod_int Try.underlying29 g0
  obtain ⟨b1, e1, w1⟩ := trod_flt Try.underlying32 g1
  obtain ⟨b2, e2, _⟩ := DataW.trod_bool Try.underlying4 g2
  obtain ⟨b3, e3, w3⟩ := trod_flt Try.underlying32 g3
  obtain ⟨b4, e4, w4⟩ := trod_flt Try.underlying32 g4
  have c0 := at_take (l := cs) (i := 0) e0
  have c1 := at_take (l := cs) (i := 1) e1
  have c2 := at_take (l := cs) (i := 2) e2
  have c3 := at_take (l := cs) (i := 3) e3
  have c4 := at_take (l := cs) (i := 4) e4
  simp only [Lit.wf, IntKind.min, IntKind.max, IntKind.bits, IntKind.signed, decide_eq_true_eq, Bool.and_eq_true] at w0 w1 w3 w4
  have hb1 : b1 < 18446744073709551616 := w1
  have hb3 : b3 < 18446744073709551616 := w3
  have hb4 : b4 < 18446744073709551616 := w4
  have hn : 0 ≤ n0 ∧ n0 < 18446744073709551616 := by simp at w0; omega
  obtain ⟨m, rfl⟩ := Int.eq_ofNat_of_zero_le hn.1
  refine ⟨⟨m, b1, b2, b3, b4⟩, ⟨show m < 18446744073709551616 by omega, hb1, hb3, hb4⟩, ?_⟩
  apply List.ext_getElem?
  intro i
  match i with
  | 0 => exact c0
  | 1 => exact c1
  | 2 => exact c2
  | 3 => exact c3
  | 4 => exact c4
  | i + 5 => rw [List.getElem?_eq_none (by omega), List.getElem?_eq_none (by show 5 ≤ i + 5; omega)]
set_option maxRecDepth 100000 in
/-- A telling that came in. -/
theorem open_agg {v : Value} {d : DataW H} {ps : List MemPlace} {r : Reach} {b0 : Nat} (hv : Value.okWide Try.prog W r b0 34 v) (h : DataW.Trod enc Try.prog W base spare held 34 v d ps) : ∃ a : AV, a.ok ∧ v = .agg (avC a) := by
  obtain ⟨cs, rfl, hs⟩ := okWide_struct Try.underlying34 hv
  obtain ⟨fuel, hf⟩ := h
  obtain ⟨a, ha, e⟩ := agg_cells hf
  refine ⟨a, ha, ?_⟩
  have e2 : cs.toList = (avC a).toList := e
  rw [Array.toList_inj.1 e2]
end
/-! Numbers' bytes tell them, whatever comes behind. -/
end Go.Proofs.Ytgpfoamhcoipgaa
/-! Drawn changes, as they come in. -/
namespace Go.Proofs.Ytgpfoamhcoipgaa
open Go.RowKit Go.ChangeShapes Go.WideShapes Go.Deep
set_option linter.unusedVariables false
section
variable {H : Type} {enc : TypeId × Value → H} {P : Program} {W : World} {base : Nat} {spare : Nat → Bool} {held : Bool} {α : Type} {encL : α → List Value} {ok : α → Prop} {k bytes : Nat}
/-- A slice of structs that came in. -/
theorem open_rows (t e : TypeId) {fuel : Nat} {cs : List Value} {x : DataW H × List MemPlace} (ht : P.underlying t = some (.slice e)) (ce : P.cellsOf e = k) (hk : 0 < k) (hlen : ∀ y, (encL y).length = k)
    (hel : ∀ {n : Nat} {cs' : List Value} {y : DataW H × List MemPlace}, DataW.trod enc P W base spare held n e cs' = some y → ∃ z, ok z ∧ cs' = encL z)
    (h : DataW.trod enc P W base spare held fuel t cs = some x) : ∃ A cap, ∃ l : List α, cs = [.slice A l.length cap] ∧ l.length ≤ cap ∧ RowsAt W encL A l ∧ ∀ z ∈ l, ok z := by
  rcases open_slice ht h with ⟨rfl, _⟩ | ⟨a, len, cap, m, n, D, Pl, rfl, hb, hl, hm, hmm, rfl, hx⟩
  · exact ⟨none, 0, [], rfl, Nat.le_refl _, RowsAt.nil _ _, fun z hz => by cases hz⟩
  have hlm : len ≤ m := by rw [hmm]; split <;> omega
  have each : ∀ i, i < len → ∃ z : α, ok z ∧ ∀ j v, (encL z)[j]? = some v → W.cell? (a.add (i * k + j)) = some v := fun i hi => by
    obtain ⟨cs', h1, h2⟩ := hx i (by omega)
    obtain ⟨z, hz, rfl⟩ := hel h2
    rw [ce] at h1
    obtain ⟨_, hln, hcell⟩ := World.cells?_some h1
    refine ⟨z, hz, fun j v hj => ?_⟩
    have hjk : j < k := by have := (List.getElem?_eq_some_iff.1 hj).1; rwa [hlen] at this
    have := hcell j hjk
    rw [add_add] at this
    exact this.trans hj
  cases len with
  | zero => exact ⟨some a, cap, [], rfl, Nat.zero_le _, RowsAt.nil _ _, fun z hz => by cases hz⟩
  | succ len =>
    obtain ⟨z0, _, hz0⟩ := each 0 (by omega)
    have h00 := hz0 0 _ (List.getElem?_eq_getElem (by rw [hlen]; exact hk))
    obtain ⟨b, off, spot⟩ := a
    have hspot : spot = none := by
      have h1 : (⟨b, off, spot⟩ : Addr).add (0 * k + 0) = ⟨b, off, spot⟩ := by simp [Addr.add]
      rw [h1] at h00
      exact World.cell?_spot h00
    subst hspot
    haveI : Inhabited α := ⟨z0⟩
    obtain ⟨f, hf⟩ : ∃ f : Nat → α, ∀ i, i < len + 1 → ok (f i) ∧ ∀ j v, (encL (f i))[j]? = some v → W.cell? ((⟨b, off, none⟩ : Addr).add (i * k + j)) = some v :=
      ⟨fun i => if h : i < len + 1 then Classical.choose (each i h) else z0, fun i hi => by
        simp only [dif_pos hi]
        exact Classical.choose_spec (each i hi)⟩
    refine ⟨some ⟨b, off, none⟩, cap, (List.range (len + 1)).map f, by rw [List.length_map, List.length_range], by rw [List.length_map, List.length_range]; exact hl, .inr ⟨b, off, rfl, fun j v hv => ?_⟩, fun z hz => ?_⟩
    · have key : ∀ (l : List α) (o : Nat), (∀ i y, l[i]? = some y → ∀ j v, (encL y)[j]? = some v → W.cell? ⟨b, o + (i * k + j), none⟩ = some v) → ∀ j v, (l.flatMap encL)[j]? = some v → W.cell? ⟨b, o + j, none⟩ = some v := by
        intro l
        induction l with
        | nil => intro o _ j v h; cases h
        | cons y l ih =>
          intro o hy j v h
          rw [List.flatMap_cons] at h
          by_cases hj : j < k
          · rw [List.getElem?_append_left (by rw [hlen]; exact hj)] at h
            have := hy 0 y rfl j v h
            rwa [Nat.zero_mul, Nat.zero_add] at this
          · rw [List.getElem?_append_right (by rw [hlen]; omega), hlen] at h
            have := ih (o + k) (fun i z hz j v h => by
              have := hy (i + 1) z (by rw [List.getElem?_cons_succ]; exact hz) j v h
              rw [Nat.add_mul, Nat.one_mul] at this
              rw [show o + k + (i * k + j) = o + (i * k + k + j) by omega]
              exact this) (j - k) v h
            rwa [show o + k + (j - k) = o + j by omega] at this
      refine key _ off (fun i y hy j v h => ?_) j v hv
      have hi : i < len + 1 := by have := (List.getElem?_eq_some_iff.1 hy).1; rwa [List.length_map, List.length_range] at this
      rw [List.getElem?_map, List.getElem?_range hi] at hy
      have hy : f i = y := Option.some.inj hy
      subst hy
      have := (hf i hi).2 j v h
      rwa [Addr.add_mid] at this
    · obtain ⟨i, hi, rfl⟩ := List.mem_map.1 hz
      exact (hf i (List.mem_range.1 hi)).1
end
section
variable {H : Type} {enc : TypeId × Value → H} {W : World} {base : Nat} {spare : Nat → Bool} {held : Bool}
set_option maxRecDepth 100000 in
theorem dr_cells {fuel : Nat} {cs : List Value} {x : DataW H × List MemPlace} (h : DataW.trod enc Try.prog W base spare held fuel 40 cs = some x) : ∃ a : Dr, a.ok ∧ cs = drL a := by
  obtain ⟨xs, k, hk, hxy, hl, hxl, hf⟩ := DataW.trod_struct Try.underlying40 h
  have hc : Try.prog.cellsOf 40 = 9 := by kernel_rfl
  have hl9 : cs.length = 9 := by rw [hl, hc]
  have g0 := hf 0 _ rfl
  have g1 := hf 1 _ rfl
  have g2 := hf 2 _ rfl
  have g3 := hf 3 _ rfl
  have g4 := hf 4 _ rfl
  have hxl5 : xs.length = 5 := hxl
  rw [List.getElem?_eq_getElem (by omega)] at g0 g1 g2 g3 g4
  obtain ⟨b0, e0, _⟩ := DataW.trod_bool Try.underlying4 g0
  obtain ⟨n1, e1, _, w1⟩ := DataW.trod_int Try.underlying5 g1
  obtain ⟨n2, e2, _, w2⟩ := DataW.trod_int Try.underlying5 g2
  obtain ⟨n3, e3, _, w3⟩ := DataW.trod_int Try.underlying5 g3
  obtain ⟨a, ha, e4⟩ := agg_cells g4
  have c0 := at_take (l := cs) (i := 0) e0
  have c1 := at_take (l := cs) (i := 1) e1
  have c2 := at_take (l := cs) (i := 2) e2
  have c3 := at_take (l := cs) (i := 3) e3
  simp only [Lit.wf, IntKind.min, IntKind.max, IntKind.bits, IntKind.signed, Bool.and_eq_true] at w1 w2 w3
  have h1 : 0 ≤ n1 ∧ n1 < 256 := by simp at w1; omega
  have h2 : 0 ≤ n2 ∧ n2 < 256 := by simp at w2; omega
  have h3 : 0 ≤ n3 ∧ n3 < 256 := by simp at w3; omega
  obtain ⟨m1, rfl⟩ := Int.eq_ofNat_of_zero_le h1.1
  obtain ⟨m2, rfl⟩ := Int.eq_ofNat_of_zero_le h2.1
  obtain ⟨m3, rfl⟩ := Int.eq_ofNat_of_zero_le h3.1
  refine ⟨⟨b0, m1, m2, m3, a⟩, ⟨show m1 < 256 by omega, show m2 < 256 by omega, show m3 < 256 by omega, ha⟩, ?_⟩
  have c4 : ∀ j, j < 5 → cs[4 + j]? = (avC a).toList[j]? := fun j hj => by
    have := congrArg (fun l : List Value => l[j]?) e4
    rw [← this]
    show _ = ((cs.drop 4).take _)[j]?
    rw [List.getElem?_take, if_pos (by exact hj), List.getElem?_drop]
  apply List.ext_getElem?
  intro i
  match i with
  | 0 => exact c0
  | 1 => exact c1
  | 2 => exact c2
  | 3 => exact c3
  | 4 => exact c4 0 (by omega)
  | 5 => exact c4 1 (by omega)
  | 6 => exact c4 2 (by omega)
  | 7 => exact c4 3 (by omega)
  | 8 => exact c4 4 (by omega)
  | i + 9 => rw [List.getElem?_eq_none (by omega), List.getElem?_eq_none (by show 9 ≤ i + 9; omega)]
theorem drL_len (a : Dr) : (drL a).length = 9 := rfl
set_option maxRecDepth 100000 in
/-- Drawn changes that came in. -/
theorem open_acts {v : Value} {d : DataW H} {ps : List MemPlace} {r : Reach} {b0 : Nat} (hv : Value.okWide Try.prog W r b0 28 v) (h : DataW.Trod enc Try.prog W base spare held 28 v d ps) :
    ∃ A cap, ∃ l : List Dr, v = .slice A l.length cap ∧ RowsAt W drL A l ∧ ∀ a ∈ l, a.ok := by
  obtain ⟨a, len, cap, rfl⟩ := okWide_slice Try.underlying28 hv
  obtain ⟨fuel, hf⟩ := h
  obtain ⟨A, c, l, e, _, hr, ho⟩ := open_rows (encL := drL) (ok := Dr.ok) (k := 9) 28 40 Try.underlying28 (by kernel_rfl) (by decide) drL_len dr_cells hf
  have e : [Value.slice a len cap] = [.slice A l.length c] := by simpa [Value.cells] using e
  injection e with e _
  exact ⟨A, c, l, e, hr, ho⟩
end
end Go.Proofs.Ytgpfoamhcoipgaa
