import Derived.Test.YthplelglifnhoaaWa
/-! Events put in order, of their own; windows of a time. -/
namespace Go.Proofs.Ythplelglifnhoaa
open Go.Shelf Go.RowKit Go.Lib Go.Sort
set_option linter.unusedVariables false
set_option linter.unusedSimpArgs false
attribute [-simp] Try.isAgg36 Try.sizeOf36 Try.typeInfo36 Try.type36
attribute [-simp] Try.isAgg40 Try.sizeOf40 Try.typeInfo40 Try.type40
attribute [-simp] Try.isAgg28 Try.sizeOf28 Try.typeInfo28 Try.type28

theorem below_grown2 {w w1 w2 : World} {row : Option Nat} (b : Below w.heap.size w w1) (g : w1.grownBy w2 row) (h : ∀ q, row = some q → w.heap.size ≤ q) : Below w.heap.size w w2 :=
  ⟨g.os.trans b.os, g.tape.trans b.tape, g.output.trans b.output, Nat.le_trans b.size g.size, fun i hi => (g.block i (Nat.lt_of_lt_of_le hi b.size) (fun e => by
    have := h i e.symm
    omega)).trans (b.block i hi)⟩
theorem clone_ev (base : Nat) (v : Value) (L : List Ev) (w : World) (hv : OwnE w base 36 5 evL v L) (hl : L.length ≤ 1000) :
    Calls Try.prog 37 #[v] w fun e w' => ∃ u, e = .returned u ∧ OwnE w' w.heap.size 36 5 evL u L ∧ Below w.heap.size w w' := by
  obtain ⟨i, z, hi, hz, hs, hb, hzs⟩ := encEv.info
  have h2 := hv.2
  rcases h2 with ⟨rfl, h0⟩ | ⟨g, cap, cur, rfl, _⟩
  · have : L = [] := List.eq_nil_of_length_eq_zero h0
    subst this
    refine (AnyE.slices_Clone_nil Try.cloneEv 0 0 w).mono ?_
    rintro e w' ⟨rfl, rfl⟩
    exact ⟨_, rfl, OwnE.nil _ _, Below.refl _ _⟩
  · refine (AnyE.slices_Clone Try.cloneEv i z 5 48 hi hz hs hb hzs (by decide) Try.sizeOf36 g 0 L.length cap (L.flatMap evL) w (encEv.flat L) (Nat.le_trans hl (by decide)) (Nat.le_trans (Nat.mul_le_mul_right 48 hl) (by decide)) ?_ (encEv.oneFlat L)).mono ?_
    · intro j u hj
      have := World.ownsRow.cells hv (g := g) rfl j u hj
      rw [Addr.add_mid] at this
      exact this
    · rintro e w' ⟨u, rfl, ho, _, b⟩
      exact ⟨u, rfl, ho, b⟩
set_option maxRecDepth 100000 in
theorem sort_ev (base : Nat) (v : Value) (l : List Ev) (w : World) (hv : OwnE w base 36 5 evL v l) (hl : l.length ≤ 1000) :
    Calls Try.prog 29 #[v] w fun e w' => ∃ u l', e = .returned u ∧ l'.Perm l ∧ l'.Pairwise EvLe ∧ OwnE w' w.heap.size 36 5 evL u l' ∧ Below w.heap.size w w' := by
  have hc := clone_ev base v l w hv hl
  obtain ⟨A, cap, rfl, _, _⟩ := hv.form
  have HL := Lib.hid hl
  clear hv hl
  go_enter Try.func29, Try.ntmps29
  go_wp2_with (first
    | (go_at_call 37; (with_reducible refine hc.mono ?_); rintro e w1 ⟨u, rfl, ho, b⟩; have hst := stable_ev w1 w.heap.size u l ho HL.out; obtain ⟨A2, c2, rfl, _, _⟩ := ho.form)
    | (go_at_call 38; (with_reducible refine hst.mono ?_); rintro e w2 ⟨rfl, l', hp, hs, ho2, hg⟩; have HP := Lib.hid hp; have HS := Lib.hid hs; have HO := Lib.hid ho2; have HG := Lib.hid hg; clear hp hs ho2 hg))
  go_ret
  exact ⟨_, l', rfl, HP.out, HS.out, HO.out, below_grown2 b HG.out fun q e => (HO.out.lt q e).1⟩

theorem floor_int (t n : Int) (hn : 1 ≤ n) : ((t.tmod n < 0 → t - (t.tmod n + n) = n * (t / n)) ∧ (¬ t.tmod n < 0 → t - t.tmod n = n * (t / n))) ∧ -n < t.tmod n ∧ t.tmod n < n := by
  have h1 := Int.mul_tdiv_add_tmod t n
  have h2 : t.tmod n < n := Int.tmod_lt_of_pos t (by omega)
  have h3 : -n < t.tmod n := by
    rcases Int.le_total 0 t with c | c
    · have := Int.tmod_nonneg n c; omega
    · have h4 := Int.tmod_lt_of_pos (-t) (show 0 < n by omega)
      rw [Int.neg_tmod] at h4; omega
  have uniq : ∀ q r : Int, n * q + r = t → 0 ≤ r → r < n → t / n = q := fun q r e r0 r1 => by
    exact ((Int.ediv_emod_unique (show 0 < n by omega)).2 ⟨by omega, r0, r1⟩).1
  refine ⟨⟨fun c => ?_, fun c => ?_⟩, h3, h2⟩
  · rw [uniq (t.tdiv n - 1) (t.tmod n + n) (by rw [Int.mul_sub, Int.mul_one]; omega) (by omega) (by omega), Int.mul_sub, Int.mul_one]; omega
  · rw [uniq (t.tdiv n) (t.tmod n) h1 (by omega) h2]; omega
set_option maxRecDepth 100000 in
theorem floor_any (t n : Int) (w : World) (hn : 1 ≤ n) (hn2 : n ≤ 1099511627776) (ht : -1125899906842624 ≤ t) (ht2 : t ≤ 1125899906842624) :
    Calls Try.prog 28 #[.int .i64 t, .int .i64 n] w fun e w' => e = .returned (.int .i64 (n * (t / n))) ∧ w = w' := by
  obtain ⟨⟨f1, f2⟩, b1, b2⟩ := floor_int t n hn
  obtain ⟨z, hz⟩ : ∃ z, z = n * (t / n) := ⟨_, rfl⟩
  rw [← hz] at f1 f2 ⊢
  clear hz
  have hr : ∀ r, r = t.tmod n → (r < 0 → t - (r + n) = z) ∧ (¬ r < 0 → t - r = z) ∧ -n < r ∧ r < n := fun r e => by subst e; exact ⟨f1, f2, b1, b2⟩
  obtain ⟨r, hre⟩ : ∃ r, t.tmod n = r := ⟨_, rfl⟩
  obtain ⟨f1, f2, b1, b2⟩ := hr r hre.symm
  have hn0 : (n == 0) = false := by simp; omega
  have hn1 : n ≠ 0 := by omega
  have wr : IntKind.i64.wrap r = r := by rw [IntKind.wrap_i64]; omega
  by_cases hneg : r < 0
  · have e1 := f1 hneg
    have wr1 : IntKind.i64.wrap (r + n) = r + n := by rw [IntKind.wrap_i64]; omega
    have wr2 : IntKind.i64.wrap (t - (r + n)) = t - (r + n) := by rw [IntKind.wrap_i64]; omega
    clear f1 f2
    go_enter Try.func28, Try.ntmps28
    go_wp2_with fail
    go_ret
    exact ⟨rfl, rfl⟩
  · have e1 := f2 hneg
    have wr2 : IntKind.i64.wrap (t - r) = t - r := by rw [IntKind.wrap_i64]; omega
    clear f1 f2
    go_enter Try.func28, Try.ntmps28
    go_wp2_with fail
    go_ret
    exact ⟨rfl, rfl⟩
end Go.Proofs.Ythplelglifnhoaa
