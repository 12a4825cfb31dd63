import Derived.Test.YtgpfoamhcoipgaaDoorSm
import Derived.Test.YtgpfoamhcoipgaaDoorCr
import Derived.Deep.QuietTactic
import Derived.BigQuiet
namespace Go.Proofs.YtgpfoamhcoipgaaDoor
end Go.Proofs.YtgpfoamhcoipgaaDoor
/-! The document's telling of a list of values: the walk. -/
namespace Go.Proofs.YtgpfoamhcoipgaaDoor
open Go.RowKit
set_option linter.unusedVariables false
theorem avC_lo (n x : Nat) (ov : Bool) (lo hi lo' : Nat) : (avC ⟨n, x, ov, lo, hi⟩).setIfInBounds 3 (.float .f64 lo') = avC ⟨n, x, ov, lo', hi⟩ := rfl
theorem avC_hi (n x : Nat) (ov : Bool) (lo hi hi' : Nat) : (avC ⟨n, x, ov, lo, hi⟩).setIfInBounds 4 (.float .f64 hi') = avC ⟨n, x, ov, lo, hi'⟩ := rfl
theorem run_store_flt {P : Program} {w : World} {a : Addr} {u : Value} (x : Nat) (hc : w.cell? a = some u) (hf : w.frozen? a = false) : (store a (.float .f64 x)).run P w = .ok () (w.setCell a (.float .f64 x)) := by
  rw [run_store P w a _ _ rfl, hc]
  simp only [hf]
  rfl
end Go.Proofs.YtgpfoamhcoipgaaDoor
/-! What is told of values: the example; the law. -/
namespace Go.Proofs.YtgpfoamhcoipgaaDoor
open Go.RowKit
set_option linter.unusedVariables false
theorem run_built4 {P : Program} {ops : Array Oper} {rest : List Oper} {o : Oper} {a : Act} {Q : Exit → Act → World → Prop} {w : World} (hgd : o.guard = none) (t : TypeId) (parts : Array (Nat × Operand)) (ho : o.op = .build t parts) (cells : Array Value) (hf : P.built t (parts.map fun (i, x) => (i, a.eval x)).toList = some cells)
    (h : wpList P ops Q rest (a.put o.dst (.agg cells)) w) : wpList P ops Q (o :: rest) a w :=
  wpList_plain hgd fun K hK => wp_build t parts ho (by rw [hf]; rfl) (hK _ _ (by rw [hf]; exact h))
end Go.Proofs.YtgpfoamhcoipgaaDoor
/-! Tellings read. -/
namespace Go.Proofs.YtgpfoamhcoipgaaDoor
open Go.RowKit
set_option linter.unusedVariables false
attribute [-simp] Tryd.isAgg38 Tryd.sizeOf38 Tryd.typeInfo38 Tryd.type38

theorem rdU_rest (most : Nat) : ∀ (f i n : Nat) (xs : List Int) (m : Nat) (rest : List Int), Bytes8 xs → rdU most f i n xs = some (m, rest) → Bytes8 rest ∧ m ≤ most := by
  intro f
  induction f with
  | zero => intro i n xs m rest _ h; cases h
  | succ f ih =>
    intro i n xs m rest h8 h
    cases xs with
    | nil => cases h
    | cons b xs =>
      have h8' : Bytes8 xs := fun j hj => h8 (j + 1) (by simpa using hj)
      unfold rdU at h
      split at h
      · split at h
        · split at h
          · rename_i hc
            injection h with h
            injection h with h1 h2
            subst h1 h2
            exact ⟨h8', hc.1⟩
          · cases h
        · exact ih _ _ _ _ _ h8' h
      · cases h
theorem uint_none (g B most : Nat) (xs : List Int) (w : World) (h : RdSt w g B xs) (h8 : Bytes8 xs) (hm : most < 18446744073709551616) (hr : rdU most 10 0 0 xs = none) :
    Calls Tryd.prog 13 #[.pointer (some ⟨g, 0, none⟩), .int .u64 (most : Nat)] w fun e w' => e = badP ∧ w.grownBy w' (some g) :=
  (uint_read g B most xs w h h8 hm).mono fun e w' ⟨h1, h2⟩ => by
    rcases h2 with ⟨_, h3⟩ | ⟨n, rest, h3, _⟩
    · exact ⟨h3, h1⟩
    · rw [hr] at h3; cases h3
theorem uint_some (g B most n : Nat) (xs rest : List Int) (w : World) (h : RdSt w g B xs) (h8 : Bytes8 xs) (hm : most < 18446744073709551616) (hr : rdU most 10 0 0 xs = some (n, rest)) :
    Calls Tryd.prog 13 #[.pointer (some ⟨g, 0, none⟩), .int .u64 (most : Nat)] w fun e w' => e = .returned (.int .u64 (n : Nat)) ∧ RdSt w' g B rest ∧ w.grownBy w' (some g) :=
  (uint_read g B most xs w h h8 hm).mono fun e w' ⟨h1, h2⟩ => by
    rcases h2 with ⟨h3, _⟩ | ⟨m, r, h3, h4, h5⟩
    · rw [hr] at h3; cases h3
    · rw [hr] at h3
      injection h3 with h3
      injection h3 with h6 h7
      subst h6 h7
      exact ⟨h4, h5, h1⟩
/-- The next number. -/
def rdNum (xs : List Int) : Option (Nat × List Int) := (rdU 18446744073709551615 10 0 0 xs).bind fun p => if canon p.1 = p.1 then some p else none
theorem rdNum_rest {xs rest : List Int} {x : Nat} (h8 : Bytes8 xs) (h : rdNum xs = some (x, rest)) : Bytes8 rest ∧ x < 18446744073709551616 := by
  unfold rdNum at h
  cases hr : rdU 18446744073709551615 10 0 0 xs with
  | none => rw [hr] at h; cases h
  | some p =>
    obtain ⟨m, r⟩ := p
    rw [hr] at h
    obtain ⟨a, b⟩ := rdU_rest _ _ _ _ _ _ _ h8 hr
    simp only [Option.bind_some] at h
    split at h
    · injection h with h
      injection h with h1 h2
      subst h1 h2
      exact ⟨a, by omega⟩
    · cases h
set_option maxRecDepth 100000 in
theorem num_none (g B : Nat) (xs : List Int) (w : World) (h : RdSt w g B xs) (h8 : Bytes8 xs) (hr : rdNum xs = none) :
    Calls Tryd.prog 30 #[.pointer (some ⟨g, 0, none⟩)] w fun e w' => e = badP ∧ w.grownBy w' (some g) := by
  have hk := fun v w => check_bad v w
  cases hu : rdU 18446744073709551615 10 0 0 xs with
  | none =>
    have hc := uint_none g B 18446744073709551615 xs w h h8 (by decide) hu
    have hc : Calls Tryd.prog 13 #[.pointer (some ⟨g, 0, none⟩), .int .u64 18446744073709551615] w fun e w' => e = badP ∧ w.grownBy w' (some g) := hc
    clear hr hu h
    go_enter Tryd.func30, Tryd.ntmps30
    go_wp2_with (go_at_call 13; (with_reducible refine hc.mono ?_); rintro e w1 ⟨rfl, hg⟩)
    exact ⟨rfl, rfl, hg⟩
  | some p =>
    obtain ⟨m, r⟩ := p
    have hc := uint_some g B 18446744073709551615 m xs r w h h8 (by decide) hu
    have hc : Calls Tryd.prog 13 #[.pointer (some ⟨g, 0, none⟩), .int .u64 18446744073709551615] w fun e w' => e = .returned (.int .u64 (m : Nat)) ∧ RdSt w' g B r ∧ w.grownBy w' (some g) := hc
    have hm := (rdU_rest _ _ _ _ _ _ _ h8 hu).2
    have hne : canon m ≠ m := fun e => by
      unfold rdNum at hr
      rw [hu, Option.bind_some, if_pos e] at hr
      cases hr
    have ho := fun w => realOf_any m w
    have hb := fun w => realBits_any (canon m) w
    rw [canon_canon] at hb
    have hq : ((canon m : Int) == (m : Int)) = false := by rw [beq_eq_false_iff_ne]; omega
    generalize canon m = c at *
    clear hr hu h hne hm
    go_enter Tryd.func30, Tryd.ntmps30
    go_wp2_with (first
      | (go_at_call 13; (with_reducible refine hc.mono ?_); rintro e w1 ⟨rfl, hs, hg⟩)
      | (go_at_call 39; (with_reducible refine (ho _).mono ?_); rintro e w2 ⟨rfl, rfl⟩)
      | (go_at_call 31; (with_reducible refine (hb _).mono ?_); rintro e w2 ⟨rfl, rfl⟩)
      | (go_at_call 15; (with_reducible refine (hk _ _).mono ?_); rintro e w2 ⟨rfl, rfl⟩))
    exact ⟨rfl, rfl, hg⟩
set_option maxRecDepth 100000 in
theorem num_some (g B x : Nat) (xs rest : List Int) (w : World) (h : RdSt w g B xs) (h8 : Bytes8 xs) (hr : rdNum xs = some (x, rest)) :
    Calls Tryd.prog 30 #[.pointer (some ⟨g, 0, none⟩)] w fun e w' => e = .returned (.float .f64 x) ∧ RdSt w' g B rest ∧ w.grownBy w' (some g) := by
  have hk := fun v w => check_ok v w
  cases hu : rdU 18446744073709551615 10 0 0 xs with
  | none => unfold rdNum at hr; rw [hu] at hr; cases hr
  | some p =>
    obtain ⟨m, r⟩ := p
    have hcm : canon m = m ∧ m = x ∧ r = rest := by
      unfold rdNum at hr
      rw [hu, Option.bind_some] at hr
      split at hr
      · rename_i hc
        injection hr with hr
        injection hr with h1 h2
        exact ⟨hc, h1, h2⟩
      · cases hr
    obtain ⟨hcm, rfl, rfl⟩ := hcm
    have hc := uint_some g B 18446744073709551615 m xs r w h h8 (by decide) hu
    have hc : Calls Tryd.prog 13 #[.pointer (some ⟨g, 0, none⟩), .int .u64 18446744073709551615] w fun e w' => e = .returned (.int .u64 (m : Nat)) ∧ RdSt w' g B r ∧ w.grownBy w' (some g) := hc
    have ho := fun w => realOf_any m w
    have hb := fun w => realBits_any m w
    rw [hcm] at ho hb
    clear hr hu h hcm
    go_enter Tryd.func30, Tryd.ntmps30
    go_wp2_with (first
      | (go_at_call 13; (with_reducible refine hc.mono ?_); rintro e w1 ⟨rfl, hs, hg⟩)
      | (go_at_call 39; (with_reducible refine (ho _).mono ?_); rintro e w2 ⟨rfl, rfl⟩)
      | (go_at_call 31; (with_reducible refine (hb _).mono ?_); rintro e w2 ⟨rfl, rfl⟩)
      | (go_at_call 15; (with_reducible refine (hk _ _).mono ?_); rintro e w2 ⟨rfl, rfl⟩))
    go_ret
    exact ⟨rfl, hs, hg⟩
theorem RdSt.lt {w : World} {g B : Nat} {xs : List Int} (h : RdSt w g B xs) : g < w.heap.size := by
  obtain ⟨A, cap, hc, _⟩ := h.cell
  exact cell_lt hc
theorem RdSt.below {w w' : World} {g B : Nat} {xs : List Int} (h : RdSt w g B xs) (b : Below w.heap.size w w') : RdSt w' g B xs := by
  have hl := h.lt
  obtain ⟨A, cap, hc, h1, h2, h3⟩ := h.cell
  refine ⟨⟨A, cap, cell_below b hc, h1, h2.below b, h3⟩, ?_⟩
  have := h.frozen
  unfold World.frozen? at this ⊢
  rw [b.block g hl]
  exact this
theorem RdSt.drew {w : World} {g B : Nat} {xs : List Int} (h : RdSt w g B xs) : RdSt w.drew g B xs := h.below (Below.refl _ _).drew
theorem RdSt.setCell {w : World} {g B : Nat} {xs : List Int} (h : RdSt w g B xs) {k : Nat} (hk : B ≤ k) (hg : k ≠ g) (j : Nat) (v : Value) : RdSt (w.setCell ⟨k, j, none⟩ v) g B xs := by
  obtain ⟨A, cap, hc, h1, h2, h3⟩ := h.cell
  refine ⟨⟨A, cap, ?_, h1, ?_, h3⟩, ?_⟩
  · rw [World.cell?_setCell_other (h := fun e => hg (congrArg Addr.block e))]; exact hc
  · by_cases hx : xs = []
    · rw [hx]; exact Reads.nil _ _ _
    · exact h2.setCell (fun a e => by have := (h3 hx a e).2; omega) v
  · rw [← h.frozen]; simp
theorem cell_same {w w' : World} {a : Addr} (h : w'.heap[a.block]? = w.heap[a.block]?) : w'.cell? a = w.cell? a := by
  unfold World.cell?
  rw [h]
theorem add_block (a : Addr) (i : Nat) : (a.add i).block = a.block := by
  unfold Addr.add
  split <;> rfl
theorem RdSt.setRow {w : World} {g B : Nat} {xs : List Int} (h : RdSt w g B xs) {k : Nat} (hk : B ≤ k) (hg : k ≠ g) (C : Array Value) : RdSt (w.setRow k C) g B xs := by
  obtain ⟨A, cap, hc, h1, h2, h3⟩ := h.cell
  refine ⟨⟨A, cap, (cell_same (setRow_other w k g C (Ne.symm hg))).trans hc, h1, ?_, h3⟩, ?_⟩
  · by_cases hx : xs = []
    · rw [hx]; exact Reads.nil _ _ _
    · intro i hi
      obtain ⟨a, ea, ha⟩ := h2 i hi
      have hb := (h3 hx a ea).2
      exact ⟨a, ea, (cell_same (by rw [add_block]; exact setRow_other w k a.block C (by omega))).trans ha⟩
  · have := h.frozen
    unfold World.frozen? at this ⊢
    rw [setRow_other w k g C (Ne.symm hg)]
    exact this
theorem grown_setCellN {w wx : World} {r : Option Nat} (h : w.grownBy wx r) {k : Nat} (hk : w.heap.size ≤ k) (j : Nat) (v : Value) : w.grownBy (wx.setCell ⟨k, j, none⟩ v) r :=
  Go.Proofs.YtgpfoamhcoipgaaDoor.grown_trans h (grown_setCell wx k j v) (fun q e => by injection e with e; subst e; exact .inr hk)
theorem RdSt.row {w wx : World} {g : Nat} (h : w.grownBy wx (some g)) {k : Nat} {o : Obj} (hk : w.heap[k]? = some o) (hne : k ≠ g) : wx.heap[k]? = some o :=
  (h.block k (by
    rcases Nat.lt_or_ge k w.heap.size with h1 | h1
    · exact h1
    · rw [Array.getElem?_eq_none h1] at hk; cases hk) (fun e => hne (by injection e))).trans hk
/-- The next telling. -/
def rdVal (xs : List Int) : Option (AV × List Int) :=
  (rdU 1099511627776 10 0 0 xs).bind fun p1 => (rdNum p1.2).bind fun p2 => (rdU 1 10 0 0 p2.2).bind fun p3 => (rdNum p3.2).bind fun p4 => (rdNum p4.2).bind fun p5 => some (⟨p1.1, p2.1, decide (p3.1 = 1), p4.1, p5.1⟩, p5.2)
def ValPost (g B : Nat) (w : World) (r : Option (AV × List Int)) (e : Ending) (w' : World) : Prop :=
  w.grownBy w' (some g) ∧ ((r = none ∧ e = badP) ∨ ∃ v rest, r = some (v, rest) ∧ e = .returned (.agg (avC v)) ∧ RdSt w' g B rest)
set_option maxRecDepth 100000 in
theorem built_agg2 (n : Int) (x : Nat) : Tryd.prog.built 38 [(0, .int .u64 n), (1, .float .f64 x)] = some #[.int .u64 n, .float .f64 x, .bool false, .float .f64 0, .float .f64 0] := by
  rw [built_of 38 Tryd.t38 (avC noAV) _ [(0, 1), (1, 1), (2, 1), (3, 1), (4, 1)] (by kernel_rfl) (by kernel_rfl) Tryd.underlying38 (by kernel_rfl)]
  rfl
theorem run_store_bool {P : Program} {w : World} {a : Addr} {u : Value} (x : Bool) (hc : w.cell? a = some u) (hf : w.frozen? a = false) : (store a (.bool x)).run P w = .ok () (w.setCell a (.bool x)) := by
  rw [run_store P w a _ _ rfl, hc]
  simp only [hf]
  rfl
theorem avC_ov (n x : Nat) (ov ov' : Bool) (lo hi : Nat) : (avC ⟨n, x, ov, lo, hi⟩).setIfInBounds 2 (.bool ov') = avC ⟨n, x, ov', lo, hi⟩ := rfl
theorem grown_setRowN {w wx : World} {r : Option Nat} (h : w.grownBy wx r) {k : Nat} (hk : w.heap.size ≤ k) (c : Array Value) : w.grownBy (wx.setRow k c) r :=
  have b := below_setRow (Below.refl k wx) (Nat.le_refl k) c
  ⟨b.os.trans h.os, b.tape.trans h.tape, b.output.trans h.output, Nat.le_trans h.size b.size, fun j hj hne => (b.block j (by omega)).trans (h.block j hj hne)⟩
set_option maxRecDepth 100000 in
set_option maxHeartbeats 8000000 in
theorem readValue_any (g B : Nat) (xs : List Int) (w : World) (h : RdSt w g B xs) (h8 : Bytes8 xs) (hB : B ≤ w.heap.size) :
    Calls Tryd.prog 18 #[.pointer (some ⟨g, 0, none⟩)] w (ValPost g B w (rdVal xs)) := by
  have Hs := Lib.hid sizeAgg
  obtain ⟨Z, hZ, zz⟩ : ∃ Z : Array Value, Z.size = 5 ∧ ∀ w, (zeroValue 38).run Tryd.prog w = .ok (.agg Z) w := ⟨avC noAV, rfl, zeroAgg⟩
  have hgl := h.lt
  have hz2 := heap_alloc_new w (.cells Z 38)
  have h0 := h.below (below_alloc (Below.refl w.heap.size w) (.cells Z 38))
  have hg0 := grown_alloc (grown_refl w (some g)) (.cells Z 38)
  obtain ⟨R, hR⟩ : ∃ R, R = rdVal xs := ⟨_, rfl⟩
  rw [← hR]
  unfold rdVal at hR
  cases e1 : rdU 1099511627776 10 0 0 xs with
  | none =>
    rw [e1] at hR
    have hc := uint_none g B 1099511627776 xs _ h0 h8 (by decide) e1
    have hc : Calls Tryd.prog 13 #[.pointer (some ⟨g, 0, none⟩), .int .u64 1099511627776] (w.alloc (.cells Z 38)) fun e w' => e = badP ∧ (w.alloc (.cells Z 38)).grownBy w' (some g) := hc
    have HR : Hid (R = none) := Lib.hid hR
    clear hR e1 h0 h h8
    go_enter Tryd.func18, Tryd.ntmps18
    go_wp2_with (first
      | (refine at_op (.alloc 38) ?_ rfl; refine wpList_alloc_row rfl _ 38 rfl (some 2) rfl w.heap.size rfl Z zz ?_)
      | (go_at_call 13; (with_reducible refine hc.mono ?_); rintro e w1 ⟨rfl, hg1⟩))
    exact ⟨rfl, RdSt.grown_trans hg0 hg1, .inl ⟨HR.out, rfl⟩⟩
  | some p1 =>
    obtain ⟨n, r1⟩ := p1
    rw [e1] at hR
    have hc1 := uint_some g B 1099511627776 n xs r1 _ h0 h8 (by decide) e1
    have hc1 : Calls Tryd.prog 13 #[.pointer (some ⟨g, 0, none⟩), .int .u64 1099511627776] (w.alloc (.cells Z 38)) fun e w' => e = .returned (.int .u64 (n : Nat)) ∧ RdSt w' g B r1 ∧ (w.alloc (.cells Z 38)).grownBy w' (some g) := hc1
    have h81 := (rdU_rest _ _ _ _ _ _ _ h8 e1).1
    clear e1 h0 h h8
    simp only [Option.bind_some] at hR
    cases e2 : rdNum r1 with
    | none =>
      rw [e2] at hR
      have hc2 := fun w2 (h : RdSt w2 g B r1) => num_none g B r1 w2 h h81 e2
      have HR : Hid (R = none) := Lib.hid hR
      clear hR e2
      go_enter Tryd.func18, Tryd.ntmps18
      go_wp2_with (first
        | (refine at_op (.alloc 38) ?_ rfl; refine wpList_alloc_row rfl _ 38 rfl (some 2) rfl w.heap.size rfl Z zz ?_)
        | (go_at_call 13; (with_reducible refine hc1.mono ?_); rintro e w1 ⟨rfl, hs1, hg1⟩)
        | (go_at_call 30; (with_reducible refine (hc2 _ hs1).mono ?_); rintro e w2 ⟨rfl, hg2⟩))
      exact ⟨rfl, RdSt.grown_trans (RdSt.grown_trans hg0 hg1) hg2, .inl ⟨HR.out, rfl⟩⟩
    | some p2 =>
      obtain ⟨x, r2⟩ := p2
      rw [e2] at hR
      have hc2 := fun w2 (h : RdSt w2 g B r1) => num_some g B x r1 r2 w2 h h81 e2
      have h82 := (rdNum_rest h81 e2).1
      clear e2
      simp only [Option.bind_some] at hR
      obtain ⟨E, hE⟩ : ∃ E : Array Value, E = #[.int .u64 (n : Nat), .float .f64 x, .bool false, .float .f64 0, .float .f64 0] := ⟨_, rfl⟩
      have HB := Lib.hid (show Tryd.prog.built 38 [(0, .int .u64 (n : Nat)), (1, .float .f64 x)] = some E by rw [hE]; exact built_agg2 _ _)
      have hEs : E.size = 5 := by rw [hE]; rfl
      have hE1 : E.all (·.oneCell') = true := by rw [hE]; simp [Value.oneCell']
      have HR := Lib.hid hR
      have HE := Lib.hid hE
      clear hR hE
      go_enter Tryd.func18, Tryd.ntmps18
      go_upto_region 2 with (first
        | (refine at_op (.alloc 38) ?_ rfl; first | (refine wpList_alloc_row rfl _ 38 rfl (some 2) rfl w.heap.size rfl Z zz ?_) | (refine wpList_alloc_row rfl _ 38 rfl (some 3) rfl w2.heap.size rfl Z zz ?_))
        | (go_at_call 13; (with_reducible refine hc1.mono ?_); rintro e w1 ⟨rfl, hs1, hg1⟩)
        | (go_at_call 30; (with_reducible refine (hc2 _ hs1).mono ?_); rintro e w2 ⟨rfl, hs2, hg2⟩)
        | (refine run_built4 rfl 38 _ rfl E (by simp only [List.map_toArray, List.map_cons, List.map_nil, Act.eval]; exact HB.out) ?_)
        | (refine at_op (.store 38 (.tmp 3) (.tmp 8)) ?_ rfl; refine wpList_store_row rfl 38 (.tmp 3) (.tmp 8) rfl w2.heap.size E rfl rfl 38 _ (heap_alloc_new w2 _) (by rw [hEs]; exact Hs.out) (by rw [hZ, hEs]) hE1 ?_; rw [World.setRow_alloc_new]))
      have hk3 := heap_alloc_new w2 (.cells E 38)
      have hs3 := hs2.below (below_alloc (Below.refl w2.heap.size w2) (.cells E 38))
      have hgt := grown_alloc (RdSt.grown_trans (RdSt.grown_trans hg0 hg1) hg2) (.cells E 38)
      have hs01 : w.heap.size + 1 ≤ w2.heap.size := by
        have e1 := hg1.size
        have e2 := hg2.size
        simp only [World.size_alloc] at e1
        omega
      have hz3 : (w2.alloc (.cells E 38)).heap[w.heap.size]? = some (.cells Z 38 (0, 0)) :=
        ((below_alloc (Below.refl w2.heap.size w2) (.cells E 38)).block _ (by omega)).trans (RdSt.row hg2 (RdSt.row hg1 hz2 (by omega)) (by omega))
      have hBk : B ≤ w2.heap.size := by omega
      have hkg : w2.heap.size ≠ g := by omega
      have hwk : w.heap.size ≤ w2.heap.size := by omega
      have hkk : w.heap.size ≠ w2.heap.size := by omega
      clear hs01 hg2 hs2 hg1 hs1 hz2 hg0 hc1 hc2
      have HE := HE.out
      rw [show (#[.int .u64 (n : Nat), .float .f64 x, .bool false, .float .f64 0, .float .f64 0] : Array Value) = avC ⟨n, x, false, 0, 0⟩ from rfl] at HE
      clear hEs hE1 HB
      subst HE
      generalize w2.alloc (.cells (avC ⟨n, x, false, 0, 0⟩) 38) = w3 at *
      generalize w2.heap.size = k3 at *
      cases e3 : rdU 1 10 0 0 r2 with
      | none =>
        have hR := HR.out
        rw [e3] at hR
        have HR := Lib.hid hR
        have hc3 := uint_none g B 1 r2 w3 hs3 h82 (by decide) e3
        have hc3 : Calls Tryd.prog 13 #[.pointer (some ⟨g, 0, none⟩), .int .u64 1] w3 fun e w' => e = badP ∧ w3.grownBy w' (some g) := hc3
        clear hR hs3 e3
        go_wp2_with (first
          | (go_at_call 13; (with_reducible refine hc3.mono ?_); rintro e w4 ⟨rfl, hg4⟩))
        exact ⟨rfl, RdSt.grown_trans hgt hg4, .inl ⟨HR.out, rfl⟩⟩
      | some p3 =>
        obtain ⟨v, r3⟩ := p3
        have hR := HR.out
        rw [e3] at hR
        simp only [Option.bind_some] at hR
        have HR := Lib.hid hR
        have hc3 := uint_some g B 1 v r2 r3 w3 hs3 h82 (by decide) e3
        have hc3 : Calls Tryd.prog 13 #[.pointer (some ⟨g, 0, none⟩), .int .u64 1] w3 fun e w' => e = .returned (.int .u64 (v : Nat)) ∧ RdSt w' g B r3 ∧ w3.grownBy w' (some g) := hc3
        have h83 := (rdU_rest _ _ _ _ _ _ _ h82 e3).1
        have Hst : ∀ (w4 : World), w3.grownBy w4 (some g) → w4.cell? ⟨k3, 2, none⟩ = some (.bool false) := fun w4 h => cell_of_row _ k3 2 _ _ _ (RdSt.row h hk3 hkg)
        clear hR hs3 e3
        go_upto_region 3 with (first
          | (go_at_call 13; (with_reducible refine hc3.mono ?_); rintro e w4 ⟨rfl, hs4, hg4⟩; have hst := Hst w4 hg4; have hfr := frozen_of_row (RdSt.row hg4 hk3 hkg) 2))
        clear hst hfr hc3 Hst
        have hk5 := heap_setCell_at (k := 2) (RdSt.row hg4 hk3 hkg) (.bool ((v : Int) == 1))
        rw [avC_ov] at hk5
        have hs5 := hs4.setCell hBk hkg 2 (.bool ((v : Int) == 1))
        have hgt5 := grown_setCellN (RdSt.grown_trans hgt hg4) hwk 2 (.bool ((v : Int) == 1))
        have hz5 := (Below.heap_setCell w4 ⟨k3, 2, none⟩ (.bool ((v : Int) == 1)) w.heap.size (by simpa using hkk)).trans (RdSt.row hg4 hz3 (by omega))
        have ev : ((v : Int) == 1) = decide (v = 1) := by
          by_cases h : v = 1
          · subst h; rfl
          · rw [decide_eq_false h, beq_eq_false_iff_ne]; omega
        have hR := HR.out
        rw [← ev] at hR
        have HR := Lib.hid hR
        clear ev hR
        generalize ((v : Int) == 1) = ov at *
        generalize w4.setCell ⟨k3, 2, none⟩ (.bool ov) = w5 at *
        clear hs4 hg4 hz3 hgt hk3
        have hkgz : w.heap.size ≠ g := by omega
        cases e4 : rdNum r3 with
        | none =>
          have hR := HR.out
          rw [e4] at hR
          have HR := Lib.hid hR
          have hc4 := num_none g B r3 w5 hs5 h83 e4
          clear hR hs5 e4
          go_wp2_with (first
            | (go_at_call 30; (with_reducible refine hc4.mono ?_); rintro e w6 ⟨rfl, hg6⟩))
          exact ⟨rfl, RdSt.grown_trans hgt5 hg6, .inl ⟨HR.out, rfl⟩⟩
        | some p4 =>
          obtain ⟨lo, r4⟩ := p4
          have hR := HR.out
          rw [e4] at hR
          simp only [Option.bind_some] at hR
          have HR := Lib.hid hR
          have hc4 := num_some g B lo r3 r4 w5 hs5 h83 e4
          have h84 := (rdNum_rest h83 e4).1
          clear hR hs5 e4
          cases e5 : rdNum r4 with
          | none =>
            have hR := HR.out
            rw [e5] at hR
            have HR := Lib.hid hR
            have hc5 := fun w6 (h : RdSt w6 g B r4) => num_none g B r4 w6 h h84 e5
            clear hR e5
            go_wp2_with (first
              | (go_at_call 30; (with_reducible refine hc4.mono ?_); rintro e w6 ⟨rfl, hs6, hg6⟩)
              | (go_at_call 30; (with_reducible refine (hc5 _ hs6).mono ?_); rintro e w7 ⟨rfl, hg7⟩))
            exact ⟨rfl, RdSt.grown_trans (RdSt.grown_trans hgt5 hg6) hg7, .inl ⟨HR.out, rfl⟩⟩
          | some p5 =>
            obtain ⟨hi, r5⟩ := p5
            have hR := HR.out
            rw [e5] at hR
            simp only [Option.bind_some] at hR
            have HR := Lib.hid hR
            have hc5 := fun w6 (h : RdSt w6 g B r4) => num_some g B hi r4 r5 w6 h h84 e5
            clear hR e5
            have Hst := fun (w7 : World) (h : w5.grownBy w7 (some g)) => run_store_flt (P := Tryd.prog) lo (u := .float .f64 0) (cell_of_row _ k3 3 _ _ _ (RdSt.row h hk5 hkg)) (frozen_of_row (RdSt.row h hk5 hkg) 3)
            have Hsu : ∀ (w7 : World), w5.grownBy w7 (some g) → (w7.setCell ⟨k3, 3, none⟩ (.float .f64 lo)).heap[k3]? = some (.cells (avC ⟨n, x, ov, lo, 0⟩) 38) := fun w7 h => by
              have := heap_setCell_at (k := 3) (RdSt.row h hk5 hkg) (.float .f64 lo)
              rw [avC_lo] at this
              exact this
            have Hsv := fun (w7 : World) (h : w5.grownBy w7 (some g)) => run_store_flt (P := Tryd.prog) hi (u := .float .f64 0) (cell_of_row _ k3 4 _ _ _ (Hsu w7 h)) (frozen_of_row (Hsu w7 h) 4)
            go_upto_region 4 with (first
              | (go_at_call 30; (with_reducible refine hc4.mono ?_); rintro e w6 ⟨rfl, hs6, hg6⟩)
              | (go_at_call 30; (with_reducible refine (hc5 _ hs6).mono ?_); rintro e w7 ⟨rfl, hs7, hg7⟩; have hg75 := RdSt.grown_trans hg6 hg7; have hst1 := Hst w7 hg75; have hst2 := Hsv w7 hg75))
            have hk8 := Hsu w7 hg75
            have hk9 := heap_setCell_at (k := 4) hk8 (.float .f64 hi)
            rw [avC_hi] at hk9
            have hz8 := (Below.heap_setCell w7 ⟨k3, 3, none⟩ (.float .f64 lo) w.heap.size (by simpa using hkk)).trans (RdSt.row hg75 hz5 hkgz)
            have hz9 := (Below.heap_setCell (w7.setCell ⟨k3, 3, none⟩ (.float .f64 lo)) ⟨k3, 4, none⟩ (.float .f64 hi) w.heap.size (by simpa using hkk)).trans hz8
            have hs9 := (hs7.setCell hBk hkg 3 (.float .f64 lo)).setCell hBk hkg 4 (.float .f64 hi)
            have hgt9 := grown_setCellN (grown_setCellN (RdSt.grown_trans hgt5 hg75) hwk 3 (.float .f64 lo)) hwk 4 (.float .f64 hi)
            generalize (w7.setCell ⟨k3, 3, none⟩ (.float .f64 lo)).setCell ⟨k3, 4, none⟩ (.float .f64 hi) = w9 at *
            clear hst1 hst2 hs6 hs7 hg6 hg7 hg75 hk8 hz8 Hst Hsu Hsv hc5 hc4 hk5 hz5 hgt5
            have hD := avC_one ⟨n, x, ov, lo, hi⟩
            have hDs : (avC ⟨n, x, ov, lo, hi⟩).size = 5 := rfl
            generalize hDD : avC ⟨n, x, ov, lo, hi⟩ = D at *
            have HDD := Lib.hid hDD
            clear hDD
            go_wp2_with (first
              | (refine at_op (.load 38 (.tmp 3)) ?_ rfl; refine wpList_load_row rfl 38 (.tmp 3) rfl k3 rfl 38 _ (0, 0) _ hk9 Tryd.underlying38 rfl (by rw [hDs]; exact Hs.out) ?_)
              | (refine at_op (.store 38 (.tmp 2) (.tmp 19)) ?_ rfl; refine wpList_store_row rfl 38 (.tmp 2) (.tmp 19) rfl w.heap.size D rfl rfl 38 Z hz9 (by rw [hDs]; exact Hs.out) (by rw [hDs, hZ]) hD ?_))
            exact bodyPost_ret (results_cell_row rfl _ _ w.heap.size 38 _ (0, 0) _ rfl (setRow_heap _ _ _ _ _ _ hz9) Tryd.underlying38 rfl (by rw [hDs]; exact Hs.out)) rfl ⟨grown_setRowN hgt9 (Nat.le_refl _) _, .inr ⟨_, r5, HR.out, by rw [HDD.out], hs9.setRow hB (by omega) _⟩⟩
end Go.Proofs.YtgpfoamhcoipgaaDoor
