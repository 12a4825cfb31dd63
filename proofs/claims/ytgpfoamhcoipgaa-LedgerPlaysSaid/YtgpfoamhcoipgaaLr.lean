import Derived.Test.YtgpfoamhcoipgaaLb
import Derived.Deep.QuietTactic
/-! The document's answers about changes: Next. -/
namespace Go.Proofs.Ytgpfoamhcoipgaa
open Go.RowKit Go.Sort Go.ChangeMaps
set_option linter.unusedVariables false
set_option linter.unusedSectionVars false
set_option linter.unusedSimpArgs false
attribute [-simp] Try.isAgg36 Try.sizeOf36 Try.typeInfo36 Try.type36
attribute [-simp] Try.isAgg34 Try.sizeOf34 Try.typeInfo34 Try.type34
attribute [-simp] Try.isAgg38 Try.sizeOf38 Try.typeInfo38 Try.type38

/-- How a name stands behind one more change, as the document has it. -/
def refStep (n : Nm) (s : Std) (c : Ch) : Std := if c.p.nm = n then ⟨c.put, c.p.a, if c.put = true then c.rev else (c.rev + 1) % 18446744073709551616⟩ else s
def refSt (n : Nm) (L : List Ch) : Std := L.foldl (refStep n) st0
def nextR (L : List Ch) (c : Ch) : Bool :=
  if c.put = true then !(refSt c.p.nm L).live && decide (c.rev = (refSt c.p.nm L).next) else (refSt c.p.nm L).live && decide (c.rev = (refSt c.p.nm L).next) && sameAV c.p.a (refSt c.p.nm L).a
theorem refSt_snoc (n : Nm) (L : List Ch) (c : Ch) : refSt n (L ++ [c]) = refStep n (refSt n L) c := by unfold refSt; rw [List.foldl_append]; rfl
theorem range_sub {w : World} {g o : Nat} {l : List Value} (h : w.rangeAt g o l) (i n : Nat) {l' : List Value} (e : (l.drop i).take n = l') : w.rangeAt g (o + i) l' := by
  subst e
  intro j v hv
  rw [List.getElem?_take] at hv
  split at hv
  · rw [List.getElem?_drop] at hv
    rw [Nat.add_assoc]
    exact h _ v hv
  · cases hv
theorem refSt_ok {n : Nm} {L : List Ch} (hL : ∀ c ∈ L, c.ok) : (refSt n L).a.ok ∧ (refSt n L).next < 18446744073709551616 := by
  unfold refSt
  have key : ∀ (l : List Ch) (s : Std), (∀ c ∈ l, c.ok) → (s.a.ok ∧ s.next < 18446744073709551616) → (l.foldl (refStep n) s).a.ok ∧ (l.foldl (refStep n) s).next < 18446744073709551616 := by
    intro l
    induction l with
    | nil => intro s _ h; exact h
    | cons c l ih =>
      intro s hl h
      rw [List.foldl_cons]
      refine ih _ (fun x hx => hl x (List.mem_cons_of_mem _ hx)) ?_
      have hc := hl c List.mem_cons_self
      unfold refStep
      split
      · refine ⟨hc.a, ?_⟩
        show (if c.put = true then c.rev else (c.rev + 1) % 18446744073709551616) < 18446744073709551616
        split
        · exact hc.rev
        · exact Nat.mod_lt _ (by decide)
      · exact h
  exact key L st0 hL ⟨noAV_okK, show 0 < 18446744073709551616 by decide⟩
theorem cell_setRow (w : World) {g b : Nat} (C : Array Value) (i : Nat) (h : b ≠ g) : (w.setRow g C).cell? ⟨b, i, none⟩ = w.cell? ⟨b, i, none⟩ := cell_of_eq (setRow_other w g b C (by omega)) i
theorem intEq_dec (a b : Nat) : ((a : Int) == (b : Int)) = decide (a = b) := by rw [Bool.eq_iff_iff]; simp; omega
theorem refStep_ne {c d : Ch} (S : Std) (h : (d.p.nm.key.toList == c.p.nm.key.toList) = false ∨ (d.p.nm.s == c.p.nm.s) = false ∨ (d.p.nm.e == c.p.nm.e) = false) : refStep c.p.nm S d = S := by
  unfold refStep
  rw [if_neg]
  intro e
  rw [e] at h
  simp at h
theorem refStep_eq {c d : Ch} (S : Std) (h1 : (d.p.nm.key.toList == c.p.nm.key.toList) = true) (h2 : (d.p.nm.s == c.p.nm.s) = true) (h3 : (d.p.nm.e == c.p.nm.e) = true) : refStep c.p.nm S d = ⟨d.put, d.p.a, if d.put = true then d.rev else (d.rev + 1) % 18446744073709551616⟩ := by
  unfold refStep
  rw [if_pos]
  obtain ⟨_, _, ⟨⟨k1, a, b⟩, av1⟩⟩ := d
  obtain ⟨_, _, ⟨⟨k2, c, d⟩, av2⟩⟩ := c
  simp only [beq_iff_eq] at h1 h2 h3
  obtain ⟨⟨x⟩⟩ := k1
  obtain ⟨⟨y⟩⟩ := k2
  rw [ByteArray.toList_eq, ByteArray.toList_eq] at h1
  simp only at h1
  subst h1 h2 h3
  rfl
set_option maxRecDepth 100000 in
set_option maxHeartbeats 8000000 in
theorem next_any (A : Option Addr) (cap : Nat) (L : List Ch) (c : Ch) (w : World) (hr : RowsAt w chL A L) (hL : ∀ c ∈ L, c.ok) (hc : c.ok) (hl : L.length ≤ 1000) :
    Calls Try.prog 18 #[.slice A L.length cap, .agg (chA c)] w fun e w' => e = .returned (.bool (nextR L c)) ∧ Below w.heap.size w w' := by
  have za : ∀ w, (zeroValue 34).run Try.prog w = .ok (.agg (avC noAV)) w := (zero_of_info (P := Try.prog) (v := .agg (avC noAV)) (n := 5) (by kernel_rfl)).1
  have Hc := Lib.hid sizeCh
  have z1 : ∀ w, (sizeOf 38).run Try.prog w = .ok 10 w := run_sizeOf_info sizeCh
  have z2 : ∀ w, (sizeOf 36).run Try.prog w = .ok 8 w := run_sizeOf_info sizePane
  have z4 : ∀ w, (sizeOf 34).run Try.prog w = .ok 5 w := run_sizeOf_info sizeAgg
  have g1 : ∀ w, (isAgg 38).run Try.prog w = .ok true w := fun w => by rw [Try.isAgg38]
  have h1 := heap_alloc2_old w (.cells (chA c) 38) (.cells (avC noAV) 34)
  have h2 := heap_alloc2_new w (.cells (chA c) 38) (.cells (avC noAV) 34)
  have b2 := below_alloc (below_alloc (Below.refl w.heap.size w) (.cells (chA c) 38)) (.cells (avC noAV) 34)
  go_enter Try.func18, Try.ntmps18
  go_upto_block 0 with (refine at_op (.alloc 34) ?_ rfl; refine wpList_alloc_row rfl _ 34 rfl (some 7) rfl (w.heap.size + 1) (by simp) _ za ?_)
  generalize (w.alloc (.cells (chA c) 38)).alloc (.cells (avC noAV) 34) = w2 at *
  go_wp2_with fail
  go_loopw [5, 6, 8] (fun lv rv i wr => ∃ j : Nat, i = .int .i64 (j : Nat) ∧ j ≤ L.length ∧ lv = .bool (refSt c.p.nm (L.take j)).live ∧ rv = .int .u64 ((refSt c.p.nm (L.take j)).next : Nat) ∧ wr.heap[w.heap.size]? = some (.cells (chA c) 38 (0, 0)) ∧ wr.heap[w.heap.size + 1]? = some (.cells (avC (refSt c.p.nm (L.take j)).a) 34 (0, 0)) ∧ Below w.heap.size w wr) (fun _ _ i _ => L.length - (intOf i).toNat)
  case atStart => exact ⟨0, rfl, Nat.zero_le _, rfl, rfl, h1, h2, b2⟩
  case round =>
    clear h1 h2 b2
    obtain ⟨j, rfl, hj, rfl, rfl, h1, h2, hb⟩ := hrel
    by_cases hlt : j < L.length
    · obtain ⟨d, hd⟩ : ∃ d, L[j]? = some d := ⟨_, List.getElem?_eq_getElem hlt⟩
      obtain ⟨g, off, rfl, hrow0⟩ := RowsAt.row encCh hr hd
      have hrow : wr.rangeAt g (off + j * 10) (chL d) := range_below hb hrow0
      have hgw : g < w.heap.size := cell_lt (a := ⟨g, off + j * 10 + 0, none⟩) (hrow0 0 _ rfl)
      have hji : (j : Int) < (L.length : Int) := by omega
      have e2 : wr.cell? ⟨g, off + j * 10 + 2, none⟩ = some (.string d.p.nm.key) := hrow 2 _ rfl
      have e3 : wr.cell? ⟨g, off + j * 10 + 3, none⟩ = some (.int .i64 d.p.nm.s) := hrow 3 _ rfl
      have e4 : wr.cell? ⟨g, off + j * 10 + 4, none⟩ = some (.int .i64 d.p.nm.e) := hrow 4 _ rfl
      have k2 := (cell_of_row _ _ 2 _ _ _ h1).trans (show (chA c)[2]? = some (.string c.p.nm.key) from rfl)
      have k3 := (cell_of_row _ _ 3 _ _ _ h1).trans (show (chA c)[3]? = some (.int .i64 c.p.nm.s) from rfl)
      have k4 := (cell_of_row _ _ 4 _ _ _ h1).trans (show (chA c)[4]? = some (.int .i64 c.p.nm.e) from rfl)
      have e0 : wr.cell? ⟨g, off + j * 10, none⟩ = some (.bool d.put) := hrow 0 _ rfl
      have e1 : wr.cell? ⟨g, off + j * 10 + 1, none⟩ = some (.int .u64 (d.rev : Int)) := hrow 1 _ rfl
      have r5 : wr.rangeAt g (off + j * 10 + 5) (avC d.p.a).toList := range_sub hrow 5 5 rfl
      have hS1 : refSt c.p.nm (L.take (j + 1)) = refStep c.p.nm (refSt c.p.nm (L.take j)) d := by
        rw [← refSt_snoc]
        congr 1
        rw [List.take_add_one, hd]; rfl
      have hdo := (hL d (List.mem_of_getElem? hd)).rev
      have HS1 := Lib.hid hS1
      have HL := Lib.hid (show j + 1 ≤ L.length from hlt)
      have HB := Lib.hid hb
      have H1 := Lib.hid h1
      have H2 := Lib.hid h2
      have R5 := Lib.hid r5
      generalize refSt c.p.nm (L.take j) = S at *
      clear hr hL hc hd hrow hS1 hb h1 h2 r5
      go_wp2_with fail
      rcases hk : (d.p.nm.key.toList == c.p.nm.key.toList) with _ | _
      · have hne := refStep_ne S (Or.inl hk)
        go_quiet (fail)
        go_wp2_with fail
        exact ⟨⟨j + 1, by go_num, HL.out, by rw [HS1.out, hne], by rw [HS1.out, hne], H1.out, by rw [HS1.out, hne]; exact H2.out, below_drewN HB.out nq⟩, by simp [intOf]; omega⟩
      · rcases hs : (d.p.nm.s == c.p.nm.s) with _ | _
        · have hne := refStep_ne S (Or.inr (Or.inl hs))
          go_quiet (fail)
          go_wp2_with fail
          exact ⟨⟨j + 1, by go_num, HL.out, by rw [HS1.out, hne], by rw [HS1.out, hne], H1.out, by rw [HS1.out, hne]; exact H2.out, below_drewN HB.out nq⟩, by simp [intOf]; omega⟩
        · rcases hee : (d.p.nm.e == c.p.nm.e) with _ | _
          · have hne := refStep_ne S (Or.inr (Or.inr hee))
            go_quiet (fail)
            go_wp2_with fail
            exact ⟨⟨j + 1, by go_num, HL.out, by rw [HS1.out, hne], by rw [HS1.out, hne], H1.out, by rw [HS1.out, hne]; exact H2.out, below_drewN HB.out nq⟩, by simp [intOf]; omega⟩
          · have heq := refStep_eq S hk hs hee
            go_quiet (fail)
            cases hp : d.put
            · rw [hp] at e0
              go_wp2_with (first
                | (refine at_op (.load 34 (.tmp 46)) ?_ rfl; refine wpList_load_mid rfl 34 (.tmp 46) rfl g (off + j * 10 + 5) rfl _ _ R5.out Try.underlying34 rfl (by exact sizeAgg) ?_; rw [Array.toArray_toList])
                | (refine at_op (.store 34 (.tmp 7) (.tmp 47)) ?_ rfl; refine wpList_store_row rfl 34 (.tmp 7) (.tmp 47) rfl (w.heap.size + 1) (avC d.p.a) rfl rfl 34 _ H2.out (by exact sizeAgg) rfl (avC_one _) ?_; have q1 := (cell_setRow (wr.drewN nq) (g := w.heap.size + 1) (b := g) (avC d.p.a) (off + j * 10 + 1) (by omega)).trans e1; have q2 := setRow_heap (wr.drewN nq) (w.heap.size + 1) _ (avC d.p.a) _ _ H2.out; have q3 := (setRow_other (wr.drewN nq) (w.heap.size + 1) w.heap.size (avC d.p.a) (by omega)).trans H1.out; have q4 := below_setRow (below_drewN HB.out nq) (show w.heap.size ≤ w.heap.size + 1 by omega) (avC d.p.a); generalize (wr.drewN nq).setRow (w.heap.size + 1) (avC d.p.a) = w5 at *))
              exact ⟨⟨j + 1, by go_num, HL.out, by rw [HS1.out, heq]; show _ = Value.bool d.put; rw [hp], by rw [HS1.out, heq, hp]; first | (simp [IntKind.wrap, IntKind.bits, IntKind.signed]; done) | simp, q3, by rw [HS1.out, heq]; exact q2, q4⟩, by simp [intOf]; omega⟩
            · rw [hp] at e0
              go_wp2_with (first
                | (refine at_op (.load 34 (.tmp 46)) ?_ rfl; refine wpList_load_mid rfl 34 (.tmp 46) rfl g (off + j * 10 + 5) rfl _ _ R5.out Try.underlying34 rfl (by exact sizeAgg) ?_; rw [Array.toArray_toList])
                | (refine at_op (.store 34 (.tmp 7) (.tmp 47)) ?_ rfl; refine wpList_store_row rfl 34 (.tmp 7) (.tmp 47) rfl (w.heap.size + 1) (avC d.p.a) rfl rfl 34 _ H2.out (by exact sizeAgg) rfl (avC_one _) ?_; have q1 := (cell_setRow (wr.drewN nq) (g := w.heap.size + 1) (b := g) (avC d.p.a) (off + j * 10 + 1) (by omega)).trans e1; have q2 := setRow_heap (wr.drewN nq) (w.heap.size + 1) _ (avC d.p.a) _ _ H2.out; have q3 := (setRow_other (wr.drewN nq) (w.heap.size + 1) w.heap.size (avC d.p.a) (by omega)).trans H1.out; have q4 := below_setRow (below_drewN HB.out nq) (show w.heap.size ≤ w.heap.size + 1 by omega) (avC d.p.a); generalize (wr.drewN nq).setRow (w.heap.size + 1) (avC d.p.a) = w5 at *))
              exact ⟨⟨j + 1, by go_num, HL.out, by rw [HS1.out, heq]; show _ = Value.bool d.put; rw [hp], by rw [HS1.out, heq, hp]; first | (simp [IntKind.wrap, IntKind.bits, IntKind.signed]; done) | simp, q3, by rw [HS1.out, heq]; exact q2, q4⟩, by simp [intOf]; omega⟩
    · obtain rfl : j = L.length := by omega
      rw [List.take_length] at h2
      rw [List.take_length]
      have k0 := (cell_of_row _ _ 0 _ _ _ h1).trans (show (chA c)[0]? = some (.bool c.put) from rfl)
      have k1 := (cell_of_row _ _ 1 _ _ _ h1).trans (show (chA c)[1]? = some (.int .u64 (c.rev : Int)) from rfl)
      have r5 := World.rangeAt_of_block h1 5 5
      rw [show ((chA c).extract 5 (5 + 5)).toList = (avC c.p.a).toList from rfl] at r5
      have hsm := fun ho w => refAggSame_any c.p.a (refSt c.p.nm L).a w hc.a ho
      have hcr := hc.rev
      have hok : (refSt c.p.nm L).a.ok ∧ (refSt c.p.nm L).next < 18446744073709551616 := refSt_ok hL
      have hres : nextR L c = if c.put = true then !(refSt c.p.nm L).live && decide (c.rev = (refSt c.p.nm L).next) else (refSt c.p.nm L).live && decide (c.rev = (refSt c.p.nm L).next) && sameAV c.p.a (refSt c.p.nm L).a := rfl
      have HRes := Lib.hid hres
      have HB := Lib.hid hb
      have H1 := Lib.hid h1
      have H2 := Lib.hid h2
      have R5 := Lib.hid r5
      clear hres hb h1 h2 r5 hL hr hc
      generalize refSt c.p.nm L = S at *
      have hsm := hsm hok.1
      have hn := hok.2
      clear hok
      go_wp2_with (first
        | (refine at_opG (.load 34 (.tmp 76)) (some (7, true)) ?_ rfl rfl; refine wpList_load_midG rfl 34 (.tmp 76) rfl w.heap.size 5 rfl _ _ R5.out Try.underlying34 rfl (by exact sizeAgg) ?_; rw [Array.toArray_toList])
        | (refine at_opG (.load 34 (.tmp 7)) (some (7, true)) ?_ rfl rfl; refine wpList_load_rowG rfl 34 (.tmp 7) rfl (w.heap.size + 1) rfl 34 _ (0, 0) _ H2.out Try.underlying34 rfl (by exact sizeAgg) ?_)
        | (go_at_call 17; (with_reducible refine (hsm _).mono ?_); rintro e w6 ⟨rfl, b6⟩))
      all_goals
        go_ret
        rw [HRes.out]
        refine ⟨?_, by first | exact HB.out | exact below_trans HB.out b6⟩
        first | (simp_all; done) | (simp_all; first | exact intEq_dec _ _ | (intros; omega) | (intros; exfalso; omega))
end Go.Proofs.Ytgpfoamhcoipgaa
