import Derived.Test.YtgpfoamhcoipgaaLa
import Derived.Test.YtgpfoamhcoipgaaLr
import Derived.Test.YtgpfoamhcoipgaaLg
/-! The same changes, the same panes: the document says so. -/
namespace Go.Proofs.Ytgpfoamhcoipgaa
open Go.RowKit Go.Sort Go.ChangeMaps
set_option linter.unusedVariables false
set_option linter.unusedSectionVars false
attribute [-simp] Try.isAgg36 Try.sizeOf36 Try.typeInfo36 Try.type36
attribute [-simp] Try.isAgg38 Try.sizeOf38 Try.typeInfo38 Try.type38

set_option maxRecDepth 100000 in
set_option maxHeartbeats 8000000 in
theorem psame_any (A B : Option Addr) (cap cap2 : Nat) (L : List Pn) (w : World) (hr : RowsAt w paneL A L) (hr2 : RowsAt w paneL B L) (hL : ∀ x ∈ L, x.a.ok) (hl : L.length ≤ 1000) :
    Calls Try.prog 14 #[.slice A L.length cap, .slice B L.length cap2] w fun e w' => e = .returned (.bool true) ∧ Below w.heap.size w w' := by
  have z2 : ∀ w, (sizeOf 36).run Try.prog w = .ok 8 w := run_sizeOf_info sizePane
  go_enter Try.func14, Try.ntmps14
  go_upto_block 0 with fail
  go_wp2_with fail
  go_loopw [5] (fun i wr => ∃ j : Nat, i = .int .i64 (j : Nat) ∧ j ≤ L.length ∧ Below w.heap.size w wr) (fun i _ => L.length - (intOf i).toNat)
  case atStart => exact ⟨0, rfl, Nat.zero_le _, Below.refl _ _⟩
  case round =>
    obtain ⟨j, rfl, hj, hb⟩ := hrel
    by_cases hlt : j < L.length
    · obtain ⟨d, hd⟩ : ∃ d, L[j]? = some d := ⟨_, List.getElem?_eq_getElem hlt⟩
      obtain ⟨g, off, rfl, hrow⟩ := RowsAt.row encPane (hr.below hb) hd
      obtain ⟨g2, off2, rfl, hrow2⟩ := RowsAt.row encPane (hr2.below hb) hd
      have hdo := hL d (List.mem_of_getElem? hd)
      have hji : (j : Int) < (L.length : Int) := by omega
      have hsm := fun w => refAggSame_any d.a d.a w hdo hdo
      rw [sameAV_refl] at hsm
      simp only [avC] at hsm
      have e0 : wr.cell? ⟨g, off + j * 8, none⟩ = some (.string d.nm.key) := hrow 0 _ rfl
      have e1 : wr.cell? ⟨g, off + j * 8 + 1, none⟩ = some (.int .i64 d.nm.s) := hrow 1 _ rfl
      have e2 : wr.cell? ⟨g, off + j * 8 + 2, none⟩ = some (.int .i64 d.nm.e) := hrow 2 _ rfl
      have e3 : wr.cell? ⟨g, off + j * 8 + 3, none⟩ = some (.int .u64 (d.a.n : Int)) := hrow 3 _ rfl
      have e4 : wr.cell? ⟨g, off + j * 8 + 4, none⟩ = some (.float .f64 d.a.x) := hrow 4 _ rfl
      have e5 : wr.cell? ⟨g, off + j * 8 + 5, none⟩ = some (.bool d.a.ov) := hrow 5 _ rfl
      have e6 : wr.cell? ⟨g, off + j * 8 + 6, none⟩ = some (.float .f64 d.a.lo) := hrow 6 _ rfl
      have e7 : wr.cell? ⟨g, off + j * 8 + 7, none⟩ = some (.float .f64 d.a.hi) := hrow 7 _ rfl
      have f0 : wr.cell? ⟨g2, off2 + j * 8, none⟩ = some (.string d.nm.key) := hrow2 0 _ rfl
      have f1 : wr.cell? ⟨g2, off2 + j * 8 + 1, none⟩ = some (.int .i64 d.nm.s) := hrow2 1 _ rfl
      have f2 : wr.cell? ⟨g2, off2 + j * 8 + 2, none⟩ = some (.int .i64 d.nm.e) := hrow2 2 _ rfl
      have f3 : wr.cell? ⟨g2, off2 + j * 8 + 3, none⟩ = some (.int .u64 (d.a.n : Int)) := hrow2 3 _ rfl
      have f4 : wr.cell? ⟨g2, off2 + j * 8 + 4, none⟩ = some (.float .f64 d.a.x) := hrow2 4 _ rfl
      have f5 : wr.cell? ⟨g2, off2 + j * 8 + 5, none⟩ = some (.bool d.a.ov) := hrow2 5 _ rfl
      have f6 : wr.cell? ⟨g2, off2 + j * 8 + 6, none⟩ = some (.float .f64 d.a.lo) := hrow2 6 _ rfl
      have f7 : wr.cell? ⟨g2, off2 + j * 8 + 7, none⟩ = some (.float .f64 d.a.hi) := hrow2 7 _ rfl
      have HB := Lib.hid hb
      clear hr hr2 hL hd hrow hrow2 hb
      go_wp2_with fail
      go_still_tail 35, (by kernel_rfl)
      change wpList _ _ _ _ _ wr.drew
      go_wp2_with (go_at_call 17; (with_reducible refine (hsm _).mono ?_); rintro e w5 ⟨rfl, b5⟩)
      exact ⟨⟨j + 1, by go_num, hlt, below_trans HB.out.drew b5⟩, by simp [intOf]; omega⟩
    · obtain rfl : j = L.length := by omega
      go_wp2_with fail
      go_ret
      exact ⟨rfl, hb⟩
set_option maxRecDepth 100000 in
set_option maxHeartbeats 8000000 in
theorem csame_any (A B : Option Addr) (cap cap2 : Nat) (L : List Ch) (w : World) (hr : RowsAt w chL A L) (hr2 : RowsAt w chL B L) (hL : ∀ x ∈ L, x.ok) (hl : L.length ≤ 1000) :
    Calls Try.prog 11 #[.slice A L.length cap, .slice B L.length cap2] w fun e w' => e = .returned (.bool true) ∧ Below w.heap.size w w' := by
  have z2 : ∀ w, (sizeOf 36).run Try.prog w = .ok 8 w := run_sizeOf_info sizePane
  have z1 : ∀ w, (sizeOf 38).run Try.prog w = .ok 10 w := run_sizeOf_info sizeCh
  go_enter Try.func11, Try.ntmps11
  go_upto_block 0 with fail
  go_wp2_with fail
  go_loopw [5] (fun i wr => ∃ j : Nat, i = .int .i64 (j : Nat) ∧ j ≤ L.length ∧ Below w.heap.size w wr) (fun i _ => L.length - (intOf i).toNat)
  case atStart => exact ⟨0, rfl, Nat.zero_le _, Below.refl _ _⟩
  case round =>
    obtain ⟨j, rfl, hj, hb⟩ := hrel
    by_cases hlt : j < L.length
    · obtain ⟨d, hd⟩ : ∃ d, L[j]? = some d := ⟨_, List.getElem?_eq_getElem hlt⟩
      obtain ⟨g, off, rfl, hrow⟩ := RowsAt.row encCh (hr.below hb) hd
      obtain ⟨g2, off2, rfl, hrow2⟩ := RowsAt.row encCh (hr2.below hb) hd
      have hdo := (hL d (List.mem_of_getElem? hd)).a
      have hji : (j : Int) < (L.length : Int) := by omega
      have hsm := fun w => refAggSame_any d.p.a d.p.a w hdo hdo
      rw [sameAV_refl] at hsm
      simp only [avC] at hsm
      have e0 : wr.cell? ⟨g, off + j * 10, none⟩ = some (.bool d.put) := hrow 0 _ rfl
      have e1 : wr.cell? ⟨g, off + j * 10 + 1, none⟩ = some (.int .u64 (d.rev : Int)) := hrow 1 _ rfl
      have e2 : wr.cell? ⟨g, off + j * 10 + 2, none⟩ = some (.string d.p.nm.key) := hrow 2 _ rfl
      have e3 : wr.cell? ⟨g, off + j * 10 + 3, none⟩ = some (.int .i64 d.p.nm.s) := hrow 3 _ rfl
      have e4 : wr.cell? ⟨g, off + j * 10 + 4, none⟩ = some (.int .i64 d.p.nm.e) := hrow 4 _ rfl
      have e5 : wr.cell? ⟨g, off + j * 10 + 5, none⟩ = some (.int .u64 (d.p.a.n : Int)) := hrow 5 _ rfl
      have e6 : wr.cell? ⟨g, off + j * 10 + 6, none⟩ = some (.float .f64 d.p.a.x) := hrow 6 _ rfl
      have e7 : wr.cell? ⟨g, off + j * 10 + 7, none⟩ = some (.bool d.p.a.ov) := hrow 7 _ rfl
      have e8 : wr.cell? ⟨g, off + j * 10 + 8, none⟩ = some (.float .f64 d.p.a.lo) := hrow 8 _ rfl
      have e9 : wr.cell? ⟨g, off + j * 10 + 9, none⟩ = some (.float .f64 d.p.a.hi) := hrow 9 _ rfl
      have f0 : wr.cell? ⟨g2, off2 + j * 10, none⟩ = some (.bool d.put) := hrow2 0 _ rfl
      have f1 : wr.cell? ⟨g2, off2 + j * 10 + 1, none⟩ = some (.int .u64 (d.rev : Int)) := hrow2 1 _ rfl
      have f2 : wr.cell? ⟨g2, off2 + j * 10 + 2, none⟩ = some (.string d.p.nm.key) := hrow2 2 _ rfl
      have f3 : wr.cell? ⟨g2, off2 + j * 10 + 3, none⟩ = some (.int .i64 d.p.nm.s) := hrow2 3 _ rfl
      have f4 : wr.cell? ⟨g2, off2 + j * 10 + 4, none⟩ = some (.int .i64 d.p.nm.e) := hrow2 4 _ rfl
      have f5 : wr.cell? ⟨g2, off2 + j * 10 + 5, none⟩ = some (.int .u64 (d.p.a.n : Int)) := hrow2 5 _ rfl
      have f6 : wr.cell? ⟨g2, off2 + j * 10 + 6, none⟩ = some (.float .f64 d.p.a.x) := hrow2 6 _ rfl
      have f7 : wr.cell? ⟨g2, off2 + j * 10 + 7, none⟩ = some (.bool d.p.a.ov) := hrow2 7 _ rfl
      have f8 : wr.cell? ⟨g2, off2 + j * 10 + 8, none⟩ = some (.float .f64 d.p.a.lo) := hrow2 8 _ rfl
      have f9 : wr.cell? ⟨g2, off2 + j * 10 + 9, none⟩ = some (.float .f64 d.p.a.hi) := hrow2 9 _ rfl
      have HB := Lib.hid hb
      clear hr hr2 hL hd hrow hrow2 hb
      go_wp2_with fail
      simp only [List.append_eq, List.cons_append, List.nil_append]
      go_still_tail 67, (by kernel_rfl)
      change wpList _ _ _ _ _ wr.drew
      go_wp2_with (go_at_call 17; (with_reducible refine (hsm _).mono ?_); rintro e w5 ⟨rfl, b5⟩)
      exact ⟨⟨j + 1, by go_num, hlt, below_trans HB.out.drew b5⟩, by simp [intOf]; omega⟩
    · obtain rfl : j = L.length := by omega
      go_wp2_with fail
      go_ret
      exact ⟨rfl, hb⟩
end Go.Proofs.Ytgpfoamhcoipgaa
