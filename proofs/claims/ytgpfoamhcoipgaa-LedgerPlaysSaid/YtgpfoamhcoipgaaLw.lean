import Derived.Test.YtgpfoamhcoipgaaLv
import Derived.Test.YtgpfoamhcoipgaaLr
import Derived.Deep.DeepCutAuto
/-! The document's view of changes: the walk. -/
namespace Go.Proofs.Ytgpfoamhcoipgaa
open Go.RowKit Go.Sort Go.ChangeMaps
set_option linter.unusedVariables false
set_option linter.unusedSectionVars false
attribute [-simp] Try.isAgg36 Try.sizeOf36 Try.typeInfo36 Try.type36
attribute [-simp] Try.isAgg38 Try.sizeOf38 Try.typeInfo38 Try.type38

theorem Grew.below {w w' : World} (h : Grew w w') : Below w.heap.size w w' := by
  obtain ⟨q, os, rfl⟩ := h
  refine ⟨rfl, rfl, rfl, ?_, fun i hi => ?_⟩
  · show _ ≤ (w.heap ++ os).size
    rw [Array.size_append]; omega
  · show (w.heap ++ os)[i]? = _
    rw [Array.getElem?_append_left hi]
theorem OwnE.apart {α : Type} {enc : α → List Value} {k : Nat} {e : TypeId} {w : World} {B : Nat} {v v5 : Value} {l5 : List α} (h5 : OwnE w B e k enc v5 l5) (lt : ∀ q, v.ownBlock = some q → q < B) : v.ownBlock = none ∨ v.ownBlock ≠ v5.ownBlock := by
  cases hv : v.ownBlock with
  | none => exact .inl rfl
  | some q =>
    refine .inr fun e => ?_
    have h1 := lt q hv
    have h2 := (h5.lt q e.symm).1
    omega
theorem nm_cases (a b : Nm) : ((a.key.toList == b.key.toList) = false ∧ a ≠ b) ∨ ((a.key.toList == b.key.toList) = true ∧ (a.s == b.s) = false ∧ a ≠ b) ∨ ((a.key.toList == b.key.toList) = true ∧ (a.s == b.s) = true ∧ (a.e == b.e) = false ∧ a ≠ b) ∨ ((a.key.toList == b.key.toList) = true ∧ (a.s == b.s) = true ∧ (a.e == b.e) = true ∧ a = b) := by
  rcases h1 : (a.key.toList == b.key.toList) with _ | _
  · exact .inl ⟨rfl, fun e => by rw [e] at h1; simp at h1⟩
  · rcases h2 : (a.s == b.s) with _ | _
    · exact .inr (.inl ⟨rfl, rfl, fun e => by rw [e] at h2; simp at h2⟩)
    · rcases h3 : (a.e == b.e) with _ | _
      · exact .inr (.inr (.inl ⟨rfl, rfl, rfl, fun e => by rw [e] at h3; simp at h3⟩))
      · exact .inr (.inr (.inr ⟨rfl, rfl, rfl, nm_eq ⟨by simpa using h1, by simpa using h2, by simpa using h3⟩⟩))
set_option maxRecDepth 100000 in
set_option maxHeartbeats 8000000 in
theorem rview_any (A : Option Addr) (cap : Nat) (L : List Ch) (w : World) (hr : RowsAt w chL A L) (hl : L.length ≤ 500) :
    Calls Try.prog 16 #[.slice A L.length cap] w fun e w' => ∃ u, e = .returned u ∧ OwnE w' w.heap.size 36 8 paneL u (viewR L) ∧ Below w.heap.size w w' := by
  have z1 : ∀ w, (sizeOf 38).run Try.prog w = .ok 10 w := run_sizeOf_info sizeCh
  have z2 : ∀ w, (sizeOf 36).run Try.prog w = .ok 8 w := run_sizeOf_info sizePane
  have Hp := Lib.hid sizePane
  obtain ⟨R, hR⟩ : ∃ R, R = viewR L := ⟨_, rfl⟩
  rw [← hR]
  have HR := Lib.hid hR
  clear hR
  go_enter Try.func16, Try.ntmps16
  go_upto_block 0 with fail
  go_wp2_with fail
  go_loopw [3, 4] (fun v i wr => ∃ j : Nat, i = .int .i64 (j : Nat) ∧ j ≤ L.length ∧ OwnE wr w.heap.size 36 8 paneL v (viewR (L.take j)) ∧ Below w.heap.size w wr) (fun _ i _ => L.length - (intOf i).toNat)
  case atStart => exact ⟨0, rfl, Nat.zero_le _, OwnE.nil _ _, Below.refl _ _⟩
  case round =>
    obtain ⟨j, rfl, hj, hO, hb⟩ := hrel
    by_cases hlt : j < L.length
    · obtain ⟨d, hd⟩ : ∃ d, L[j]? = some d := ⟨_, List.getElem?_eq_getElem hlt⟩
      generalize hw4 : wr = wo at *
      clear hw4
      obtain ⟨g, off, rfl, hrow⟩ := RowsAt.row encCh (hr.below hb) hd
      have hji : (j : Int) < (L.length : Int) := by omega
      have hv1 : viewR (L.take (j + 1)) = vFin d (vFold d (viewR (L.take j))) := by
        rw [List.take_add_one, hd]
        exact viewR_snoc _ _
      have hol : (viewR (L.take j)).length ≤ 500 := Nat.le_trans (viewR_len _) (by rw [List.length_take]; omega)
      have HV1 := Lib.hid hv1
      have e0 : wo.cell? ⟨g, off + j * 10, none⟩ = some (.bool d.put) := hrow 0 _ rfl
      have HROW := Lib.hid hrow
      have HB := Lib.hid hb
      have HHR := Lib.hid hr
      clear hrow hb hr hv1 hd
      generalize viewR (L.take j) = out at *
      obtain ⟨A3, c3, rfl, _, hrO⟩ := hO.form
      have HRO := Lib.hid hrO
      have HOO := Lib.hid hO
      have hlt3 := fun q hq => (hO.lt q hq).2
      clear hrO hO
      generalize hN : L.length = N at *
      generalize hM : out.length = M at *
      go_wp2_with fail
      go_loopw [5, 6, 7] (fun v5 dn k wr => ∃ q : Nat, k = .int .i64 (q : Nat) ∧ q ≤ M ∧ dn = .bool (vFold d (out.take q)).2 ∧ OwnE wr wo.heap.size 36 8 paneL v5 (vFold d (out.take q)).1 ∧ Below wo.heap.size wo wr) (fun _ _ k _ => M - (intOf k).toNat)
      case atStart => exact ⟨0, rfl, Nat.zero_le _, rfl, OwnE.nil _ _, Below.refl _ _⟩
      case round =>
        clear e0
        obtain ⟨q, rfl, hq, rfl, hO5, hb5⟩ := hrel
        generalize hw4 : wr = wq at *
        clear hw4
        by_cases hqm : q < M
        · obtain ⟨y, hy⟩ : ∃ y, out[q]? = some y := ⟨_, List.getElem?_eq_getElem (by omega)⟩
          obtain ⟨g3, off3, rfl, hrowy⟩ := RowsAt.row encPane (HRO.out.below hb5) hy
          have hrowd : wq.rangeAt g (off + j * 10) (chL d) := range_below hb5 HROW.out
          have hqi : (q : Int) < (M : Int) := by omega
          have e2 : wq.cell? ⟨g, off + j * 10 + 2, none⟩ = some (.string d.p.nm.key) := hrowd 2 _ rfl
          have e3 : wq.cell? ⟨g, off + j * 10 + 3, none⟩ = some (.int .i64 d.p.nm.s) := hrowd 3 _ rfl
          have e4 : wq.cell? ⟨g, off + j * 10 + 4, none⟩ = some (.int .i64 d.p.nm.e) := hrowd 4 _ rfl
          have f0 : wq.cell? ⟨g3, off3 + q * 8, none⟩ = some (.string y.nm.key) := hrowy 0 _ rfl
          have f1 : wq.cell? ⟨g3, off3 + q * 8 + 1, none⟩ = some (.int .i64 y.nm.s) := hrowy 1 _ rfl
          have f2 : wq.cell? ⟨g3, off3 + q * 8 + 2, none⟩ = some (.int .i64 y.nm.e) := hrowy 2 _ rfl
          have RD := Lib.hid (range_sub hrowd 2 8 rfl : wq.rangeAt g (off + j * 10 + 2) (paneL d.p))
          have RY := Lib.hid hrowy
          have htk : vFold d (out.take (q + 1)) = vStep d (vFold d (out.take q)) y := by
            rw [← vFold_snoc]
            congr 1
            rw [List.take_add_one, hy]; rfl
          have HS1 := Lib.hid htk
          have HQ := Lib.hid (show q + 1 ≤ M from hqm)
          have hsl := vFold_len d (out.take q)
          have hsl2 : (vFold d (out.take q)).1.length ≤ 501 := by rw [List.length_take] at hsl; split at hsl <;> omega
          have HB5 := Lib.hid hb5
          have HO5 := Lib.hid hO5
          have HRY0 := Lib.hid (RowsAt.row encPane HRO.out hy)
          have hbf := fun w => before_any d.p.nm y.nm w
          clear hsl htk hy hrowy hrowd hb5 hO5 HRO
          generalize hS : vFold d (out.take q) = S at *
          obtain ⟨nx, dn⟩ := S
          simp only at hsl2
          have hl1 : nx.length + 1 ≤ 1000 := by omega
          have hl2 : (nx ++ [d.p]).length + 1 ≤ 1000 := by rw [List.length_append, List.length_singleton]; omega
          have HL1 := Lib.hid hl1
          have HL2 := Lib.hid hl2
          clear hsl2 hl1 hl2
          go_wp2_with fail
          obtain ⟨bb, hbb⟩ : ∃ bb : Bool, bb = decide (y.nm = d.p.nm) := ⟨_, rfl⟩
          have HBB := Lib.hid hbb
          clear hbb
          go_cut [51] (fun b wx => b = .bool bb ∧ ∃ n, wx = wq.drewN n)
          case first =>
            rcases nm_cases y.nm d.p.nm with ⟨hk, hne⟩ | ⟨hk, hs, hne⟩ | ⟨hk, hs, hee, hne⟩ | ⟨hk, hs, hee, hne⟩
            · obtain rfl : bb = false := by rw [HBB.out]; exact decide_eq_false hne
              clear hne
              go_quiet (fail)
              go_wp2_with fail
              go_meet
              exact ⟨rfl, _, rfl⟩
            · obtain rfl : bb = false := by rw [HBB.out]; exact decide_eq_false hne
              clear hne
              go_quiet (fail)
              go_wp2_with fail
              go_meet
              exact ⟨rfl, _, rfl⟩
            · obtain rfl : bb = false := by rw [HBB.out]; exact decide_eq_false hne
              clear hne
              go_quiet (fail)
              go_wp2_with fail
              go_meet
              exact ⟨rfl, _, rfl⟩
            · obtain rfl : bb = true := by rw [HBB.out]; exact decide_eq_true hne
              clear hne
              go_quiet (fail)
              go_wp2_with fail
              go_meet
              exact ⟨rfl, _, rfl⟩
          case rest =>
          obtain ⟨rfl, nq, rfl⟩ := hcut
          have HO6 := Lib.hid (HO5.out.below (below_drewN (Below.refl _ _) nq))
          have HB6 := Lib.hid (below_drewN HB5.out nq)
          have RD6 := Lib.hid (range_below (below_drewN (Below.refl _ _) nq) RD.out)
          have RY6 := Lib.hid (range_below (below_drewN (Below.refl _ _) nq) RY.out)
          have e2' : (wq.drewN nq).cell? ⟨g, off + j * 10 + 2, none⟩ = some (.string d.p.nm.key) := e2
          have e3' : (wq.drewN nq).cell? ⟨g, off + j * 10 + 3, none⟩ = some (.int .i64 d.p.nm.s) := e3
          have e4' : (wq.drewN nq).cell? ⟨g, off + j * 10 + 4, none⟩ = some (.int .i64 d.p.nm.e) := e4
          have f0' : (wq.drewN nq).cell? ⟨g3, off3 + q * 8, none⟩ = some (.string y.nm.key) := f0
          have f1' : (wq.drewN nq).cell? ⟨g3, off3 + q * 8 + 1, none⟩ = some (.int .i64 y.nm.s) := f1
          have f2' : (wq.drewN nq).cell? ⟨g3, off3 + q * 8 + 2, none⟩ = some (.int .i64 y.nm.e) := f2
          clear e2 e3 e4 f0 f1 f2 HO5 HB5 RD RY
          generalize wq.drewN nq = w6 at *
          cases bb
          · have hne : ¬ y.nm = d.p.nm := of_decide_eq_false HBB.out.symm
            obtain ⟨b2, hb2⟩ : ∃ b2 : Bool, b2 = (!dn && nmLt d.p.nm y.nm) := ⟨_, rfl⟩
            have HB2 := Lib.hid hb2
            have hst : vStep d (nx, dn) y = if b2 = true then (nx ++ [d.p] ++ [y], true) else (nx ++ [y], dn) := by
              unfold vStep
              rw [if_neg hne, hb2]
              cases dn <;> cases nmLt d.p.nm y.nm <;> rfl
            have HST := Lib.hid hst
            clear hb2 hst hne HBB
            go_upto_region 11 with fail
            go_cut [78] (fun b wx => b = .bool b2 ∧ Below w6.heap.size w6 wx)
            case first =>
              cases dn
              · cases hlt2 : nmLt d.p.nm y.nm
                · rw [hlt2] at hbf HB2
                  obtain rfl : b2 = false := HB2.out
                  go_still_tail 25, (by kernel_rfl)
                  change wpList _ _ _ _ _ w6.drew
                  go_wp2_with (go_at_call 24; (with_reducible refine (hbf _).mono ?_); rintro e w7 ⟨rfl, b7⟩)
                  go_meet
                  exact ⟨rfl, below_trans (Below.refl _ _).drew b7.below⟩
                · rw [hlt2] at hbf HB2
                  obtain rfl : b2 = true := HB2.out
                  go_still_tail 25, (by kernel_rfl)
                  change wpList _ _ _ _ _ w6.drew
                  go_wp2_with (go_at_call 24; (with_reducible refine (hbf _).mono ?_); rintro e w7 ⟨rfl, b7⟩)
                  go_meet
                  exact ⟨rfl, below_trans (Below.refl _ _).drew b7.below⟩
              · obtain rfl : b2 = false := HB2.out
                go_quiet (fail)
                go_wp2_with fail
                go_meet
                exact ⟨rfl, below_drewN (Below.refl _ _) nq⟩
            case rest =>
            obtain ⟨rfl, hb7⟩ := hcut
            have b7 := Lib.hid hb7
            generalize hw7 : wc = w7 at *
            clear hw7 hb7 e2' e3' e4' f0' f1' f2' hbf
            have RD7 := Lib.hid (range_below b7.out RD6.out)
            have RY7 := Lib.hid (range_below b7.out RY6.out)
            cases b2
            · have hst := HST.out
              rw [if_neg (by decide)] at hst
              have ba7 := below_alloc (Below.refl w7.heap.size w7) (.cells (paneL y).toArray 36)
              have oa7 := Lib.hid (OwnE.below (HO6.out.below b7.out) ba7)
              have bx7 := Lib.hid (below_trans (below_trans HB6.out b7.out) ba7)
              have ro7 := Lib.hid (RowsAt.one (enc := paneL) (y := y) (heap_alloc_new w7 (.cells (paneL y).toArray 36)))
              clear ba7
              go_wp2_with (first
                | (refine at_op (.load 36 (.tmp 90)) ?_ rfl; refine wpList_load_mid rfl 36 (.tmp 90) rfl g3 (off3 + q * 8) rfl (paneL y) _ RY7.out Try.underlying36 rfl (by exact sizePane) ?_)
                | (refine at_op (.buildSlice 50 1 #[(0, .tmp 91)]) ?_ rfl; refine wpList_buildOne encPane (by decide) rfl w7 50 (.tmp 91) rfl (some 92) rfl w7.heap.size rfl rfl y rfl ?_)
                | (refine at_op (.call { callee := .builtin .append, args := #[.tmp 87, .tmp 92], argTypes := #[50, 50] }) ?_ rfl; refine wpList_appendE encPane rfl _ (.tmp 87) (.tmp 92) 50 rfl wo.heap.size rfl u5 nx rfl oa7.out (some ⟨w7.heap.size, 0, none⟩) 1 [y] rfl ro7.out (by rw [List.length_singleton]; exact Nat.le_trans HL1.out (by decide)) (by rw [List.length_singleton]; exact Nat.le_trans (Nat.mul_le_mul_right 72 HL1.out) (by decide)) bx7.out.size ?_; intro u9 w11 hO11 hG11 hB11))
              exact ⟨⟨q + 1, by go_num, HQ.out, by rw [HS1.out, hst], by rw [HS1.out, hst]; exact hO11, below_grown2 bx7.out hG11 (fun q e => (oa7.out.lt q e).1)⟩, by simp [intOf]; omega⟩
            · have hst := HST.out
              rw [if_pos rfl] at hst
              have ba7 := below_alloc (Below.refl w7.heap.size w7) (.cells (paneL d.p).toArray 36)
              have oa7 := Lib.hid (OwnE.below (HO6.out.below b7.out) ba7)
              have bx7 := Lib.hid (below_trans (below_trans HB6.out b7.out) ba7)
              have ro7 := Lib.hid (RowsAt.one (enc := paneL) (y := d.p) (heap_alloc_new w7 (.cells (paneL d.p).toArray 36)))
              clear ba7
              go_upto_region 14 with (first
                | (refine at_op (.load 36 (.tmp 83)) ?_ rfl; refine wpList_load_mid rfl 36 (.tmp 83) rfl g (off + j * 10 + 2) rfl (paneL d.p) _ RD7.out Try.underlying36 rfl (by exact sizePane) ?_)
                | (refine at_op (.buildSlice 50 1 #[(0, .tmp 84)]) ?_ rfl; refine wpList_buildOne encPane (by decide) rfl w7 50 (.tmp 84) rfl (some 85) rfl w7.heap.size rfl rfl d.p rfl ?_)
                | (refine at_op (.call { callee := .builtin .append, args := #[.tmp 79, .tmp 85], argTypes := #[50, 50] }) ?_ rfl; refine wpList_appendE encPane rfl _ (.tmp 79) (.tmp 85) 50 rfl wo.heap.size rfl u5 nx rfl oa7.out (some ⟨w7.heap.size, 0, none⟩) 1 [d.p] rfl ro7.out (by rw [List.length_singleton]; exact Nat.le_trans HL1.out (by decide)) (by rw [List.length_singleton]; exact Nat.le_trans (Nat.mul_le_mul_right 72 HL1.out) (by decide)) bx7.out.size ?_; intro u8 w8 hO8 hG8 hB8))
              have b8 := Lib.hid (below_grown2 bx7.out hG8 (fun q e => (oa7.out.lt q e).1))
              have RY8 : w8.rangeAt g3 (off3 + q * 8) (paneL y) := by
                obtain ⟨g4, off4, e4, h4⟩ := HRY0.out
                injection e4 with e4
                injection e4 with e5 e6
                subst e5 e6
                exact range_below b8.out h4
              have RY8 := Lib.hid RY8
              have ba8 := below_alloc (Below.refl w8.heap.size w8) (.cells (paneL y).toArray 36)
              have oa8 := Lib.hid (OwnE.below hO8 ba8)
              have bx8 := Lib.hid (below_trans b8.out ba8)
              have ro8 := Lib.hid (RowsAt.one (enc := paneL) (y := y) (heap_alloc_new w8 (.cells (paneL y).toArray 36)))
              clear ba8
              go_wp2_with (first
                | (refine at_op (.load 36 (.tmp 90)) ?_ rfl; refine wpList_load_mid rfl 36 (.tmp 90) rfl g3 (off3 + q * 8) rfl (paneL y) _ RY8.out Try.underlying36 rfl (by exact sizePane) ?_)
                | (refine at_op (.buildSlice 50 1 #[(0, .tmp 91)]) ?_ rfl; refine wpList_buildOne encPane (by decide) rfl w8 50 (.tmp 91) rfl (some 92) rfl w8.heap.size rfl rfl y rfl ?_)
                | (refine at_op (.call { callee := .builtin .append, args := #[.tmp 87, .tmp 92], argTypes := #[50, 50] }) ?_ rfl; refine wpList_appendE encPane rfl _ (.tmp 87) (.tmp 92) 50 rfl wo.heap.size rfl u8 (nx ++ [d.p]) rfl oa8.out (some ⟨w8.heap.size, 0, none⟩) 1 [y] rfl ro8.out (by rw [List.length_singleton]; exact Nat.le_trans HL2.out (by decide)) (by rw [List.length_singleton]; exact Nat.le_trans (Nat.mul_le_mul_right 72 HL2.out) (by decide)) bx8.out.size ?_; intro u9 w11 hO11 hG11 hB11))
              exact ⟨⟨q + 1, by go_num, HQ.out, by rw [HS1.out, hst], by rw [HS1.out, hst]; exact hO11, below_grown2 bx8.out hG11 (fun q e => (oa8.out.lt q e).1)⟩, by simp [intOf]; omega⟩
          · have hne : y.nm = d.p.nm := of_decide_eq_true HBB.out.symm
            have hst : vStep d (nx, dn) y = (nx, dn) := by unfold vStep; rw [if_pos hne]
            clear hne
            go_wp2_with fail
            exact ⟨⟨q + 1, by go_num, HQ.out, by rw [HS1.out, hst], by rw [HS1.out, hst]; exact HO6.out, HB6.out⟩, by simp [intOf]; omega⟩
        · obtain rfl : q = M := by omega
          rw [List.take_of_length_le (by omega)] at hO5
          rw [List.take_of_length_le (by omega)]
          have RD := Lib.hid (range_sub (range_below hb5 HROW.out) 2 8 rfl : wq.rangeAt g (off + j * 10 + 2) (paneL d.p))
          have hsl := vFold_len d out
          have hl1 : (vFold d out).1.length + 1 ≤ 1000 := by split at hsl <;> omega
          have HL1 := Lib.hid hl1
          have HO5 := Lib.hid hO5
          have hbq := Lib.hid (below_trans HB.out hb5)
          have HB5 := Lib.hid hb5
          have hvf : viewR (L.take (j + 1)) = vFin d (vFold d out) := HV1.out
          have HVF := Lib.hid hvf
          clear hsl hl1 hO5 hb5 hvf hM
          generalize vFold d out = S at *
          obtain ⟨nx, dn⟩ := S
          cases dn
          have baq := Lib.hid (below_alloc (Below.refl wq.heap.size wq) (.cells (paneL d.p).toArray 36))
          have oaq := Lib.hid (HO5.out.below baq.out)
          have bxq := Lib.hid (below_trans HB5.out baq.out)
          have roq := Lib.hid (RowsAt.one (enc := paneL) (y := d.p) (heap_alloc_new wq (.cells (paneL d.p).toArray 36)))
          · go_wp2_with (first
              | (refine at_op (.load 36 (.tmp 100)) ?_ rfl; refine wpList_load_mid rfl 36 (.tmp 100) rfl g (off + j * 10 + 2) rfl (paneL d.p) _ RD.out Try.underlying36 rfl (by exact sizePane) ?_)
              | (refine at_op (.buildSlice 50 1 #[(0, .tmp 101)]) ?_ rfl; refine wpList_buildOne encPane (by decide) rfl wq 50 (.tmp 101) rfl (some 102) rfl wq.heap.size rfl rfl d.p rfl ?_)
              | (refine at_op (.call { callee := .builtin .append, args := #[.tmp 96, .tmp 102], argTypes := #[50, 50] }) ?_ rfl; refine wpList_appendE encPane rfl _ (.tmp 96) (.tmp 102) 50 rfl wo.heap.size rfl u5 nx rfl oaq.out (some ⟨wq.heap.size, 0, none⟩) 1 [d.p] rfl roq.out (by rw [List.length_singleton]; exact Nat.le_trans HL1.out (by decide)) (by rw [List.length_singleton]; exact Nat.le_trans (Nat.mul_le_mul_right 72 HL1.out) (by decide)) bxq.out.size ?_; intro u9 w11 hO11 hG11 hB11))
            exact ⟨⟨j + 1, by go_num, hlt, by rw [HVF.out]; exact OwnE.mono hO11 HB.out.size, below_grown2 (below_trans hbq.out baq.out) hG11 (fun q e => Nat.le_trans HB.out.size (oaq.out.lt q e).1)⟩, by simp [intOf]; omega⟩
          · go_wp2_with fail
            exact ⟨⟨j + 1, by go_num, hlt, by rw [HVF.out]; exact OwnE.mono HO5.out HB.out.size, hbq.out⟩, by simp [intOf]; omega⟩
    · obtain rfl : j = L.length := by omega
      rw [List.take_length] at hO
      go_wp2_with fail
      go_ret
      rw [HR.out]
      exact ⟨_, rfl, hO, hb⟩
end Go.Proofs.Ytgpfoamhcoipgaa
