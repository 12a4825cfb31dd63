import Derived.Test.YthplelglifnhoaaWe
import Derived.Test.YthplelglifnhoaaAo
/-! Groups put in order; the groups of events. -/
namespace Go.Proofs.Ythplelglifnhoaa
open Go.Shelf Go.RowKit Go.Lib Go.Sort
set_option linter.unusedVariables false
set_option linter.unusedSimpArgs false
attribute [-simp] Try.isAgg47 Try.sizeOf47 Try.typeInfo47 Try.type47
attribute [-simp] Try.isAgg45 Try.sizeOf45 Try.typeInfo45 Try.type45
attribute [-simp] Try.isAgg36 Try.sizeOf36 Try.typeInfo36 Try.type36
attribute [-simp] Try.isAgg40 Try.sizeOf40 Try.typeInfo40 Try.type40
attribute [-simp] Try.isAgg28 Try.sizeOf28 Try.typeInfo28 Try.type28

set_option maxRecDepth 100000 in
set_option maxHeartbeats 4000000 in
theorem cmpGr_any (x y : Gr) (w : World) :
    Calls Try.prog 35 #[.agg (grL x).toArray, .agg (grL y).toArray] w fun e w' => e = .returned (.int .i64 (nmOrd x.nm y.nm)) ∧ Grew w w' := by
  obtain ⟨⟨k1, a, b⟩, av1⟩ := x
  obtain ⟨⟨k2, c, d⟩, av2⟩ := y
  have Hs := Lib.hid sizeWin
  have ho := fun w => order_any ⟨k1, a, b⟩ ⟨k2, c, d⟩ w
  obtain ⟨C, hC⟩ : ∃ C, C = (grL ⟨⟨k1, a, b⟩, av1⟩).toArray := ⟨_, rfl⟩
  obtain ⟨D, hD⟩ : ∃ D, D = (grL ⟨⟨k2, c, d⟩, av2⟩).toArray := ⟨_, rfl⟩
  have c0 : C[0]? = some (.string k1) := by rw [hC]; rfl
  have d0 : D[0]? = some (.string k2) := by rw [hD]; rfl
  have hxt : ∀ (nm : Nm) (C : Array Value), ((grS nm C).toArray.extract 1 (1 + 2)).toList = [.int .i64 nm.s, .int .i64 nm.e] := fun nm C => by simp [grS]
  have cw : (C.extract 1 (1 + 2)).toList = [.int .i64 a, .int .i64 b] := by rw [hC]; exact hxt _ _
  have dw : (D.extract 1 (1 + 2)).toList = [.int .i64 c, .int .i64 d] := by rw [hD]; exact hxt _ _
  rw [← hC, ← hD]
  generalize nmOrd (Gr.mk ⟨k1, a, b⟩ av1).nm (Gr.mk ⟨k2, c, d⟩ av2).nm = z at *
  clear hC hD hxt
  have h1 := heap_alloc2_old w (.cells C 47) (.cells D 47)
  have h2 := heap_alloc2_new w (.cells C 47) (.cells D 47)
  have a0 := (cell_of_row _ _ 0 _ _ _ h1).trans c0
  have b0 := (cell_of_row _ _ 0 _ _ _ h2).trans d0
  have r1 := World.rangeAt_of_block h1 1 2
  have r2 := World.rangeAt_of_block h2 1 2
  rw [cw] at r1
  rw [dw] at r2
  have Hg := Lib.hid (((Grew.refl w).alloc (.cells C 47)).alloc (.cells D 47))
  have hag : ∀ w, (isAgg 47).run Try.prog w = .ok true w := fun w => by rw [Try.isAgg47]
  have hz : ∀ w, (sizeOf 47).run Try.prog w = .ok 46 w := run_sizeOf_info sizeGr
  have hz2 : ∀ w, (sizeOf 40).run Try.prog w = .ok 2 w := run_sizeOf_info sizeWin
  clear c0 d0 cw dw
  go_enter Try.func35, Try.ntmps35
  go_wp2_with (first
    | (refine at_op (.load 40 (.tmp 7)) ?_ rfl; refine wpList_load_mid rfl 40 (.tmp 7) rfl w.heap.size 1 rfl _ _ r1 Try.underlying40 rfl Hs.out ?_)
    | (refine at_op (.load 40 (.tmp 11)) ?_ rfl; refine wpList_load_mid rfl 40 (.tmp 11) rfl (w.heap.size + 1) 1 rfl _ _ r2 Try.underlying40 rfl Hs.out ?_)
    | (go_at_call 18; (with_reducible refine (ho _).mono ?_); rintro e w1 ⟨rfl, hg1⟩))
  go_ret
  exact ⟨rfl, Hg.out.trans hg1⟩
theorem ltOf_gr (x y : Gr) : ltOf (fun x y : Gr => nmOrd x.nm y.nm) x y = nmLt x.nm y.nm := nmOrd_neg x.nm y.nm
theorem swo_gr : SWO (ltOf fun x y : Gr => nmOrd x.nm y.nm) where
  irrefl x := by rw [ltOf_gr]; exact nmLt_irrefl _
  trans x y z h1 h2 := by rw [ltOf_gr] at *; exact nmLt_trans h1 h2
  ntrans x y z h1 h2 := by rw [ltOf_gr] at *; exact nmLt_ntrans h1 h2
theorem cmpLays_gr (blk off size : Nat) (w : World) : CmpLays Try.prog 35 #[] grL 46 (fun x y : Gr => nmOrd x.nm y.nm) blk off size w :=
  fun _ _ _ _ x y => (cmpGr_any x y _).mono fun _ _ ⟨he, q, os, hw⟩ => ⟨he, q, os, hw⟩
set_option maxRecDepth 100000 in
/-- Groups put in order. -/
theorem sortFunc_gr (w : World) (base : Nat) (v : Value) (l : List Gr) (h : OwnE w base 47 46 grL v l) (hl : l.length ≤ 100000) :
    Calls Try.prog 34 #[v, .func (.func 35) #[] #[]] w fun e w' => e = .returned (.tuple #[]) ∧ ∃ l' : List Gr, l'.Perm l ∧ l'.Pairwise (fun x y => nmLt y.nm x.nm = false) ∧ OwnE w' base 47 46 grL v l' ∧ w.grownBy w' v.ownBlock := by
  have hv := h.2
  rcases hv with ⟨rfl, h0⟩ | ⟨g, cap, cur, rfl, _⟩
  · have : l = [] := List.eq_nil_of_length_eq_zero h0
    subst this
    refine (AnyF.slices_SortFunc_none Try.sortGrp none 0 _ w).mono ?_
    rintro e w' ⟨rfl, rfl⟩
    exact ⟨rfl, [], List.Perm.refl _, List.Pairwise.nil, h, ⟨rfl, rfl, rfl, Nat.le_refl _, fun _ _ _ => rfl⟩⟩
  · obtain ⟨hH, hg, _⟩ := h.holdsK encGr
    have eg : ∀ args w, (callFunc 35 args).run Try.prog w = .ok (.enter 35 args) w := enters_of Try.func35 (by kernel_rfl) rfl
    have hcon := AnyQ.slices_SortFunc Try.sortGrp 46 Try.isAgg47 Try.sizeOf47 grL grL_len grL_one (fun x y : Gr => nmOrd x.nm y.nm) swo_gr 35 #[] g 0 cap l.toArray w eg (cmpLays_gr g 0 l.toArray.size w) hH hg (by rw [List.size_toArray]; omega)
    rw [List.size_toArray] at hcon
    refine hcon.mono ?_
    rintro e w' ⟨rfl, d', n, os, ⟨hp1, _, hp3⟩, hs, rfl⟩
    have hd : d'.size = l.length := by rw [hp1, List.size_toArray]
    obtain ⟨ho, hgr⟩ := h.sorted encGr (m := n) (d := d') (os := os) hd
    refine ⟨rfl, d'.toList, ?_, ?_, ho, hgr⟩
    · have e1 : d'.extract 0 l.length = d' := by rw [← hd]; simp
      have e2 : l.toArray.extract 0 l.length = l.toArray := by simp
      rw [e1, e2] at hp3
      simpa using hp3
    · rw [List.pairwise_iff_getElem]
      intro i j hi hj hij
      rw [Array.length_toList] at hi hj
      have := hs i j (Nat.zero_le _) hij (by rw [← hd]; exact hj)
      rw [ltOf_gr, getElem!_pos d' j hj, getElem!_pos d' i hi] at this
      simpa using this
set_option maxRecDepth 100000 in
theorem sort_gr (w : World) (base : Nat) (v : Value) (l : List Gr) (h : OwnE w base 47 46 grL v l) (hl : l.length ≤ 100000) :
    Calls Try.prog 24 #[v] w fun e w' => e = .returned (.tuple #[]) ∧ ∃ l' : List Gr, l'.Perm l ∧ l'.Pairwise (fun x y => nmLt y.nm x.nm = false) ∧ OwnE w' base 47 46 grL v l' ∧ w.grownBy w' v.ownBlock := by
  have hc := sortFunc_gr w base v l h hl
  obtain ⟨A, cap, rfl, _, _⟩ := h.form
  clear h hl
  have HC := Lib.hid hc
  clear hc
  go_enter Try.func24, Try.ntmps24
  go_wp2_with (go_at_call 34; (with_reducible refine HC.out.mono ?_); rintro e w1 ⟨rfl, hr⟩; have HR := Lib.hid hr; clear hr)
  go_end0
  exact ⟨rfl, HR.out⟩
end Go.Proofs.Ythplelglifnhoaa
