import Derived.Test.YthplelglifnhoaaSz
import Derived.Test.YthplelglifnhoaaWp
import Derived.Test.YthplelglifnhoaaLq
import Derived.Test.YthplelglifnhoaaLo
import Derived.Test.YthplelglifnhoaaLd
import Derived.Shelf.SlSortCmp.NoneTotal
import Derived.Shelf.SlicesE.Clone
/-! Events put in order. -/
namespace Go.Proofs.Ythplelglifnhoaa
open Go.Shelf Go.RowKit Go.Lib Go.Sort
set_option linter.unusedVariables false
set_option linter.unusedSimpArgs false
attribute [-simp] Try.isAgg36 Try.sizeOf36 Try.typeInfo36 Try.type36

theorem Grew.kept {wa wb : World} (hg : Grew wa wb) {g : Nat} {o : Obj} (h : wa.heap[g]? = some o) : wb.heap[g]? = some o := by
  obtain ⟨q, os, rfl⟩ := hg
  show (wa.heap ++ os)[g]? = _
  rw [Array.getElem?_append_left (Array.getElem?_eq_some_iff.1 h).1]; exact h
instance : Inhabited Ev := ⟨⟨0, 0, 0, ⟨#[]⟩, 0⟩⟩
def evL (e : Ev) : List Value := [.int .u64 e.off, .int .i64 e.part, .int .i64 e.t, .string e.key, .float .f64 e.val]
theorem evL_one (e : Ev) : ∀ v ∈ evL e, v.oneCell' = true := fun v hv => by
  simp only [evL, List.mem_cons, List.mem_nil_iff, or_false] at hv
  rcases hv with rfl | rfl | rfl | rfl | rfl <;> rfl
set_option maxRecDepth 100000 in
theorem encEv : Enc Try.prog 36 evL 5 48 where
  pos := by decide
  len := fun _ => rfl
  one := evL_one
  info := ⟨_, _, rfl, rfl, rfl, rfl, rfl⟩
set_option maxRecDepth 100000 in
theorem sizeEv : (Try.prog.info? 36).map (·.size) = some 5 := by kernel_rfl
/-- Does one event stand ahead of another? -/
def evLt (x y : Ev) : Bool := if x.key.toList = y.key.toList then (if x.t = y.t then decide (x.off < y.off) else decide (x.t < y.t)) else Op.bytesLess x.key.toList y.key.toList
def evOrd (x y : Ev) : Int := if evLt x y = true then -1 else if evLt y x = true then 1 else 0
theorem evLt_iff (x y : Ev) : evLt x y = true ↔ Op.bytesLess x.key.toList y.key.toList = true ∨ x.key.toList = y.key.toList ∧ (x.t < y.t ∨ x.t = y.t ∧ x.off < y.off) := by
  unfold evLt
  by_cases h : x.key.toList = y.key.toList
  · rw [if_pos h, h, bl_irrefl]
    by_cases h2 : x.t = y.t
    · rw [if_pos h2]; simp [h2]
    · rw [if_neg h2]; simp [h2]
  · rw [if_neg h]; simp [h]
theorem evLt_irrefl (x : Ev) : evLt x x = false := by
  cases h : evLt x x with
  | false => rfl
  | true => rcases (evLt_iff x x).1 h with h | ⟨_, h⟩
            · rw [bl_irrefl] at h; cases h
            · omega
theorem evLt_trans {x y z : Ev} (h1 : evLt x y = true) (h2 : evLt y z = true) : evLt x z = true := by
  rw [evLt_iff] at *
  rcases h1 with h1 | ⟨k1, h1⟩
  · rcases h2 with h2 | ⟨k2, h2⟩
    · exact .inl (bl_trans _ _ _ h1 h2)
    · rw [← k2]; exact .inl h1
  · rcases h2 with h2 | ⟨k2, h2⟩
    · rw [k1]; exact .inl h2
    · exact .inr ⟨k1.trans k2, by omega⟩
theorem evLt_total (x y : Ev) : evLt x y = true ∨ (x.key.toList = y.key.toList ∧ x.t = y.t ∧ x.off = y.off) ∨ evLt y x = true := by
  rw [evLt_iff, evLt_iff]
  rcases bl_total x.key.toList y.key.toList with h | h | h
  · exact .inl (.inl h)
  · rcases Int.lt_trichotomy x.t y.t with c | c | c
    · exact .inl (.inr ⟨h, .inl c⟩)
    · rcases Int.lt_trichotomy x.off y.off with d | d | d
      · exact .inl (.inr ⟨h, .inr ⟨c, d⟩⟩)
      · exact .inr (.inl ⟨h, c, d⟩)
      · exact .inr (.inr (.inr ⟨h.symm, .inr ⟨c.symm, d⟩⟩))
    · exact .inr (.inr (.inr ⟨h.symm, .inl c⟩))
  · exact .inr (.inr (.inl h))
theorem evLt_ntrans {x y z : Ev} (h1 : evLt x y = false) (h2 : evLt y z = false) : evLt x z = false := by
  cases hc : evLt x z with
  | false => rfl
  | true =>
    rcases evLt_total y z with q | ⟨k, t, o⟩ | q
    · rw [h2] at q; cases q
    · rw [evLt_iff, ← k, ← t, ← o, ← evLt_iff, h1] at hc; cases hc
    · rw [evLt_trans hc q] at h1; cases h1
theorem ltOf_ev (x y : Ev) : ltOf evOrd x y = evLt x y := by
  unfold ltOf evOrd
  cases h : evLt x y with
  | true => simp
  | false =>
    cases h2 : evLt y x <;> simp
theorem swo_ev : SWO (ltOf evOrd) where
  irrefl x := by rw [ltOf_ev]; exact evLt_irrefl _
  trans x y z h1 h2 := by rw [ltOf_ev] at *; exact evLt_trans h1 h2
  ntrans x y z h1 h2 := by rw [ltOf_ev] at *; exact evLt_ntrans h1 h2
theorem evLe_of {x y : Ev} (h : evLt y x = false) : EvLe x y := by
  refine ⟨?_, fun hk => ?_⟩
  · cases h2 : Op.bytesLess y.key.toList x.key.toList with
    | false => rfl
    | true => rw [(evLt_iff y x).2 (.inl h2)] at h; cases h
  · by_cases c : x.t ≤ y.t
    · exact c
    · rw [(evLt_iff y x).2 (.inr ⟨by rw [hk], .inl (by omega)⟩)] at h; cases h
set_option maxRecDepth 100000 in
set_option maxHeartbeats 4000000 in
theorem evLess_any (x y : Ev) (w : World) :
    Calls Try.prog 40 #[.agg (evL x).toArray, .agg (evL y).toArray] w fun e w' => e = .returned (.bool (evLt x y)) ∧ Grew w w' := by
  have zE : ∀ w, (sizeOf 36).run Try.prog w = .ok 5 w := run_sizeOf_info sizeEv
  obtain ⟨o1, p1, t1, k1, v1⟩ := x
  obtain ⟨o2, p2, t2, k2, v2⟩ := y
  simp only [evL, evLt]
  have Hg := Lib.hid (((Grew.refl w).alloc (.cells #[.int .u64 o1, .int .i64 p1, .int .i64 t1, .string k1, .float .f64 v1] 36)).alloc (.cells #[.int .u64 o2, .int .i64 p2, .int .i64 t2, .string k2, .float .f64 v2] 36))
  by_cases hk : k1.toList = k2.toList
  · rw [if_pos hk]
    have hkb : (!k1.toList == k2.toList) = false := by rw [hk]; simp
    by_cases h5 : t1 = t2
    · rw [if_pos h5]
      have h5' : (t1 != t2) = false := by rw [h5]; simp
      clear hk h5
      go_enter Try.func40, Try.ntmps40
      go_wp2_with fail
      all_goals first
        | (go_ret; exact ⟨rfl, Hg.out⟩)
        | (exfalso; contradiction)
        | (exfalso; omega)
    · rw [if_neg h5]
      have h5' : (t1 != t2) = true := by simpa using h5
      clear hk h5
      go_enter Try.func40, Try.ntmps40
      go_wp2_with fail
      all_goals first
        | (go_ret; exact ⟨rfl, Hg.out⟩)
        | (exfalso; contradiction)
        | (exfalso; omega)
  · rw [if_neg hk]
    have hkb : (!k1.toList == k2.toList) = true := by simpa using hk
    clear hk
    go_enter Try.func40, Try.ntmps40
    go_wp2_with fail
    all_goals first
      | (go_ret; exact ⟨rfl, Hg.out⟩)
      | (exfalso; contradiction)
      | (exfalso; omega)
set_option maxRecDepth 100000 in
set_option maxHeartbeats 4000000 in
theorem cmpEv_any (x y : Ev) (w : World) :
    Calls Try.prog 39 #[.agg (evL x).toArray, .agg (evL y).toArray] w fun e w' => e = .returned (.int .i64 (evOrd x y)) ∧ Grew w w' := by
  have Hs := Lib.hid sizeEv
  have hl1 := fun w => evLess_any x y w
  have hl2 := fun w => evLess_any y x w
  obtain ⟨b1, hb1⟩ : ∃ b, b = evLt x y := ⟨_, rfl⟩
  obtain ⟨b2, hb2⟩ : ∃ b, b = evLt y x := ⟨_, rfl⟩
  have hz : evOrd x y = if b1 = true then -1 else if b2 = true then 1 else 0 := by rw [hb1, hb2]; rfl
  rw [hz]
  rw [← hb1] at hl1
  rw [← hb2] at hl2
  clear hz hb1 hb2
  have hcs : ((evL x).toArray).size = 5 := rfl
  have hds : ((evL y).toArray).size = 5 := rfl
  obtain ⟨C, hC⟩ : ∃ C, C = (evL x).toArray := ⟨_, rfl⟩
  obtain ⟨D, hD⟩ : ∃ D, D = (evL y).toArray := ⟨_, rfl⟩
  rw [← hC] at hl1 hl2 hcs ⊢
  rw [← hD] at hl1 hl2 hds ⊢
  clear hC hD
  have h1 := Lib.hid (heap_alloc2_old w (.cells C 36) (.cells D 36))
  have h2 := Lib.hid (heap_alloc2_new w (.cells C 36) (.cells D 36))
  have Hg := Lib.hid (((Grew.refl w).alloc (.cells C 36)).alloc (.cells D 36))
  have hag : ∀ w, (isAgg 36).run Try.prog w = .ok true w := fun w => by rw [Try.isAgg36]
  have hz : ∀ w, (sizeOf 36).run Try.prog w = .ok 5 w := run_sizeOf_info sizeEv
  cases b1 <;> cases b2
  all_goals
    go_enter Try.func39, Try.ntmps39
    go_wp2_with (first
      | (refine at_op (.load 36 (.tmp 2)) ?_ rfl; refine wpList_load_row rfl 36 (.tmp 2) rfl w.heap.size rfl 36 _ (0, 0) _ h12.out Try.underlying36 rfl (by rw [hcs]; exact Hs.out) ?_)
      | (refine at_op (.load 36 (.tmp 3)) ?_ rfl; refine wpList_load_row rfl 36 (.tmp 3) rfl (w.heap.size + 1) rfl 36 _ (0, 0) _ h22.out Try.underlying36 rfl (by rw [hds]; exact Hs.out) ?_)
      | (refine at_op (.load 36 (.tmp 2)) ?_ rfl; refine wpList_load_row rfl 36 (.tmp 2) rfl w.heap.size rfl 36 _ (0, 0) _ h1.out Try.underlying36 rfl (by rw [hcs]; exact Hs.out) ?_)
      | (refine at_op (.load 36 (.tmp 3)) ?_ rfl; refine wpList_load_row rfl 36 (.tmp 3) rfl (w.heap.size + 1) rfl 36 _ (0, 0) _ h2.out Try.underlying36 rfl (by rw [hds]; exact Hs.out) ?_)
      | (go_at_call 40; (with_reducible refine (hl2 _).mono ?_); rintro e w2 ⟨rfl, hg2⟩; have Hg3 := Lib.hid (Hg2.out.trans hg2); clear hg2)
      | (go_at_call 40; (with_reducible refine (hl1 _).mono ?_); rintro e w1 ⟨rfl, hg1⟩; have Hg2 := Lib.hid (Hg.out.trans hg1); have h12 := Lib.hid (hg1.kept h1.out); have h22 := Lib.hid (hg1.kept h2.out); clear hg1))
    go_ret
    exact ⟨by first | rfl | simp, by first | exact Hg3.out | exact Hg2.out⟩
theorem cmpLays_ev (blk off size : Nat) (w : World) : CmpLays Try.prog 39 #[] evL 5 evOrd blk off size w :=
  fun _ _ _ _ x y => (cmpEv_any x y _).mono fun _ _ ⟨he, q, os, hw⟩ => ⟨he, q, os, hw⟩
set_option maxRecDepth 100000 in
/-- Events put in order, in place. -/
theorem stable_ev (w : World) (base : Nat) (v : Value) (l : List Ev) (h : OwnE w base 36 5 evL v l) (hl : l.length ≤ 1000) :
    Calls Try.prog 38 #[v, .func (.func 39) #[] #[]] w fun e w' => e = .returned (.tuple #[]) ∧ ∃ l' : List Ev, l'.Perm l ∧ l'.Pairwise EvLe ∧ OwnE w' base 36 5 evL v l' ∧ w.grownBy w' v.ownBlock := by
  have hv := h.2
  rcases hv with ⟨rfl, h0⟩ | ⟨g, cap, cur, rfl, _⟩
  · have : l = [] := List.eq_nil_of_length_eq_zero h0
    subst this
    have hi : ∀ w, Calls Try.prog 84 #[.slice none 0 0, .int .i64 0, .int .i64 0, .func (.func 39) #[] #[]] w fun e w' => e = .returned (.tuple #[]) ∧ w' = w := fun w => AnyF.insertionSortCmpFunc_none Try.insEv none 0 (.func (.func 39) #[] #[]) w
    have hs : ∀ w, Calls Try.prog 55 #[.slice none 0 0, .int .i64 0, .func (.func 39) #[] #[]] w fun e w' => e = .returned (.tuple #[]) ∧ w' = w := fun w => by
      go_enter Try.func55, Try.ntmps55
      go_wp2
      refine wp_loop_rounds 1 ?_
      rw [rounds_succ]
      go_wp2_with (go_at_call 84; (with_reducible refine (hi _).mono ?_); rintro e w2 ⟨rfl, rfl⟩)
      refine wp_loop_rounds 1 ?_
      rw [rounds_succ]
      go_wp2
      go_end0
      exact ⟨rfl, rfl⟩
    go_enter Try.func38, Try.ntmps38
    go_wp2_with (go_at_call 55; (with_reducible refine (hs _).mono ?_); rintro e w2 ⟨rfl, rfl⟩)
    go_end0
    exact ⟨rfl, [], List.Perm.refl _, List.Pairwise.nil, h, ⟨rfl, rfl, rfl, Nat.le_refl _, fun _ _ _ => rfl⟩⟩
  · obtain ⟨hH, hg, _⟩ := h.holdsK encEv
    have eg : ∀ args w, (callFunc 39 args).run Try.prog w = .ok (.enter 39 args) w := enters_of Try.func39 (by kernel_rfl) rfl
    have hcon := stable_any 5 Try.isAgg36 Try.sizeOf36 evL evOrd swo_ev 39 #[] g 0 cap l.toArray w eg (cmpLays_ev g 0 l.toArray.size w) ⟨fun _ => rfl, evL_one, hH, hg⟩ (by rw [List.size_toArray]; omega)
    rw [List.size_toArray] at hcon
    have hpost : ∀ (e : Ending) (w' : World), (e = .returned (.tuple #[]) ∧ ∃ d', PermIn 0 l.length l.toArray d' ∧ SortedIn (ltOf evOrd) 0 l.length d' ∧ SWK evL 5 w g 0 d' w') → e = .returned (.tuple #[]) ∧ ∃ l' : List Ev, l'.Perm l ∧ l'.Pairwise EvLe ∧ OwnE w' base 36 5 evL (.slice (some ⟨g, 0, none⟩) l.length cap) l' ∧ w.grownBy w' (Value.slice (some ⟨g, 0, none⟩) l.length cap).ownBlock := by
      rintro e w' ⟨rfl, d', ⟨hp1, _, hp3⟩, hs, n, os, rfl⟩
      have hd : d'.size = l.length := by rw [hp1, List.size_toArray]
      obtain ⟨ho, hgr⟩ := h.sorted encEv (m := n) (d := d') (os := os) hd
      refine ⟨rfl, d'.toList, ?_, ?_, ho, hgr⟩
      · have e1 : d'.extract 0 l.length = d' := by rw [← hd]; simp
        have e2 : l.toArray.extract 0 l.length = l.toArray := by simp
        rw [e1, e2] at hp3
        simpa using hp3
      · rw [List.pairwise_iff_getElem]
        intro i j hi hj hij
        rw [Array.length_toList] at hi hj
        have := hs i j (Nat.zero_le _) hij (by rw [← hd]; exact hj)
        rw [ltOf_ev, getElem!_pos d' j hj, getElem!_pos d' i hi] at this
        exact evLe_of (by simpa using this)
    have HC := Lib.hid hcon
    clear hcon hH hg
    have hlz : l.length ≤ 1000 := hl
    generalize l.length = n at *
    go_enter Try.func38, Try.ntmps38
    go_wp2_with (go_at_call 55; (with_reducible refine HC.out.mono ?_); intro e w' hw'; obtain ⟨rfl, hr⟩ := hpost e w' hw'; have HR := Lib.hid hr; clear hr)
    go_end0
    exact ⟨rfl, HR.out⟩
end Go.Proofs.Ythplelglifnhoaa
