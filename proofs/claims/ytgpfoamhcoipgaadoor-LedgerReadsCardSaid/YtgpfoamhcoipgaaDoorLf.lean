import Derived.Test.YtgpfoamhcoipgaaDoorLe
import Derived.Test.YtgpfoamhcoipgaaDoorLb
import Derived.Laws.IdiomRangeMap
/-! The ledger's Len, All, View: the walks. -/
namespace Go.Proofs.YtgpfoamhcoipgaaDoor
open Go.RowKit Go.Sort Go.ChangeMaps
set_option linter.unusedVariables false
attribute [-simp] Tryd.isAgg34 Tryd.sizeOf34 Tryd.typeInfo34 Tryd.type34
attribute [-simp] Tryd.isAgg40 Tryd.sizeOf40 Tryd.typeInfo40 Tryd.type40
attribute [-simp] Tryd.isAgg38 Tryd.sizeOf38 Tryd.typeInfo38 Tryd.type38
attribute [-simp] Tryd.isAgg43 Tryd.sizeOf43 Tryd.typeInfo43 Tryd.type43
attribute [-simp] Tryd.isAgg65 Tryd.sizeOf65 Tryd.typeInfo65 Tryd.type65
attribute [-simp] Tryd.isAgg67 Tryd.sizeOf67 Tryd.typeInfo67 Tryd.type67

set_option maxRecDepth 100000 in
theorem len_led (gb base : Nat) (m v : Value) (L : List Ch) (w : World) (hg : w.heap[gb]? = some (.cells #[v, m] 32 (0, 0))) (hv : OwnE w base 43 10 chL v L) :
    Calls Tryd.prog 9 #[.pointer (some ⟨gb, 0, none⟩)] w fun e w' => e = .returned (.int .i64 L.length) ∧ w' = w := by
  obtain ⟨A, cap, rfl, _, _⟩ := hv.form
  have c0 := cell_of_row _ _ 0 _ _ _ hg
  clear hv
  go_enter Tryd.func9, Tryd.ntmps9
  go_wp2_with fail
  go_ret
  exact ⟨rfl, rfl⟩
set_option maxRecDepth 100000 in
theorem len_nil (w : World) : Calls Tryd.prog 9 #[.pointer none] w fun e w' => e = .returned (.int .i64 0) ∧ w' = w := by
  go_enter Tryd.func9, Tryd.ntmps9
  go_wp2_with fail
  go_ret
  exact ⟨rfl, rfl⟩
theorem size_setBlock' (w : World) (b : Nat) (o : Obj) : (setBlock w b o).heap.size = w.heap.size := by
  show (w.heap.setIfInBounds b o).size = _
  rw [Array.size_setIfInBounds]
theorem ne_iter {α : Type} {enc : α → List Value} {k : Nat} {e : TypeId} {w : World} {base g : Nat} {v : Value} {l : List α} (h : OwnE w base e k enc v l) {a : Option Nat} {c d : Nat} {s : Array Nat} (hg : w.heap[g]? = some (.mapIter a c s d)) : v.ownBlock ≠ some g := fun q => by
  rcases h.2 with ⟨rfl, _⟩ | ⟨g2, cap, cur, rfl, _, hg2, _⟩
  · cases q
  · injection q with q
    have q : g2 = g := q
    subst q
    rw [hg] at hg2
    cases hg2
theorem below_grown2 {w w1 w2 : World} {row : Option Nat} (b : Below w.heap.size w w1) (g : w1.grownBy w2 row) (h : ∀ q, row = some q → w.heap.size ≤ q) : Below w.heap.size w w2 :=
  ⟨g.os.trans b.os, g.tape.trans b.tape, g.output.trans b.output, Nat.le_trans b.size g.size, fun i hi => (g.block i (Nat.lt_of_lt_of_le hi b.size) (fun e => by
    have := h i e.symm
    omega)).trans (b.block i hi)⟩
theorem list_nodup_le {α : Type} [DecidableEq α] : ∀ {a b : List α}, a.Nodup → (∀ x ∈ a, x ∈ b) → a.length ≤ b.length
  | [], b, _, _ => Nat.zero_le _
  | x :: a, b, hn, h => by
    rw [List.nodup_cons] at hn
    have h1 := list_nodup_le (b := b.erase x) hn.2 fun y hy => (List.mem_erase_of_ne (fun e => hn.1 (by rw [← e]; exact hy))).2 (h y (List.mem_cons_of_mem _ hy))
    have hx := h x List.mem_cons_self
    rw [List.length_erase_of_mem hx] at h1
    have := List.length_pos_of_mem hx
    rw [List.length_cons]; omega
theorem live_len {f : Nm → Std} {mp : List (Nm × Std)} {N : List Nm} (hn : (mp.map (·.1)).Nodup) (hf : ∀ n, (lget mp n).getD st0 = f n) (hN : ∀ n, (f n).live = true → n ∈ N) : (liveOf mp).length ≤ N.length := by
  have h1 : ((liveOf mp).map (·.nm)).Nodup := List.Sublist.nodup (liveOf_names mp) hn
  have := list_nodup_le h1 (b := N) fun x hx => by
    obtain ⟨p, hp, rfl⟩ := List.mem_map.1 hx
    obtain ⟨q, hq, hl, rfl⟩ := liveOf_mem.1 hp
    refine hN _ ?_
    have := hf q.1
    rw [lget_mem hn hq] at this
    have this : q.2 = f q.1 := this
    rw [← this]; exact hl
  rwa [List.length_map] at this
set_option maxRecDepth 100000 in
set_option maxHeartbeats 8000000 in
theorem view_led (gb : Nat) (m v : Value) (f : Nm → Std) (N : List Nm) (w : World) (hg : w.heap[gb]? = some (.cells #[v, m] 32 (0, 0))) (hm : AtIs w m f) (hN : ∀ n, (f n).live = true → n ∈ N) (hl : N.length ≤ 1000) :
    Calls Tryd.prog 8 #[.pointer (some ⟨gb, 0, none⟩)] w fun e w' => ∃ u vs, e = .returned u ∧ OwnE w' w.heap.size 40 8 paneL u vs ∧ ViewIs f vs ∧ Below w.heap.size w w' := by
  have T := mapTy_led
  have zn := zeroNm
  have zs := zeroStd
  have Hn := Lib.hid sizeNm
  have Hst := Lib.hid sizeStd
  have z2 : ∀ w, (sizeOf 40).run Tryd.prog w = .ok 8 w := run_sizeOf_info sizePane
  have z3 : ∀ w, (sizeOf 34).run Tryd.prog w = .ok 2 w := run_sizeOf_info sizeWin
  have z4 : ∀ w, (sizeOf 38).run Tryd.prog w = .ok 5 w := run_sizeOf_info sizeAgg
  have z5 : ∀ w, (sizeOf 65).run Tryd.prog w = .ok 3 w := run_sizeOf_info sizeNm
  have z6 : ∀ w, (sizeOf 67).run Tryd.prog w = .ok 7 w := run_sizeOf_info sizeStd
  have g5 : ∀ w, (isAgg 65).run Tryd.prog w = .ok true w := fun w => by rw [Tryd.isAgg65]
  have g6 : ∀ w, (isAgg 67).run Tryd.prog w = .ok true w := fun w => by rw [Tryd.isAgg67]
  have cm := cell_of_row _ _ 1 _ _ _ hg
  rcases hm with ⟨rfl, hz⟩ | ⟨b, mp, rfl, hM, hl0⟩
  · have hrg : ∀ wx : World, (Instr.range 30 (.map none)).run Tryd.prog wx = _ := fun wx => run_range_nilMap wx 30 65 67 Tryd.underlying30
    have hnx := run_next_none (P := Tryd.prog) 0 (heap_alloc_new w (.mapIter none 0 #[] 0))
    have hso := fun wx => sort_panes wx w.heap.size (.slice none 0 0) [] (OwnE.nil _ _) (by decide)
    have ba := below_alloc (Below.refl w.heap.size w) (.mapIter none 0 #[] 0)
    go_enter Tryd.func8, Tryd.ntmps8
    go_wp2_with fail
    generalize hw1 : w.alloc (.mapIter none 0 #[] 0) = w1 at *
    go_loopw [3] (fun v3 wr => v3 = .slice none 0 0 ∧ wr = w1) (fun _ _ => 0)
    case atStart => exact ⟨rfl, rfl⟩
    case round =>
      obtain ⟨rfl, rfl⟩ := hrel
      go_wp2_with (go_at_call 25; (with_reducible refine (hso _).mono ?_); rintro e w2 ⟨rfl, l2, hp2, hs2, ho2, hg2⟩)
      go_ret
      have : l2 = [] := List.Perm.eq_nil hp2
      subst this
      exact ⟨_, [], rfl, ho2, { mem := fun x => ⟨fun h => (by cases h), fun h => (by rw [hz] at h; cases h.1)⟩, sorted := List.Pairwise.nil }, below_trans ba ⟨hg2.os, hg2.tape, hg2.output, hg2.size, fun i hi => hg2.block i hi (fun q => by cases q)⟩⟩
  · have hbl := hM.lt
    have hll := Nat.le_trans (live_len hM.once hl0 hN) hl
    have HL0 := Lib.hid hl0
    have HONCE := Lib.hid hM.once
    clear hl0 hN
    go_enter Tryd.func8, Tryd.ntmps8
    go_wp2_with (refine at_op (.range 30 (.tmp 11)) ?_ rfl; refine wpList_rangeK T rfl w (.tmp 11) rfl b mp rfl hM ?_; intro it hI; have b1 := below_alloc (Below.refl w.heap.size w) it)
    generalize w.alloc it = w1 at *
    have hrb : w.heap.size ≠ b := by omega
    go_frame
    go_loopw [3] (fun v3 wr => ∃ left l, IterAt nmC stC wr w.heap.size b mp left ∧ OwnE wr w.heap.size 40 8 paneL v3 l ∧ (l ++ liveOf left).Perm (liveOf mp) ∧ Below w.heap.size w wr) (fun _ wr => itLeft wr w.heap.size b)
    case atStart => exact ⟨mp, [], hI, OwnE.nil _ _, List.Perm.refl _, b1⟩
    case round =>
      clear hI b1
      obtain ⟨left, l, hI, hO, hP, hB⟩ := hrel
      have hil := hI.left
      generalize hw4 : wr = w4 at *
      rcases run_nextK (P := Tryd.prog) hI 0 hrb with ⟨el, hrun⟩ | ⟨PA, p, PB, w5, it2, el, hrun, hI2, hw5, hen⟩
      · subst el
        rw [show liveOf [] = [] from rfl, List.append_nil] at hP
        have hll2 : l.length ≤ 1000 := by rw [hP.length_eq]; exact hll
        have hso := sort_panes w4 w.heap.size u3 l hO hll2
        clear hll2
        obtain ⟨A3, c3, e3, _, _⟩ := hO.form
        generalize hln : l.length = ln at *
        subst e3
        go_wp2_with (go_at_call 25; (with_reducible refine hso.mono ?_); rintro e w2 ⟨rfl, l2, hp2, hs2, ho2, hg2⟩)
        go_ret
        exact ⟨_, l2, rfl, ho2, viewIs_of HONCE.out HL0.out (hp2.trans hP) hs2, below_grown2 hB hg2 (fun g q => (hO.lt g q).1)⟩
      · subst el
        have hM4 := hI.map
        have hlt4 := hI.lt
        have bw5 : Below w.heap.size w w5 := by
          rcases hw5 with e | e
          · rw [e]; exact ⟨hB.os, hB.tape, hB.output, by rw [size_setBlock']; exact hB.size, fun i hi => (heap_setBlock_ne _ (by omega) _).trans (hB.block i hi)⟩
          · rw [e]; exact ⟨hB.os, hB.tape, hB.output, by rw [size_setBlock']; exact hB.size, fun i hi => (heap_setBlock_ne w4.drew (by omega) _).trans (hB.block i hi)⟩
        have ho5 : OwnE w5 w.heap.size 40 8 paneL u3 l := by
          have hne : u3.ownBlock ≠ some w.heap.size := by
            obtain ⟨es, ck, seen, _, q, _⟩ := hI.is
            exact ne_iter hO q
          rcases hw5 with e | e
          · rw [e]; exact hO.setBlock hne _
          · rw [e]; exact (hO.below (Below.refl _ _).drew).setBlock hne _
        have he5 := hen w5 rfl rfl
        have ba5 := below_alloc (Below.refl w5.heap.size w5) (.cells #[.string ⟨#[]⟩, .int .i64 0, .int .i64 0] 65)
        have bb5 := below_alloc ba5 (.cells (stL st0) 67)
        have h11 := ((below_alloc (Below.refl (w5.alloc (.cells #[.string ⟨#[]⟩, .int .i64 0, .int .i64 0] 65)).heap.size (w5.alloc (.cells #[.string ⟨#[]⟩, .int .i64 0, .int .i64 0] 65))) (.cells (stL st0) 67)).block w5.heap.size (by simp)).trans (heap_alloc_new w5 _)
        have h12 := heap_alloc2_new w5 (.cells #[.string ⟨#[]⟩, .int .i64 0, .int .i64 0] 65) (.cells (stL st0) 67)
        clear ba5 hM4 hlt4 hw5 hB hO hen
        go_upto_region 6 with (first
          | (refine at_op (.alloc 65) ?_ rfl; refine wpList_alloc_row rfl _ 65 rfl (some 4) rfl w5.heap.size rfl _ zn ?_)
          | (refine at_op (.alloc 67) ?_ rfl; refine wpList_alloc_row rfl _ 67 rfl (some 5) rfl (w5.heap.size + 1) (by simp) _ zs ?_; generalize (w5.alloc (.cells #[.string ⟨#[]⟩, .int .i64 0, .int .i64 0] 65)).alloc (.cells (stL st0) 67) = w7 at *)
          | (refine at_op (.store 65 (.tmp 4) (.tmp 16)) ?_ rfl; refine wpList_store_row rfl 65 (.tmp 4) (.tmp 16) rfl w5.heap.size (nmA p.1) rfl rfl 65 _ h11 Hn.out rfl (nmA_one _) ?_; have h13 := setRow_heap w7 w5.heap.size _ (nmA p.1) _ _ h11; have h14 := (setRow_other w7 w5.heap.size (w5.heap.size + 1) (nmA p.1) (by omega)).trans h12; have b8 := below_setRow bb5 (Nat.le_refl w5.heap.size) (nmA p.1); generalize w7.setRow w5.heap.size (nmA p.1) = w8 at *)
          | (refine at_op (.store 67 (.tmp 5) (.tmp 17)) ?_ rfl; refine wpList_store_row rfl 67 (.tmp 5) (.tmp 17) rfl (w5.heap.size + 1) (stL p.2) rfl rfl 67 _ h14 Hst.out rfl (stL_one _) ?_; have h15 := setRow_heap w8 (w5.heap.size + 1) _ (stL p.2) _ _ h14; have h16 := (setRow_other w8 (w5.heap.size + 1) w5.heap.size (stL p.2) (by omega)).trans h13; have b9 := below_setRow b8 (show w5.heap.size ≤ w5.heap.size + 1 by omega) (stL p.2); generalize w8.setRow (w5.heap.size + 1) (stL p.2) = w9 at *))
        go_frame
        have ho9 := ho5.below b9
        have bw9 := below_trans bw5 b9
        have hI9 := hI2.same (b9.block _ hI2.map.lt) (b9.block _ hI2.lt)
        have d0 := (cell_of_row _ _ 0 _ _ _ h15).trans (show (stL p.2)[0]? = some (.bool p.2.live) from rfl)
        have e0 := (cell_of_row _ _ 0 _ _ _ h16).trans (show (nmA p.1)[0]? = some (.string p.1.key) from rfl)
        have r1 := World.rangeAt_of_block h16 1 2
        rw [show ((nmA p.1).extract 1 (1 + 2)).toList = [.int .i64 p.1.s, .int .i64 p.1.e] from rfl] at r1
        have r2 := World.rangeAt_of_block h15 1 5
        rw [show ((stL p.2).extract 1 (1 + 5)).toList = (avC p.2.a).toList from rfl] at r2
        have hil9 : itLeft w9 w.heap.size b = (PA ++ PB).length := hI9.left
        clear h11 h12 h13 h14 h15 h16 bb5 b8 b9 ho5 bw5 hI2 he5 hrun hI
        generalize w5.heap.size + 1 = gT at *
        generalize w5.heap.size = gN at *
        rw [liveOf_app, liveOf_cons] at hP
        cases hlv : p.2.live
        · rw [hlv] at d0
          rw [if_neg (by rw [hlv]; decide), ← liveOf_app] at hP
          go_wp2_with fail
          exact ⟨⟨PA ++ PB, l, hI9, ho9, hP, bw9⟩, by rw [hil9, hil]; simp⟩
        · rw [hlv] at d0
          rw [if_pos hlv] at hP
          have hlen := hP.length_eq
          have ba := below_alloc (Below.refl w9.heap.size w9) (.cells (paneL ⟨p.1, p.2.a⟩).toArray 40)
          have hrow := RowsAt.one (enc := paneL) (y := (⟨p.1, p.2.a⟩ : Pn)) (heap_alloc_new w9 (.cells (paneL ⟨p.1, p.2.a⟩).toArray 40))
          have hoa := ho9.below ba
          have hIa := hI9.same (ba.block _ hI9.map.lt) (ba.block _ hI9.lt)
          have bwa := below_trans bw9 ba
          have hne : u3.ownBlock ≠ some w.heap.size := by
            obtain ⟨es, ck, seen, _, q, _⟩ := hIa.is
            exact ne_iter hoa q
          have hbp := built_pane p.1 p.2.a
          have hP2 : ((l ++ [(⟨p.1, p.2.a⟩ : Pn)]) ++ liveOf (PA ++ PB)).Perm (liveOf mp) := by
            refine List.Perm.trans ?_ hP
            rw [liveOf_app, List.append_assoc, List.singleton_append]
            exact List.Perm.append_left l List.perm_middle.symm
          rw [List.length_append, List.length_append, List.length_cons] at hlen
          have hl1 : l.length + 1 ≤ 1000 := by omega
          clear hP hlen ba ho9 hI9 bw9 hil9
          obtain ⟨x, hx⟩ : ∃ x : Pn, x = ⟨p.1, p.2.a⟩ := ⟨_, rfl⟩
          rw [← hx] at hbp hP2 hrow
          rw [← hx] at bwa hoa hIa
          clear hx
          go_wp2_with (first
            | (refine at_op (.load 34 (.tmp 23)) ?_ rfl; refine wpList_load_mid rfl 34 (.tmp 23) rfl gN 1 rfl _ _ r1 Tryd.underlying34 rfl (by exact sizeWin) ?_)
            | (refine at_op (.load 38 (.tmp 25)) ?_ rfl; refine wpList_load_mid rfl 38 (.tmp 25) rfl gT 1 rfl _ _ r2 Tryd.underlying38 rfl (by exact sizeAgg) ?_; rw [Array.toArray_toList])
            | (refine at_op (.build 40 #[(0, .tmp 22), (1, .tmp 24), (2, .tmp 26)]) ?_ rfl; refine run_builtK rfl 40 _ rfl (paneL x).toArray (by simp only [List.map_toArray, List.map_cons, List.map_nil, Act.eval]; exact hbp) ?_)
            | (refine at_op (.buildSlice 44 1 #[(0, .tmp 27)]) ?_ rfl; refine wpList_buildOne encPane (by decide) rfl w9 44 (.tmp 27) rfl (some 28) rfl w9.heap.size rfl rfl x rfl ?_)
            | (refine at_op (.call { callee := .builtin .append, args := #[.tmp 20, .tmp 28], argTypes := #[44, 44] }) ?_ rfl; refine wpList_appendE encPane rfl _ (.tmp 20) (.tmp 28) 44 rfl w.heap.size rfl u3 l rfl hoa (some ⟨w9.heap.size, 0, none⟩) 1 [x] rfl hrow (Nat.le_trans hl1 (by decide)) (Nat.le_trans (Nat.mul_le_mul_right 72 hl1) (by decide)) bwa.size ?_; intro u9 w11 hO11 hG11 hB11))
          have hI11 := hIa.same (hG11.block _ hIa.map.lt (fun e => by have := (hoa.lt b e.symm).1; omega)) (hG11.block _ hIa.lt (fun e => hne e.symm))
          exact ⟨⟨PA ++ PB, l ++ [x], hI11, hO11, hP2, below_grown2 bwa hG11 (fun g q => (hoa.lt g q).1)⟩, by rw [hI11.left, hil]; simp⟩
set_option maxRecDepth 100000 in
theorem view_nil (w : World) : Calls Tryd.prog 8 #[.pointer none] w fun e w' => e = .returned (.slice none 0 0) ∧ Below w.heap.size w w' := by
  have hso := fun wx => sort_panes wx wx.heap.size (.slice none 0 0) [] (OwnE.nil _ _) (by decide)
  go_enter Tryd.func8, Tryd.ntmps8
  go_wp2_with (go_at_call 25; (with_reducible refine (hso _).mono ?_); rintro e w2 ⟨rfl, l2, hp2, hs2, ho2, hg2⟩)
  go_ret
  exact ⟨rfl, ⟨hg2.os, hg2.tape, hg2.output, hg2.size, fun i hi => hg2.block i hi (fun q => by cases q)⟩⟩
end Go.Proofs.YtgpfoamhcoipgaaDoor
