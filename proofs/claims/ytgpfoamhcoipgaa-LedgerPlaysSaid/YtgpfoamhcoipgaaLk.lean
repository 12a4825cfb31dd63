import Derived.Test.YtgpfoamhcoipgaaLz
import Derived.Test.YtgpfoamhcoipgaaLw
import Derived.Test.YtgpfoamhcoipgaaLga
import Derived.Test.YtgpfoamhcoipgaaLu
import Derived.Deep.DeepCutAuto
import Derived.Deep.CutBlock
/-! What is handed in, and what is told, may be written over. -/
namespace Go.Proofs.Ytgpfoamhcoipgaa
open Go.RowKit Go.Sort Go.ChangeMaps
set_option linter.unusedVariables false
set_option linter.unusedSectionVars false
attribute [-simp] Try.isAgg31 Try.sizeOf31 Try.typeInfo31 Try.type31
attribute [-simp] Try.isAgg36 Try.sizeOf36 Try.typeInfo36 Try.type36
attribute [-simp] Try.isAgg38 Try.sizeOf38 Try.typeInfo38 Try.type38
attribute [-simp] Try.isAgg40 Try.sizeOf40 Try.typeInfo40 Try.type40
attribute [-simp] Try.isAgg27 Try.sizeOf27 Try.typeInfo27 Try.type27

theorem LedAt.fr2 {gb base hb : Nat} {L : List Ch} {f : Nm → Std} {w w' : World} (h : LedAt w gb base L f) (hne : gb ≠ hb) (hlt : hb < base) {B : Nat} (hB : w.heap.size ≤ B) (F : Fr hb B w w') : LedAt w' gb base L f := by
  obtain ⟨v, m, hg, hv, hm, hbm⟩ := h
  exact ⟨v, m, (F.block _ (by have := heap_lt hg; omega) hne).trans hg, hv.fr (fun q hq => ⟨by have := (hv.lt q hq).2; omega, by have := (hv.lt q hq).1; omega⟩) F, hm.same (fun i hi hl => F.block i (by omega) (by have := hbm i hi; omega)), hbm⟩
theorem fr_setCell {hb B k : Nat} {w w1 : World} (F : Fr hb B w w1) (u : Value) : Fr hb B w (w1.setCell ⟨hb, k, none⟩ u) :=
  ⟨F.os, F.tape, F.output, by simpa using F.size, fun i hi hne => (Below.heap_setCell w1 ⟨hb, k, none⟩ u i hne).trans (F.block i hi hne)⟩
/-- A slice of several, one of their own, its row told. -/
theorem OwnE.rowOf {α : Type} {enc : α → List Value} {k : Nat} {e : TypeId} {w : World} {base : Nat} {v : Value} {l : List α} (h : OwnE w base e k enc v l) (hp : 0 < l.length) : ∃ g cap cur, v = .slice (some ⟨g, 0, none⟩) l.length cap ∧ base ≤ g ∧ w.heap[g]? = some (.cells cur e (0, 0)) ∧ l.length * k ≤ cur.size := by
  rcases h.2 with ⟨rfl, h0⟩ | ⟨g, cap, cur, rfl, hb, hg, hn, hm, hs, _⟩
  · omega
  · exact ⟨g, cap, cur, rfl, hb, hg, by rw [hs]; exact Nat.mul_le_mul_right k hn⟩
theorem OwnE.noneOf {α : Type} {enc : α → List Value} {k : Nat} {e : TypeId} {w : World} {base : Nat} {v : Value} {l : List α} (h : OwnE w base e k enc v l) (hp : l = []) : ∃ A cap, v = .slice A 0 cap := by
  subst hp
  obtain ⟨A, cap, rfl, _, _⟩ := h.form
  exact ⟨A, cap, rfl⟩
theorem cell_in {w : World} {g : Nat} {cur : Array Value} {t : TypeId} {fr : Nat × Nat} (h : w.heap[g]? = some (.cells cur t fr)) {i : Nat} (hi : i < cur.size) : ∃ x, w.cell? ⟨g, i, none⟩ = some x :=
  ⟨cur[i], (cell_of_row _ _ _ _ _ _ h).trans (Array.getElem?_eq_getElem hi)⟩
theorem OwnE.rows {α : Type} {enc : α → List Value} {k : Nat} {e : TypeId} {w : World} {base : Nat} {A : Option Addr} {n c : Nat} {l : List α} (h : OwnE w base e k enc (.slice A n c) l) : RowsAt w enc A l := by
  obtain ⟨A9, c9, e9, _, h9⟩ := h.form
  injection e9 with e9
  rw [e9]; exact h9
set_option maxRecDepth 100000 in
set_option maxHeartbeats 16000000 in
theorem keeps_any (A : Option Addr) (cap : Nat) (acts : List Dr) (w : World) (hr : RowsAt w drL A acts) (hacts : ∀ a ∈ acts, a.ok) :
    Calls Try.prog 6 #[.slice A acts.length cap] w fun e w' => e = .returned (.bool true) ∧ Below w.heap.size w w' := by
  have zc := zeroCh
  have zl := zeroLed
  have Hc := Lib.hid sizeCh
  have haw := awake_any w
  have z9 : ∀ w, (sizeOf 40).run Try.prog w = .ok 9 w := run_sizeOf_info sizeAct
  have z1 : ∀ w, (sizeOf 38).run Try.prog w = .ok 10 w := run_sizeOf_info sizeCh
  have z2 : ∀ w, (sizeOf 36).run Try.prog w = .ok 8 w := run_sizeOf_info sizePane
  go_enter Try.func6, Try.ntmps6
  go_upto_block 0 with (first
    | (go_at_call 7; (with_reducible refine haw.mono ?_); rintro e wA ⟨rfl, b0⟩)
    | (refine at_op (.alloc 27) ?_ rfl; refine wpList_alloc_row rfl wA 27 rfl (some 3) rfl wA.heap.size rfl _ zl ?_))
  have hled := heap_alloc_new wA (.cells #[.slice none 0 0, .map none] 27)
  have hb0 := below_trans b0 (below_alloc (Below.refl wA.heap.size wA) (.cells #[.slice none 0 0, .map none] 27))
  have hgl : wA.heap.size < (wA.alloc (.cells #[.slice none 0 0, .map none] 27)).heap.size := by simp
  have hglw := b0.size
  clear haw b0
  generalize wA.alloc (.cells #[.slice none 0 0, .map none] 27) = w0 at *
  generalize wA.heap.size = gl at *
  have hrA : RowsAt w0 drL A acts := hr.below hb0
  go_cut [4] (fun v wx => ∃ (L : List Ch) (f : Nm → Std), L.length ≤ 20 ∧ Taken L f ∧ (∀ c ∈ L, c.ok) ∧ OwnE wx w0.heap.size 38 10 chL v L ∧ (L = [] → v = .slice none 0 0) ∧ Below w0.heap.size w0 wx)
  case first =>
    go_wp2_with fail
    go_loopw [4, 5] (fun v i wr => ∃ (j : Nat) (L : List Ch) (f : Nm → Std), i = .int .i64 (j : Nat) ∧ j ≤ acts.length ∧ j ≤ 20 ∧ L.length ≤ j ∧ Taken L f ∧ (∀ c ∈ L, c.ok) ∧ OwnE wr w0.heap.size 38 10 chL v L ∧ (L = [] → v = .slice none 0 0) ∧ Below w0.heap.size w0 wr) (fun _ i _ => acts.length - (intOf i).toNat)
    case atStart => exact ⟨0, [], _, rfl, Nat.zero_le _, Nat.zero_le _, Nat.le_refl _, taken_nil, fun c hc => (by cases hc), OwnE.nil _ _, fun _ => rfl, Below.refl _ _⟩
    case round =>
      obtain ⟨j, L, f, rfl, hj, hj2, hLj, hT, hLo, hO, hnil, hb⟩ := hrel
      by_cases hlt : j < acts.length ∧ j < 20
      · obtain ⟨hlt, hlt2⟩ := hlt
        obtain ⟨a, hd⟩ : ∃ a, acts[j]? = some a := ⟨_, List.getElem?_eq_getElem hlt⟩
        obtain ⟨g, off, rfl, hrow⟩ := RowsAt.row encDr (hrA.below hb) hd
        have hji : (j : Int) < (acts.length : Int) := by omega
        have hji2 : (j : Int) < 20 := by omega
        have hda : (drL a).toArray = drA a := rfl
        obtain ⟨A5, c5, rfl, _, hrL⟩ := hO.form
        have hch := change_any a (hacts a (List.mem_of_getElem? hd)) A5 c5 L wr hrL hLo (by omega)
        have HROW := Lib.hid hrow
        have HB := Lib.hid hb
        have HO := Lib.hid hO
        have HT := Lib.hid hT
        have HLO := Lib.hid hLo
        have HJ := Lib.hid (And.intro (show j + 1 ≤ acts.length from hlt) (And.intro (show j + 1 ≤ 20 from hlt2) hLj))
        clear hrow hb hO hT hLo hd hrL hLj hj2
        generalize hLn : L.length = n at *
        go_upto_region 9 with (first
          | (refine at_op (.load 40 (.tmp 28)) ?_ rfl; refine wpList_load_mid rfl 40 (.tmp 28) rfl g (off + j * 9) rfl (drL a) _ HROW.out Try.underlying40 rfl (by exact sizeAct) ?_; rw [hda])
          | (go_at_call 8; (with_reducible refine hch.mono ?_); rintro e w5 ⟨c, hc, rfl, b5⟩)
          | (refine at_op (.alloc 38) ?_ rfl; refine wpList_alloc_row rfl _ 38 rfl (some 6) rfl w5.heap.size rfl _ zc ?_)
          | (refine at_op (.store 38 (.tmp 6) (.tmp 31)) ?_ rfl; refine wpList_store_row rfl 38 (.tmp 6) (.tmp 31) rfl w5.heap.size (chA c) rfl rfl 38 _ (heap_alloc_new w5 _) Hc.out rfl (chA_one _) ?_; rw [World.setRow_alloc_new]))
        have b6 := below_trans b5 (below_alloc (Below.refl w5.heap.size w5) (.cells (chA c) 38))
        have k6 := heap_alloc_new w5 (.cells (chA c) 38)
        have HO6 := Lib.hid (HO.out.below b6)
        have HB6 := Lib.hid (HB.out.trans (b6.mono HB.out.size))
        have K6 := Lib.hid k6
        have hcc := hc
        have HCO := Lib.hid hc
        clear b6 b5 hch k6 hc
        generalize w5.alloc (.cells (chA c) 38) = w6 at *
        generalize w5.heap.size = gc at *
        have hrL6 : RowsAt w6 chL A5 L := by
          obtain ⟨A9, c9, e9, _, h9⟩ := HO6.out.form
          injection e9 with e9
          rw [e9]; exact h9
        have hN := next_any A5 c5 L c w6 hrL6 HLO.out HCO.out (by have := HJ.out.2.2; omega)
        rw [hLn] at hN
        cases hq : nextR L c
        · rw [hq] at hN
          clear hq
          go_wp2_with (first
            | (refine at_op (.load 38 (.tmp 6)) ?_ rfl; refine wpList_load_row rfl 38 (.tmp 6) rfl gc rfl 38 (chA c) (0, 0) _ K6.out Try.underlying38 rfl Hc.out ?_)
            | (go_at_call 18; (with_reducible refine hN.mono ?_); rintro e w7 ⟨rfl, b7⟩))
          exact ⟨⟨j + 1, L, f, by go_num, HJ.out.1, HJ.out.2.1, by rw [hLn]; exact Nat.le_succ_of_le HJ.out.2.2, HT.out, HLO.out, HO6.out.below b7, hnil, HB6.out.trans (b7.mono HB6.out.size)⟩, by simp [intOf]; omega⟩
        · rw [hq] at hN
          obtain ⟨s, hs⟩ := nextR_step HT.out HLO.out hq
          have HS := Lib.hid hs
          clear hq hs
          have hln : n + 1 ≤ 1000 := by have := HJ.out.2.2; omega
          have HLN := Lib.hid hln
          clear hln
          go_upto_region 10 with (first
            | (refine at_op (.load 38 (.tmp 6)) ?_ rfl; refine wpList_load_row rfl 38 (.tmp 6) rfl gc rfl 38 (chA c) (0, 0) _ K6.out Try.underlying38 rfl Hc.out ?_)
            | (go_at_call 18; (with_reducible refine hN.mono ?_); rintro e w7 ⟨rfl, b7⟩))
          have K7 := Lib.hid ((b7.block _ (heap_lt K6.out)).trans K6.out)
          have HB7 := Lib.hid (HB6.out.trans (b7.mono HB6.out.size))
          have HO7 := Lib.hid (HO6.out.below b7)
          have ba := below_alloc (Below.refl w7.heap.size w7) (.cells (chA c) 38)
          have HO8 := Lib.hid (HO7.out.below ba)
          have HB8 := Lib.hid (HB7.out.trans (ba.mono HB7.out.size))
          have HR8 := Lib.hid (RowsAt.one (enc := chL) (y := c) (heap_alloc_new w7 (.cells (chA c) 38)))
          clear b7 ba
          go_wp2_with (first
            | (refine at_op (.load 38 (.tmp 6)) ?_ rfl; refine wpList_load_row rfl 38 (.tmp 6) rfl gc rfl 38 (chA c) (0, 0) _ K7.out Try.underlying38 rfl Hc.out ?_)
            | (refine at_op (.buildSlice 24 1 #[(0, .tmp 36)]) ?_ rfl; refine wpList_buildOne encCh (by decide) rfl w7 24 (.tmp 36) rfl (some 37) rfl w7.heap.size rfl rfl c rfl ?_)
            | (refine at_op (.call { callee := .builtin .append, args := #[.tmp 35, .tmp 37], argTypes := #[24, 24] }) ?_ rfl; refine wpList_appendE encCh rfl _ (.tmp 35) (.tmp 37) 24 rfl w0.heap.size rfl (.slice A5 n c5) L rfl HO8.out (some ⟨w7.heap.size, 0, none⟩) 1 [c] rfl HR8.out (by rw [List.length_singleton, hLn]; exact Nat.le_trans HLN.out (by decide)) (by rw [List.length_singleton, hLn]; exact Nat.le_trans (Nat.mul_le_mul_right 88 HLN.out) (by decide)) HB8.out.size ?_; intro u9 w11 hO11 hG11 hB11))
          exact ⟨⟨j + 1, L ++ [c], _, by go_num, HJ.out.1, HJ.out.2.1, by rw [List.length_append, List.length_singleton, hLn]; exact Nat.succ_le_succ HJ.out.2.2, taken_snoc HT.out HS.out, ok_snoc HLO.out HCO.out, hO11, fun e => by simp at e, below_grown2 HB8.out hG11 (fun q e => (HO8.out.lt q e).1)⟩, by simp [intOf]; omega⟩
      · have hex : ¬ ((j : Int) < (acts.length : Int)) ∨ ¬ ((j : Int) < 20) := by omega
        go_wp2_with fail
        all_goals
          go_meet
          exact ⟨L, f, by omega, hT, hLo, hO, hnil, hb⟩

  case rest =>
  obtain ⟨L, f, hL20, hT, hLo, hO, hnil, hb⟩ := hcut
  have HT := Lib.hid hT
  have HO := Lib.hid hO
  have HB := Lib.hid hb
  have HLO := Lib.hid hLo
  have hstd := taken_std hT hLo
  generalize hw4 : wc = w1 at *
  clear hw4 hT hO hb hLo hnil
  obtain ⟨A4, c4, rfl, _, hr4⟩ := HO.out.form
  generalize hLn : L.length = n at *
  have HLn := Lib.hid hLn
  clear hLn
  go_upto_region 13 with (refine at_op (.call { callee := .builtin .append, args := #[.tmp 39, .tmp 40], argTypes := #[24, 24] }) ?_ rfl; refine wpList_appendE encCh rfl w1 (.tmp 39) (.tmp 40) 24 rfl w1.heap.size rfl (.slice none 0 0) [] rfl (OwnE.nil _ _) A4 c4 L (by rw [HLn.out]; rfl) hr4 (by rw [List.length_nil, Nat.zero_add, HLn.out]; exact Nat.le_trans hL20 (by decide)) (by rw [List.length_nil, Nat.zero_add, HLn.out]; exact Nat.le_trans (Nat.mul_le_mul_right 88 hL20) (by decide)) (Nat.le_refl _) ?_; intro v7 w2 hM hG hB7; rw [List.nil_append] at hM)
  have b2 := below_of_grown hG (fun k e => by cases e)
  clear hG hB7 hr4
  obtain ⟨A7, c7, rfl, _, hr7⟩ := hM.form
  have hl2 : w2.heap[gl]? = some (.cells #[.slice none 0 0, .map none] 27 (0, 0)) := (b2.block gl (by have := HB.out.size; omega)).trans ((HB.out.block gl hgl).trans hled)
  have hadd := (LedAt.new w2.heap.size hl2).add StdOk.new (cap := c7) hr7 HLO.out (by rw [HLn.out]; simp; omega) (Nat.le_refl _)
  rw [HLn.out, show addF (fun _ => st0) L = some f from HT.out] at hadd
  have HM := Lib.hid hM
  have HB2 := Lib.hid (hb0.trans ((HB.out.trans (b2.mono HB.out.size)).mono hb0.size))
  have HL2 := Lib.hid (HO.out.below b2)
  have hs12 := b2.size
  have hs01 := HB.out.size
  have HS0 := Lib.hid hb0.size
  clear hM hl2 hr7 b2
  rw [HLn.out]
  go_upto_region 15 with (go_at_call 10; (with_reducible refine hadd.mono ?_); rintro e w3 ⟨rfl, hG3, _, F3⟩; rw [List.nil_append] at hG3)
  have HM3 := HM.out.fr (fun q hq => ⟨(HM.out.lt q hq).2, by have := (HM.out.lt q hq).1; omega⟩) F3
  have HL3 := HL2.out.fr (fun q hq => ⟨(HL2.out.lt q hq).2, by have := (HO.out.lt q hq).1; omega⟩) F3
  have hlL := fun q hq => (HO.out.lt q hq).2
  have B3 := Lib.hid (HB2.out.trans ((F3.below (n := w.heap.size) (Nat.le_trans HS0.out (by omega)) hglw).mono (Nat.le_refl _)))
  have HLEN8 := HLn
  clear hadd
  go_upto_block 2 with fail
  go_cut [8] (fun _ wx => LedAt wx gl w2.heap.size L f ∧ OwnE wx w0.heap.size 38 10 chL (.slice A4 n c4) L ∧ Below w.heap.size w wx)
  case first =>
    rcases Nat.eq_zero_or_pos n with hz | hp
    · obtain ⟨A0, cap0, he⟩ := HM3.noneOf (List.eq_nil_of_length_eq_zero (HLEN8.out.trans hz))
      subst hz
      go_wp2_with fail
      go_loopw [8] (fun v wr => v = .int .i64 0 ∧ wr = w3) (fun _ _ => 0)
      case atStart => exact ⟨rfl, rfl⟩
      case round =>
        obtain ⟨rfl, rfl⟩ := hrel
        go_wp2_with fail
        go_meet
        exact ⟨hG3, HL3, B3.out⟩
    · obtain ⟨g, cg, cur, he, hgb, hgc, hgs⟩ := HM3.rowOf (by rw [HLEN8.out]; exact hp)
      rw [HLEN8.out] at hgs
      injection he with q1 q2 q3
      subst q1 q3
      go_wp2_with fail
      go_loopw [8] (fun v wr => ∃ (i : Nat) (cu : Array Value), v = .int .i64 (i : Nat) ∧ i ≤ n ∧ Fr g w3.heap.size w3 wr ∧ wr.heap[g]? = some (.cells cu 38 (0, 0)) ∧ n * 10 ≤ cu.size) (fun v _ => n - (intOf v).toNat)
      case atStart => exact ⟨0, _, rfl, Nat.zero_le _, Fr.refl _ _ _, hgc, hgs⟩
      case round =>
        obtain ⟨i, cu, rfl, hi, hF, hcu, hcs⟩ := hrel
        by_cases hlt : i < n
        · have hii : (i : Int) < (n : Int) := by omega
          obtain ⟨x, hx⟩ := cell_in hcu (i := i * 10 + 1) (by omega)
          have fz := frozen_of_row hcu (i * 10 + 1)
          go_wp2_with fail
          exact ⟨⟨i + 1, _, by go_num, hlt, fr_setCell hF _, heap_setCell_at hcu _, by rw [Array.size_setIfInBounds]; exact hcs⟩, by simp [intOf]; omega⟩
        · obtain rfl : i = n := by omega
          go_wp2_with fail
          go_meet
          exact ⟨hG3.fr2 (by omega) (HM.out.lt g rfl).2 (Nat.le_refl _) hF, HL3.fr (fun q hq => ⟨by have := hlL q hq; have := F3.size; omega, by have := hlL q hq; omega⟩) hF, B3.out.trans (hF.below (by have := B3.out.size; omega) (by have := HS0.out; omega))⟩
  case rest =>
  obtain ⟨hG4, hL4, hB4⟩ := hcut
  generalize hw4 : wc = w4 at *
  clear hw4 HM3 HL3 B3 F3 hG3 HLEN8 HM hlL
  have hall := hG4.all (by rw [HLn.out]; omega)
  go_upto_region 20 with (go_at_call 12; (with_reducible refine hall.mono ?_); rintro e w5 ⟨u9, rfl, hA5, b5⟩)
  have HLEN10 := HLn
  obtain ⟨A9, c9, rfl, _, _⟩ := hA5.form
  rw [HLn.out]
  have hgq : ∀ (wx : World), Below w4.heap.size w4 wx → wx = wx := fun _ _ => rfl
  clear hall hgq
  go_upto_block 4 with fail
  go_cut [10] (fun _ wx => Below w4.heap.size w4 wx)
  case first =>
    rcases Nat.eq_zero_or_pos n with hz | hp
    · obtain ⟨A0, cap0, he⟩ := hA5.noneOf (List.eq_nil_of_length_eq_zero (HLEN10.out.trans hz))
      subst hz
      go_wp2_with fail
      go_loopw [10] (fun v wr => v = .int .i64 0 ∧ wr = w5) (fun _ _ => 0)
      case atStart => exact ⟨rfl, rfl⟩
      case round =>
        obtain ⟨rfl, rfl⟩ := hrel
        go_wp2_with fail
        go_meet
        exact b5
    · obtain ⟨g, cg, cur, he, hgb, hgc, hgs⟩ := hA5.rowOf (by rw [HLEN10.out]; exact hp)
      rw [HLEN10.out] at hgs
      injection he with q1 q2 q3
      subst q1 q3
      go_wp2_with fail
      go_loopw [10] (fun v wr => ∃ (i : Nat) (cu : Array Value), v = .int .i64 (i : Nat) ∧ i ≤ n ∧ Below w4.heap.size w4 wr ∧ wr.heap[g]? = some (.cells cu 38 (0, 0)) ∧ n * 10 ≤ cu.size) (fun v _ => n - (intOf v).toNat)
      case atStart => exact ⟨0, _, rfl, Nat.zero_le _, b5, hgc, hgs⟩
      case round =>
        obtain ⟨i, cu, rfl, hi, hF, hcu, hcs⟩ := hrel
        by_cases hlt : i < n
        · have hii : (i : Int) < (n : Int) := by omega
          obtain ⟨x, hx⟩ := cell_in hcu (i := i * 10 + 2) (by omega)
          have fz := frozen_of_row hcu (i * 10 + 2)
          go_wp2_with fail
          exact ⟨⟨i + 1, _, by go_num, hlt, hF.setCell (p := ⟨g, _, none⟩) hgb _, heap_setCell_at hcu _, by rw [Array.size_setIfInBounds]; exact hcs⟩, by simp [intOf]; omega⟩
        · obtain rfl : i = n := by omega
          go_wp2_with fail
          go_meet
          exact hF
  case rest =>
  have b6 := hcut
  generalize hw4 : wc = w6 at *
  clear hw4 hcut hA5 b5 HLEN10
  have hG6 := hG4.below b6
  have hL6 := hL4.below b6
  have hB6 := hB4.trans (b6.mono hB4.size)
  clear b6 hG4 hL4 hB4
  have hvw := hG6.view hstd (by rw [HLn.out]; omega)
  go_upto_region 25 with (go_at_call 15; (with_reducible refine hvw.mono ?_); rintro e w7 ⟨u11, vs, rfl, hV7, hvi, b7⟩)
  clear hvw
  have hvl := view_len hvi hstd
  rw [HLn.out] at hvl
  have HLn0 := HLn
  have hn20 := hL20
  clear HLn hL20
  generalize hnv : n = n0 at *
  obtain ⟨n, hn⟩ : ∃ n, n = vs.length := ⟨_, rfl⟩
  have HLEN12 := Lib.hid hn.symm
  have hnb : n ≤ 20 := by omega
  obtain ⟨A11, c11, rfl, _, _⟩ := hV7.form
  rw [← hn]
  clear hn hnv
  go_upto_block 6 with fail
  go_cut [12] (fun _ wx => Below w6.heap.size w6 wx)
  case first =>
    rcases Nat.eq_zero_or_pos n with hz | hp
    · obtain ⟨A0, cap0, he⟩ := hV7.noneOf (List.eq_nil_of_length_eq_zero (HLEN12.out.trans hz))
      subst hz
      go_wp2_with fail
      go_loopw [12] (fun v wr => v = .int .i64 0 ∧ wr = w7) (fun _ _ => 0)
      case atStart => exact ⟨rfl, rfl⟩
      case round =>
        obtain ⟨rfl, rfl⟩ := hrel
        go_wp2_with fail
        go_meet
        exact b7
    · obtain ⟨g, cg, cur, he, hgb, hgc, hgs⟩ := hV7.rowOf (by rw [HLEN12.out]; exact hp)
      rw [HLEN12.out] at hgs
      injection he with q1 q2 q3
      subst q1 q3
      go_wp2_with fail
      go_loopw [12] (fun v wr => ∃ (i : Nat) (cu : Array Value), v = .int .i64 (i : Nat) ∧ i ≤ n ∧ Below w6.heap.size w6 wr ∧ wr.heap[g]? = some (.cells cu 36 (0, 0)) ∧ n * 8 ≤ cu.size) (fun v _ => n - (intOf v).toNat)
      case atStart => exact ⟨0, _, rfl, Nat.zero_le _, b7, hgc, hgs⟩
      case round =>
        obtain ⟨i, cu, rfl, hi, hF, hcu, hcs⟩ := hrel
        by_cases hlt : i < n
        · have hii : (i : Int) < (n : Int) := by omega
          obtain ⟨x, hx⟩ := cell_in hcu (i := i * 8) (by omega)
          have fz := frozen_of_row hcu (i * 8)
          go_wp2_with fail
          exact ⟨⟨i + 1, _, by go_num, hlt, hF.setCell (p := ⟨g, _, none⟩) hgb _, heap_setCell_at hcu _, by rw [Array.size_setIfInBounds]; exact hcs⟩, by simp [intOf]; omega⟩
        · obtain rfl : i = n := by omega
          go_wp2_with fail
          go_meet
          exact hF
  case rest =>
  have b8 := hcut
  generalize hw4 : wc = w8 at *
  clear hw4 hcut hV7 b7 HLEN12
  have hG8 := hG6.below b8
  have hL8 := hL6.below b8
  have hB8 := hB6.trans (b8.mono hB6.size)
  clear b8 hG6 hL6 hB6
  have hall := hG8.all (by rw [HLn0.out]; omega)
  have hgw8 := hB8
  go_wp2_with (first
    | (go_at_call 12; (with_reducible refine hall.mono ?_); rintro e w9 ⟨u9, rfl, hA9, b9⟩; obtain ⟨A9, c9, rfl, _, hr9⟩ := hA9.form; have hL9 := hL8.below b9; have hG9 := hG8.below b9; have hcs := csame_any A9 A4 c9 c4 L w9 hr9 (hL9.rows) HLO.out (by rw [HLn0.out]; omega); rw [HLn0.out] at hcs; rw [HLn0.out])
    | (go_at_call 11; (with_reducible refine hcs.mono ?_); rintro e w10 ⟨rfl, b10⟩; have hL10 := hL9.below b10; have hG10 := hG9.below b10; have hvw := hG10.view hstd (by rw [HLn0.out]; omega))
    | (go_at_call 15; (with_reducible refine hvw.mono ?_); rintro e w11 ⟨u11, vs2, rfl, hV11, hvi2, b11⟩; obtain rfl : vs2 = viewR L := hvi2.unique (viewIs_R HT.out); obtain ⟨A11, c11, rfl, _, hr11⟩ := hV11.form; have hL11 := hL10.below b11; have hrv := rview_any A4 c4 L w11 hL11.rows (by rw [HLn0.out]; omega); rw [HLn0.out] at hrv)
    | (go_at_call 16; (with_reducible refine hrv.mono ?_); rintro e w12 ⟨u12, rfl, hV12, b12⟩; obtain ⟨A12, c12, rfl, _, hr12⟩ := hV12.form; have hL12 := hL11.below b12; have hps := psame_any A11 A12 c11 c12 (viewR L) w12 (hr11.below b12) hr12 (fun x hx => view_ok hvi2 hstd x hx) (Nat.le_trans (viewR_len L) (by rw [HLn0.out]; omega)))
    | (go_at_call 14; (with_reducible refine hps.mono ?_); rintro e w13 ⟨rfl, b13⟩; have hL13 := hL12.below b13; have han := add_nil (.slice A4 n0 c4) w13)
    | (go_at_call 10; (with_reducible refine han.mono ?_); rintro e w14 ⟨rfl, rfl⟩; have hln := len_nil w14; have haln := all_nil w14)
    | (go_at_call 13; (with_reducible refine hln.mono ?_); rintro e w15 ⟨rfl, rfl⟩)
    | (go_at_call 12; (with_reducible refine haln.mono ?_); rintro e w16 ⟨rfl, rfl⟩; have hvn := view_nil w16)
    | (go_at_call 15; (with_reducible refine hvn.mono ?_); rintro e w17 ⟨rfl, b17⟩))
  go_ret
  exact ⟨rfl, below_trans (below_trans (below_trans (below_trans (below_trans (below_trans hB8 b9) b10) b11) b12) b13) b17⟩
open Go.ChangeShapes Go.WideShapes in
theorem keeps_walk {H : Type} {enc : TypeId × Value → H} (W : World) {b0 : Nat} {v : Value} {d : DataW H} {p : List MemPlace} (hv : Value.okWide Try.prog W .any b0 28 v)
    (h : DataW.Trod enc Try.prog W 0 (fun _ => true) true 28 v d p) {ts : List TypeId} {ds : List (DataW H)} (_ : (DataW.weightsEach Try.prog ts ds).all (· ≤ reachBytes) = true) :
    Calls Try.prog 6 #[v] W fun e w' => e = .returned (.bool true) ∧ Below W.heap.size W w' := by
  obtain ⟨A, cap, l, rfl, hr, ho⟩ := open_acts hv h
  exact keeps_any A cap l W hr ho
end Go.Proofs.Ytgpfoamhcoipgaa
