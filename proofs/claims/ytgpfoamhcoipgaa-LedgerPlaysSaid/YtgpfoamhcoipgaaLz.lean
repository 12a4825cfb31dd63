import Derived.Test.YtgpfoamhcoipgaaLy
import Derived.Test.YtgpfoamhcoipgaaLga
import Derived.Test.YtgpfoamhcoipgaaLu
import Derived.Deep.DeepCutAuto
import Derived.Deep.CutBlock
/-! Changes that are taken at once, and one by one. -/
namespace Go.Proofs.Ytgpfoamhcoipgaa
open Go.RowKit Go.Sort Go.ChangeMaps
set_option linter.unusedVariables false
set_option linter.unusedSectionVars false
attribute [-simp] Try.isAgg31 Try.sizeOf31 Try.typeInfo31 Try.type31
attribute [-simp] Try.isAgg36 Try.sizeOf36 Try.typeInfo36 Try.type36
attribute [-simp] Try.isAgg38 Try.sizeOf38 Try.typeInfo38 Try.type38
attribute [-simp] Try.isAgg40 Try.sizeOf40 Try.typeInfo40 Try.type40
attribute [-simp] Try.isAgg27 Try.sizeOf27 Try.typeInfo27 Try.type27

set_option maxRecDepth 100000 in
theorem sizeAct : (Try.prog.info? 40).map (·.size) = some 9 := by kernel_rfl
theorem encDr : Enc Try.prog 40 drL 9 48 where
  pos := by decide
  len := fun _ => rfl
  one := fun a v hv => by
    simp only [drL, List.mem_cons, List.mem_nil_iff, or_false] at hv
    rcases hv with rfl | rfl | rfl | rfl | rfl | rfl | rfl | rfl | rfl <;> rfl
  info := ⟨_, _, rfl, rfl, rfl, rfl, rfl⟩
theorem taken_std {L : List Ch} {f : Nm → Std} (h : Taken L f) (hL : ∀ c ∈ L, c.ok) : StdOk L f := by
  have := StdOk.new.add (more := L) hL h
  rwa [List.nil_append] at this
theorem Fr.below {gb base n : Nat} {w w' : World} (h : Fr gb base w w') (hn : n ≤ base) (hg : n ≤ gb) : Below n w w' :=
  ⟨h.os, h.tape, h.output, h.size, fun i hi => h.block i (by omega) (by omega)⟩
theorem RowsAt.fr {α : Type} {enc : α → List Value} {gb base : Nat} {w w' : World} {A : Option Addr} {l : List α} (h : RowsAt w enc A l) (hA : ∀ a, A = some a → a.block < base ∧ a.block ≠ gb) (F : Fr gb base w w') : RowsAt w' enc A l := by
  rcases h with h | ⟨g, off, h1, h2⟩
  · exact .inl h
  · obtain ⟨a1, a2⟩ := hA _ h1
    exact .inr ⟨g, off, h1, fun j v hv => (cell_of_eq (F.block g a1 a2) _).trans (h2 j v hv)⟩
theorem OwnE.fr {α : Type} {enc : α → List Value} {k : Nat} {e : TypeId} {B gb base : Nat} {w w' : World} {v : Value} {l : List α} (h : OwnE w B e k enc v l) (hv : ∀ q, v.ownBlock = some q → q < base ∧ q ≠ gb) (F : Fr gb base w w') : OwnE w' B e k enc v l := by
  refine ⟨h.1, ?_⟩
  rcases h.2 with h2 | ⟨g, cap, cur, e1, hb, hg, r⟩
  · exact .inl h2
  · obtain ⟨a1, a2⟩ := hv g (by rw [e1]; rfl)
    exact .inr ⟨g, cap, cur, e1, hb, (F.block g a1 a2).trans hg, r⟩
theorem LedAt.fr {gb base hb : Nat} {L : List Ch} {f : Nm → Std} {w w' : World} {C : Array Value} (h : LedAt w gb base L f) (hh : w.heap[hb]? = some (.cells C 27 (0, 0))) (hne : gb ≠ hb) {B : Nat} (hB : w.heap.size ≤ B) (F : Fr hb B w w') : LedAt w' gb base L f := by
  obtain ⟨v, m, hg, hv, hm, hbm⟩ := h
  have hvn : v.ownBlock ≠ some hb := hv.ne_cells hh (of_decide_eq_true rfl)
  refine ⟨v, m, (F.block _ (by have := heap_lt hg; omega) hne).trans hg, hv.fr (fun q hq => ⟨by have := (hv.lt q hq).2; omega, fun e => hvn (by rw [← e]; exact hq)⟩) F, hm.same (fun i hi hl => F.block i (by omega) (fun e => ?_)), hbm⟩
  subst e
  rcases hm with ⟨rfl, _⟩ | ⟨b, mp, rfl, hM, _⟩
  · cases hi
  · injection hi with hi
    injection hi with hi
    subst hi
    obtain ⟨es, ck, q, _⟩ := hM.is
    rw [hh] at q
    cases q
theorem rows_take {α : Type} {enc : α → List Value} {k bytes : Nat} {P : Program} {e : TypeId} (E : Enc P e enc k bytes) {w : World} {A : Option Addr} {l : List α} (h : RowsAt w enc A l) (n : Nat) : RowsAt w enc A (l.take n) := by
  rcases h with h | ⟨g, off, h1, h2⟩
  · left; rw [h, List.take_nil]
  · refine .inr ⟨g, off, h1, fun j v hv => h2 j v ?_⟩
    have hq : l.flatMap enc = (l.take n).flatMap enc ++ (l.drop n).flatMap enc := by rw [← List.flatMap_append, List.take_append_drop]
    rw [hq, List.getElem?_append_left (List.getElem?_eq_some_iff.1 hv).1]
    exact hv
theorem rows_drop {α : Type} {enc : α → List Value} {k bytes : Nat} {P : Program} {e : TypeId} (E : Enc P e enc k bytes) {w : World} {g off : Nat} {l : List α} (h : RowsAt w enc (some ⟨g, off, none⟩) l) (n : Nat) (hn : n ≤ l.length) : RowsAt w enc (some ⟨g, off + n * k, none⟩) (l.drop n) := by
  rcases h with h | ⟨g2, off2, h1, h2⟩
  · left; rw [h, List.drop_nil]
  · injection h1 with h1
    injection h1 with h3 h4
    subst h3 h4
    refine .inr ⟨g, off + n * k, rfl, fun j v hv => ?_⟩
    have hq : l.flatMap enc = (l.take n).flatMap enc ++ (l.drop n).flatMap enc := by rw [← List.flatMap_append, List.take_append_drop]
    have hl : ((l.take n).flatMap enc).length = n * k := by rw [E.flat, List.length_take, Nat.min_eq_left hn]
    have := h2 (n * k + j) v (by rw [hq, List.getElem?_append_right (by omega), hl, show n * k + j - n * k = j by omega]; exact hv)
    rwa [← Nat.add_assoc] at this
theorem addF_take {L : List Ch} {f g : Nm → Std} (h : addF g L = some f) (k : Nat) : ∃ fk, addF g (L.take k) = some fk ∧ addF fk (L.drop k) = some f := by
  rw [← List.take_append_drop k L, addF_app] at h
  cases hq : addF g (L.take k) with
  | none => rw [hq] at h; cases h
  | some fk => rw [hq] at h; exact ⟨fk, rfl, h⟩
theorem view_ok {L : List Ch} {f : Nm → Std} {vs : List Pn} (h : ViewIs f vs) (S : StdOk L f) : ∀ x ∈ vs, x.a.ok := fun x hx => by
  have := (h.mem x).1 hx
  rw [this.2]
  exact (S.ok _).1
theorem view_len {L : List Ch} {f : Nm → Std} {vs : List Pn} (h : ViewIs f vs) (S : StdOk L f) : vs.length ≤ L.length := by
  have hn : (vs.map (·.nm)).Nodup := by
    rw [List.Nodup, List.pairwise_map]
    refine h.sorted.imp ?_
    intro a b hab e
    rw [e, nmLt_irrefl] at hab
    cases hab
  have := list_nodup_le hn (b := L.map (·.p.nm)) fun x hx => by
    obtain ⟨y, hy, rfl⟩ := List.mem_map.1 hx
    exact S.live _ ((h.mem y).1 hy).1
  rwa [List.length_map, List.length_map] at this
theorem nextR_step {L : List Ch} {f : Nm → Std} {c : Ch} (h : Taken L f) (hL : ∀ c ∈ L, c.ok) (hq : nextR L c = true) : ∃ s, stepS (f c.p.nm) c = some s := by
  rw [taken_next h hL] at hq
  exact Option.isSome_iff_exists.1 hq
theorem ok_snoc {L : List Ch} {c : Ch} (h : ∀ c ∈ L, c.ok) (hc : c.ok) : ∀ x ∈ L ++ [c], x.ok := fun x hx => by
  rcases List.mem_append.1 hx with q | q
  · exact h x q
  · rw [List.mem_singleton] at q; rw [q]; exact hc
theorem OwnE.block1 {α : Type} {enc : α → List Value} {k : Nat} {e : TypeId} {w : World} {base : Nat} {v : Value} {l : List α} (h : OwnE w base e k enc v l) (hp : 0 < l.length) : ∃ g cap, v = .slice (some ⟨g, 0, none⟩) l.length cap ∧ l.length ≤ cap ∧ base ≤ g ∧ g < w.heap.size := by
  rcases h.2 with ⟨rfl, h0⟩ | ⟨g, cap, cur, rfl, hb, hg, hn, _⟩
  · omega
  · exact ⟨g, cap, rfl, hn, hb, heap_lt hg⟩
set_option maxRecDepth 100000 in
set_option maxHeartbeats 16000000 in
theorem parted_any (A : Option Addr) (cap : Nat) (acts : List Dr) (cut : Nat) (w : World) (hr : RowsAt w drL A acts) (hacts : ∀ a ∈ acts, a.ok) (hcut : cut < 256) :
    Calls Try.prog 5 #[.slice A acts.length cap, .int .u8 (cut : Int)] w fun e w' => e = .returned (.bool true) ∧ Below w.heap.size w w' := by
  have zc := zeroCh
  have zl := zeroLed
  have Hc := Lib.hid sizeCh
  have haw := awake_any w
  have z9 : ∀ w, (sizeOf 40).run Try.prog w = .ok 9 w := run_sizeOf_info sizeAct
  have z1 : ∀ w, (sizeOf 38).run Try.prog w = .ok 10 w := run_sizeOf_info sizeCh
  go_enter Try.func5, Try.ntmps5
  go_upto_block 0 with (go_at_call 7; (with_reducible refine haw.mono ?_); rintro e w0 ⟨rfl, b0⟩)
  clear haw
  have hrA : RowsAt w0 drL A acts := hr.below b0
  go_cut [5] (fun v wx => ∃ (L : List Ch) (f : Nm → Std), L.length ≤ 40 ∧ Taken L f ∧ (∀ c ∈ L, c.ok) ∧ OwnE wx w0.heap.size 38 10 chL v L ∧ (L = [] → v = .slice none 0 0) ∧ Below w0.heap.size w0 wx)
  case first =>
    go_wp2_with fail
    go_loopw [5, 6] (fun v i wr => ∃ (j : Nat) (L : List Ch) (f : Nm → Std), i = .int .i64 (j : Nat) ∧ j ≤ acts.length ∧ j ≤ 40 ∧ L.length ≤ j ∧ Taken L f ∧ (∀ c ∈ L, c.ok) ∧ OwnE wr w0.heap.size 38 10 chL v L ∧ (L = [] → v = .slice none 0 0) ∧ Below w0.heap.size w0 wr) (fun _ i _ => acts.length - (intOf i).toNat)
    case atStart => exact ⟨0, [], _, rfl, Nat.zero_le _, Nat.zero_le _, Nat.le_refl _, taken_nil, fun c hc => (by cases hc), OwnE.nil _ _, fun _ => rfl, Below.refl _ _⟩
    case round =>
      obtain ⟨j, L, f, rfl, hj, hj2, hLj, hT, hLo, hO, hnil, hb⟩ := hrel
      by_cases hlt : j < acts.length ∧ j < 40
      · obtain ⟨hlt, hlt2⟩ := hlt
        obtain ⟨a, hd⟩ : ∃ a, acts[j]? = some a := ⟨_, List.getElem?_eq_getElem hlt⟩
        obtain ⟨g, off, rfl, hrow⟩ := RowsAt.row encDr (hrA.below hb) hd
        have hji : (j : Int) < (acts.length : Int) := by omega
        have hji2 : (j : Int) < 40 := by omega
        have hda : (drL a).toArray = drA a := rfl
        obtain ⟨A5, c5, rfl, _, hrL⟩ := hO.form
        have hch := change_any a (hacts a (List.mem_of_getElem? hd)) A5 c5 L wr hrL hLo (by omega)
        have HROW := Lib.hid hrow
        have HB := Lib.hid hb
        have HO := Lib.hid hO
        have HT := Lib.hid hT
        have HLO := Lib.hid hLo
        have HJ := Lib.hid (And.intro (show j + 1 ≤ acts.length from hlt) (And.intro (show j + 1 ≤ 40 from hlt2) hLj))
        clear hrow hb hO hT hLo hd hrL hLj hj2
        generalize hLn : L.length = n at *
        go_upto_region 8 with (first
          | (refine at_op (.load 40 (.tmp 25)) ?_ rfl; refine wpList_load_mid rfl 40 (.tmp 25) rfl g (off + j * 9) rfl (drL a) _ HROW.out Try.underlying40 rfl (by exact sizeAct) ?_; rw [hda])
          | (go_at_call 8; (with_reducible refine hch.mono ?_); rintro e w5 ⟨c, hc, rfl, b5⟩)
          | (refine at_op (.alloc 38) ?_ rfl; refine wpList_alloc_row rfl _ 38 rfl (some 7) rfl w5.heap.size rfl _ zc ?_)
          | (refine at_op (.store 38 (.tmp 7) (.tmp 28)) ?_ rfl; refine wpList_store_row rfl 38 (.tmp 7) (.tmp 28) rfl w5.heap.size (chA c) rfl rfl 38 _ (heap_alloc_new w5 _) Hc.out rfl (chA_one _) ?_; rw [World.setRow_alloc_new]))
        have b6 := below_trans b5 (below_alloc (Below.refl w5.heap.size w5) (.cells (chA c) 38))
        have k6 := heap_alloc_new w5 (.cells (chA c) 38)
        have HO6 := Lib.hid (HO.out.below b6)
        have HB6 := Lib.hid (HB.out.trans (b6.mono HB.out.size))
        have K6 := Lib.hid k6
        have hcc := hc
        have HCO := Lib.hid hc
        clear b6 b5 hch k6 hc
        generalize w5.alloc (.cells (chA c) 38) = w6 at *
        generalize w5.heap.size = gc at *
        have hrL6 : RowsAt w6 chL A5 L := by
          obtain ⟨A9, c9, e9, _, h9⟩ := HO6.out.form
          injection e9 with e9
          rw [e9]; exact h9
        have hN := next_any A5 c5 L c w6 hrL6 HLO.out HCO.out (by have := HJ.out.2.2; omega)
        rw [hLn] at hN
        cases hq : nextR L c
        · rw [hq] at hN
          clear hq
          go_wp2_with (first
            | (refine at_op (.load 38 (.tmp 7)) ?_ rfl; refine wpList_load_row rfl 38 (.tmp 7) rfl gc rfl 38 (chA c) (0, 0) _ K6.out Try.underlying38 rfl Hc.out ?_)
            | (go_at_call 18; (with_reducible refine hN.mono ?_); rintro e w7 ⟨rfl, b7⟩))
          exact ⟨⟨j + 1, L, f, by go_num, HJ.out.1, HJ.out.2.1, by rw [hLn]; exact Nat.le_succ_of_le HJ.out.2.2, HT.out, HLO.out, HO6.out.below b7, hnil, HB6.out.trans (b7.mono HB6.out.size)⟩, by simp [intOf]; omega⟩
        · rw [hq] at hN
          obtain ⟨s, hs⟩ := nextR_step HT.out HLO.out hq
          have HS := Lib.hid hs
          clear hq hs
          have hln : n + 1 ≤ 1000 := by have := HJ.out.2.2; omega
          have HLN := Lib.hid hln
          clear hln
          go_upto_region 9 with (first
            | (refine at_op (.load 38 (.tmp 7)) ?_ rfl; refine wpList_load_row rfl 38 (.tmp 7) rfl gc rfl 38 (chA c) (0, 0) _ K6.out Try.underlying38 rfl Hc.out ?_)
            | (go_at_call 18; (with_reducible refine hN.mono ?_); rintro e w7 ⟨rfl, b7⟩))
          have K7 := Lib.hid ((b7.block _ (heap_lt K6.out)).trans K6.out)
          have HB7 := Lib.hid (HB6.out.trans (b7.mono HB6.out.size))
          have HO7 := Lib.hid (HO6.out.below b7)
          have ba := below_alloc (Below.refl w7.heap.size w7) (.cells (chA c) 38)
          have HO8 := Lib.hid (HO7.out.below ba)
          have HB8 := Lib.hid (HB7.out.trans (ba.mono HB7.out.size))
          have HR8 := Lib.hid (RowsAt.one (enc := chL) (y := c) (heap_alloc_new w7 (.cells (chA c) 38)))
          clear b7 ba
          go_wp2_with (first
            | (refine at_op (.load 38 (.tmp 7)) ?_ rfl; refine wpList_load_row rfl 38 (.tmp 7) rfl gc rfl 38 (chA c) (0, 0) _ K7.out Try.underlying38 rfl Hc.out ?_)
            | (refine at_op (.buildSlice 24 1 #[(0, .tmp 33)]) ?_ rfl; refine wpList_buildOne encCh (by decide) rfl w7 24 (.tmp 33) rfl (some 34) rfl w7.heap.size rfl rfl c rfl ?_)
            | (refine at_op (.call { callee := .builtin .append, args := #[.tmp 32, .tmp 34], argTypes := #[24, 24] }) ?_ rfl; refine wpList_appendE encCh rfl _ (.tmp 32) (.tmp 34) 24 rfl w0.heap.size rfl (.slice A5 n c5) L rfl HO8.out (some ⟨w7.heap.size, 0, none⟩) 1 [c] rfl HR8.out (by rw [List.length_singleton, hLn]; exact Nat.le_trans HLN.out (by decide)) (by rw [List.length_singleton, hLn]; exact Nat.le_trans (Nat.mul_le_mul_right 88 HLN.out) (by decide)) HB8.out.size ?_; intro u9 w11 hO11 hG11 hB11))
          exact ⟨⟨j + 1, L ++ [c], _, by go_num, HJ.out.1, HJ.out.2.1, by rw [List.length_append, List.length_singleton, hLn]; exact Nat.succ_le_succ HJ.out.2.2, taken_snoc HT.out HS.out, ok_snoc HLO.out HCO.out, hO11, fun e => by simp at e, below_grown2 HB8.out hG11 (fun q e => (HO8.out.lt q e).1)⟩, by simp [intOf]; omega⟩
      · have hex : ¬ ((j : Int) < (acts.length : Int)) ∨ ¬ ((j : Int) < 40) := by omega
        go_wp2_with fail
        all_goals
          go_meet
          exact ⟨L, f, by omega, hT, hLo, hO, hnil, hb⟩

  case rest =>
  obtain ⟨L, f, hL40, hT, hLo, hO, hnil, hb⟩ := hcut
  have HT := Lib.hid hT
  have HO := Lib.hid hO
  have HB := Lib.hid hb
  have HLO := Lib.hid hLo
  generalize hw4 : wc = w1 at *
  clear hw4 hT hO hb hLo
  by_cases hL0 : L = []
  · obtain rfl := hnil hL0
    subst hL0
    clear hnil
    have hf0 : (fun _ => st0) = f := Option.some.inj HT.out
    subst hf0
    have hstd := StdOk.new
    have h1 := heap_alloc2_old w1 (.cells #[.slice none 0 0, .map none] 27) (.cells #[.slice none 0 0, .map none] 27)
    have h2 := heap_alloc2_new w1 (.cells #[.slice none 0 0, .map none] 27) (.cells #[.slice none 0 0, .map none] 27)
    have hb2 := below_alloc (below_alloc (Below.refl w1.heap.size w1) (.cells #[.slice none 0 0, .map none] 27)) (.cells #[.slice none 0 0, .map none] 27)
    have s2 : ((w1.alloc (.cells #[.slice none 0 0, .map none] 27)).alloc (.cells #[.slice none 0 0, .map none] 27)).heap.size = w1.heap.size + 2 := by simp
    go_upto_region 14 with (first
      | (refine at_op (.alloc 27) ?_ rfl; first | (refine wpList_alloc_row rfl w1 27 rfl (some 9) rfl w1.heap.size rfl _ zl ?_) | (refine wpList_alloc_row rfl _ 27 rfl (some 10) rfl (w1.heap.size + 1) (by simp) _ zl ?_)))
    generalize (w1.alloc (.cells #[.slice none 0 0, .map none] 27)).alloc (.cells #[.slice none 0 0, .map none] 27) = w2 at *
    have HB2 := Lib.hid (HB.out.trans (hb2.mono HB.out.size))
    have hs1 : w2.heap.size = w1.heap.size + 2 := s2
    have HS := Lib.hid hs1
    clear hb2 s2 hs1
    have hadd1 := (LedAt.new w2.heap.size h1).add StdOk.new (A := none) (cap := 0) (more := []) (RowsAt.nil _ _) (fun c hc => by cases hc) (by decide) (Nat.le_refl _)
    rw [List.length_nil] at hadd1
    have H2 := Lib.hid h2
    clear h1 h2
    go_wp2_with (first
      | (go_at_call 10; (with_reducible refine hadd1.mono ?_); rintro e w4 ⟨rfl, hG4, _, F4⟩; rw [List.nil_append] at hG4; have h24 := (F4.block (w1.heap.size + 1) (by rw [HS.out]; omega) (by omega)).trans H2.out; have hadd2 := (LedAt.new w4.heap.size h24).add StdOk.new (A := none) (cap := 0) (more := []) (RowsAt.nil _ _) (fun c hc => by cases hc) (by decide) (Nat.le_refl _); rw [List.length_nil] at hadd2)
      | (go_at_call 10; (with_reducible refine hadd2.mono ?_); rintro e w5 ⟨rfl, hH5, _, F5⟩; rw [List.nil_append] at hH5; have hadd3 := hH5.add StdOk.new (A := none) (cap := 0) (more := []) (RowsAt.nil _ _) (fun c hc => by cases hc) (by decide) F5.size; rw [List.length_nil] at hadd3)
      | (go_at_call 10; (with_reducible refine hadd3.mono ?_); rintro e w6 ⟨rfl, hH6, _, F6⟩; rw [List.nil_append] at hH6; have hG6 := hG4.fr h24 (by omega) (Nat.le_refl _) (F5.trans F6); have hvg := hG6.view hstd (by decide))
      | (go_at_call 15; (with_reducible refine hvg.mono ?_); rintro e w7 ⟨u7, vs, rfl, ho7, hv7, b7⟩; have hl7 := view_len hv7 hstd; obtain ⟨A7, c7, rfl, _, hr7⟩ := ho7.form; have hH7 := hH6.below b7; have hG7 := hG6.below b7; have hvh := hH7.view hstd (by decide))
      | (go_at_call 15; (with_reducible refine hvh.mono ?_); rintro e w8 ⟨u8, vs8, rfl, ho8, hv8, b8⟩; obtain rfl : vs8 = vs := hv8.unique hv7; obtain ⟨A8, c8, rfl, _, hr8⟩ := ho8.form; have hH8 := hH7.below b8; have hG8 := hG7.below b8; have hps := psame_any A7 A8 c7 c8 vs8 w8 (hr7.below b8) hr8 (fun x hx => view_ok hv8 hstd x hx) (Nat.le_trans hl7 (by decide)))
      | (go_at_call 14; (with_reducible refine hps.mono ?_); rintro e w9 ⟨rfl, b9⟩; have hH9 := hH8.below b9; have hG9 := hG8.below b9; have hag := hG9.all (by decide))
      | (go_at_call 12; (with_reducible refine hag.mono ?_); rintro e w10 ⟨u10, rfl, ho10, b10⟩; obtain ⟨A10, c10, rfl, _, hr10⟩ := ho10.form; rw [List.length_nil]; have hH10 := hH9.below b10; have hah := hH10.all (by decide))
      | (go_at_call 12; (with_reducible refine hah.mono ?_); rintro e w11 ⟨u11, rfl, ho11, b11⟩; obtain ⟨A11, c11, rfl, _, hr11⟩ := ho11.form; rw [List.length_nil]; have hcs := csame_any A10 A11 c10 c11 [] w11 (hr10.below b11) hr11 (fun c hc => by cases hc) (by decide); rw [List.length_nil] at hcs)
      | (go_at_call 11; (with_reducible refine hcs.mono ?_); rintro e w12 ⟨rfl, b12⟩))
    go_ret
    refine ⟨rfl, below_trans b0 ?_⟩
    have hle := HB.out.size
    have hs2 := HS.out
    have q4 : Below w0.heap.size w0 w4 := HB2.out.trans (F4.below (by omega) (by omega))
    have q6 : Below w0.heap.size w0 w6 := q4.trans ((F5.trans F6).below (by have := F4.size; omega) (by omega))
    exact below_trans (below_trans (below_trans (below_trans (below_trans (below_trans q6 b7) b8) b9) b10) b11) b12
  · clear hnil
    have hLp : 0 < L.length := List.length_pos_iff.2 hL0
    clear hL0
    obtain ⟨g5, c5, rfl, hn5, hg5b, hg5⟩ := HO.out.block1 hLp
    obtain ⟨k, hk⟩ : ∃ k, k = cut % L.length := ⟨_, rfl⟩
    have hkl : k < L.length := by rw [hk]; exact Nat.mod_lt _ hLp
    have HK : Hid ((cut : Int) % (L.length : Int) = (k : Int)) := Lib.hid (by rw [hk]; omega)
    clear hk
    obtain ⟨fk, hf1, hf2⟩ := addF_take HT.out k
    have hTk : Taken (L.take k) fk := hf1
    have HF0 := Lib.hid HT.out
    have HF1 := Lib.hid hf1
    have HF2 := Lib.hid hf2
    have hlen1 : (L.take k).length = k := by rw [List.length_take]; omega
    have hlen2 : (L.drop k).length = L.length - k := List.length_drop
    have HN1 := Lib.hid hlen1
    have HN2 := Lib.hid hlen2
    have hok1 : ∀ c ∈ L.take k, c.ok := fun c hc => HLO.out c (List.mem_of_mem_take hc)
    have hok2 : ∀ c ∈ L.drop k, c.ok := fun c hc => HLO.out c (List.mem_of_mem_drop hc)
    have hstd := taken_std HT.out HLO.out
    have hstdk := taken_std hTk hok1
    have HTK := Lib.hid hTk
    clear hf1 hf2 hlen1 hlen2 hTk
    generalize hLn : L.length = n at *
    have HLn := Lib.hid hLn
    clear hLn
    have hnz : ((n : Int) == 0) = false := by simp; omega
    have h1 := heap_alloc2_old w1 (.cells #[.slice none 0 0, .map none] 27) (.cells #[.slice none 0 0, .map none] 27)
    have h2 := heap_alloc2_new w1 (.cells #[.slice none 0 0, .map none] 27) (.cells #[.slice none 0 0, .map none] 27)
    have hb2 := below_alloc (below_alloc (Below.refl w1.heap.size w1) (.cells #[.slice none 0 0, .map none] 27)) (.cells #[.slice none 0 0, .map none] 27)
    have s2 : ((w1.alloc (.cells #[.slice none 0 0, .map none] 27)).alloc (.cells #[.slice none 0 0, .map none] 27)).heap.size = w1.heap.size + 2 := by simp
    go_upto_region 13 with fail
    rw [HK.out]
    go_upto_region 14 with (first
      | (refine at_op (.alloc 27) ?_ rfl; first | (refine wpList_alloc_row rfl w1 27 rfl (some 9) rfl w1.heap.size rfl _ zl ?_) | (refine wpList_alloc_row rfl _ 27 rfl (some 10) rfl (w1.heap.size + 1) (by simp) _ zl ?_)))
    generalize (w1.alloc (.cells #[.slice none 0 0, .map none] 27)).alloc (.cells #[.slice none 0 0, .map none] 27) = w2 at *
    have HB2 := Lib.hid (HB.out.trans (hb2.mono HB.out.size))
    have hO2 := HO.out.below hb2
    have hr2 : RowsAt w2 chL (some ⟨g5, 0, none⟩) L := by
      obtain ⟨A9, c9, e9, _, h9⟩ := hO2.form
      injection e9 with e9
      rw [e9]; exact h9
    have hs1 : w2.heap.size = w1.heap.size + 2 := s2
    have HS := Lib.hid hs1
    clear hb2 s2 hO2 hs1
    have hadd1 := (LedAt.new w2.heap.size h1).add StdOk.new (cap := c5) hr2 HLO.out (by rw [HLn.out]; simp; omega) (Nat.le_refl _)
    rw [HLn.out, show addF (fun _ => st0) L = some f from HT.out] at hadd1
    have H2 := Lib.hid h2
    have HR2 := Lib.hid hr2
    clear h1 h2 hr2
    go_wp2_with (first
      | (go_at_call 10; (with_reducible refine hadd1.mono ?_); rintro e w4 ⟨rfl, hG4, _, F4⟩; rw [List.nil_append] at hG4; have h24 := (F4.block (w1.heap.size + 1) (by rw [HS.out]; omega) (by omega)).trans H2.out; have hr4 := HR2.out.fr (fun a e => by injection e with e; subst e; exact ⟨by rw [HS.out]; show g5 < _; omega, by show g5 ≠ _; omega⟩) F4; have hadd2 := (LedAt.new w4.heap.size h24).add StdOk.new (cap := c5) (rows_take encCh hr4 k) hok1 (by rw [HN1.out]; simp; omega) (Nat.le_refl _); rw [HN1.out, HF1.out] at hadd2)
      | (go_at_call 10; (with_reducible refine hadd2.mono ?_); rintro e w5 ⟨rfl, hH5, _, F5⟩; rw [List.nil_append] at hH5; have hr5 := rows_drop encCh (hr4.fr (fun a e => by injection e with e; subst e; exact ⟨by have := F4.size; have := HS.out; show g5 < _; omega, by show g5 ≠ _; omega⟩) F5) k (by rw [HLn.out]; omega); rw [Nat.zero_add] at hr5; have hadd3 := hH5.add hstdk (cap := c5 - k) hr5 hok2 (by rw [HN1.out, HN2.out]; omega) F5.size; rw [HN2.out, HF2.out] at hadd3)
      | (go_at_call 10; (with_reducible refine hadd3.mono ?_); rintro e w6 ⟨rfl, hH6, _, F6⟩; rw [List.take_append_drop] at hH6; have hG6 := hG4.fr h24 (by omega) (Nat.le_refl _) (F5.trans F6); have hvg := hG6.view hstd (by rw [HLn.out]; omega))
      | (go_at_call 15; (with_reducible refine hvg.mono ?_); rintro e w7 ⟨u7, vs, rfl, ho7, hv7, b7⟩; have hl7 := view_len hv7 hstd; obtain ⟨A7, c7, rfl, _, hr7⟩ := ho7.form; have hH7 := hH6.below b7; have hG7 := hG6.below b7; have hvh := hH7.view hstd (by rw [HLn.out]; omega))
      | (go_at_call 15; (with_reducible refine hvh.mono ?_); rintro e w8 ⟨u8, vs8, rfl, ho8, hv8, b8⟩; obtain rfl : vs8 = vs := hv8.unique hv7; obtain ⟨A8, c8, rfl, _, hr8⟩ := ho8.form; have hH8 := hH7.below b8; have hG8 := hG7.below b8; have hps := psame_any A7 A8 c7 c8 vs8 w8 (hr7.below b8) hr8 (fun x hx => view_ok hv8 hstd x hx) (by rw [HLn.out] at hl7; omega))
      | (go_at_call 14; (with_reducible refine hps.mono ?_); rintro e w9 ⟨rfl, b9⟩; have hH9 := hH8.below b9; have hG9 := hG8.below b9; have hag := hG9.all (by rw [HLn.out]; omega))
      | (go_at_call 12; (with_reducible refine hag.mono ?_); rintro e w10 ⟨u10, rfl, ho10, b10⟩; obtain ⟨A10, c10, rfl, _, hr10⟩ := ho10.form; have hH10 := hH9.below b10; have hah := hH10.all (by rw [HLn.out]; omega))
      | (go_at_call 12; (with_reducible refine hah.mono ?_); rintro e w11 ⟨u11, rfl, ho11, b11⟩; obtain ⟨A11, c11, rfl, _, hr11⟩ := ho11.form; have hcs := csame_any A10 A11 c10 c11 L w11 (hr10.below b11) hr11 HLO.out (by rw [HLn.out]; omega))
      | (go_at_call 11; (with_reducible refine hcs.mono ?_); rintro e w12 ⟨rfl, b12⟩))
    go_ret
    refine ⟨rfl, below_trans b0 ?_⟩
    have hle := HB.out.size
    have hs2 := HS.out
    have q4 : Below w0.heap.size w0 w4 := HB2.out.trans (F4.below (by omega) (by omega))
    have q6 : Below w0.heap.size w0 w6 := q4.trans ((F5.trans F6).below (by have := F4.size; omega) (by omega))
    exact below_trans (below_trans (below_trans (below_trans (below_trans (below_trans q6 b7) b8) b9) b10) b11) b12
open Go.ChangeShapes Go.WideShapes in
theorem parted_walk {H : Type} {enc : TypeId × Value → H} (W : World) {b0 : Nat} {v : Value} {d : DataW H} {p : List MemPlace} (hv : Value.okWide Try.prog W .any b0 28 v)
    (h : DataW.Trod enc Try.prog W 0 (fun _ => true) true 28 v d p) {ts : List TypeId} {ds : List (DataW H)} (_ : (DataW.weightsEach Try.prog ts ds).all (· ≤ reachBytes) = true) (a1 : Int) (wa1 : (Lit.int .u8 a1).wf = true) :
    Calls Try.prog 5 #[v, .int .u8 a1] W fun e w' => e = .returned (.bool true) ∧ Below W.heap.size W w' := by
  obtain ⟨A, cap, l, rfl, hr, ho⟩ := open_acts hv h
  simp [Lit.wf, IntKind.min, IntKind.max, IntKind.bits, IntKind.signed] at wa1
  obtain ⟨n, rfl⟩ := Int.eq_ofNat_of_zero_le wa1.1
  exact parted_any A cap l n W hr ho (by omega)
end Go.Proofs.Ytgpfoamhcoipgaa
