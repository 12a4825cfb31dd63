import Derived.Test.YtgpfoamhcoipgaaLk
import Derived.Test.YtgpfoamhcoipgaaLw
import Derived.Test.YtgpfoamhcoipgaaLga
import Derived.Test.YtgpfoamhcoipgaaLu
import Derived.Deep.DeepCutAuto
import Derived.Deep.CutBlock
/-! Lists of changes: all of a list are taken, or none. -/
namespace Go.Proofs.Ytgpfoamhcoipgaa
open Go.RowKit Go.Sort Go.ChangeMaps
set_option linter.unusedVariables false
set_option linter.unusedSectionVars false
attribute [-simp] Try.isAgg31 Try.sizeOf31 Try.typeInfo31 Try.type31
attribute [-simp] Try.isAgg36 Try.sizeOf36 Try.typeInfo36 Try.type36
attribute [-simp] Try.isAgg38 Try.sizeOf38 Try.typeInfo38 Try.type38
attribute [-simp] Try.isAgg40 Try.sizeOf40 Try.typeInfo40 Try.type40
attribute [-simp] Try.isAgg27 Try.sizeOf27 Try.typeInfo27 Try.type27

/-- A list of drawn changes, where it lies. -/
structure Lsd where
  A : Option Addr
  cap : Nat
  l : List Dr
def lsL (x : Lsd) : List Value := [.slice x.A x.l.length x.cap]
theorem encLs : Enc Try.prog 28 lsL 1 24 where
  pos := by decide
  len := fun _ => rfl
  one := fun a v hv => by
    rw [lsL, List.mem_singleton] at hv
    rw [hv]; rfl
  info := ⟨_, _, rfl, rfl, rfl, rfl, rfl⟩
/-- A slice lies apart from a ledger. -/
def Apart (A : Option Addr) (gl : Nat) (v m : Value) : Prop := ∀ a, A = some a → a.block ≠ gl ∧ v.ownBlock ≠ some a.block ∧ m ≠ .map (some a.block)
theorem RowsAt.oth {α : Type} {enc : α → List Value} {gl : Nat} {v m : Value} {w w' : World} {A : Option Addr} {l : List α} (h : RowsAt w enc A l) (hA : Apart A gl v m) (hlt : ∀ a, A = some a → a.block < w.heap.size) (O : Oth gl m v w w') : RowsAt w' enc A l := by
  rcases h with h | ⟨g, off, h1, h2⟩
  · exact .inl h
  · obtain ⟨a1, a2, a3⟩ := hA _ h1
    exact .inr ⟨g, off, h1, fun j x hx => (cell_of_eq (O.block g (hlt _ h1) a1 a3 a2) _).trans (h2 j x hx)⟩
theorem Oth.below2 {gl : Nat} {v m : Value} {w w' : World} {n : Nat} (O : Oth gl m v w w') (hn : n ≤ w.heap.size) (h1 : n ≤ gl) (h2 : ∀ i, m = .map (some i) → n ≤ i) (h3 : ∀ i, v.ownBlock = some i → n ≤ i) : Below n w w' :=
  ⟨O.os, O.tape, O.output, O.size, fun i hi => O.block i (by omega) (by omega) (fun e => by have := h2 i e; omega) (fun e => by have := h3 i e; omega)⟩
theorem LedIs.vlt {w : World} {gb base : Nat} {v m : Value} {L : List Ch} {f : Nm → Std} (h : LedIs w gb base v m L f) {q : Nat} (e : v.ownBlock = some q) : base ≤ q ∧ q < w.heap.size := h.own.lt q e
theorem LedIs.mlt {w : World} {gb base : Nat} {v m : Value} {L : List Ch} {f : Nm → Std} (h : LedIs w gb base v m L f) {q : Nat} (e : m = .map (some q)) : base ≤ q ∧ q < w.heap.size := ⟨h.mb q e, h.map.lt e⟩
set_option maxRecDepth 100000 in
set_option maxHeartbeats 16000000 in
theorem plays_any (A : Option Addr) (cap : Nat) (lists : List Lsd) (w : World) (hr : RowsAt w lsL A lists) (hls : ∀ x ∈ lists, RowsAt w drL x.A x.l ∧ ∀ a ∈ x.l, a.ok) :
    Calls Try.prog 3 #[.slice A lists.length cap] w fun e w' => e = .returned (.bool true) ∧ Below w.heap.size w w' := by
  have zl := zeroLed
  have Hc := Lib.hid sizeCh
  have haw := awake_any w
  have z9 : ∀ w, (sizeOf 40).run Try.prog w = .ok 9 w := run_sizeOf_info sizeAct
  have z1 : ∀ w, (sizeOf 38).run Try.prog w = .ok 10 w := run_sizeOf_info sizeCh
  have z2 : ∀ w, (sizeOf 36).run Try.prog w = .ok 8 w := run_sizeOf_info sizePane
  go_enter Try.func3, Try.ntmps3
  go_upto_block 0 with (first
    | (go_at_call 7; (with_reducible refine haw.mono ?_); rintro e wA ⟨rfl, b0⟩)
    | (refine at_op (.alloc 27) ?_ rfl; refine wpList_alloc_row rfl wA 27 rfl (some 3) rfl wA.heap.size rfl _ zl ?_))
  have hled := heap_alloc_new wA (.cells #[.slice none 0 0, .map none] 27)
  have hb0 := below_trans b0 (below_alloc (Below.refl wA.heap.size wA) (.cells #[.slice none 0 0, .map none] 27))
  have hnl := b0.size
  clear haw b0
  generalize wA.alloc (.cells #[.slice none 0 0, .map none] 27) = w0 at *
  generalize wA.heap.size = gl at *
  have hnb : w.heap.size ≤ w0.heap.size := hb0.size
  have hgl0 := heap_lt hled
  have hL0 : LedIs w0 gl w0.heap.size (.slice none 0 0) (.map none) [] (fun _ => st0) := ⟨hled, OwnE.nil _ _, .inl ⟨rfl, fun _ => rfl⟩, fun i e => by cases e⟩
  clear hled
  generalize hbase : w0.heap.size = base at *
  go_wp2_with fail
  go_loopw [4, 5] (fun lv i wr => ∃ (i0 : Nat) (L : List Ch) (f : Nm → Std) (v m : Value) (Al : Option Addr) (cl : Nat), i = .int .i64 (i0 : Nat) ∧ i0 ≤ lists.length ∧ i0 ≤ 15 ∧ L.length ≤ 8 * i0 ∧ lv = .slice Al L.length cl ∧ RowsAt wr chL Al L ∧ (∀ a, Al = some a → a.block < wr.heap.size) ∧ Taken L f ∧ (∀ c ∈ L, c.ok) ∧ LedIs wr gl base v m L f ∧ Apart Al gl v m ∧ Below w.heap.size w wr ∧ base ≤ wr.heap.size) (fun _ i _ => lists.length - (intOf i).toNat)
  case atStart => exact ⟨0, [], _, _, _, none, 0, rfl, Nat.zero_le _, Nat.zero_le _, Nat.le_refl _, rfl, RowsAt.nil _ _, fun a e => (by cases e), taken_nil, fun c hc => (by cases hc), hL0, fun a e => (by cases e), hb0, Nat.le_of_eq hbase.symm⟩
  case round =>
    clear hL0 hb0
    obtain ⟨i0, L, f, v, m, Al, cl, rfl, hi, hi2, hLi, rfl, hrl, hAlt, hT, hLo, hLed, hap, hb, hbs⟩ := hrel
    generalize hw4 : wr = wi at *
    clear hw4
    by_cases hlt : i0 < lists.length ∧ i0 < 15
    · obtain ⟨hlt, hlt2⟩ := hlt
      obtain ⟨X, hX⟩ : ∃ X, lists[i0]? = some X := ⟨_, List.getElem?_eq_getElem hlt⟩
      obtain ⟨gO, offO, rfl, hrowO⟩ := RowsAt.row encLs (hr.below hb) hX
      obtain ⟨hXr, hXo⟩ := hls X (List.mem_of_getElem? hX)
      obtain ⟨A1, c1, l1⟩ := X
      have cO : wi.cell? ⟨gO, offO + i0, none⟩ = some (.slice A1 l1.length c1) := by
        have := hrowO 0 _ rfl
        rwa [Nat.mul_one, Nat.add_zero] at this
      have hXr1 : RowsAt wi drL A1 l1 := hXr.below hb
      have hXo1 : ∀ a ∈ l1, a.ok := hXo
      have hii : (i0 : Int) < (lists.length : Int) := by omega
      have hii2 : (i0 : Int) < 15 := by omega
      have hL120 : L.length ≤ 112 := by omega
      have HRL := Lib.hid hrl
      have HAL := Lib.hid hAlt
      have HT := Lib.hid hT
      have HLO := Lib.hid hLo
      have HLED := Lib.hid hLed
      have HAP := Lib.hid hap
      have HB := Lib.hid hb
      have HBS := Lib.hid hbs
      have HXR := Lib.hid hXr1
      have HXO := Lib.hid hXo1
      have HI := Lib.hid (And.intro (show i0 + 1 ≤ lists.length from hlt) (And.intro (show i0 + 1 ≤ 15 from hlt2) hLi))
      clear hrl hAlt hT hLo hLed hap hb hbs hXr hXo hXr1 hXo1 hrowO hX hLi hr hls
      go_upto_block 2 with fail
      go_cut [6] (fun mv wx => ∃ M : List Ch, M.length ≤ 8 ∧ (∀ c ∈ M, c.ok) ∧ OwnE wx wi.heap.size 38 10 chL mv M ∧ Below wi.heap.size wi wx)
      case first =>
        go_wp2_with fail
        go_loopw [6, 7, 8] (fun mv k av wr => ∃ (k0 : Nat) (M : List Ch), k = .int .i64 (k0 : Nat) ∧ k0 ≤ l1.length ∧ k0 ≤ 8 ∧ M.length ≤ k0 ∧ (∀ c ∈ M, c.ok) ∧ OwnE wr wi.heap.size 38 10 chL mv M ∧ Below wi.heap.size wi wr) (fun _ k _ _ => l1.length - (intOf k).toNat)
        case atStart => exact ⟨0, [], rfl, Nat.zero_le _, Nat.zero_le _, Nat.le_refl _, fun c hc => (by cases hc), OwnE.nil _ _, Below.refl _ _⟩
        case round =>
          obtain ⟨k0, M, rfl, hk, hk8, hMk, hMo, hO, hbk⟩ := hrel
          generalize hw4 : wr = wk at *
          clear hw4
          have cK := cell_below hbk cO
          by_cases hlk : k0 < l1.length ∧ k0 < 8
          · obtain ⟨hlk, hlk2⟩ := hlk
            obtain ⟨a, ha⟩ : ∃ a, l1[k0]? = some a := ⟨_, List.getElem?_eq_getElem hlk⟩
            obtain ⟨gA, offA, rfl, hrowA⟩ := RowsAt.row encDr (HXR.out.below hbk) ha
            have hao := HXO.out a (List.mem_of_getElem? ha)
            have hkk : (k0 : Int) < (l1.length : Int) := by omega
            have hkk2 : (k0 : Int) < 8 := by omega
            obtain ⟨A6, c6, rfl, _, hr6⟩ := hO.form
            have hda : (drL a).toArray = drA a := rfl
            have hlo2 : ∀ c ∈ L ++ M, c.ok := fun c hc => by
              rcases List.mem_append.1 hc with h | h
              · exact HLO.out c h
              · exact hMo c h
            have HRK := Lib.hid (HRL.out.below hbk)
            have HR6 := Lib.hid hr6
            have HOM := Lib.hid hO
            have HBK := Lib.hid hbk
            have HRA := Lib.hid hrowA
            have HLO2 := Lib.hid hlo2
            have HMO := Lib.hid hMo
            have HK := Lib.hid (And.intro (show k0 + 1 ≤ l1.length from hlk) (And.intro (show k0 + 1 ≤ 8 from hlk2) hMk))
            have hlm : L.length + M.length ≤ 1000 := by omega
            have hlm1 : L.length ≤ 1000 := by omega
            have hm1 : M.length + 1 ≤ 1000 := by omega
            have HLM := Lib.hid hlm
            have HLM1 := Lib.hid hlm1
            have HM1 := Lib.hid hm1
            clear hr6 hO hbk hrowA hlo2 hMo hMk hlm hlm1 hm1 ha
            go_upto_region 15 with (first
              | (refine at_op (.call { callee := .builtin .append, args := #[.tmp 37, .tmp 38], argTypes := #[24, 24] }) ?_ rfl; refine wpList_appendE encCh rfl wk (.tmp 37) (.tmp 38) 24 rfl wk.heap.size rfl (.slice none 0 0) [] rfl (OwnE.nil _ _) Al cl L rfl HRK.out (by rw [List.length_nil, Nat.zero_add]; exact Nat.le_trans HLM1.out (by decide)) (by rw [List.length_nil, Nat.zero_add]; exact Nat.le_trans (Nat.mul_le_mul_right 88 HLM1.out) (by decide)) (Nat.le_refl _) ?_; intro v13 w13 hO13 hG13 hB13; rw [List.nil_append] at hO13; have b13 := below_of_grown hG13 (fun k e => by cases e); have hr13 := HR6.out.below b13)
              | (refine at_op (.call { callee := .builtin .append, args := #[.tmp 40, .tmp 41], argTypes := #[24, 24] }) ?_ rfl; refine wpList_appendE encCh rfl w13 (.tmp 40) (.tmp 41) 24 rfl wk.heap.size rfl v13 L rfl hO13 A6 c6 M rfl hr13 (Nat.le_trans HLM.out (by decide)) (Nat.le_trans (Nat.mul_le_mul_right 88 HLM.out) (by decide)) b13.size ?_; intro v14 w14 hO14 hG14 hB14))
            have b14 := below_grown2 b13 hG14 (fun q e => (hO13.lt q e).1)
            obtain ⟨A14, c14, rfl, _, hr14⟩ := hO14.form
            have hch := change_any a hao A14 c14 (L ++ M) w14 hr14 HLO2.out (by rw [List.length_append]; exact HLM.out)
            have cK14 := cell_below b14 cK
            have HRA14 := Lib.hid (range_below b14 HRA.out)
            have HB14 := Lib.hid b14
            have HOM14 := Lib.hid (HOM.out.below b14)
            clear hO13 hG13 hB13 b13 hr13 hO14 hG14 hB14 b14 hr14 cK HRA HR6 HRK
            generalize hLM : (L ++ M).length = lm at *
            go_wp2_with (first
              | (refine at_op (.load 40 (.tmp 49)) ?_ rfl; refine wpList_load_mid rfl 40 (.tmp 49) rfl gA (offA + k0 * 9) rfl (drL a) _ HRA14.out Try.underlying40 rfl (by exact sizeAct) ?_; rw [hda])
              | (go_at_call 8; (with_reducible refine hch.mono ?_); rintro e w15 ⟨c, hc, rfl, b15⟩; have HC15 := Lib.hid hc; have ba := below_alloc (Below.refl w15.heap.size w15) (.cells (chL c).toArray 38); have HO16 := Lib.hid ((HOM14.out.below b15).below ba); have HR16 := Lib.hid (RowsAt.one (enc := chL) (y := c) (heap_alloc_new w15 (.cells (chL c).toArray 38))); have HB16 := Lib.hid (HBK.out.trans ((below_trans (below_trans HB14.out b15) ba).mono HBK.out.size)); clear ba b15 hc)
              | (refine at_op (.buildSlice 24 1 #[(0, .tmp 52)]) ?_ rfl; refine wpList_buildOne encCh (by decide) rfl w15 24 (.tmp 52) rfl (some 53) rfl w15.heap.size rfl rfl c rfl ?_)
              | (refine at_op (.call { callee := .builtin .append, args := #[.tmp 43, .tmp 53], argTypes := #[24, 24] }) ?_ rfl; refine wpList_appendE encCh rfl _ (.tmp 43) (.tmp 53) 24 rfl wi.heap.size rfl (.slice A6 M.length c6) M rfl HO16.out (some ⟨w15.heap.size, 0, none⟩) 1 [c] rfl HR16.out (Nat.le_trans HM1.out (by decide)) (Nat.le_trans (Nat.mul_le_mul_right 88 HM1.out) (by decide)) HB16.out.size ?_; intro v17 w17 hO17 hG17 hB17))
            exact ⟨⟨k0 + 1, M ++ [c], by go_num, HK.out.1, HK.out.2.1, by rw [List.length_append, List.length_singleton]; exact Nat.succ_le_succ HK.out.2.2, ok_snoc HMO.out HC15.out, hO17, below_grown2 HB16.out hG17 (fun q e => (HO16.out.lt q e).1)⟩, by simp [intOf]; omega⟩
          · have hex : ¬ ((k0 : Int) < (l1.length : Int)) ∨ ¬ ((k0 : Int) < 8) := by omega
            go_wp2_with fail
            all_goals
              go_meet
              exact ⟨M, by omega, hMo, hO, hbk⟩
      case rest =>
      obtain ⟨M, hM8, hMo, hO, hbk⟩ := hcut
      generalize hw4 : wc = wk at *
      clear hw4
      obtain ⟨A6, c6, rfl, _, hr6⟩ := hO.form
      have hlm : L.length + M.length ≤ 120 := by omega
      have hra := radd_any Al A6 cl c6 L M wk (HRL.out.below hbk) hr6 HLO.out hMo (by omega)
      rw [addR_eq HT.out HLO.out hMo] at hra
      have hstd := taken_std HT.out HLO.out
      have hbk2 := HB.out.trans (hbk.mono HB.out.size)
      cases hq : addF f M with
      | none =>
        rw [hq] at hra
        have hLk := HLED.out.below hbk
        go_upto_region 21 with (first
          | (go_at_call 9; (with_reducible refine hra.mono ?_); rintro e w21 ⟨rfl, b21⟩; have hadd := (hLk.below b21).add hstd (cap := c6) (hr6.below b21) hMo (by omega) (by have := HBS.out; have := hbk.size; have := b21.size; omega); rw [hq] at hadd)
          | (go_at_call 10; (with_reducible refine hadd.mono ?_); rintro e w22 ⟨rfl, b22⟩))
        have hb22 := below_trans (below_trans hbk b21) b22
        have hL22 := HLED.out.below hb22
        have hr22 := HRL.out.below hb22
        have HLOx := HLO.out
        have HTx := HT.out
        clear hra hadd hLk
        have hall := hL22.led.all (by omega)
        go_wp2_with (first
          | (go_at_call 12; (with_reducible refine hall.mono ?_); rintro e x9 ⟨u9, rfl, hA9, b9⟩; obtain ⟨A9, c9, rfl, _, hr9⟩ := hA9.form; have hr9l := (hr22).below b9; have hG9 := hL22.below b9; have hcs := csame_any A9 Al c9 cl L x9 hr9 hr9l HLOx (by omega))
          | (go_at_call 11; (with_reducible refine hcs.mono ?_); rintro e x10 ⟨rfl, b10⟩; have hr10l := hr9l.below b10; have hG10 := hG9.below b10; have hlen := hG10.led.len)
          | (go_at_call 13; (with_reducible refine hlen.mono ?_); rintro e x11 ⟨rfl, rfl⟩; have hvw := hG10.led.view hstd (by omega))
          | (go_at_call 15; (with_reducible refine hvw.mono ?_); rintro e x12 ⟨u12, vs2, rfl, hV12, hvi2, b12⟩; obtain rfl : vs2 = viewR L := hvi2.unique (viewIs_R HTx); obtain ⟨A12, c12, rfl, _, hr12⟩ := hV12.form; have hr12l := hr10l.below b12; have hG12 := hG10.below b12; have hrv := rview_any Al cl L x12 hr12l (by omega))
          | (go_at_call 16; (with_reducible refine hrv.mono ?_); rintro e x13 ⟨u13, rfl, hV13, b13⟩; obtain ⟨A13, c13, rfl, _, hr13⟩ := hV13.form; have hr13l := hr12l.below b13; have hG13 := hG12.below b13; have hps := psame_any A12 A13 c12 c13 (viewR L) x13 (hr12.below b13) hr13 (fun x hx => view_ok hvi2 hstd x hx) (Nat.le_trans (viewR_len L) (by omega)))
          | (go_at_call 14; (with_reducible refine hps.mono ?_); rintro e x14 ⟨rfl, b14⟩; have hr14l := hr13l.below b14; have hG14 := hG13.below b14))
        have bT := below_trans (below_trans (below_trans (below_trans b9 b10) b12) b13) b14
        exact ⟨⟨i0 + 1, L, f, v, m, Al, cl, by go_num, HI.out.1, HI.out.2.1, by have := HI.out.2.2; omega, rfl, hr14l, fun a e => Nat.lt_of_lt_of_le (HAL.out a e) (below_trans hb22 bT).size, HT.out, HLO.out, hG14, HAP.out, HB.out.trans ((below_trans hb22 bT).mono HB.out.size), Nat.le_trans HBS.out (below_trans hb22 bT).size⟩, by simp [intOf]; omega⟩
      | some f2 =>
        obtain ⟨LM, hLM⟩ : ∃ LM, LM = L ++ M := ⟨_, rfl⟩
        rw [hq, Option.map_some, ← hLM] at hra
        have HLM := Lib.hid hLM
        clear hLM
        have hLk := HLED.out.below hbk
        go_upto_region 21 with (first
          | (go_at_call 9; (with_reducible refine hra.mono ?_); rintro e w21 ⟨u21, rfl, hO21, b21⟩; obtain ⟨A21, c21, rfl, _, hr21⟩ := hO21.form; have hadd := (hLk.below b21).add hstd (cap := c6) (hr6.below b21) hMo (by omega) (by have := HBS.out; have := hbk.size; have := b21.size; omega); rw [hq] at hadd)
          | (go_at_call 10; (with_reducible refine hadd.mono ?_); rintro e w22 ⟨rfl, v2, m2, hL22, hstd2, hoth, hm2, hv2⟩; rw [← HLM.out] at hL22 hstd2))
        have hLw := hLk.below b21
        have hA21 : ∀ a, A21 = some a → wk.heap.size ≤ a.block ∧ a.block < w21.heap.size := fun a e => by
          subst e
          exact hO21.lt _ rfl
        have hap2 : Apart A21 gl v m := fun a e => by
          have h1 := (hA21 a e).1
          have h2 := heap_lt hLk.at_
          exact ⟨by omega, fun q => by have := (hLk.vlt q).2; omega, fun q => by have := (hLk.mlt q).2; omega⟩
        have hr22 := hr21.oth hap2 (fun a e => (hA21 a e).2) hoth
        have HLOx : ∀ c ∈ LM, c.ok := fun c hc => by
          rw [HLM.out] at hc
          rcases List.mem_append.1 hc with h | h
          · exact HLO.out c h
          · exact hMo c h
        have HTx : Taken LM f2 := by rw [HLM.out]; exact taken_app HT.out hq
        have hlen2 : LM.length ≤ 120 := by rw [HLM.out, List.length_append]; exact hlm
        have hlen3 : LM.length ≤ 8 * (i0 + 1) := by have := HI.out.2.2; rw [HLM.out, List.length_append]; omega
        have hbq := hbk2.trans (b21.mono hbk2.size)
        have hb22 := hbq.trans (hoth.below2 (n := w.heap.size) hbq.size hnl (fun i e => by have := hLw.mb i e; omega) (fun i e => by have := (hLw.vlt e).1; omega))
        have hap3 : Apart A21 gl v2 m2 := fun a e => by
          have h1 := hA21 a e
          have h2 := hap2 a e
          refine ⟨h2.1, fun q => ?_, fun q => ?_⟩
          · rcases hv2 _ q with h | h
            · omega
            · exact h2.2.1 h
          · rcases hm2 _ q with h | h
            · omega
            · exact h2.2.2 h
        have hs22 := Nat.le_trans (Nat.le_trans HBS.out (below_trans hbk b21).size) hoth.size
        have hl22 := fun a e => Nat.lt_of_lt_of_le (hA21 a e).2 hoth.size
        clear hra hadd hLk hO21 hr21 hap2 hoth hm2 hv2 hLw hA21
        have hall := hL22.led.all (by omega)
        go_wp2_with (first
          | (go_at_call 12; (with_reducible refine hall.mono ?_); rintro e x9 ⟨u9, rfl, hA9, b9⟩; obtain ⟨A9, c9, rfl, _, hr9⟩ := hA9.form; have hr9l := (hr22).below b9; have hG9 := hL22.below b9; have hcs := csame_any A9 A21 c9 c21 LM x9 hr9 hr9l HLOx (by omega))
          | (go_at_call 11; (with_reducible refine hcs.mono ?_); rintro e x10 ⟨rfl, b10⟩; have hr10l := hr9l.below b10; have hG10 := hG9.below b10; have hlen := hG10.led.len)
          | (go_at_call 13; (with_reducible refine hlen.mono ?_); rintro e x11 ⟨rfl, rfl⟩; have hvw := hG10.led.view hstd2 (by omega))
          | (go_at_call 15; (with_reducible refine hvw.mono ?_); rintro e x12 ⟨u12, vs2, rfl, hV12, hvi2, b12⟩; obtain rfl : vs2 = viewR LM := hvi2.unique (viewIs_R HTx); obtain ⟨A12, c12, rfl, _, hr12⟩ := hV12.form; have hr12l := hr10l.below b12; have hG12 := hG10.below b12; have hrv := rview_any A21 c21 LM x12 hr12l (by omega))
          | (go_at_call 16; (with_reducible refine hrv.mono ?_); rintro e x13 ⟨u13, rfl, hV13, b13⟩; obtain ⟨A13, c13, rfl, _, hr13⟩ := hV13.form; have hr13l := hr12l.below b13; have hG13 := hG12.below b13; have hps := psame_any A12 A13 c12 c13 (viewR LM) x13 (hr12.below b13) hr13 (fun x hx => view_ok hvi2 hstd2 x hx) (Nat.le_trans (viewR_len LM) (by omega)))
          | (go_at_call 14; (with_reducible refine hps.mono ?_); rintro e x14 ⟨rfl, b14⟩; have hr14l := hr13l.below b14; have hG14 := hG13.below b14))
        have bT := below_trans (below_trans (below_trans (below_trans b9 b10) b12) b13) b14
        exact ⟨⟨i0 + 1, LM, f2, v2, m2, A21, c21, by go_num, HI.out.1, HI.out.2.1, hlen3, rfl, hr14l, fun a e => Nat.lt_of_lt_of_le (hl22 a e) bT.size, HTx, HLOx, hG14, hap3, hb22.trans (bT.mono hb22.size), Nat.le_trans hs22 bT.size⟩, by simp [intOf]; omega⟩
    · have hex : ¬ ((i0 : Int) < (lists.length : Int)) ∨ ¬ ((i0 : Int) < 15) := by omega
      go_wp2_with fail
      all_goals
        go_ret
        exact ⟨rfl, hb⟩
open Go.ChangeShapes Go.WideShapes Go.Deep in
set_option maxRecDepth 100000 in
theorem plays_walk {H : Type} {enc : TypeId × Value → H} (W : World) {b0 : Nat} {v : Value} {d : DataW H} {p : List MemPlace} (hv : Value.okWide Try.prog W .any b0 22 v)
    (h : DataW.Trod enc Try.prog W 0 (fun _ => true) true 22 v d p) {ts : List TypeId} {ds : List (DataW H)} (_ : (DataW.weightsEach Try.prog ts ds).all (· ≤ reachBytes) = true) :
    Calls Try.prog 3 #[v] W fun e w' => e = .returned (.bool true) ∧ Below W.heap.size W w' := by
  obtain ⟨a, len, cap, rfl⟩ := okWide_slice Try.underlying22 hv
  obtain ⟨fuel, hf⟩ := h
  obtain ⟨A, c, l, e, _, hr, ho⟩ := open_rows (encL := lsL) (ok := fun x : Lsd => RowsAt W drL x.A x.l ∧ ∀ a ∈ x.l, a.ok) (k := 1) 22 28 Try.underlying22 (by kernel_rfl) (by decide) (fun _ => rfl) (fun {n cs' y} hy => by
    obtain ⟨A, c, l, e, _, hr, ho⟩ := open_rows (encL := drL) (ok := Dr.ok) (k := 9) 28 40 Try.underlying28 (by kernel_rfl) (by decide) drL_len dr_cells hy
    exact ⟨⟨A, c, l⟩, ⟨hr, ho⟩, e⟩) hf
  have e : [Value.slice a len cap] = [.slice A l.length c] := by simpa [Value.cells] using e
  injection e with e _
  rw [e]
  exact plays_any A c l W hr ho
end Go.Proofs.Ytgpfoamhcoipgaa
