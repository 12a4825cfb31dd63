import Derived.Test.YtgpfoamhcoipgaaLnw
import Derived.Test.YtgpfoamhcoipgaaLw
import Derived.Test.YtgpfoamhcoipgaaLga
import Derived.Test.YtgpfoamhcoipgaaLu
import Derived.Deep.DeepCutAuto
import Derived.Deep.CutBlock
/-! Revisions: the walk. -/
namespace Go.Proofs.Ytgpfoamhcoipgaa
open Go.RowKit Go.Sort Go.ChangeMaps
set_option linter.unusedVariables false
set_option linter.unusedSectionVars false
attribute [-simp] Try.isAgg36 Try.sizeOf36 Try.typeInfo36 Try.type36
attribute [-simp] Try.isAgg38 Try.sizeOf38 Try.typeInfo38 Try.type38
attribute [-simp] Try.isAgg40 Try.sizeOf40 Try.typeInfo40 Try.type40
attribute [-simp] Try.isAgg27 Try.sizeOf27 Try.typeInfo27 Try.type27

set_option maxRecDepth 100000 in
set_option maxHeartbeats 16000000 in
theorem revisions_any (A : Option Addr) (cap : Nat) (acts : List Dr) (w : World) (hr : RowsAt w drL A acts) (hacts : ∀ a ∈ acts, a.ok) :
    Calls Try.prog 4 #[.slice A acts.length cap] w fun e w' => e = .returned (.bool true) ∧ Below w.heap.size w w' := by
  have zc := zeroCh
  have zl := zeroLed
  have Hc := Lib.hid sizeCh
  have haw := awake_any w
  have z9 : ∀ w, (sizeOf 40).run Try.prog w = .ok 9 w := run_sizeOf_info sizeAct
  have z1 : ∀ w, (sizeOf 38).run Try.prog w = .ok 10 w := run_sizeOf_info sizeCh
  have z2 : ∀ w, (sizeOf 36).run Try.prog w = .ok 8 w := run_sizeOf_info sizePane
  go_enter Try.func4, Try.ntmps4
  go_upto_block 0 with (first
    | (go_at_call 7; (with_reducible refine haw.mono ?_); rintro e wA ⟨rfl, b0⟩)
    | (refine at_op (.alloc 27) ?_ rfl; refine wpList_alloc_row rfl wA 27 rfl (some 3) rfl wA.heap.size rfl _ zl ?_))
  have hled := heap_alloc_new wA (.cells #[.slice none 0 0, .map none] 27)
  have hb0 := below_trans b0 (below_alloc (Below.refl wA.heap.size wA) (.cells #[.slice none 0 0, .map none] 27))
  have hnl := b0.size
  clear haw b0
  generalize wA.alloc (.cells #[.slice none 0 0, .map none] 27) = w0 at *
  generalize wA.heap.size = gl at *
  have hnb : w.heap.size ≤ w0.heap.size := hb0.size
  have hL0 := LedAt.new w0.heap.size hled
  clear hled
  generalize hbase : w0.heap.size = base at *
  go_cut [4] (fun _ wx => ∃ (L : List Ch) (f : Nm → Std), L.length ≤ 60 ∧ Taken L f ∧ (∀ c ∈ L, c.ok) ∧ LedAt wx gl base L f ∧ Below w.heap.size w wx)
  case first =>
    go_wp2_with fail
    go_loopw [4] (fun i wr => ∃ (j : Nat) (L : List Ch) (f : Nm → Std), i = .int .i64 (j : Nat) ∧ j ≤ acts.length ∧ j ≤ 60 ∧ L.length ≤ j ∧ Taken L f ∧ (∀ c ∈ L, c.ok) ∧ LedAt wr gl base L f ∧ Below w.heap.size w wr ∧ base ≤ wr.heap.size) (fun i _ => acts.length - (intOf i).toNat)
    case atStart => exact ⟨0, [], _, rfl, Nat.zero_le _, Nat.zero_le _, Nat.le_refl _, taken_nil, fun c hc => (by cases hc), hL0, hb0, Nat.le_of_eq hbase.symm⟩
    case round =>
      clear hL0 hb0
      obtain ⟨j0, L, f, rfl, hj, hj2, hLj, hT, hLo, hLed, hb, hbs⟩ := hrel
      by_cases hlt : j0 < acts.length ∧ j0 < 60
      · obtain ⟨hlt, hlt2⟩ := hlt
        obtain ⟨a, hd⟩ : ∃ a, acts[j0]? = some a := ⟨_, List.getElem?_eq_getElem hlt⟩
        obtain ⟨g, off, rfl, hrow⟩ := RowsAt.row encDr (hr.below hb) hd
        have hji : (j0 : Int) < (acts.length : Int) := by omega
        have hji2 : (j0 : Int) < 60 := by omega
        have HA := Lib.hid (hacts a (List.mem_of_getElem? hd))
        have HROW : Hid (wr.rangeAt g (off + j0 * 9) (drA a).toList) := Lib.hid hrow
        have HB := Lib.hid hb
        have HT := Lib.hid hT
        have HLO := Lib.hid hLo
        have HLED := Lib.hid hLed
        have HBS := Lib.hid hbs
        have HJ := Lib.hid (And.intro (show j0 + 1 ≤ acts.length from hlt) (And.intro (show j0 + 1 ≤ 60 from hlt2) hLj))
        clear hrow hb hT hLo hLed hbs hd hLj hj2 hr hacts hbase
        go_upto_region 7 with fail
        obtain ⟨CV, hCV⟩ : ∃ CV : Nat → Value, CV = fun j => match j with
          | 0 => .slice (some ⟨g, off, none⟩) acts.length cap
          | 1 => .int .i64 (j0 : Nat)
          | 2 => .pointer (some ⟨g, off + j0 * 9, none⟩)
          | 3 => .agg (drA a)
          | _ => undef := ⟨_, rfl⟩
        have v0 : CV 0 = .slice (some ⟨g, off, none⟩) acts.length cap := congrFun hCV 0
        have v1 : CV 1 = .int .i64 (j0 : Nat) := congrFun hCV 1
        have v2 : CV 2 = .pointer (some ⟨g, off + j0 * 9, none⟩) := congrFun hCV 2
        have v3 : CV 3 = .agg (drA a) := congrFun hCV 3
        clear hCV
        have V0 := Lib.hid v0
        have V1 := Lib.hid v1
        have V2 := Lib.hid v2
        have V3 := Lib.hid v3
        clear v0 v1 v2 v3
        refine region_run (RegC wr L CV) (by kernel_rfl) (by kernel_rfl) (by kernel_rfl) (by kernel_rfl) (RegC.start wr 8) ?_ ?_
        · intro listed vals a1 wq i hs hcl hI hR hi hu hr1
          replace hi : i < 8 := hi
          replace hs : listed.size = 8 := hs
          obtain rfl | hi1 : i = 0 ∨ 1 ≤ i := by omega
          · have t0 := hR.fixed 0 (by kernel_rfl) rfl
            exact wpOp_val rfl rfl (by rw [V0.out]; go_simp) ⟨_, rfl, hI.keep 0 (by decide)⟩
          obtain rfl | hi1 : i = 1 ∨ 2 ≤ i := by omega
          · have t4 := hR.fixed 4 (by kernel_rfl) rfl
            exact wpOp_val rfl rfl (by rw [V1.out]; go_simp) ⟨_, rfl, hI.keep 1 (by decide)⟩
          obtain rfl | hi1 : i = 2 ∨ 3 ≤ i := by omega
          · have t23 : a1.tmps[23]? = some (.slice (some ⟨g, off, none⟩) acts.length cap) := by rw [hR.dep hr1 0 (by kernel_rfl) (by decide) rfl, hI.val 0 (by decide) (dep_of hr1 (by kernel_rfl)), V0.out]
            have t24 : a1.tmps[24]? = some (.int .i64 (j0 : Nat)) := by rw [hR.dep hr1 1 (by kernel_rfl) (by decide) rfl, hI.val 1 (by decide) (dep_of hr1 (by kernel_rfl)), V1.out]
            exact wpOp_val rfl rfl (by rw [V2.out]; go_simp) ⟨_, rfl, hI.keep 2 (by decide)⟩
          obtain rfl | hi1 : i = 3 ∨ 4 ≤ i := by omega
          · have t25 : a1.tmps[25]? = some (.pointer (some ⟨g, off + j0 * 9, none⟩)) := by rw [hR.dep hr1 2 (by kernel_rfl) (by decide) rfl, hI.val 2 (by decide) (dep_of hr1 (by kernel_rfl)), V2.out]
            exact wpOp_mid rfl rfl 40 (.tmp 25) rfl g (off + j0 * 9) (getD_is t25) (drA a) _ (range_below hI.b HROW.out) Try.underlying40 rfl (by exact sizeAct) ⟨_, rfl, hI.keepV 3 (by decide) V3.out⟩
          obtain rfl | hi1 : i = 4 ∨ 5 ≤ i := by omega
          · have t3 := hR.fixed 3 (by kernel_rfl) rfl
            have hc1 := (HLED.out.below hI.b).all (by have := HJ.out.2.2; omega)
            refine wpOp_calls (f := 12) (args := #[.pointer (some ⟨gl, 0, none⟩)]) rfl rfl (by go_simp) (hc1.mono ?_)
            rintro e wz ⟨u, rfl, ho, b⟩
            obtain ⟨A9, c9, rfl, _, hr9⟩ := ho.form
            exact ⟨_, rfl, _, rfl, hI.keep4 b hr9⟩
          obtain rfl | hi1 : i = 5 ∨ 6 ≤ i := by omega
          · have t26 : a1.tmps[26]? = some (.agg (drA a)) := by rw [hR.dep hr1 3 (by kernel_rfl) (by decide) rfl, hI.val 3 (by decide) (dep_of hr1 (by kernel_rfl)), V3.out]
            have h7 : listed.getD 7 false = false := unlisted (n := 7) hcl hu (by kernel_rfl)
            obtain ⟨A9, c9, e9, hr9⟩ := hI.all (dep_of hr1 (by kernel_rfl)) h7
            have t27 : a1.tmps[27]? = some (.slice A9 L.length c9) := by rw [hR.dep hr1 4 (by kernel_rfl) (by decide) rfl, e9]
            have hc1 := change_any a HA.out A9 c9 L wq hr9 HLO.out (by have := HJ.out.2.2; omega)
            clear e9 hr9
            refine wpOp_calls (f := 8) (args := #[.agg (drA a), .slice A9 L.length c9]) rfl rfl (by go_simp) (hc1.mono ?_)
            rintro e wz ⟨c, hc, rfl, b⟩
            exact ⟨_, rfl, _, rfl, hI.keep5 b hc⟩
          obtain rfl | hi1 : i = 6 ∨ 7 ≤ i := by omega
          · have h7 : listed.getD 7 false = false := unlisted (n := 7) hcl hu (by kernel_rfl)
            exact wpOp_alloc rfl rfl 38 rfl _ zeroCh ⟨_, rfl, hI.alloc rfl h7⟩
          obtain rfl : i = 7 := by omega
          obtain ⟨g6, C6, e6, hg6, hh6, hs6, _⟩ := hI.al (dep_of hr1 (by kernel_rfl))
          obtain ⟨c, hc, e5⟩ := hI.ch (dep_of hr1 (by kernel_rfl))
          have t5 : a1.tmps[5]? = some (.pointer (some ⟨g6, 0, none⟩)) := by rw [hR.dep hr1 6 (by kernel_rfl) (by decide) rfl, e6]
          have t28 : a1.tmps[28]? = some (.agg (chA c)) := by rw [hR.dep hr1 5 (by kernel_rfl) (by decide) rfl, e5]
          exact wpOp_of_wp rfl rfl (wp_store_row 38 (.tmp 5) (.tmp 28) rfl g6 (chA c) (getD_is t5) (getD_is t28) 38 _ hh6 sizeCh hs6 (chA_one _) ⟨undef, rfl, hI.store hg6 e6 hh6 hc (by omega)⟩)
        · intro listed vals wq FF hI hall hFF
          obtain ⟨g6, C6, e6, hg6, hh6, _, hf6⟩ := hI.al (hall 6 (by decide))
          obtain ⟨c, hc, rfl⟩ := hf6 (hall 7 (by decide))
          have hF2 : FF = (((((((Act.put _ (some 23) (vals 0)).put (some 24) (vals 1)).put (some 25) (vals 2)).put (some 26) (vals 3)).put (some 27) (vals 4)).put (some 28) (vals 5)).put (some 5) (vals 6)).put none (vals 7) := hFF
          simp only [putAll] at hF2
          rw [hF2]
          have bfin := hI.b
          clear hF2 hFF hI hall hf6
          rw [e6]
          go_frame
          clear e6
          generalize vals 0 = x0
          generalize vals 1 = x1
          generalize vals 2 = x2
          generalize vals 3 = x3
          generalize vals 4 = x4
          generalize vals 5 = x5
          generalize vals 6 = x6
          generalize vals 7 = x7
          have hLq := HLED.out.below bfin
          have ba := below_alloc (Below.refl wq.heap.size wq) (.cells (chA c) 38)
          have hL9 := hLq.below ba
          have hr9 := RowsAt.one (enc := chL) (y := c) (heap_alloc_new wq (.cells (chA c) 38))
          have hstd := taken_std HT.out HLO.out
          have hadd := hL9.add hstd (cap := 1) hr9 (by intro x hx; rw [List.mem_singleton] at hx; rw [hx]; exact hc) (by have := HJ.out.2.2; rw [List.length_singleton]; omega) (by have := HBS.out; have := bfin.size; have := ba.size; omega)
          rw [List.length_singleton] at hadd
          have HC6 := Lib.hid hh6
          have HCO := Lib.hid hc
          have HB9 := Lib.hid (HB.out.trans ((below_trans bfin ba).mono HB.out.size))
          have HS9 := Lib.hid (Nat.le_trans HBS.out (below_trans bfin ba).size)
          clear hLq hr9 hstd hh6 hc ba bfin
          cases hq : addF f [c] with
          | none =>
            rw [hq] at hadd
            go_wp2_with (first
              | (refine at_op (.load 38 (.tmp 5)) ?_ rfl; refine wpList_load_row rfl 38 (.tmp 5) rfl g6 rfl 38 (chA c) (0, 0) _ HC6.out Try.underlying38 rfl Hc.out ?_)
              | (refine at_op (.buildSlice 24 1 #[(0, .tmp 29)]) ?_ rfl; refine wpList_buildOne encCh (by decide) rfl wq 24 (.tmp 29) rfl (some 30) rfl wq.heap.size rfl rfl c rfl ?_; rw [show (chL c).toArray = chA c from rfl])
              | (go_at_call 10; (with_reducible refine hadd.mono ?_); rintro e w9 ⟨rfl, b9⟩))
            exact ⟨⟨j0 + 1, L, f, by go_num, HJ.out.1, HJ.out.2.1, Nat.le_succ_of_le HJ.out.2.2, HT.out, HLO.out, hL9.below b9, HB9.out.trans (b9.mono HB9.out.size), Nat.le_trans HS9.out b9.size⟩, by simp [intOf]; omega⟩
          | some f2 =>
            rw [hq] at hadd
            go_wp2_with (first
              | (refine at_op (.load 38 (.tmp 5)) ?_ rfl; refine wpList_load_row rfl 38 (.tmp 5) rfl g6 rfl 38 (chA c) (0, 0) _ HC6.out Try.underlying38 rfl Hc.out ?_)
              | (refine at_op (.buildSlice 24 1 #[(0, .tmp 29)]) ?_ rfl; refine wpList_buildOne encCh (by decide) rfl wq 24 (.tmp 29) rfl (some 30) rfl wq.heap.size rfl rfl c rfl ?_; rw [show (chL c).toArray = chA c from rfl])
              | (go_at_call 10; (with_reducible refine hadd.mono ?_); rintro e w9 ⟨rfl, hL10, _, F9⟩))
            exact ⟨⟨j0 + 1, L ++ [c], f2, by go_num, HJ.out.1, HJ.out.2.1, by rw [List.length_append, List.length_singleton]; exact Nat.succ_le_succ HJ.out.2.2, taken_app HT.out hq, ok_snoc HLO.out HCO.out, hL10, HB9.out.trans ((F9.below (n := w.heap.size) hnb hnl)), Nat.le_trans HS9.out F9.size⟩, by simp [intOf]; omega⟩
      · have hex : ¬ ((j0 : Int) < (acts.length : Int)) ∨ ¬ ((j0 : Int) < 60) := by omega
        go_wp2_with fail
        all_goals
          go_meet
          exact ⟨L, f, by omega, hT, hLo, hLed, hb⟩
  case rest =>
  obtain ⟨L, f, hL60, hT, hLo, hLed, hb⟩ := hcut
  have HT := Lib.hid hT
  have HB := Lib.hid hb
  have HLO := Lib.hid hLo
  generalize hw4 : wc = w1 at *
  clear hw4 hT hb hLo hL0 hb0
  have hall := hLed.all (by omega)
  go_upto_block 2 with (go_at_call 12; (with_reducible refine hall.mono ?_); rintro e w5 ⟨u6, rfl, ho6, b5⟩; obtain ⟨A6, c6, rfl, _, hr6⟩ := ho6.form)
  have HB5 := Lib.hid (HB.out.trans (b5.mono HB.out.size))
  clear hall hLed ho6 b5
  go_wp2_with fail
  go_loopw [7] (fun i wr => ∃ i0 : Nat, i = .int .i64 (i0 : Nat) ∧ i0 ≤ L.length ∧ Below w5.heap.size w5 wr) (fun i _ => L.length - (intOf i).toNat)
  case atStart => exact ⟨0, rfl, Nat.zero_le _, Below.refl _ _⟩
  case round =>
    obtain ⟨i0, rfl, hi, hb⟩ := hrel
    by_cases hlt : i0 < L.length
    · obtain ⟨c, hc⟩ : ∃ c, L[i0]? = some c := ⟨_, List.getElem?_eq_getElem hlt⟩
      obtain ⟨g, off, rfl, hrowc⟩ := RowsAt.row encCh hr6 hc
      obtain ⟨gP, s, hTP, hs⟩ := taken_at HT.out hc
      have hok := revOk_of hTP (by rw [List.length_take]; omega) hs
      have hpl := putsOf_le c.p.nm (L.take i0)
      have hpl2 : putsOf c.p.nm (L.take i0) ≤ 60 := by rw [List.length_take] at hpl; omega
      have hlo := lastOf_ok (n := c.p.nm) (P := L.take i0) (fun x hx => HLO.out x (List.mem_of_mem_take hx))
      have hco := HLO.out c (List.mem_of_getElem? hc)
      have hgw : g < w5.heap.size := cell_lt (a := ⟨g, off + i0 * 10 + 0, none⟩) (hrowc 0 _ rfl)
      have hii : (i0 : Int) < (L.length : Int) := by omega
      have HOK := Lib.hid hok
      have HR6 := Lib.hid hr6
      have HRC := Lib.hid hrowc
      have HI := Lib.hid hlt
      clear hs hTP hok hpl hrowc hr6
      have k9 := heap_alloc_new wr (.cells (chA zCh) 38)
      have b9 := hb.trans ((below_alloc (Below.refl wr.heap.size wr) (.cells (chA zCh) 38)).mono hb.size)
      have hg9 := hb.size
      go_upto_block 4 with (refine at_op (.alloc 38) ?_ rfl; refine wpList_alloc_row rfl wr 38 rfl (some 9) rfl wr.heap.size rfl (chA zCh) zc ?_)
      clear hb
      generalize wr.alloc (.cells (chA zCh) 38) = w6 at *
      generalize wr.heap.size = g9 at *
      go_cut [8] (fun v wx => v = .int .u64 (putsOf c.p.nm (L.take i0) : Nat) ∧ wx.heap[g9]? = some (.cells (chA (lastOf c.p.nm (L.take i0))) 38 (0, 0)) ∧ Below w5.heap.size w5 wx)
      case first =>
        go_wp2_with fail
        go_loopw [8, 10] (fun p k wr => ∃ k0 : Nat, k = .int .i64 (k0 : Nat) ∧ k0 ≤ i0 ∧ p = .int .u64 (putsOf c.p.nm (L.take k0) : Nat) ∧ wr.heap[g9]? = some (.cells (chA (lastOf c.p.nm (L.take k0))) 38 (0, 0)) ∧ Below w5.heap.size w5 wr) (fun _ k _ => i0 - (intOf k).toNat)
        case atStart => exact ⟨0, rfl, Nat.zero_le _, rfl, k9, b9⟩
        case round =>
          clear k9 b9
          obtain ⟨k0, rfl, hk, rfl, hG, hb⟩ := hrel
          generalize hw4 : wr = wk at *
          clear hw4
          by_cases hlk : k0 < i0
          · have hlk2 : k0 < L.length := Nat.lt_trans hlk hlt
            obtain ⟨d, hd⟩ : ∃ d, L[k0]? = some d := ⟨_, List.getElem?_eq_getElem hlk2⟩
            have hrowd : wk.rangeAt g (off + k0 * 10) (chL d) := by
              obtain ⟨g', off', e', h'⟩ := RowsAt.row encCh HR6.out hd
              injection e' with e'
              injection e' with e1 e2
              subst e1 e2
              exact range_below hb h'
            have hrowc : wk.rangeAt g (off + i0 * 10) (chL c) := range_below hb HRC.out
            have hkk : (k0 : Int) < (L.length : Int) := by omega
            have hki : (k0 : Int) < (i0 : Int) := by omega
            have htk : L.take (k0 + 1) = L.take k0 ++ [d] := by rw [List.take_add_one, hd]; rfl
            have hp1 : putsOf c.p.nm (L.take (k0 + 1)) = if d.p.nm = c.p.nm ∧ d.put = true then putsOf c.p.nm (L.take k0) + 1 else putsOf c.p.nm (L.take k0) := by rw [htk, putsOf_snoc]
            have hl1 : lastOf c.p.nm (L.take (k0 + 1)) = if d.p.nm = c.p.nm then d else lastOf c.p.nm (L.take k0) := by rw [htk, lastOf_snoc]
            have hpb := putsOf_le c.p.nm (L.take k0)
            have hpb2 : putsOf c.p.nm (L.take k0) ≤ 60 := by rw [List.length_take] at hpb; omega
            have HP1 := Lib.hid hp1
            have HL1 := Lib.hid hl1
            have e0 : wk.cell? ⟨g, off + k0 * 10, none⟩ = some (.bool d.put) := hrowd 0 _ rfl
            have e2 : wk.cell? ⟨g, off + k0 * 10 + 2, none⟩ = some (.string d.p.nm.key) := hrowd 2 _ rfl
            have e3 : wk.cell? ⟨g, off + k0 * 10 + 3, none⟩ = some (.int .i64 d.p.nm.s) := hrowd 3 _ rfl
            have e4 : wk.cell? ⟨g, off + k0 * 10 + 4, none⟩ = some (.int .i64 d.p.nm.e) := hrowd 4 _ rfl
            have q2 : wk.cell? ⟨g, off + i0 * 10 + 2, none⟩ = some (.string c.p.nm.key) := hrowc 2 _ rfl
            have q3 : wk.cell? ⟨g, off + i0 * 10 + 3, none⟩ = some (.int .i64 c.p.nm.s) := hrowc 3 _ rfl
            have q4 : wk.cell? ⟨g, off + i0 * 10 + 4, none⟩ = some (.int .i64 c.p.nm.e) := hrowc 4 _ rfl
            have HG := Lib.hid hG
            have HBB := Lib.hid hb
            have HRD : Hid (wk.rangeAt g (off + k0 * 10) (chA d).toList) := Lib.hid hrowd
            have E0 := Lib.hid e0
            clear hpb hp1 hl1 htk hrowd hrowc hd hG hb e0
            generalize hpp : putsOf c.p.nm (L.take k0) = pp at *
            generalize hll : lastOf c.p.nm (L.take k0) = ll at *
            clear hpp hll
            go_wp2_with fail
            obtain ⟨bb, hbb⟩ : ∃ bb : Bool, bb = decide (d.p.nm = c.p.nm) := ⟨_, rfl⟩
            have HBBB := Lib.hid hbb
            clear hbb
            go_cut [71] (fun b wx => b = .bool bb ∧ ∃ n, wx = wk.drewN n)
            case first =>
              rcases nm_cases d.p.nm c.p.nm with ⟨hk, hne⟩ | ⟨hk, hs, hne⟩ | ⟨hk, hs, hee, hne⟩ | ⟨hk, hs, hee, hne⟩
              · obtain rfl : bb = false := by rw [HBBB.out]; exact decide_eq_false hne
                clear hne
                go_quiet (fail)
                go_wp2_with fail
                go_meet
                exact ⟨rfl, _, rfl⟩
              · obtain rfl : bb = false := by rw [HBBB.out]; exact decide_eq_false hne
                clear hne
                go_quiet (fail)
                go_wp2_with fail
                go_meet
                exact ⟨rfl, _, rfl⟩
              · obtain rfl : bb = false := by rw [HBBB.out]; exact decide_eq_false hne
                clear hne
                go_quiet (fail)
                go_wp2_with fail
                go_meet
                exact ⟨rfl, _, rfl⟩
              · obtain rfl : bb = true := by rw [HBBB.out]; exact decide_eq_true hne
                clear hne
                go_quiet (fail)
                go_wp2_with fail
                go_meet
                exact ⟨rfl, _, rfl⟩
            case rest =>
            obtain ⟨rfl, nq, rfl⟩ := hcut
            have HG6 : Hid ((wk.drewN nq).heap[g9]? = some (.cells (chA ll) 38 (0, 0))) := Lib.hid HG.out
            have HB6 := Lib.hid (below_drewN HBB.out nq)
            have HRD6 : Hid ((wk.drewN nq).rangeAt g (off + k0 * 10) (chA d).toList) := Lib.hid HRD.out
            have E06 : Hid ((wk.drewN nq).cell? ⟨g, off + k0 * 10, none⟩ = some (.bool d.put)) := Lib.hid E0.out
            clear e2 e3 e4 q2 q3 q4 HG HBB HRD E0
            generalize wk.drewN nq = w7 at *
            cases bb
            · have hne : ¬ d.p.nm = c.p.nm := of_decide_eq_false HBBB.out.symm
              go_wp2_with fail
              exact ⟨⟨k0 + 1, by go_num, hlk, by rw [HP1.out, if_neg (fun q => hne q.1)], by rw [HL1.out, if_neg hne]; exact HG6.out, HB6.out⟩, by simp [intOf]; omega⟩
            · have hne : d.p.nm = c.p.nm := of_decide_eq_true HBBB.out.symm
              have HNE := Lib.hid hne
              clear hne HBBB
              go_upto_region 20 with (first
                | (refine at_op (.load 38 (.tmp 74)) ?_ rfl; refine wpList_load_mid rfl 38 (.tmp 74) rfl g (off + k0 * 10) rfl (chA d).toList _ HRD6.out Try.underlying38 rfl (by exact sizeCh) ?_; rw [Array.toArray_toList])
                | (refine at_op (.store 38 (.tmp 9) (.tmp 75)) ?_ rfl; refine wpList_store_row rfl 38 (.tmp 9) (.tmp 75) rfl g9 (chA d) rfl rfl 38 _ HG6.out Hc.out rfl (chA_one _) ?_))
              have G8 := setRow_heap w7 g9 _ (chA d) _ _ HG6.out
              have B8 := Lib.hid (below_setRow HB6.out hg9 (chA d))
              have e08 := (cell_setRow w7 (g := g9) (b := g) (chA d) (off + k0 * 10) (by omega)).trans E06.out
              have HG8 := Lib.hid G8
              clear G8 HG6 HB6 HRD6 E06
              generalize w7.setRow g9 (chA d) = w8 at *
              cases hp : d.put
              · rw [hp] at e08
                go_wp2_with fail
                exact ⟨⟨k0 + 1, by go_num, hlk, by rw [HP1.out, if_neg (fun q => by rw [hp] at q; cases q.2)], by rw [HL1.out, if_pos HNE.out]; exact HG8.out, B8.out⟩, by simp [intOf]; omega⟩
              · rw [hp] at e08
                go_wp2_with fail
                exact ⟨⟨k0 + 1, by go_num, hlk, by rw [HP1.out, if_pos ⟨HNE.out, hp⟩]; go_num, by rw [HL1.out, if_pos HNE.out]; exact HG8.out, B8.out⟩, by simp [intOf]; omega⟩
          · obtain rfl : k0 = i0 := by omega
            go_wp2_with fail
            go_meet
            exact ⟨rfl, hG, hb⟩
      case rest =>
      obtain ⟨rfl, hG, hb⟩ := hcut
      generalize hw4 : wc = w7 at *
      clear hw4 k9 b9
      have hrowc : w7.rangeAt g (off + i0 * 10) (chL c) := range_below hb HRC.out
      generalize hpp : putsOf c.p.nm (L.take i0) = pp at *
      generalize hll : lastOf c.p.nm (L.take i0) = ll at *
      clear hpp hll
      have q0 : w7.cell? ⟨g, off + i0 * 10, none⟩ = some (.bool c.put) := hrowc 0 _ rfl
      have q1 : w7.cell? ⟨g, off + i0 * 10 + 1, none⟩ = some (.int .u64 (c.rev : Int)) := hrowc 1 _ rfl
      have Q5 : Hid (w7.rangeAt g (off + i0 * 10 + 5) (avC c.p.a).toList) := Lib.hid (range_sub hrowc 5 5 rfl)
      have l0 := (cell_of_row _ _ 0 _ _ _ hG).trans (show (chA ll)[0]? = some (.bool ll.put) from rfl)
      have l1 := (cell_of_row _ _ 1 _ _ _ hG).trans (show (chA ll)[1]? = some (.int .u64 (ll.rev : Int)) from rfl)
      have l5 := World.rangeAt_of_block hG 5 5
      rw [show ((chA ll).extract 5 (5 + 5)).toList = (avC ll.p.a).toList from rfl] at l5
      have L5 := Lib.hid l5
      have HBB := Lib.hid hb
      have hsm := fun w => refAggSame_any ll.p.a c.p.a w hlo.a hco.a
      have hb7 := hb.size
      clear hrowc hG hb l5 HR6 HRC HT HLO HB HB5
      go_upto_region 22 with fail
      cases hp : c.put
      · obtain ⟨n1, n2, n3⟩ := HOK.out.not hp
        rw [n3] at hsm
        rw [hp] at q0
        rw [n1] at l0
        rw [n2] at l1
        have Q0 := Lib.hid q0
        have Q1 := Lib.hid q1
        have L0 := Lib.hid l0
        have L1 := Lib.hid l1
        clear n1 n2 n3 q0 q1 l0 l1 HOK hp hc hpl2
        obtain ⟨CV, hCV⟩ : ∃ CV : Nat → Value, CV = fun j => match j with
          | 0 => .slice (some ⟨g, off, none⟩) L.length c6
          | 1 => .int .i64 (i0 : Nat)
          | 2 => .pointer (some ⟨g, off + i0 * 10, none⟩)
          | 3 => .pointer (some ⟨g, off + i0 * 10, none⟩)
          | 4 => .bool false
          | 5 => .bool false
          | 6 => undef
          | 7 => undef
          | 8 => undef
          | 9 => undef
          | 10 => undef
          | 11 => undef
          | 12 => undef
          | 13 => undef
          | 14 => undef
          | 15 => undef
          | 16 => undef
          | 17 => undef
          | 18 => undef
          | 19 => undef
          | 20 => undef
          | 21 => .bool false
          | 22 => .bool false
          | 23 => .slice (some ⟨g, off, none⟩) L.length c6
          | 24 => .int .i64 (i0 : Nat)
          | 25 => .pointer (some ⟨g, off + i0 * 10, none⟩)
          | 26 => .pointer (some ⟨g, off + i0 * 10, none⟩)
          | 27 => .bool false
          | 28 => .bool true
          | 29 => .bool true
          | 30 => .pointer (some ⟨g9, 0, none⟩)
          | 31 => .bool true
          | 32 => .bool false
          | 33 => .bool false
          | 34 => .pointer (some ⟨g9, 1, none⟩)
          | 35 => .int .u64 (c.rev : Int)
          | 36 => .slice (some ⟨g, off, none⟩) L.length c6
          | 37 => .int .i64 (i0 : Nat)
          | 38 => .pointer (some ⟨g, off + i0 * 10, none⟩)
          | 39 => .pointer (some ⟨g, off + i0 * 10 + 1, none⟩)
          | 40 => .int .u64 (c.rev : Int)
          | 41 => .bool false
          | 42 => .bool false
          | 43 => .bool false
          | 44 => .pointer (some ⟨g9, 2, none⟩)
          | 45 => .pointer (some ⟨g9, 5, none⟩)
          | 46 => .agg (avC ll.p.a)
          | 47 => .slice (some ⟨g, off, none⟩) L.length c6
          | 48 => .int .i64 (i0 : Nat)
          | 49 => .pointer (some ⟨g, off + i0 * 10, none⟩)
          | 50 => .pointer (some ⟨g, off + i0 * 10 + 2, none⟩)
          | 51 => .pointer (some ⟨g, off + i0 * 10 + 5, none⟩)
          | 52 => .agg (avC c.p.a)
          | 53 => .bool true
          | 54 => .bool false
          | 55 => .bool false
          | 56 => .bool false
          | 57 => .bool false
          | _ => undef := ⟨_, rfl⟩
        obtain ⟨isO, hO⟩ : ∃ isO : Nat → Bool, isO = fun j => match j with
          | _ => false := ⟨_, rfl⟩
        obtain ⟨BL, hBL⟩ : ∃ BL : Nat → List Int, BL = fun j => match j with
          | _ => [] := ⟨_, rfl⟩
        have v0 : CV 0 = .slice (some ⟨g, off, none⟩) L.length c6 := congrFun hCV 0
        have o0 : isO 0 = false := congrFun hO 0
        have v1 : CV 1 = .int .i64 (i0 : Nat) := congrFun hCV 1
        have o1 : isO 1 = false := congrFun hO 1
        have v2 : CV 2 = .pointer (some ⟨g, off + i0 * 10, none⟩) := congrFun hCV 2
        have o2 : isO 2 = false := congrFun hO 2
        have v3 : CV 3 = .pointer (some ⟨g, off + i0 * 10, none⟩) := congrFun hCV 3
        have o3 : isO 3 = false := congrFun hO 3
        have v4 : CV 4 = .bool false := congrFun hCV 4
        have o4 : isO 4 = false := congrFun hO 4
        have v5 : CV 5 = .bool false := congrFun hCV 5
        have o5 : isO 5 = false := congrFun hO 5
        have v6 : CV 6 = undef := congrFun hCV 6
        have o6 : isO 6 = false := congrFun hO 6
        have v7 : CV 7 = undef := congrFun hCV 7
        have o7 : isO 7 = false := congrFun hO 7
        have v8 : CV 8 = undef := congrFun hCV 8
        have o8 : isO 8 = false := congrFun hO 8
        have v9 : CV 9 = undef := congrFun hCV 9
        have o9 : isO 9 = false := congrFun hO 9
        have v10 : CV 10 = undef := congrFun hCV 10
        have o10 : isO 10 = false := congrFun hO 10
        have v11 : CV 11 = undef := congrFun hCV 11
        have o11 : isO 11 = false := congrFun hO 11
        have v12 : CV 12 = undef := congrFun hCV 12
        have o12 : isO 12 = false := congrFun hO 12
        have v13 : CV 13 = undef := congrFun hCV 13
        have o13 : isO 13 = false := congrFun hO 13
        have v14 : CV 14 = undef := congrFun hCV 14
        have o14 : isO 14 = false := congrFun hO 14
        have v15 : CV 15 = undef := congrFun hCV 15
        have o15 : isO 15 = false := congrFun hO 15
        have v16 : CV 16 = undef := congrFun hCV 16
        have o16 : isO 16 = false := congrFun hO 16
        have v17 : CV 17 = undef := congrFun hCV 17
        have o17 : isO 17 = false := congrFun hO 17
        have v18 : CV 18 = undef := congrFun hCV 18
        have o18 : isO 18 = false := congrFun hO 18
        have v19 : CV 19 = undef := congrFun hCV 19
        have o19 : isO 19 = false := congrFun hO 19
        have v20 : CV 20 = undef := congrFun hCV 20
        have o20 : isO 20 = false := congrFun hO 20
        have v21 : CV 21 = .bool false := congrFun hCV 21
        have o21 : isO 21 = false := congrFun hO 21
        have v22 : CV 22 = .bool false := congrFun hCV 22
        have o22 : isO 22 = false := congrFun hO 22
        have v23 : CV 23 = .slice (some ⟨g, off, none⟩) L.length c6 := congrFun hCV 23
        have o23 : isO 23 = false := congrFun hO 23
        have v24 : CV 24 = .int .i64 (i0 : Nat) := congrFun hCV 24
        have o24 : isO 24 = false := congrFun hO 24
        have v25 : CV 25 = .pointer (some ⟨g, off + i0 * 10, none⟩) := congrFun hCV 25
        have o25 : isO 25 = false := congrFun hO 25
        have v26 : CV 26 = .pointer (some ⟨g, off + i0 * 10, none⟩) := congrFun hCV 26
        have o26 : isO 26 = false := congrFun hO 26
        have v27 : CV 27 = .bool false := congrFun hCV 27
        have o27 : isO 27 = false := congrFun hO 27
        have v28 : CV 28 = .bool true := congrFun hCV 28
        have o28 : isO 28 = false := congrFun hO 28
        have v29 : CV 29 = .bool true := congrFun hCV 29
        have o29 : isO 29 = false := congrFun hO 29
        have v30 : CV 30 = .pointer (some ⟨g9, 0, none⟩) := congrFun hCV 30
        have o30 : isO 30 = false := congrFun hO 30
        have v31 : CV 31 = .bool true := congrFun hCV 31
        have o31 : isO 31 = false := congrFun hO 31
        have v32 : CV 32 = .bool false := congrFun hCV 32
        have o32 : isO 32 = false := congrFun hO 32
        have v33 : CV 33 = .bool false := congrFun hCV 33
        have o33 : isO 33 = false := congrFun hO 33
        have v34 : CV 34 = .pointer (some ⟨g9, 1, none⟩) := congrFun hCV 34
        have o34 : isO 34 = false := congrFun hO 34
        have v35 : CV 35 = .int .u64 (c.rev : Int) := congrFun hCV 35
        have o35 : isO 35 = false := congrFun hO 35
        have v36 : CV 36 = .slice (some ⟨g, off, none⟩) L.length c6 := congrFun hCV 36
        have o36 : isO 36 = false := congrFun hO 36
        have v37 : CV 37 = .int .i64 (i0 : Nat) := congrFun hCV 37
        have o37 : isO 37 = false := congrFun hO 37
        have v38 : CV 38 = .pointer (some ⟨g, off + i0 * 10, none⟩) := congrFun hCV 38
        have o38 : isO 38 = false := congrFun hO 38
        have v39 : CV 39 = .pointer (some ⟨g, off + i0 * 10 + 1, none⟩) := congrFun hCV 39
        have o39 : isO 39 = false := congrFun hO 39
        have v40 : CV 40 = .int .u64 (c.rev : Int) := congrFun hCV 40
        have o40 : isO 40 = false := congrFun hO 40
        have v41 : CV 41 = .bool false := congrFun hCV 41
        have o41 : isO 41 = false := congrFun hO 41
        have v42 : CV 42 = .bool false := congrFun hCV 42
        have o42 : isO 42 = false := congrFun hO 42
        have v43 : CV 43 = .bool false := congrFun hCV 43
        have o43 : isO 43 = false := congrFun hO 43
        have v44 : CV 44 = .pointer (some ⟨g9, 2, none⟩) := congrFun hCV 44
        have o44 : isO 44 = false := congrFun hO 44
        have v45 : CV 45 = .pointer (some ⟨g9, 5, none⟩) := congrFun hCV 45
        have o45 : isO 45 = false := congrFun hO 45
        have v46 : CV 46 = .agg (avC ll.p.a) := congrFun hCV 46
        have o46 : isO 46 = false := congrFun hO 46
        have v47 : CV 47 = .slice (some ⟨g, off, none⟩) L.length c6 := congrFun hCV 47
        have o47 : isO 47 = false := congrFun hO 47
        have v48 : CV 48 = .int .i64 (i0 : Nat) := congrFun hCV 48
        have o48 : isO 48 = false := congrFun hO 48
        have v49 : CV 49 = .pointer (some ⟨g, off + i0 * 10, none⟩) := congrFun hCV 49
        have o49 : isO 49 = false := congrFun hO 49
        have v50 : CV 50 = .pointer (some ⟨g, off + i0 * 10 + 2, none⟩) := congrFun hCV 50
        have o50 : isO 50 = false := congrFun hO 50
        have v51 : CV 51 = .pointer (some ⟨g, off + i0 * 10 + 5, none⟩) := congrFun hCV 51
        have o51 : isO 51 = false := congrFun hO 51
        have v52 : CV 52 = .agg (avC c.p.a) := congrFun hCV 52
        have o52 : isO 52 = false := congrFun hO 52
        have v53 : CV 53 = .bool true := congrFun hCV 53
        have o53 : isO 53 = false := congrFun hO 53
        have v54 : CV 54 = .bool false := congrFun hCV 54
        have o54 : isO 54 = false := congrFun hO 54
        have v55 : CV 55 = .bool false := congrFun hCV 55
        have o55 : isO 55 = false := congrFun hO 55
        have v56 : CV 56 = .bool false := congrFun hCV 56
        have o56 : isO 56 = false := congrFun hO 56
        have v57 : CV 57 = .bool false := congrFun hCV 57
        have o57 : isO 57 = false := congrFun hO 57
        clear hCV hO hBL
        have V0 := Lib.hid v0
        have V1 := Lib.hid v1
        have V2 := Lib.hid v2
        have V3 := Lib.hid v3
        have V4 := Lib.hid v4
        have V5 := Lib.hid v5
        have V6 := Lib.hid v6
        have V7 := Lib.hid v7
        have V8 := Lib.hid v8
        have V9 := Lib.hid v9
        have V10 := Lib.hid v10
        have V11 := Lib.hid v11
        have V12 := Lib.hid v12
        have V13 := Lib.hid v13
        have V14 := Lib.hid v14
        have V15 := Lib.hid v15
        have V16 := Lib.hid v16
        have V17 := Lib.hid v17
        have V18 := Lib.hid v18
        have V19 := Lib.hid v19
        have V20 := Lib.hid v20
        have V21 := Lib.hid v21
        have V22 := Lib.hid v22
        have V23 := Lib.hid v23
        have V24 := Lib.hid v24
        have V25 := Lib.hid v25
        have V26 := Lib.hid v26
        have V27 := Lib.hid v27
        have V28 := Lib.hid v28
        have V29 := Lib.hid v29
        have V30 := Lib.hid v30
        have V31 := Lib.hid v31
        have V32 := Lib.hid v32
        have V33 := Lib.hid v33
        have V34 := Lib.hid v34
        have V35 := Lib.hid v35
        have V36 := Lib.hid v36
        have V37 := Lib.hid v37
        have V38 := Lib.hid v38
        have V39 := Lib.hid v39
        have V40 := Lib.hid v40
        have V41 := Lib.hid v41
        have V42 := Lib.hid v42
        have V43 := Lib.hid v43
        have V44 := Lib.hid v44
        have V45 := Lib.hid v45
        have V46 := Lib.hid v46
        have V47 := Lib.hid v47
        have V48 := Lib.hid v48
        have V49 := Lib.hid v49
        have V50 := Lib.hid v50
        have V51 := Lib.hid v51
        have V52 := Lib.hid v52
        have V53 := Lib.hid v53
        have V54 := Lib.hid v54
        have V55 := Lib.hid v55
        have V56 := Lib.hid v56
        have V57 := Lib.hid v57
        clear v0 v1 v2 v3 v4 v5 v6 v7 v8 v9 v10 v11 v12 v13 v14 v15 v16 v17 v18 v19 v20 v21 v22 v23 v24 v25 v26 v27 v28 v29 v30 v31 v32 v33 v34 v35 v36 v37 v38 v39 v40 v41 v42 v43 v44 v45 v46 v47 v48 v49 v50 v51 v52 v53 v54 v55 v56 v57
        refine region_run (RegI w7 isO BL CV) (by kernel_rfl) (by kernel_rfl) (by kernel_rfl) (by kernel_rfl) (RegI.start w7 58) ?_ ?_
        · intro listed vals a1 wq i hs hcl hI hR hi hu hr1
          replace hi : i < 58 := hi
          obtain rfl | hi1 : i = 0 ∨ 1 ≤ i := by omega
          · have t6 := hR.fixed 6 (by kernel_rfl) rfl
            exact wpOp_val rfl rfl (by rw [V0.out]; go_simp) ⟨_, rfl, hI.keep (Below.refl _ _) 0 o0⟩
          obtain rfl | hi1 : i = 1 ∨ 2 ≤ i := by omega
          · have t7 := hR.fixed 7 (by kernel_rfl) rfl
            exact wpOp_val rfl rfl (by rw [V1.out]; go_simp) ⟨_, rfl, hI.keep (Below.refl _ _) 1 o1⟩
          obtain rfl | hi1 : i = 2 ∨ 3 ≤ i := by omega
          · have t83 : a1.tmps[83]? = some (.slice (some ⟨g, off, none⟩) L.length c6) := hI.get hR hr1 0 o0 (by kernel_rfl) (by decide) rfl V0.out
            have t84 : a1.tmps[84]? = some (.int .i64 (i0 : Nat)) := hI.get hR hr1 1 o1 (by kernel_rfl) (by decide) rfl V1.out
            exact wpOp_val rfl rfl (by rw [V2.out]; go_simp) ⟨_, rfl, hI.keep (Below.refl _ _) 2 o2⟩
          obtain rfl | hi1 : i = 3 ∨ 4 ≤ i := by omega
          · have t85 : a1.tmps[85]? = some (.pointer (some ⟨g, off + i0 * 10, none⟩)) := hI.get hR hr1 2 o2 (by kernel_rfl) (by decide) rfl V2.out
            exact wpOp_val rfl rfl (by rw [V3.out]; go_simp) ⟨_, rfl, hI.keep (Below.refl _ _) 3 o3⟩
          obtain rfl | hi1 : i = 4 ∨ 5 ≤ i := by omega
          · have t86 : a1.tmps[86]? = some (.pointer (some ⟨g, off + i0 * 10, none⟩)) := hI.get hR hr1 3 o3 (by kernel_rfl) (by decide) rfl V3.out
            have cc := cell_below hI.b Q0.out
            exact wpOp_val rfl rfl (by rw [V4.out]; go_simp) ⟨_, rfl, hI.keep (Below.refl _ _) 4 o4⟩
          obtain rfl | hi1 : i = 5 ∨ 6 ≤ i := by omega
          · have t87 : a1.tmps[87]? = some (.bool false) := hI.get hR hr1 4 o4 (by kernel_rfl) (by decide) rfl V4.out
            exact wpOp_val rfl rfl (by rw [V5.out]; go_simp) ⟨_, rfl, hI.keep (Below.refl _ _) 5 o5⟩
          obtain rfl | hi1 : i = 6 ∨ 7 ≤ i := by omega
          · have t88 : a1.tmps[88]? = some (.bool false) := hI.get hR hr1 5 o5 (by kernel_rfl) (by decide) rfl V5.out
            exact wpOp_skipped rfl (wanted_no rfl rfl t88) ⟨_, rfl, hI.keepV (Below.refl _ _) 6 o6 V6.out⟩
          obtain rfl | hi1 : i = 7 ∨ 8 ≤ i := by omega
          · have t88 : a1.tmps[88]? = some (.bool false) := hI.get hR hr1 5 o5 (by kernel_rfl) (by decide) rfl V5.out
            exact wpOp_skipped rfl (wanted_no rfl rfl t88) ⟨_, rfl, hI.keepV (Below.refl _ _) 7 o7 V7.out⟩
          obtain rfl | hi1 : i = 8 ∨ 9 ≤ i := by omega
          · have t88 : a1.tmps[88]? = some (.bool false) := hI.get hR hr1 5 o5 (by kernel_rfl) (by decide) rfl V5.out
            exact wpOp_skipped rfl (wanted_no rfl rfl t88) ⟨_, rfl, hI.keepV (Below.refl _ _) 8 o8 V8.out⟩
          obtain rfl | hi1 : i = 9 ∨ 10 ≤ i := by omega
          · have t88 : a1.tmps[88]? = some (.bool false) := hI.get hR hr1 5 o5 (by kernel_rfl) (by decide) rfl V5.out
            exact wpOp_skipped rfl (wanted_no rfl rfl t88) ⟨_, rfl, hI.keepV (Below.refl _ _) 9 o9 V9.out⟩
          obtain rfl | hi1 : i = 10 ∨ 11 ≤ i := by omega
          · have t88 : a1.tmps[88]? = some (.bool false) := hI.get hR hr1 5 o5 (by kernel_rfl) (by decide) rfl V5.out
            exact wpOp_skipped rfl (wanted_no rfl rfl t88) ⟨_, rfl, hI.keepV (Below.refl _ _) 10 o10 V10.out⟩
          obtain rfl | hi1 : i = 11 ∨ 12 ≤ i := by omega
          · have t88 : a1.tmps[88]? = some (.bool false) := hI.get hR hr1 5 o5 (by kernel_rfl) (by decide) rfl V5.out
            exact wpOp_skipped rfl (wanted_no rfl rfl t88) ⟨_, rfl, hI.keepV (Below.refl _ _) 11 o11 V11.out⟩
          obtain rfl | hi1 : i = 12 ∨ 13 ≤ i := by omega
          · have t88 : a1.tmps[88]? = some (.bool false) := hI.get hR hr1 5 o5 (by kernel_rfl) (by decide) rfl V5.out
            exact wpOp_skipped rfl (wanted_no rfl rfl t88) ⟨_, rfl, hI.keepV (Below.refl _ _) 12 o12 V12.out⟩
          obtain rfl | hi1 : i = 13 ∨ 14 ≤ i := by omega
          · have t88 : a1.tmps[88]? = some (.bool false) := hI.get hR hr1 5 o5 (by kernel_rfl) (by decide) rfl V5.out
            exact wpOp_skipped rfl (wanted_no rfl rfl t88) ⟨_, rfl, hI.keepV (Below.refl _ _) 13 o13 V13.out⟩
          obtain rfl | hi1 : i = 14 ∨ 15 ≤ i := by omega
          · have t96 : a1.tmps[96]? = some (undef) := hI.get hR hr1 13 o13 (by kernel_rfl) (by decide) rfl V13.out
            exact wpOp_skipped rfl (wanted_undef rfl rfl t96) ⟨_, rfl, hI.keepV (Below.refl _ _) 14 o14 V14.out⟩
          obtain rfl | hi1 : i = 15 ∨ 16 ≤ i := by omega
          · have t96 : a1.tmps[96]? = some (undef) := hI.get hR hr1 13 o13 (by kernel_rfl) (by decide) rfl V13.out
            exact wpOp_skipped rfl (wanted_undef rfl rfl t96) ⟨_, rfl, hI.keepV (Below.refl _ _) 15 o15 V15.out⟩
          obtain rfl | hi1 : i = 16 ∨ 17 ≤ i := by omega
          · have t96 : a1.tmps[96]? = some (undef) := hI.get hR hr1 13 o13 (by kernel_rfl) (by decide) rfl V13.out
            exact wpOp_skipped rfl (wanted_undef rfl rfl t96) ⟨_, rfl, hI.keepV (Below.refl _ _) 16 o16 V16.out⟩
          obtain rfl | hi1 : i = 17 ∨ 18 ≤ i := by omega
          · have t99 : a1.tmps[99]? = some (undef) := hI.get hR hr1 16 o16 (by kernel_rfl) (by decide) rfl V16.out
            exact wpOp_skipped rfl (wanted_undef rfl rfl t99) ⟨_, rfl, hI.keepV (Below.refl _ _) 17 o17 V17.out⟩
          obtain rfl | hi1 : i = 18 ∨ 19 ≤ i := by omega
          · have t99 : a1.tmps[99]? = some (undef) := hI.get hR hr1 16 o16 (by kernel_rfl) (by decide) rfl V16.out
            exact wpOp_skipped rfl (wanted_undef rfl rfl t99) ⟨_, rfl, hI.keepV (Below.refl _ _) 18 o18 V18.out⟩
          obtain rfl | hi1 : i = 19 ∨ 20 ≤ i := by omega
          · have t96 : a1.tmps[96]? = some (undef) := hI.get hR hr1 13 o13 (by kernel_rfl) (by decide) rfl V13.out
            exact wpOp_skipped rfl (wanted_undef rfl rfl t96) ⟨_, rfl, hI.keepV (Below.refl _ _) 19 o19 V19.out⟩
          obtain rfl | hi1 : i = 20 ∨ 21 ≤ i := by omega
          · have t88 : a1.tmps[88]? = some (.bool false) := hI.get hR hr1 5 o5 (by kernel_rfl) (by decide) rfl V5.out
            exact wpOp_skipped rfl (wanted_no rfl rfl t88) ⟨_, rfl, hI.keepV (Below.refl _ _) 20 o20 V20.out⟩
          obtain rfl | hi1 : i = 21 ∨ 22 ≤ i := by omega
          · have t88 : a1.tmps[88]? = some (.bool false) := hI.get hR hr1 5 o5 (by kernel_rfl) (by decide) rfl V5.out
            have t103 : a1.tmps[103]? = some (undef) := hI.get hR hr1 20 o20 (by kernel_rfl) (by decide) rfl V20.out
            exact wpOp_val rfl rfl (by rw [V21.out]; go_simp) ⟨_, rfl, hI.keep (Below.refl _ _) 21 o21⟩
          obtain rfl | hi1 : i = 22 ∨ 23 ≤ i := by omega
          · have t104 : a1.tmps[104]? = some (.bool false) := hI.get hR hr1 21 o21 (by kernel_rfl) (by decide) rfl V21.out
            exact wpOp_val rfl rfl (by rw [V22.out]; go_simp) ⟨_, rfl, hI.keep (Below.refl _ _) 22 o22⟩
          obtain rfl | hi1 : i = 23 ∨ 24 ≤ i := by omega
          · have t105 : a1.tmps[105]? = some (.bool false) := hI.get hR hr1 22 o22 (by kernel_rfl) (by decide) rfl V22.out
            have t6 := hR.fixed 6 (by kernel_rfl) rfl
            exact wpOp_val rfl (wanted_yes rfl rfl t105) (by rw [V23.out]; go_simp) ⟨_, rfl, hI.keep (Below.refl _ _) 23 o23⟩
          obtain rfl | hi1 : i = 24 ∨ 25 ≤ i := by omega
          · have t105 : a1.tmps[105]? = some (.bool false) := hI.get hR hr1 22 o22 (by kernel_rfl) (by decide) rfl V22.out
            have t7 := hR.fixed 7 (by kernel_rfl) rfl
            exact wpOp_val rfl (wanted_yes rfl rfl t105) (by rw [V24.out]; go_simp) ⟨_, rfl, hI.keep (Below.refl _ _) 24 o24⟩
          obtain rfl | hi1 : i = 25 ∨ 26 ≤ i := by omega
          · have t105 : a1.tmps[105]? = some (.bool false) := hI.get hR hr1 22 o22 (by kernel_rfl) (by decide) rfl V22.out
            have t106 : a1.tmps[106]? = some (.slice (some ⟨g, off, none⟩) L.length c6) := hI.get hR hr1 23 o23 (by kernel_rfl) (by decide) rfl V23.out
            have t107 : a1.tmps[107]? = some (.int .i64 (i0 : Nat)) := hI.get hR hr1 24 o24 (by kernel_rfl) (by decide) rfl V24.out
            exact wpOp_val rfl (wanted_yes rfl rfl t105) (by rw [V25.out]; go_simp) ⟨_, rfl, hI.keep (Below.refl _ _) 25 o25⟩
          obtain rfl | hi1 : i = 26 ∨ 27 ≤ i := by omega
          · have t105 : a1.tmps[105]? = some (.bool false) := hI.get hR hr1 22 o22 (by kernel_rfl) (by decide) rfl V22.out
            have t108 : a1.tmps[108]? = some (.pointer (some ⟨g, off + i0 * 10, none⟩)) := hI.get hR hr1 25 o25 (by kernel_rfl) (by decide) rfl V25.out
            exact wpOp_val rfl (wanted_yes rfl rfl t105) (by rw [V26.out]; go_simp) ⟨_, rfl, hI.keep (Below.refl _ _) 26 o26⟩
          obtain rfl | hi1 : i = 27 ∨ 28 ≤ i := by omega
          · have t105 : a1.tmps[105]? = some (.bool false) := hI.get hR hr1 22 o22 (by kernel_rfl) (by decide) rfl V22.out
            have t109 : a1.tmps[109]? = some (.pointer (some ⟨g, off + i0 * 10, none⟩)) := hI.get hR hr1 26 o26 (by kernel_rfl) (by decide) rfl V26.out
            have cc := cell_below hI.b Q0.out
            exact wpOp_val rfl (wanted_yes rfl rfl t105) (by rw [V27.out]; go_simp) ⟨_, rfl, hI.keep (Below.refl _ _) 27 o27⟩
          obtain rfl | hi1 : i = 28 ∨ 29 ≤ i := by omega
          · have t105 : a1.tmps[105]? = some (.bool false) := hI.get hR hr1 22 o22 (by kernel_rfl) (by decide) rfl V22.out
            have t110 : a1.tmps[110]? = some (.bool false) := hI.get hR hr1 27 o27 (by kernel_rfl) (by decide) rfl V27.out
            exact wpOp_val rfl (wanted_yes rfl rfl t105) (by rw [V28.out]; go_simp) ⟨_, rfl, hI.keep (Below.refl _ _) 28 o28⟩
          obtain rfl | hi1 : i = 29 ∨ 30 ≤ i := by omega
          · have t105 : a1.tmps[105]? = some (.bool false) := hI.get hR hr1 22 o22 (by kernel_rfl) (by decide) rfl V22.out
            have t111 : a1.tmps[111]? = some (.bool true) := hI.get hR hr1 28 o28 (by kernel_rfl) (by decide) rfl V28.out
            exact wpOp_val rfl (wanted_yes rfl rfl t105) (by rw [V29.out]; go_simp) ⟨_, rfl, hI.keep (Below.refl _ _) 29 o29⟩
          obtain rfl | hi1 : i = 30 ∨ 31 ≤ i := by omega
          · have t112 : a1.tmps[112]? = some (.bool true) := hI.get hR hr1 29 o29 (by kernel_rfl) (by decide) rfl V29.out
            have t9 := hR.fixed 9 (by kernel_rfl) rfl
            exact wpOp_val rfl (wanted_yes rfl rfl t112) (by rw [V30.out]; go_simp) ⟨_, rfl, hI.keep (Below.refl _ _) 30 o30⟩
          obtain rfl | hi1 : i = 31 ∨ 32 ≤ i := by omega
          · have t112 : a1.tmps[112]? = some (.bool true) := hI.get hR hr1 29 o29 (by kernel_rfl) (by decide) rfl V29.out
            have t113 : a1.tmps[113]? = some (.pointer (some ⟨g9, 0, none⟩)) := hI.get hR hr1 30 o30 (by kernel_rfl) (by decide) rfl V30.out
            have cc := cell_below hI.b L0.out
            exact wpOp_val rfl (wanted_yes rfl rfl t112) (by rw [V31.out]; go_simp) ⟨_, rfl, hI.keep (Below.refl _ _) 31 o31⟩
          obtain rfl | hi1 : i = 32 ∨ 33 ≤ i := by omega
          · have t112 : a1.tmps[112]? = some (.bool true) := hI.get hR hr1 29 o29 (by kernel_rfl) (by decide) rfl V29.out
            have t114 : a1.tmps[114]? = some (.bool true) := hI.get hR hr1 31 o31 (by kernel_rfl) (by decide) rfl V31.out
            exact wpOp_val rfl (wanted_yes rfl rfl t112) (by rw [V32.out]; go_simp) ⟨_, rfl, hI.keep (Below.refl _ _) 32 o32⟩
          obtain rfl | hi1 : i = 33 ∨ 34 ≤ i := by omega
          · have t112 : a1.tmps[112]? = some (.bool true) := hI.get hR hr1 29 o29 (by kernel_rfl) (by decide) rfl V29.out
            have t115 : a1.tmps[115]? = some (.bool false) := hI.get hR hr1 32 o32 (by kernel_rfl) (by decide) rfl V32.out
            exact wpOp_val rfl (wanted_yes rfl rfl t112) (by rw [V33.out]; go_simp) ⟨_, rfl, hI.keep (Below.refl _ _) 33 o33⟩
          obtain rfl | hi1 : i = 34 ∨ 35 ≤ i := by omega
          · have t116 : a1.tmps[116]? = some (.bool false) := hI.get hR hr1 33 o33 (by kernel_rfl) (by decide) rfl V33.out
            have t9 := hR.fixed 9 (by kernel_rfl) rfl
            exact wpOp_val rfl (wanted_yes rfl rfl t116) (by rw [V34.out]; go_simp) ⟨_, rfl, hI.keep (Below.refl _ _) 34 o34⟩
          obtain rfl | hi1 : i = 35 ∨ 36 ≤ i := by omega
          · have t116 : a1.tmps[116]? = some (.bool false) := hI.get hR hr1 33 o33 (by kernel_rfl) (by decide) rfl V33.out
            have t117 : a1.tmps[117]? = some (.pointer (some ⟨g9, 1, none⟩)) := hI.get hR hr1 34 o34 (by kernel_rfl) (by decide) rfl V34.out
            have cc := cell_below hI.b L1.out
            exact wpOp_val rfl (wanted_yes rfl rfl t116) (by rw [V35.out]; go_simp) ⟨_, rfl, hI.keep (Below.refl _ _) 35 o35⟩
          obtain rfl | hi1 : i = 36 ∨ 37 ≤ i := by omega
          · have t116 : a1.tmps[116]? = some (.bool false) := hI.get hR hr1 33 o33 (by kernel_rfl) (by decide) rfl V33.out
            have t6 := hR.fixed 6 (by kernel_rfl) rfl
            exact wpOp_val rfl (wanted_yes rfl rfl t116) (by rw [V36.out]; go_simp) ⟨_, rfl, hI.keep (Below.refl _ _) 36 o36⟩
          obtain rfl | hi1 : i = 37 ∨ 38 ≤ i := by omega
          · have t116 : a1.tmps[116]? = some (.bool false) := hI.get hR hr1 33 o33 (by kernel_rfl) (by decide) rfl V33.out
            have t7 := hR.fixed 7 (by kernel_rfl) rfl
            exact wpOp_val rfl (wanted_yes rfl rfl t116) (by rw [V37.out]; go_simp) ⟨_, rfl, hI.keep (Below.refl _ _) 37 o37⟩
          obtain rfl | hi1 : i = 38 ∨ 39 ≤ i := by omega
          · have t116 : a1.tmps[116]? = some (.bool false) := hI.get hR hr1 33 o33 (by kernel_rfl) (by decide) rfl V33.out
            have t119 : a1.tmps[119]? = some (.slice (some ⟨g, off, none⟩) L.length c6) := hI.get hR hr1 36 o36 (by kernel_rfl) (by decide) rfl V36.out
            have t120 : a1.tmps[120]? = some (.int .i64 (i0 : Nat)) := hI.get hR hr1 37 o37 (by kernel_rfl) (by decide) rfl V37.out
            exact wpOp_val rfl (wanted_yes rfl rfl t116) (by rw [V38.out]; go_simp) ⟨_, rfl, hI.keep (Below.refl _ _) 38 o38⟩
          obtain rfl | hi1 : i = 39 ∨ 40 ≤ i := by omega
          · have t116 : a1.tmps[116]? = some (.bool false) := hI.get hR hr1 33 o33 (by kernel_rfl) (by decide) rfl V33.out
            have t121 : a1.tmps[121]? = some (.pointer (some ⟨g, off + i0 * 10, none⟩)) := hI.get hR hr1 38 o38 (by kernel_rfl) (by decide) rfl V38.out
            exact wpOp_val rfl (wanted_yes rfl rfl t116) (by rw [V39.out]; go_simp) ⟨_, rfl, hI.keep (Below.refl _ _) 39 o39⟩
          obtain rfl | hi1 : i = 40 ∨ 41 ≤ i := by omega
          · have t116 : a1.tmps[116]? = some (.bool false) := hI.get hR hr1 33 o33 (by kernel_rfl) (by decide) rfl V33.out
            have t122 : a1.tmps[122]? = some (.pointer (some ⟨g, off + i0 * 10 + 1, none⟩)) := hI.get hR hr1 39 o39 (by kernel_rfl) (by decide) rfl V39.out
            have cc := cell_below hI.b Q1.out
            exact wpOp_val rfl (wanted_yes rfl rfl t116) (by rw [V40.out]; go_simp) ⟨_, rfl, hI.keep (Below.refl _ _) 40 o40⟩
          obtain rfl | hi1 : i = 41 ∨ 42 ≤ i := by omega
          · have t116 : a1.tmps[116]? = some (.bool false) := hI.get hR hr1 33 o33 (by kernel_rfl) (by decide) rfl V33.out
            have t118 : a1.tmps[118]? = some (.int .u64 (c.rev : Int)) := hI.get hR hr1 35 o35 (by kernel_rfl) (by decide) rfl V35.out
            have t123 : a1.tmps[123]? = some (.int .u64 (c.rev : Int)) := hI.get hR hr1 40 o40 (by kernel_rfl) (by decide) rfl V40.out
            exact wpOp_val rfl (wanted_yes rfl rfl t116) (by rw [V41.out]; go_simp) ⟨_, rfl, hI.keep (Below.refl _ _) 41 o41⟩
          obtain rfl | hi1 : i = 42 ∨ 43 ≤ i := by omega
          · have t112 : a1.tmps[112]? = some (.bool true) := hI.get hR hr1 29 o29 (by kernel_rfl) (by decide) rfl V29.out
            have t116 : a1.tmps[116]? = some (.bool false) := hI.get hR hr1 33 o33 (by kernel_rfl) (by decide) rfl V33.out
            have t124 : a1.tmps[124]? = some (.bool false) := hI.get hR hr1 41 o41 (by kernel_rfl) (by decide) rfl V41.out
            exact wpOp_val rfl (wanted_yes rfl rfl t112) (by rw [V42.out]; go_simp) ⟨_, rfl, hI.keep (Below.refl _ _) 42 o42⟩
          obtain rfl | hi1 : i = 43 ∨ 44 ≤ i := by omega
          · have t112 : a1.tmps[112]? = some (.bool true) := hI.get hR hr1 29 o29 (by kernel_rfl) (by decide) rfl V29.out
            have t125 : a1.tmps[125]? = some (.bool false) := hI.get hR hr1 42 o42 (by kernel_rfl) (by decide) rfl V42.out
            exact wpOp_val rfl (wanted_yes rfl rfl t112) (by rw [V43.out]; go_simp) ⟨_, rfl, hI.keep (Below.refl _ _) 43 o43⟩
          obtain rfl | hi1 : i = 44 ∨ 45 ≤ i := by omega
          · have t126 : a1.tmps[126]? = some (.bool false) := hI.get hR hr1 43 o43 (by kernel_rfl) (by decide) rfl V43.out
            have t9 := hR.fixed 9 (by kernel_rfl) rfl
            exact wpOp_val rfl (wanted_yes rfl rfl t126) (by rw [V44.out]; go_simp) ⟨_, rfl, hI.keep (Below.refl _ _) 44 o44⟩
          obtain rfl | hi1 : i = 45 ∨ 46 ≤ i := by omega
          · have t126 : a1.tmps[126]? = some (.bool false) := hI.get hR hr1 43 o43 (by kernel_rfl) (by decide) rfl V43.out
            have t127 : a1.tmps[127]? = some (.pointer (some ⟨g9, 2, none⟩)) := hI.get hR hr1 44 o44 (by kernel_rfl) (by decide) rfl V44.out
            exact wpOp_val rfl (wanted_yes rfl rfl t126) (by rw [V45.out]; go_simp) ⟨_, rfl, hI.keep (Below.refl _ _) 45 o45⟩
          obtain rfl | hi1 : i = 46 ∨ 47 ≤ i := by omega
          · have t126 : a1.tmps[126]? = some (.bool false) := hI.get hR hr1 43 o43 (by kernel_rfl) (by decide) rfl V43.out
            have t128 : a1.tmps[128]? = some (.pointer (some ⟨g9, 5, none⟩)) := hI.get hR hr1 45 o45 (by kernel_rfl) (by decide) rfl V45.out
            exact wpOp_mid rfl (wanted_yes rfl rfl t126) 34 (.tmp 128) rfl g9 5 (getD_is t128) (avC ll.p.a) _ (range_below hI.b L5.out) Try.underlying34 rfl (by exact sizeAgg) ⟨_, rfl, hI.keepV (Below.refl _ _) 46 o46 V46.out⟩
          obtain rfl | hi1 : i = 47 ∨ 48 ≤ i := by omega
          · have t126 : a1.tmps[126]? = some (.bool false) := hI.get hR hr1 43 o43 (by kernel_rfl) (by decide) rfl V43.out
            have t6 := hR.fixed 6 (by kernel_rfl) rfl
            exact wpOp_val rfl (wanted_yes rfl rfl t126) (by rw [V47.out]; go_simp) ⟨_, rfl, hI.keep (Below.refl _ _) 47 o47⟩
          obtain rfl | hi1 : i = 48 ∨ 49 ≤ i := by omega
          · have t126 : a1.tmps[126]? = some (.bool false) := hI.get hR hr1 43 o43 (by kernel_rfl) (by decide) rfl V43.out
            have t7 := hR.fixed 7 (by kernel_rfl) rfl
            exact wpOp_val rfl (wanted_yes rfl rfl t126) (by rw [V48.out]; go_simp) ⟨_, rfl, hI.keep (Below.refl _ _) 48 o48⟩
          obtain rfl | hi1 : i = 49 ∨ 50 ≤ i := by omega
          · have t126 : a1.tmps[126]? = some (.bool false) := hI.get hR hr1 43 o43 (by kernel_rfl) (by decide) rfl V43.out
            have t130 : a1.tmps[130]? = some (.slice (some ⟨g, off, none⟩) L.length c6) := hI.get hR hr1 47 o47 (by kernel_rfl) (by decide) rfl V47.out
            have t131 : a1.tmps[131]? = some (.int .i64 (i0 : Nat)) := hI.get hR hr1 48 o48 (by kernel_rfl) (by decide) rfl V48.out
            exact wpOp_val rfl (wanted_yes rfl rfl t126) (by rw [V49.out]; go_simp) ⟨_, rfl, hI.keep (Below.refl _ _) 49 o49⟩
          obtain rfl | hi1 : i = 50 ∨ 51 ≤ i := by omega
          · have t126 : a1.tmps[126]? = some (.bool false) := hI.get hR hr1 43 o43 (by kernel_rfl) (by decide) rfl V43.out
            have t132 : a1.tmps[132]? = some (.pointer (some ⟨g, off + i0 * 10, none⟩)) := hI.get hR hr1 49 o49 (by kernel_rfl) (by decide) rfl V49.out
            exact wpOp_val rfl (wanted_yes rfl rfl t126) (by rw [V50.out]; go_simp) ⟨_, rfl, hI.keep (Below.refl _ _) 50 o50⟩
          obtain rfl | hi1 : i = 51 ∨ 52 ≤ i := by omega
          · have t126 : a1.tmps[126]? = some (.bool false) := hI.get hR hr1 43 o43 (by kernel_rfl) (by decide) rfl V43.out
            have t133 : a1.tmps[133]? = some (.pointer (some ⟨g, off + i0 * 10 + 2, none⟩)) := hI.get hR hr1 50 o50 (by kernel_rfl) (by decide) rfl V50.out
            exact wpOp_val rfl (wanted_yes rfl rfl t126) (by rw [V51.out]; go_simp) ⟨_, rfl, hI.keep (Below.refl _ _) 51 o51⟩
          obtain rfl | hi1 : i = 52 ∨ 53 ≤ i := by omega
          · have t126 : a1.tmps[126]? = some (.bool false) := hI.get hR hr1 43 o43 (by kernel_rfl) (by decide) rfl V43.out
            have t134 : a1.tmps[134]? = some (.pointer (some ⟨g, off + i0 * 10 + 5, none⟩)) := hI.get hR hr1 51 o51 (by kernel_rfl) (by decide) rfl V51.out
            exact wpOp_mid rfl (wanted_yes rfl rfl t126) 34 (.tmp 134) rfl g (off + i0 * 10 + 5) (getD_is t134) (avC c.p.a) _ (range_below hI.b Q5.out) Try.underlying34 rfl (by exact sizeAgg) ⟨_, rfl, hI.keepV (Below.refl _ _) 52 o52 V52.out⟩
          obtain rfl | hi1 : i = 53 ∨ 54 ≤ i := by omega
          · have t126 : a1.tmps[126]? = some (.bool false) := hI.get hR hr1 43 o43 (by kernel_rfl) (by decide) rfl V43.out
            have t129 : a1.tmps[129]? = some (.agg (avC ll.p.a)) := hI.get hR hr1 46 o46 (by kernel_rfl) (by decide) rfl V46.out
            have t135 : a1.tmps[135]? = some (.agg (avC c.p.a)) := hI.get hR hr1 52 o52 (by kernel_rfl) (by decide) rfl V52.out
            have hc1 := hsm wq
            refine wpOp_calls (f := 17) (args := #[.agg (avC ll.p.a), .agg (avC c.p.a)]) rfl (wanted_yes rfl rfl t126) (by go_simp) (hc1.mono ?_)
            rintro e wz ⟨rfl, b⟩
            exact ⟨_, rfl, _, rfl, hI.keepV b 53 o53 V53.out⟩
          obtain rfl | hi1 : i = 54 ∨ 55 ≤ i := by omega
          · have t126 : a1.tmps[126]? = some (.bool false) := hI.get hR hr1 43 o43 (by kernel_rfl) (by decide) rfl V43.out
            have t136 : a1.tmps[136]? = some (.bool true) := hI.get hR hr1 53 o53 (by kernel_rfl) (by decide) rfl V53.out
            exact wpOp_val rfl (wanted_yes rfl rfl t126) (by rw [V54.out]; go_simp) ⟨_, rfl, hI.keep (Below.refl _ _) 54 o54⟩
          obtain rfl | hi1 : i = 55 ∨ 56 ≤ i := by omega
          · have t112 : a1.tmps[112]? = some (.bool true) := hI.get hR hr1 29 o29 (by kernel_rfl) (by decide) rfl V29.out
            have t126 : a1.tmps[126]? = some (.bool false) := hI.get hR hr1 43 o43 (by kernel_rfl) (by decide) rfl V43.out
            have t137 : a1.tmps[137]? = some (.bool false) := hI.get hR hr1 54 o54 (by kernel_rfl) (by decide) rfl V54.out
            exact wpOp_val rfl (wanted_yes rfl rfl t112) (by rw [V55.out]; go_simp) ⟨_, rfl, hI.keep (Below.refl _ _) 55 o55⟩
          obtain rfl | hi1 : i = 56 ∨ 57 ≤ i := by omega
          · have t105 : a1.tmps[105]? = some (.bool false) := hI.get hR hr1 22 o22 (by kernel_rfl) (by decide) rfl V22.out
            have t112 : a1.tmps[112]? = some (.bool true) := hI.get hR hr1 29 o29 (by kernel_rfl) (by decide) rfl V29.out
            have t138 : a1.tmps[138]? = some (.bool false) := hI.get hR hr1 55 o55 (by kernel_rfl) (by decide) rfl V55.out
            exact wpOp_val rfl (wanted_yes rfl rfl t105) (by rw [V56.out]; go_simp) ⟨_, rfl, hI.keep (Below.refl _ _) 56 o56⟩
          obtain rfl : i = 57 := by omega
          have t105 : a1.tmps[105]? = some (.bool false) := hI.get hR hr1 22 o22 (by kernel_rfl) (by decide) rfl V22.out
          have t139 : a1.tmps[139]? = some (.bool false) := hI.get hR hr1 56 o56 (by kernel_rfl) (by decide) rfl V56.out
          exact wpOp_val rfl rfl (by rw [V57.out]; go_simp) ⟨_, rfl, hI.keep (Below.refl _ _) 57 o57⟩
        · intro listed vals wq FF hI hall hFF
          have hF2 : FF = (((((((((((((((((((((((((((((((((((((((((((((((((((((((((Act.put _ (some 83) (vals 0)).put (some 84) (vals 1)).put (some 85) (vals 2)).put (some 86) (vals 3)).put (some 87) (vals 4)).put (some 88) (vals 5)).put (some 89) (vals 6)).put (some 90) (vals 7)).put (some 91) (vals 8)).put (some 92) (vals 9)).put (some 93) (vals 10)).put (some 94) (vals 11)).put (some 95) (vals 12)).put (some 96) (vals 13)).put (some 97) (vals 14)).put (some 98) (vals 15)).put (some 99) (vals 16)).put (some 100) (vals 17)).put (some 101) (vals 18)).put (some 102) (vals 19)).put (some 103) (vals 20)).put (some 104) (vals 21)).put (some 105) (vals 22)).put (some 106) (vals 23)).put (some 107) (vals 24)).put (some 108) (vals 25)).put (some 109) (vals 26)).put (some 110) (vals 27)).put (some 111) (vals 28)).put (some 112) (vals 29)).put (some 113) (vals 30)).put (some 114) (vals 31)).put (some 115) (vals 32)).put (some 116) (vals 33)).put (some 117) (vals 34)).put (some 118) (vals 35)).put (some 119) (vals 36)).put (some 120) (vals 37)).put (some 121) (vals 38)).put (some 122) (vals 39)).put (some 123) (vals 40)).put (some 124) (vals 41)).put (some 125) (vals 42)).put (some 126) (vals 43)).put (some 127) (vals 44)).put (some 128) (vals 45)).put (some 129) (vals 46)).put (some 130) (vals 47)).put (some 131) (vals 48)).put (some 132) (vals 49)).put (some 133) (vals 50)).put (some 134) (vals 51)).put (some 135) (vals 52)).put (some 136) (vals 53)).put (some 137) (vals 54)).put (some 138) (vals 55)).put (some 139) (vals 56)).put (some 140) (vals 57) := hFF
          simp only [putAll] at hF2
          rw [hF2]
          have e57 := hI.val 57 o57 (hall 57 (by decide))
          rw [V57.out] at e57
          have bfin := hI.b
          clear hF2 hFF hI hall
          rw [e57]
          go_frame
          generalize vals 0 = y0
          generalize vals 1 = y1
          generalize vals 2 = y2
          generalize vals 3 = y3
          generalize vals 4 = y4
          generalize vals 5 = y5
          generalize vals 6 = y6
          generalize vals 7 = y7
          generalize vals 8 = y8
          generalize vals 9 = y9
          generalize vals 10 = y10
          generalize vals 11 = y11
          generalize vals 12 = y12
          generalize vals 13 = y13
          generalize vals 14 = y14
          generalize vals 15 = y15
          generalize vals 16 = y16
          generalize vals 17 = y17
          generalize vals 18 = y18
          generalize vals 19 = y19
          generalize vals 20 = y20
          generalize vals 21 = y21
          generalize vals 22 = y22
          generalize vals 23 = y23
          generalize vals 24 = y24
          generalize vals 25 = y25
          generalize vals 26 = y26
          generalize vals 27 = y27
          generalize vals 28 = y28
          generalize vals 29 = y29
          generalize vals 30 = y30
          generalize vals 31 = y31
          generalize vals 32 = y32
          generalize vals 33 = y33
          generalize vals 34 = y34
          generalize vals 35 = y35
          generalize vals 36 = y36
          generalize vals 37 = y37
          generalize vals 38 = y38
          generalize vals 39 = y39
          generalize vals 40 = y40
          generalize vals 41 = y41
          generalize vals 42 = y42
          generalize vals 43 = y43
          generalize vals 44 = y44
          generalize vals 45 = y45
          generalize vals 46 = y46
          generalize vals 47 = y47
          generalize vals 48 = y48
          generalize vals 49 = y49
          generalize vals 50 = y50
          generalize vals 51 = y51
          generalize vals 52 = y52
          generalize vals 53 = y53
          generalize vals 54 = y54
          generalize vals 55 = y55
          generalize vals 56 = y56
          generalize vals 57 = y57
          go_wp2_with fail
          exact ⟨⟨i0 + 1, by go_num, HI.out, HBB.out.trans (bfin.mono HBB.out.size)⟩, by simp [intOf]; omega⟩
      · obtain ⟨n1, n2⟩ := HOK.out.put hp
        rw [hp] at q0
        rw [n1] at q1
        rw [n2] at l0
        have Q0 := Lib.hid q0
        have Q1 := Lib.hid q1
        have L0 := Lib.hid l0
        clear n1 n2 q0 q1 l0 l1 HOK hp hc
        rcases Nat.eq_zero_or_pos pp with hz | hz
        · have hz2 : ¬ ((0 : Int) < (pp : Int)) := by omega
          clear hz
          obtain ⟨CV, hCV⟩ : ∃ CV : Nat → Value, CV = fun j => match j with
            | 0 => .slice (some ⟨g, off, none⟩) L.length c6
            | 1 => .int .i64 (i0 : Nat)
            | 2 => .pointer (some ⟨g, off + i0 * 10, none⟩)
            | 3 => .pointer (some ⟨g, off + i0 * 10, none⟩)
            | 4 => .bool true
            | 5 => .bool true
            | 6 => .slice (some ⟨g, off, none⟩) L.length c6
            | 7 => .int .i64 (i0 : Nat)
            | 8 => .pointer (some ⟨g, off + i0 * 10, none⟩)
            | 9 => .pointer (some ⟨g, off + i0 * 10 + 1, none⟩)
            | 10 => .int .u64 (pp : Nat)
            | 11 => .int .u64 (pp : Nat)
            | 12 => .bool false
            | 13 => .bool false
            | 14 => .int .u64 (pp : Nat)
            | 15 => .bool false
            | 16 => .bool false
            | 17 => undef
            | 18 => undef
            | 19 => .bool false
            | 20 => .bool false
            | 21 => .bool false
            | 22 => .bool false
            | 23 => .slice (some ⟨g, off, none⟩) L.length c6
            | 24 => .int .i64 (i0 : Nat)
            | 25 => .pointer (some ⟨g, off + i0 * 10, none⟩)
            | 26 => .pointer (some ⟨g, off + i0 * 10, none⟩)
            | 27 => .bool true
            | 28 => .bool false
            | 29 => .bool false
            | 30 => undef
            | 31 => undef
            | 32 => undef
            | 33 => undef
            | 34 => undef
            | 35 => undef
            | 36 => undef
            | 37 => undef
            | 38 => undef
            | 39 => undef
            | 40 => undef
            | 41 => undef
            | 42 => undef
            | 43 => undef
            | 44 => undef
            | 45 => undef
            | 46 => undef
            | 47 => undef
            | 48 => undef
            | 49 => undef
            | 50 => undef
            | 51 => undef
            | 52 => undef
            | 53 => undef
            | 54 => undef
            | 55 => undef
            | 56 => .bool false
            | 57 => .bool false
            | _ => undef := ⟨_, rfl⟩
          obtain ⟨isO, hO⟩ : ∃ isO : Nat → Bool, isO = fun j => match j with
            | _ => false := ⟨_, rfl⟩
          obtain ⟨BL, hBL⟩ : ∃ BL : Nat → List Int, BL = fun j => match j with
            | _ => [] := ⟨_, rfl⟩
          have v0 : CV 0 = .slice (some ⟨g, off, none⟩) L.length c6 := congrFun hCV 0
          have o0 : isO 0 = false := congrFun hO 0
          have v1 : CV 1 = .int .i64 (i0 : Nat) := congrFun hCV 1
          have o1 : isO 1 = false := congrFun hO 1
          have v2 : CV 2 = .pointer (some ⟨g, off + i0 * 10, none⟩) := congrFun hCV 2
          have o2 : isO 2 = false := congrFun hO 2
          have v3 : CV 3 = .pointer (some ⟨g, off + i0 * 10, none⟩) := congrFun hCV 3
          have o3 : isO 3 = false := congrFun hO 3
          have v4 : CV 4 = .bool true := congrFun hCV 4
          have o4 : isO 4 = false := congrFun hO 4
          have v5 : CV 5 = .bool true := congrFun hCV 5
          have o5 : isO 5 = false := congrFun hO 5
          have v6 : CV 6 = .slice (some ⟨g, off, none⟩) L.length c6 := congrFun hCV 6
          have o6 : isO 6 = false := congrFun hO 6
          have v7 : CV 7 = .int .i64 (i0 : Nat) := congrFun hCV 7
          have o7 : isO 7 = false := congrFun hO 7
          have v8 : CV 8 = .pointer (some ⟨g, off + i0 * 10, none⟩) := congrFun hCV 8
          have o8 : isO 8 = false := congrFun hO 8
          have v9 : CV 9 = .pointer (some ⟨g, off + i0 * 10 + 1, none⟩) := congrFun hCV 9
          have o9 : isO 9 = false := congrFun hO 9
          have v10 : CV 10 = .int .u64 (pp : Nat) := congrFun hCV 10
          have o10 : isO 10 = false := congrFun hO 10
          have v11 : CV 11 = .int .u64 (pp : Nat) := congrFun hCV 11
          have o11 : isO 11 = false := congrFun hO 11
          have v12 : CV 12 = .bool false := congrFun hCV 12
          have o12 : isO 12 = false := congrFun hO 12
          have v13 : CV 13 = .bool false := congrFun hCV 13
          have o13 : isO 13 = false := congrFun hO 13
          have v14 : CV 14 = .int .u64 (pp : Nat) := congrFun hCV 14
          have o14 : isO 14 = false := congrFun hO 14
          have v15 : CV 15 = .bool false := congrFun hCV 15
          have o15 : isO 15 = false := congrFun hO 15
          have v16 : CV 16 = .bool false := congrFun hCV 16
          have o16 : isO 16 = false := congrFun hO 16
          have v17 : CV 17 = undef := congrFun hCV 17
          have o17 : isO 17 = false := congrFun hO 17
          have v18 : CV 18 = undef := congrFun hCV 18
          have o18 : isO 18 = false := congrFun hO 18
          have v19 : CV 19 = .bool false := congrFun hCV 19
          have o19 : isO 19 = false := congrFun hO 19
          have v20 : CV 20 = .bool false := congrFun hCV 20
          have o20 : isO 20 = false := congrFun hO 20
          have v21 : CV 21 = .bool false := congrFun hCV 21
          have o21 : isO 21 = false := congrFun hO 21
          have v22 : CV 22 = .bool false := congrFun hCV 22
          have o22 : isO 22 = false := congrFun hO 22
          have v23 : CV 23 = .slice (some ⟨g, off, none⟩) L.length c6 := congrFun hCV 23
          have o23 : isO 23 = false := congrFun hO 23
          have v24 : CV 24 = .int .i64 (i0 : Nat) := congrFun hCV 24
          have o24 : isO 24 = false := congrFun hO 24
          have v25 : CV 25 = .pointer (some ⟨g, off + i0 * 10, none⟩) := congrFun hCV 25
          have o25 : isO 25 = false := congrFun hO 25
          have v26 : CV 26 = .pointer (some ⟨g, off + i0 * 10, none⟩) := congrFun hCV 26
          have o26 : isO 26 = false := congrFun hO 26
          have v27 : CV 27 = .bool true := congrFun hCV 27
          have o27 : isO 27 = false := congrFun hO 27
          have v28 : CV 28 = .bool false := congrFun hCV 28
          have o28 : isO 28 = false := congrFun hO 28
          have v29 : CV 29 = .bool false := congrFun hCV 29
          have o29 : isO 29 = false := congrFun hO 29
          have v30 : CV 30 = undef := congrFun hCV 30
          have o30 : isO 30 = false := congrFun hO 30
          have v31 : CV 31 = undef := congrFun hCV 31
          have o31 : isO 31 = false := congrFun hO 31
          have v32 : CV 32 = undef := congrFun hCV 32
          have o32 : isO 32 = false := congrFun hO 32
          have v33 : CV 33 = undef := congrFun hCV 33
          have o33 : isO 33 = false := congrFun hO 33
          have v34 : CV 34 = undef := congrFun hCV 34
          have o34 : isO 34 = false := congrFun hO 34
          have v35 : CV 35 = undef := congrFun hCV 35
          have o35 : isO 35 = false := congrFun hO 35
          have v36 : CV 36 = undef := congrFun hCV 36
          have o36 : isO 36 = false := congrFun hO 36
          have v37 : CV 37 = undef := congrFun hCV 37
          have o37 : isO 37 = false := congrFun hO 37
          have v38 : CV 38 = undef := congrFun hCV 38
          have o38 : isO 38 = false := congrFun hO 38
          have v39 : CV 39 = undef := congrFun hCV 39
          have o39 : isO 39 = false := congrFun hO 39
          have v40 : CV 40 = undef := congrFun hCV 40
          have o40 : isO 40 = false := congrFun hO 40
          have v41 : CV 41 = undef := congrFun hCV 41
          have o41 : isO 41 = false := congrFun hO 41
          have v42 : CV 42 = undef := congrFun hCV 42
          have o42 : isO 42 = false := congrFun hO 42
          have v43 : CV 43 = undef := congrFun hCV 43
          have o43 : isO 43 = false := congrFun hO 43
          have v44 : CV 44 = undef := congrFun hCV 44
          have o44 : isO 44 = false := congrFun hO 44
          have v45 : CV 45 = undef := congrFun hCV 45
          have o45 : isO 45 = false := congrFun hO 45
          have v46 : CV 46 = undef := congrFun hCV 46
          have o46 : isO 46 = false := congrFun hO 46
          have v47 : CV 47 = undef := congrFun hCV 47
          have o47 : isO 47 = false := congrFun hO 47
          have v48 : CV 48 = undef := congrFun hCV 48
          have o48 : isO 48 = false := congrFun hO 48
          have v49 : CV 49 = undef := congrFun hCV 49
          have o49 : isO 49 = false := congrFun hO 49
          have v50 : CV 50 = undef := congrFun hCV 50
          have o50 : isO 50 = false := congrFun hO 50
          have v51 : CV 51 = undef := congrFun hCV 51
          have o51 : isO 51 = false := congrFun hO 51
          have v52 : CV 52 = undef := congrFun hCV 52
          have o52 : isO 52 = false := congrFun hO 52
          have v53 : CV 53 = undef := congrFun hCV 53
          have o53 : isO 53 = false := congrFun hO 53
          have v54 : CV 54 = undef := congrFun hCV 54
          have o54 : isO 54 = false := congrFun hO 54
          have v55 : CV 55 = undef := congrFun hCV 55
          have o55 : isO 55 = false := congrFun hO 55
          have v56 : CV 56 = .bool false := congrFun hCV 56
          have o56 : isO 56 = false := congrFun hO 56
          have v57 : CV 57 = .bool false := congrFun hCV 57
          have o57 : isO 57 = false := congrFun hO 57
          clear hCV hO hBL
          have V0 := Lib.hid v0
          have V1 := Lib.hid v1
          have V2 := Lib.hid v2
          have V3 := Lib.hid v3
          have V4 := Lib.hid v4
          have V5 := Lib.hid v5
          have V6 := Lib.hid v6
          have V7 := Lib.hid v7
          have V8 := Lib.hid v8
          have V9 := Lib.hid v9
          have V10 := Lib.hid v10
          have V11 := Lib.hid v11
          have V12 := Lib.hid v12
          have V13 := Lib.hid v13
          have V14 := Lib.hid v14
          have V15 := Lib.hid v15
          have V16 := Lib.hid v16
          have V17 := Lib.hid v17
          have V18 := Lib.hid v18
          have V19 := Lib.hid v19
          have V20 := Lib.hid v20
          have V21 := Lib.hid v21
          have V22 := Lib.hid v22
          have V23 := Lib.hid v23
          have V24 := Lib.hid v24
          have V25 := Lib.hid v25
          have V26 := Lib.hid v26
          have V27 := Lib.hid v27
          have V28 := Lib.hid v28
          have V29 := Lib.hid v29
          have V30 := Lib.hid v30
          have V31 := Lib.hid v31
          have V32 := Lib.hid v32
          have V33 := Lib.hid v33
          have V34 := Lib.hid v34
          have V35 := Lib.hid v35
          have V36 := Lib.hid v36
          have V37 := Lib.hid v37
          have V38 := Lib.hid v38
          have V39 := Lib.hid v39
          have V40 := Lib.hid v40
          have V41 := Lib.hid v41
          have V42 := Lib.hid v42
          have V43 := Lib.hid v43
          have V44 := Lib.hid v44
          have V45 := Lib.hid v45
          have V46 := Lib.hid v46
          have V47 := Lib.hid v47
          have V48 := Lib.hid v48
          have V49 := Lib.hid v49
          have V50 := Lib.hid v50
          have V51 := Lib.hid v51
          have V52 := Lib.hid v52
          have V53 := Lib.hid v53
          have V54 := Lib.hid v54
          have V55 := Lib.hid v55
          have V56 := Lib.hid v56
          have V57 := Lib.hid v57
          clear v0 v1 v2 v3 v4 v5 v6 v7 v8 v9 v10 v11 v12 v13 v14 v15 v16 v17 v18 v19 v20 v21 v22 v23 v24 v25 v26 v27 v28 v29 v30 v31 v32 v33 v34 v35 v36 v37 v38 v39 v40 v41 v42 v43 v44 v45 v46 v47 v48 v49 v50 v51 v52 v53 v54 v55 v56 v57
          refine region_run (RegI w7 isO BL CV) (by kernel_rfl) (by kernel_rfl) (by kernel_rfl) (by kernel_rfl) (RegI.start w7 58) ?_ ?_
          · intro listed vals a1 wq i hs hcl hI hR hi hu hr1
            replace hi : i < 58 := hi
            obtain rfl | hi1 : i = 0 ∨ 1 ≤ i := by omega
            · have t6 := hR.fixed 6 (by kernel_rfl) rfl
              exact wpOp_val rfl rfl (by rw [V0.out]; go_simp) ⟨_, rfl, hI.keep (Below.refl _ _) 0 o0⟩
            obtain rfl | hi1 : i = 1 ∨ 2 ≤ i := by omega
            · have t7 := hR.fixed 7 (by kernel_rfl) rfl
              exact wpOp_val rfl rfl (by rw [V1.out]; go_simp) ⟨_, rfl, hI.keep (Below.refl _ _) 1 o1⟩
            obtain rfl | hi1 : i = 2 ∨ 3 ≤ i := by omega
            · have t83 : a1.tmps[83]? = some (.slice (some ⟨g, off, none⟩) L.length c6) := hI.get hR hr1 0 o0 (by kernel_rfl) (by decide) rfl V0.out
              have t84 : a1.tmps[84]? = some (.int .i64 (i0 : Nat)) := hI.get hR hr1 1 o1 (by kernel_rfl) (by decide) rfl V1.out
              exact wpOp_val rfl rfl (by rw [V2.out]; go_simp) ⟨_, rfl, hI.keep (Below.refl _ _) 2 o2⟩
            obtain rfl | hi1 : i = 3 ∨ 4 ≤ i := by omega
            · have t85 : a1.tmps[85]? = some (.pointer (some ⟨g, off + i0 * 10, none⟩)) := hI.get hR hr1 2 o2 (by kernel_rfl) (by decide) rfl V2.out
              exact wpOp_val rfl rfl (by rw [V3.out]; go_simp) ⟨_, rfl, hI.keep (Below.refl _ _) 3 o3⟩
            obtain rfl | hi1 : i = 4 ∨ 5 ≤ i := by omega
            · have t86 : a1.tmps[86]? = some (.pointer (some ⟨g, off + i0 * 10, none⟩)) := hI.get hR hr1 3 o3 (by kernel_rfl) (by decide) rfl V3.out
              have cc := cell_below hI.b Q0.out
              exact wpOp_val rfl rfl (by rw [V4.out]; go_simp) ⟨_, rfl, hI.keep (Below.refl _ _) 4 o4⟩
            obtain rfl | hi1 : i = 5 ∨ 6 ≤ i := by omega
            · have t87 : a1.tmps[87]? = some (.bool true) := hI.get hR hr1 4 o4 (by kernel_rfl) (by decide) rfl V4.out
              exact wpOp_val rfl rfl (by rw [V5.out]; go_simp) ⟨_, rfl, hI.keep (Below.refl _ _) 5 o5⟩
            obtain rfl | hi1 : i = 6 ∨ 7 ≤ i := by omega
            · have t88 : a1.tmps[88]? = some (.bool true) := hI.get hR hr1 5 o5 (by kernel_rfl) (by decide) rfl V5.out
              have t6 := hR.fixed 6 (by kernel_rfl) rfl
              exact wpOp_val rfl (wanted_yes rfl rfl t88) (by rw [V6.out]; go_simp) ⟨_, rfl, hI.keep (Below.refl _ _) 6 o6⟩
            obtain rfl | hi1 : i = 7 ∨ 8 ≤ i := by omega
            · have t88 : a1.tmps[88]? = some (.bool true) := hI.get hR hr1 5 o5 (by kernel_rfl) (by decide) rfl V5.out
              have t7 := hR.fixed 7 (by kernel_rfl) rfl
              exact wpOp_val rfl (wanted_yes rfl rfl t88) (by rw [V7.out]; go_simp) ⟨_, rfl, hI.keep (Below.refl _ _) 7 o7⟩
            obtain rfl | hi1 : i = 8 ∨ 9 ≤ i := by omega
            · have t88 : a1.tmps[88]? = some (.bool true) := hI.get hR hr1 5 o5 (by kernel_rfl) (by decide) rfl V5.out
              have t89 : a1.tmps[89]? = some (.slice (some ⟨g, off, none⟩) L.length c6) := hI.get hR hr1 6 o6 (by kernel_rfl) (by decide) rfl V6.out
              have t90 : a1.tmps[90]? = some (.int .i64 (i0 : Nat)) := hI.get hR hr1 7 o7 (by kernel_rfl) (by decide) rfl V7.out
              exact wpOp_val rfl (wanted_yes rfl rfl t88) (by rw [V8.out]; go_simp) ⟨_, rfl, hI.keep (Below.refl _ _) 8 o8⟩
            obtain rfl | hi1 : i = 9 ∨ 10 ≤ i := by omega
            · have t88 : a1.tmps[88]? = some (.bool true) := hI.get hR hr1 5 o5 (by kernel_rfl) (by decide) rfl V5.out
              have t91 : a1.tmps[91]? = some (.pointer (some ⟨g, off + i0 * 10, none⟩)) := hI.get hR hr1 8 o8 (by kernel_rfl) (by decide) rfl V8.out
              exact wpOp_val rfl (wanted_yes rfl rfl t88) (by rw [V9.out]; go_simp) ⟨_, rfl, hI.keep (Below.refl _ _) 9 o9⟩
            obtain rfl | hi1 : i = 10 ∨ 11 ≤ i := by omega
            · have t88 : a1.tmps[88]? = some (.bool true) := hI.get hR hr1 5 o5 (by kernel_rfl) (by decide) rfl V5.out
              have t92 : a1.tmps[92]? = some (.pointer (some ⟨g, off + i0 * 10 + 1, none⟩)) := hI.get hR hr1 9 o9 (by kernel_rfl) (by decide) rfl V9.out
              have cc := cell_below hI.b Q1.out
              exact wpOp_val rfl (wanted_yes rfl rfl t88) (by rw [V10.out]; go_simp) ⟨_, rfl, hI.keep (Below.refl _ _) 10 o10⟩
            obtain rfl | hi1 : i = 11 ∨ 12 ≤ i := by omega
            · have t88 : a1.tmps[88]? = some (.bool true) := hI.get hR hr1 5 o5 (by kernel_rfl) (by decide) rfl V5.out
              have t8 := hR.fixed 8 (by kernel_rfl) rfl
              exact wpOp_val rfl (wanted_yes rfl rfl t88) (by rw [V11.out]; go_simp) ⟨_, rfl, hI.keep (Below.refl _ _) 11 o11⟩
            obtain rfl | hi1 : i = 12 ∨ 13 ≤ i := by omega
            · have t88 : a1.tmps[88]? = some (.bool true) := hI.get hR hr1 5 o5 (by kernel_rfl) (by decide) rfl V5.out
              have t93 : a1.tmps[93]? = some (.int .u64 (pp : Nat)) := hI.get hR hr1 10 o10 (by kernel_rfl) (by decide) rfl V10.out
              have t94 : a1.tmps[94]? = some (.int .u64 (pp : Nat)) := hI.get hR hr1 11 o11 (by kernel_rfl) (by decide) rfl V11.out
              exact wpOp_val rfl (wanted_yes rfl rfl t88) (by rw [V12.out]; go_simp) ⟨_, rfl, hI.keep (Below.refl _ _) 12 o12⟩
            obtain rfl | hi1 : i = 13 ∨ 14 ≤ i := by omega
            · have t88 : a1.tmps[88]? = some (.bool true) := hI.get hR hr1 5 o5 (by kernel_rfl) (by decide) rfl V5.out
              have t95 : a1.tmps[95]? = some (.bool false) := hI.get hR hr1 12 o12 (by kernel_rfl) (by decide) rfl V12.out
              exact wpOp_val rfl (wanted_yes rfl rfl t88) (by rw [V13.out]; go_simp) ⟨_, rfl, hI.keep (Below.refl _ _) 13 o13⟩
            obtain rfl | hi1 : i = 14 ∨ 15 ≤ i := by omega
            · have t96 : a1.tmps[96]? = some (.bool false) := hI.get hR hr1 13 o13 (by kernel_rfl) (by decide) rfl V13.out
              have t8 := hR.fixed 8 (by kernel_rfl) rfl
              exact wpOp_val rfl (wanted_yes rfl rfl t96) (by rw [V14.out]; go_simp) ⟨_, rfl, hI.keep (Below.refl _ _) 14 o14⟩
            obtain rfl | hi1 : i = 15 ∨ 16 ≤ i := by omega
            · have t96 : a1.tmps[96]? = some (.bool false) := hI.get hR hr1 13 o13 (by kernel_rfl) (by decide) rfl V13.out
              have t97 : a1.tmps[97]? = some (.int .u64 (pp : Nat)) := hI.get hR hr1 14 o14 (by kernel_rfl) (by decide) rfl V14.out
              exact wpOp_val rfl (wanted_yes rfl rfl t96) (by rw [V15.out]; go_simp; omega) ⟨_, rfl, hI.keep (Below.refl _ _) 15 o15⟩
            obtain rfl | hi1 : i = 16 ∨ 17 ≤ i := by omega
            · have t96 : a1.tmps[96]? = some (.bool false) := hI.get hR hr1 13 o13 (by kernel_rfl) (by decide) rfl V13.out
              have t98 : a1.tmps[98]? = some (.bool false) := hI.get hR hr1 15 o15 (by kernel_rfl) (by decide) rfl V15.out
              exact wpOp_val rfl (wanted_yes rfl rfl t96) (by rw [V16.out]; go_simp) ⟨_, rfl, hI.keep (Below.refl _ _) 16 o16⟩
            obtain rfl | hi1 : i = 17 ∨ 18 ≤ i := by omega
            · have t99 : a1.tmps[99]? = some (.bool false) := hI.get hR hr1 16 o16 (by kernel_rfl) (by decide) rfl V16.out
              exact wpOp_skipped rfl (wanted_no rfl rfl t99) ⟨_, rfl, hI.keepV (Below.refl _ _) 17 o17 V17.out⟩
            obtain rfl | hi1 : i = 18 ∨ 19 ≤ i := by omega
            · have t99 : a1.tmps[99]? = some (.bool false) := hI.get hR hr1 16 o16 (by kernel_rfl) (by decide) rfl V16.out
              exact wpOp_skipped rfl (wanted_no rfl rfl t99) ⟨_, rfl, hI.keepV (Below.refl _ _) 18 o18 V18.out⟩
            obtain rfl | hi1 : i = 19 ∨ 20 ≤ i := by omega
            · have t96 : a1.tmps[96]? = some (.bool false) := hI.get hR hr1 13 o13 (by kernel_rfl) (by decide) rfl V13.out
              have t99 : a1.tmps[99]? = some (.bool false) := hI.get hR hr1 16 o16 (by kernel_rfl) (by decide) rfl V16.out
              have t101 : a1.tmps[101]? = some (undef) := hI.get hR hr1 18 o18 (by kernel_rfl) (by decide) rfl V18.out
              exact wpOp_val rfl (wanted_yes rfl rfl t96) (by rw [V19.out]; go_simp) ⟨_, rfl, hI.keep (Below.refl _ _) 19 o19⟩
            obtain rfl | hi1 : i = 20 ∨ 21 ≤ i := by omega
            · have t88 : a1.tmps[88]? = some (.bool true) := hI.get hR hr1 5 o5 (by kernel_rfl) (by decide) rfl V5.out
              have t96 : a1.tmps[96]? = some (.bool false) := hI.get hR hr1 13 o13 (by kernel_rfl) (by decide) rfl V13.out
              have t102 : a1.tmps[102]? = some (.bool false) := hI.get hR hr1 19 o19 (by kernel_rfl) (by decide) rfl V19.out
              exact wpOp_val rfl (wanted_yes rfl rfl t88) (by rw [V20.out]; go_simp) ⟨_, rfl, hI.keep (Below.refl _ _) 20 o20⟩
            obtain rfl | hi1 : i = 21 ∨ 22 ≤ i := by omega
            · have t88 : a1.tmps[88]? = some (.bool true) := hI.get hR hr1 5 o5 (by kernel_rfl) (by decide) rfl V5.out
              have t103 : a1.tmps[103]? = some (.bool false) := hI.get hR hr1 20 o20 (by kernel_rfl) (by decide) rfl V20.out
              exact wpOp_val rfl rfl (by rw [V21.out]; go_simp) ⟨_, rfl, hI.keep (Below.refl _ _) 21 o21⟩
            obtain rfl | hi1 : i = 22 ∨ 23 ≤ i := by omega
            · have t104 : a1.tmps[104]? = some (.bool false) := hI.get hR hr1 21 o21 (by kernel_rfl) (by decide) rfl V21.out
              exact wpOp_val rfl rfl (by rw [V22.out]; go_simp) ⟨_, rfl, hI.keep (Below.refl _ _) 22 o22⟩
            obtain rfl | hi1 : i = 23 ∨ 24 ≤ i := by omega
            · have t105 : a1.tmps[105]? = some (.bool false) := hI.get hR hr1 22 o22 (by kernel_rfl) (by decide) rfl V22.out
              have t6 := hR.fixed 6 (by kernel_rfl) rfl
              exact wpOp_val rfl (wanted_yes rfl rfl t105) (by rw [V23.out]; go_simp) ⟨_, rfl, hI.keep (Below.refl _ _) 23 o23⟩
            obtain rfl | hi1 : i = 24 ∨ 25 ≤ i := by omega
            · have t105 : a1.tmps[105]? = some (.bool false) := hI.get hR hr1 22 o22 (by kernel_rfl) (by decide) rfl V22.out
              have t7 := hR.fixed 7 (by kernel_rfl) rfl
              exact wpOp_val rfl (wanted_yes rfl rfl t105) (by rw [V24.out]; go_simp) ⟨_, rfl, hI.keep (Below.refl _ _) 24 o24⟩
            obtain rfl | hi1 : i = 25 ∨ 26 ≤ i := by omega
            · have t105 : a1.tmps[105]? = some (.bool false) := hI.get hR hr1 22 o22 (by kernel_rfl) (by decide) rfl V22.out
              have t106 : a1.tmps[106]? = some (.slice (some ⟨g, off, none⟩) L.length c6) := hI.get hR hr1 23 o23 (by kernel_rfl) (by decide) rfl V23.out
              have t107 : a1.tmps[107]? = some (.int .i64 (i0 : Nat)) := hI.get hR hr1 24 o24 (by kernel_rfl) (by decide) rfl V24.out
              exact wpOp_val rfl (wanted_yes rfl rfl t105) (by rw [V25.out]; go_simp) ⟨_, rfl, hI.keep (Below.refl _ _) 25 o25⟩
            obtain rfl | hi1 : i = 26 ∨ 27 ≤ i := by omega
            · have t105 : a1.tmps[105]? = some (.bool false) := hI.get hR hr1 22 o22 (by kernel_rfl) (by decide) rfl V22.out
              have t108 : a1.tmps[108]? = some (.pointer (some ⟨g, off + i0 * 10, none⟩)) := hI.get hR hr1 25 o25 (by kernel_rfl) (by decide) rfl V25.out
              exact wpOp_val rfl (wanted_yes rfl rfl t105) (by rw [V26.out]; go_simp) ⟨_, rfl, hI.keep (Below.refl _ _) 26 o26⟩
            obtain rfl | hi1 : i = 27 ∨ 28 ≤ i := by omega
            · have t105 : a1.tmps[105]? = some (.bool false) := hI.get hR hr1 22 o22 (by kernel_rfl) (by decide) rfl V22.out
              have t109 : a1.tmps[109]? = some (.pointer (some ⟨g, off + i0 * 10, none⟩)) := hI.get hR hr1 26 o26 (by kernel_rfl) (by decide) rfl V26.out
              have cc := cell_below hI.b Q0.out
              exact wpOp_val rfl (wanted_yes rfl rfl t105) (by rw [V27.out]; go_simp) ⟨_, rfl, hI.keep (Below.refl _ _) 27 o27⟩
            obtain rfl | hi1 : i = 28 ∨ 29 ≤ i := by omega
            · have t105 : a1.tmps[105]? = some (.bool false) := hI.get hR hr1 22 o22 (by kernel_rfl) (by decide) rfl V22.out
              have t110 : a1.tmps[110]? = some (.bool true) := hI.get hR hr1 27 o27 (by kernel_rfl) (by decide) rfl V27.out
              exact wpOp_val rfl (wanted_yes rfl rfl t105) (by rw [V28.out]; go_simp) ⟨_, rfl, hI.keep (Below.refl _ _) 28 o28⟩
            obtain rfl | hi1 : i = 29 ∨ 30 ≤ i := by omega
            · have t105 : a1.tmps[105]? = some (.bool false) := hI.get hR hr1 22 o22 (by kernel_rfl) (by decide) rfl V22.out
              have t111 : a1.tmps[111]? = some (.bool false) := hI.get hR hr1 28 o28 (by kernel_rfl) (by decide) rfl V28.out
              exact wpOp_val rfl (wanted_yes rfl rfl t105) (by rw [V29.out]; go_simp) ⟨_, rfl, hI.keep (Below.refl _ _) 29 o29⟩
            obtain rfl | hi1 : i = 30 ∨ 31 ≤ i := by omega
            · have t112 : a1.tmps[112]? = some (.bool false) := hI.get hR hr1 29 o29 (by kernel_rfl) (by decide) rfl V29.out
              exact wpOp_skipped rfl (wanted_no rfl rfl t112) ⟨_, rfl, hI.keepV (Below.refl _ _) 30 o30 V30.out⟩
            obtain rfl | hi1 : i = 31 ∨ 32 ≤ i := by omega
            · have t112 : a1.tmps[112]? = some (.bool false) := hI.get hR hr1 29 o29 (by kernel_rfl) (by decide) rfl V29.out
              exact wpOp_skipped rfl (wanted_no rfl rfl t112) ⟨_, rfl, hI.keepV (Below.refl _ _) 31 o31 V31.out⟩
            obtain rfl | hi1 : i = 32 ∨ 33 ≤ i := by omega
            · have t112 : a1.tmps[112]? = some (.bool false) := hI.get hR hr1 29 o29 (by kernel_rfl) (by decide) rfl V29.out
              exact wpOp_skipped rfl (wanted_no rfl rfl t112) ⟨_, rfl, hI.keepV (Below.refl _ _) 32 o32 V32.out⟩
            obtain rfl | hi1 : i = 33 ∨ 34 ≤ i := by omega
            · have t112 : a1.tmps[112]? = some (.bool false) := hI.get hR hr1 29 o29 (by kernel_rfl) (by decide) rfl V29.out
              exact wpOp_skipped rfl (wanted_no rfl rfl t112) ⟨_, rfl, hI.keepV (Below.refl _ _) 33 o33 V33.out⟩
            obtain rfl | hi1 : i = 34 ∨ 35 ≤ i := by omega
            · have t116 : a1.tmps[116]? = some (undef) := hI.get hR hr1 33 o33 (by kernel_rfl) (by decide) rfl V33.out
              exact wpOp_skipped rfl (wanted_undef rfl rfl t116) ⟨_, rfl, hI.keepV (Below.refl _ _) 34 o34 V34.out⟩
            obtain rfl | hi1 : i = 35 ∨ 36 ≤ i := by omega
            · have t116 : a1.tmps[116]? = some (undef) := hI.get hR hr1 33 o33 (by kernel_rfl) (by decide) rfl V33.out
              exact wpOp_skipped rfl (wanted_undef rfl rfl t116) ⟨_, rfl, hI.keepV (Below.refl _ _) 35 o35 V35.out⟩
            obtain rfl | hi1 : i = 36 ∨ 37 ≤ i := by omega
            · have t116 : a1.tmps[116]? = some (undef) := hI.get hR hr1 33 o33 (by kernel_rfl) (by decide) rfl V33.out
              exact wpOp_skipped rfl (wanted_undef rfl rfl t116) ⟨_, rfl, hI.keepV (Below.refl _ _) 36 o36 V36.out⟩
            obtain rfl | hi1 : i = 37 ∨ 38 ≤ i := by omega
            · have t116 : a1.tmps[116]? = some (undef) := hI.get hR hr1 33 o33 (by kernel_rfl) (by decide) rfl V33.out
              exact wpOp_skipped rfl (wanted_undef rfl rfl t116) ⟨_, rfl, hI.keepV (Below.refl _ _) 37 o37 V37.out⟩
            obtain rfl | hi1 : i = 38 ∨ 39 ≤ i := by omega
            · have t116 : a1.tmps[116]? = some (undef) := hI.get hR hr1 33 o33 (by kernel_rfl) (by decide) rfl V33.out
              exact wpOp_skipped rfl (wanted_undef rfl rfl t116) ⟨_, rfl, hI.keepV (Below.refl _ _) 38 o38 V38.out⟩
            obtain rfl | hi1 : i = 39 ∨ 40 ≤ i := by omega
            · have t116 : a1.tmps[116]? = some (undef) := hI.get hR hr1 33 o33 (by kernel_rfl) (by decide) rfl V33.out
              exact wpOp_skipped rfl (wanted_undef rfl rfl t116) ⟨_, rfl, hI.keepV (Below.refl _ _) 39 o39 V39.out⟩
            obtain rfl | hi1 : i = 40 ∨ 41 ≤ i := by omega
            · have t116 : a1.tmps[116]? = some (undef) := hI.get hR hr1 33 o33 (by kernel_rfl) (by decide) rfl V33.out
              exact wpOp_skipped rfl (wanted_undef rfl rfl t116) ⟨_, rfl, hI.keepV (Below.refl _ _) 40 o40 V40.out⟩
            obtain rfl | hi1 : i = 41 ∨ 42 ≤ i := by omega
            · have t116 : a1.tmps[116]? = some (undef) := hI.get hR hr1 33 o33 (by kernel_rfl) (by decide) rfl V33.out
              exact wpOp_skipped rfl (wanted_undef rfl rfl t116) ⟨_, rfl, hI.keepV (Below.refl _ _) 41 o41 V41.out⟩
            obtain rfl | hi1 : i = 42 ∨ 43 ≤ i := by omega
            · have t112 : a1.tmps[112]? = some (.bool false) := hI.get hR hr1 29 o29 (by kernel_rfl) (by decide) rfl V29.out
              exact wpOp_skipped rfl (wanted_no rfl rfl t112) ⟨_, rfl, hI.keepV (Below.refl _ _) 42 o42 V42.out⟩
            obtain rfl | hi1 : i = 43 ∨ 44 ≤ i := by omega
            · have t112 : a1.tmps[112]? = some (.bool false) := hI.get hR hr1 29 o29 (by kernel_rfl) (by decide) rfl V29.out
              exact wpOp_skipped rfl (wanted_no rfl rfl t112) ⟨_, rfl, hI.keepV (Below.refl _ _) 43 o43 V43.out⟩
            obtain rfl | hi1 : i = 44 ∨ 45 ≤ i := by omega
            · have t126 : a1.tmps[126]? = some (undef) := hI.get hR hr1 43 o43 (by kernel_rfl) (by decide) rfl V43.out
              exact wpOp_skipped rfl (wanted_undef rfl rfl t126) ⟨_, rfl, hI.keepV (Below.refl _ _) 44 o44 V44.out⟩
            obtain rfl | hi1 : i = 45 ∨ 46 ≤ i := by omega
            · have t126 : a1.tmps[126]? = some (undef) := hI.get hR hr1 43 o43 (by kernel_rfl) (by decide) rfl V43.out
              exact wpOp_skipped rfl (wanted_undef rfl rfl t126) ⟨_, rfl, hI.keepV (Below.refl _ _) 45 o45 V45.out⟩
            obtain rfl | hi1 : i = 46 ∨ 47 ≤ i := by omega
            · have t126 : a1.tmps[126]? = some (undef) := hI.get hR hr1 43 o43 (by kernel_rfl) (by decide) rfl V43.out
              exact wpOp_skipped rfl (wanted_undef rfl rfl t126) ⟨_, rfl, hI.keepV (Below.refl _ _) 46 o46 V46.out⟩
            obtain rfl | hi1 : i = 47 ∨ 48 ≤ i := by omega
            · have t126 : a1.tmps[126]? = some (undef) := hI.get hR hr1 43 o43 (by kernel_rfl) (by decide) rfl V43.out
              exact wpOp_skipped rfl (wanted_undef rfl rfl t126) ⟨_, rfl, hI.keepV (Below.refl _ _) 47 o47 V47.out⟩
            obtain rfl | hi1 : i = 48 ∨ 49 ≤ i := by omega
            · have t126 : a1.tmps[126]? = some (undef) := hI.get hR hr1 43 o43 (by kernel_rfl) (by decide) rfl V43.out
              exact wpOp_skipped rfl (wanted_undef rfl rfl t126) ⟨_, rfl, hI.keepV (Below.refl _ _) 48 o48 V48.out⟩
            obtain rfl | hi1 : i = 49 ∨ 50 ≤ i := by omega
            · have t126 : a1.tmps[126]? = some (undef) := hI.get hR hr1 43 o43 (by kernel_rfl) (by decide) rfl V43.out
              exact wpOp_skipped rfl (wanted_undef rfl rfl t126) ⟨_, rfl, hI.keepV (Below.refl _ _) 49 o49 V49.out⟩
            obtain rfl | hi1 : i = 50 ∨ 51 ≤ i := by omega
            · have t126 : a1.tmps[126]? = some (undef) := hI.get hR hr1 43 o43 (by kernel_rfl) (by decide) rfl V43.out
              exact wpOp_skipped rfl (wanted_undef rfl rfl t126) ⟨_, rfl, hI.keepV (Below.refl _ _) 50 o50 V50.out⟩
            obtain rfl | hi1 : i = 51 ∨ 52 ≤ i := by omega
            · have t126 : a1.tmps[126]? = some (undef) := hI.get hR hr1 43 o43 (by kernel_rfl) (by decide) rfl V43.out
              exact wpOp_skipped rfl (wanted_undef rfl rfl t126) ⟨_, rfl, hI.keepV (Below.refl _ _) 51 o51 V51.out⟩
            obtain rfl | hi1 : i = 52 ∨ 53 ≤ i := by omega
            · have t126 : a1.tmps[126]? = some (undef) := hI.get hR hr1 43 o43 (by kernel_rfl) (by decide) rfl V43.out
              exact wpOp_skipped rfl (wanted_undef rfl rfl t126) ⟨_, rfl, hI.keepV (Below.refl _ _) 52 o52 V52.out⟩
            obtain rfl | hi1 : i = 53 ∨ 54 ≤ i := by omega
            · have t126 : a1.tmps[126]? = some (undef) := hI.get hR hr1 43 o43 (by kernel_rfl) (by decide) rfl V43.out
              exact wpOp_skipped rfl (wanted_undef rfl rfl t126) ⟨_, rfl, hI.keepV (Below.refl _ _) 53 o53 V53.out⟩
            obtain rfl | hi1 : i = 54 ∨ 55 ≤ i := by omega
            · have t126 : a1.tmps[126]? = some (undef) := hI.get hR hr1 43 o43 (by kernel_rfl) (by decide) rfl V43.out
              exact wpOp_skipped rfl (wanted_undef rfl rfl t126) ⟨_, rfl, hI.keepV (Below.refl _ _) 54 o54 V54.out⟩
            obtain rfl | hi1 : i = 55 ∨ 56 ≤ i := by omega
            · have t112 : a1.tmps[112]? = some (.bool false) := hI.get hR hr1 29 o29 (by kernel_rfl) (by decide) rfl V29.out
              exact wpOp_skipped rfl (wanted_no rfl rfl t112) ⟨_, rfl, hI.keepV (Below.refl _ _) 55 o55 V55.out⟩
            obtain rfl | hi1 : i = 56 ∨ 57 ≤ i := by omega
            · have t105 : a1.tmps[105]? = some (.bool false) := hI.get hR hr1 22 o22 (by kernel_rfl) (by decide) rfl V22.out
              have t112 : a1.tmps[112]? = some (.bool false) := hI.get hR hr1 29 o29 (by kernel_rfl) (by decide) rfl V29.out
              have t138 : a1.tmps[138]? = some (undef) := hI.get hR hr1 55 o55 (by kernel_rfl) (by decide) rfl V55.out
              exact wpOp_val rfl (wanted_yes rfl rfl t105) (by rw [V56.out]; go_simp) ⟨_, rfl, hI.keep (Below.refl _ _) 56 o56⟩
            obtain rfl : i = 57 := by omega
            have t105 : a1.tmps[105]? = some (.bool false) := hI.get hR hr1 22 o22 (by kernel_rfl) (by decide) rfl V22.out
            have t139 : a1.tmps[139]? = some (.bool false) := hI.get hR hr1 56 o56 (by kernel_rfl) (by decide) rfl V56.out
            exact wpOp_val rfl rfl (by rw [V57.out]; go_simp) ⟨_, rfl, hI.keep (Below.refl _ _) 57 o57⟩
          · intro listed vals wq FF hI hall hFF
            have hF2 : FF = (((((((((((((((((((((((((((((((((((((((((((((((((((((((((Act.put _ (some 83) (vals 0)).put (some 84) (vals 1)).put (some 85) (vals 2)).put (some 86) (vals 3)).put (some 87) (vals 4)).put (some 88) (vals 5)).put (some 89) (vals 6)).put (some 90) (vals 7)).put (some 91) (vals 8)).put (some 92) (vals 9)).put (some 93) (vals 10)).put (some 94) (vals 11)).put (some 95) (vals 12)).put (some 96) (vals 13)).put (some 97) (vals 14)).put (some 98) (vals 15)).put (some 99) (vals 16)).put (some 100) (vals 17)).put (some 101) (vals 18)).put (some 102) (vals 19)).put (some 103) (vals 20)).put (some 104) (vals 21)).put (some 105) (vals 22)).put (some 106) (vals 23)).put (some 107) (vals 24)).put (some 108) (vals 25)).put (some 109) (vals 26)).put (some 110) (vals 27)).put (some 111) (vals 28)).put (some 112) (vals 29)).put (some 113) (vals 30)).put (some 114) (vals 31)).put (some 115) (vals 32)).put (some 116) (vals 33)).put (some 117) (vals 34)).put (some 118) (vals 35)).put (some 119) (vals 36)).put (some 120) (vals 37)).put (some 121) (vals 38)).put (some 122) (vals 39)).put (some 123) (vals 40)).put (some 124) (vals 41)).put (some 125) (vals 42)).put (some 126) (vals 43)).put (some 127) (vals 44)).put (some 128) (vals 45)).put (some 129) (vals 46)).put (some 130) (vals 47)).put (some 131) (vals 48)).put (some 132) (vals 49)).put (some 133) (vals 50)).put (some 134) (vals 51)).put (some 135) (vals 52)).put (some 136) (vals 53)).put (some 137) (vals 54)).put (some 138) (vals 55)).put (some 139) (vals 56)).put (some 140) (vals 57) := hFF
            simp only [putAll] at hF2
            rw [hF2]
            have e57 := hI.val 57 o57 (hall 57 (by decide))
            rw [V57.out] at e57
            have bfin := hI.b
            clear hF2 hFF hI hall
            rw [e57]
            go_frame
            generalize vals 0 = y0
            generalize vals 1 = y1
            generalize vals 2 = y2
            generalize vals 3 = y3
            generalize vals 4 = y4
            generalize vals 5 = y5
            generalize vals 6 = y6
            generalize vals 7 = y7
            generalize vals 8 = y8
            generalize vals 9 = y9
            generalize vals 10 = y10
            generalize vals 11 = y11
            generalize vals 12 = y12
            generalize vals 13 = y13
            generalize vals 14 = y14
            generalize vals 15 = y15
            generalize vals 16 = y16
            generalize vals 17 = y17
            generalize vals 18 = y18
            generalize vals 19 = y19
            generalize vals 20 = y20
            generalize vals 21 = y21
            generalize vals 22 = y22
            generalize vals 23 = y23
            generalize vals 24 = y24
            generalize vals 25 = y25
            generalize vals 26 = y26
            generalize vals 27 = y27
            generalize vals 28 = y28
            generalize vals 29 = y29
            generalize vals 30 = y30
            generalize vals 31 = y31
            generalize vals 32 = y32
            generalize vals 33 = y33
            generalize vals 34 = y34
            generalize vals 35 = y35
            generalize vals 36 = y36
            generalize vals 37 = y37
            generalize vals 38 = y38
            generalize vals 39 = y39
            generalize vals 40 = y40
            generalize vals 41 = y41
            generalize vals 42 = y42
            generalize vals 43 = y43
            generalize vals 44 = y44
            generalize vals 45 = y45
            generalize vals 46 = y46
            generalize vals 47 = y47
            generalize vals 48 = y48
            generalize vals 49 = y49
            generalize vals 50 = y50
            generalize vals 51 = y51
            generalize vals 52 = y52
            generalize vals 53 = y53
            generalize vals 54 = y54
            generalize vals 55 = y55
            generalize vals 56 = y56
            generalize vals 57 = y57
            go_wp2_with fail
            exact ⟨⟨i0 + 1, by go_num, HI.out, HBB.out.trans (bfin.mono HBB.out.size)⟩, by simp [intOf]; omega⟩
        · have hz2 : (0 : Int) < (pp : Int) := by omega
          obtain ⟨CV, hCV⟩ : ∃ CV : Nat → Value, CV = fun j => match j with
            | 0 => .slice (some ⟨g, off, none⟩) L.length c6
            | 1 => .int .i64 (i0 : Nat)
            | 2 => .pointer (some ⟨g, off + i0 * 10, none⟩)
            | 3 => .pointer (some ⟨g, off + i0 * 10, none⟩)
            | 4 => .bool true
            | 5 => .bool true
            | 6 => .slice (some ⟨g, off, none⟩) L.length c6
            | 7 => .int .i64 (i0 : Nat)
            | 8 => .pointer (some ⟨g, off + i0 * 10, none⟩)
            | 9 => .pointer (some ⟨g, off + i0 * 10 + 1, none⟩)
            | 10 => .int .u64 (pp : Nat)
            | 11 => .int .u64 (pp : Nat)
            | 12 => .bool false
            | 13 => .bool false
            | 14 => .int .u64 (pp : Nat)
            | 15 => .bool true
            | 16 => .bool true
            | 17 => .pointer (some ⟨g9, 0, none⟩)
            | 18 => .bool false
            | 19 => .bool false
            | 20 => .bool false
            | 21 => .bool false
            | 22 => .bool false
            | 23 => .slice (some ⟨g, off, none⟩) L.length c6
            | 24 => .int .i64 (i0 : Nat)
            | 25 => .pointer (some ⟨g, off + i0 * 10, none⟩)
            | 26 => .pointer (some ⟨g, off + i0 * 10, none⟩)
            | 27 => .bool true
            | 28 => .bool false
            | 29 => .bool false
            | 30 => undef
            | 31 => undef
            | 32 => undef
            | 33 => undef
            | 34 => undef
            | 35 => undef
            | 36 => undef
            | 37 => undef
            | 38 => undef
            | 39 => undef
            | 40 => undef
            | 41 => undef
            | 42 => undef
            | 43 => undef
            | 44 => undef
            | 45 => undef
            | 46 => undef
            | 47 => undef
            | 48 => undef
            | 49 => undef
            | 50 => undef
            | 51 => undef
            | 52 => undef
            | 53 => undef
            | 54 => undef
            | 55 => undef
            | 56 => .bool false
            | 57 => .bool false
            | _ => undef := ⟨_, rfl⟩
          obtain ⟨isO, hO⟩ : ∃ isO : Nat → Bool, isO = fun j => match j with
            | _ => false := ⟨_, rfl⟩
          obtain ⟨BL, hBL⟩ : ∃ BL : Nat → List Int, BL = fun j => match j with
            | _ => [] := ⟨_, rfl⟩
          have v0 : CV 0 = .slice (some ⟨g, off, none⟩) L.length c6 := congrFun hCV 0
          have o0 : isO 0 = false := congrFun hO 0
          have v1 : CV 1 = .int .i64 (i0 : Nat) := congrFun hCV 1
          have o1 : isO 1 = false := congrFun hO 1
          have v2 : CV 2 = .pointer (some ⟨g, off + i0 * 10, none⟩) := congrFun hCV 2
          have o2 : isO 2 = false := congrFun hO 2
          have v3 : CV 3 = .pointer (some ⟨g, off + i0 * 10, none⟩) := congrFun hCV 3
          have o3 : isO 3 = false := congrFun hO 3
          have v4 : CV 4 = .bool true := congrFun hCV 4
          have o4 : isO 4 = false := congrFun hO 4
          have v5 : CV 5 = .bool true := congrFun hCV 5
          have o5 : isO 5 = false := congrFun hO 5
          have v6 : CV 6 = .slice (some ⟨g, off, none⟩) L.length c6 := congrFun hCV 6
          have o6 : isO 6 = false := congrFun hO 6
          have v7 : CV 7 = .int .i64 (i0 : Nat) := congrFun hCV 7
          have o7 : isO 7 = false := congrFun hO 7
          have v8 : CV 8 = .pointer (some ⟨g, off + i0 * 10, none⟩) := congrFun hCV 8
          have o8 : isO 8 = false := congrFun hO 8
          have v9 : CV 9 = .pointer (some ⟨g, off + i0 * 10 + 1, none⟩) := congrFun hCV 9
          have o9 : isO 9 = false := congrFun hO 9
          have v10 : CV 10 = .int .u64 (pp : Nat) := congrFun hCV 10
          have o10 : isO 10 = false := congrFun hO 10
          have v11 : CV 11 = .int .u64 (pp : Nat) := congrFun hCV 11
          have o11 : isO 11 = false := congrFun hO 11
          have v12 : CV 12 = .bool false := congrFun hCV 12
          have o12 : isO 12 = false := congrFun hO 12
          have v13 : CV 13 = .bool false := congrFun hCV 13
          have o13 : isO 13 = false := congrFun hO 13
          have v14 : CV 14 = .int .u64 (pp : Nat) := congrFun hCV 14
          have o14 : isO 14 = false := congrFun hO 14
          have v15 : CV 15 = .bool true := congrFun hCV 15
          have o15 : isO 15 = false := congrFun hO 15
          have v16 : CV 16 = .bool true := congrFun hCV 16
          have o16 : isO 16 = false := congrFun hO 16
          have v17 : CV 17 = .pointer (some ⟨g9, 0, none⟩) := congrFun hCV 17
          have o17 : isO 17 = false := congrFun hO 17
          have v18 : CV 18 = .bool false := congrFun hCV 18
          have o18 : isO 18 = false := congrFun hO 18
          have v19 : CV 19 = .bool false := congrFun hCV 19
          have o19 : isO 19 = false := congrFun hO 19
          have v20 : CV 20 = .bool false := congrFun hCV 20
          have o20 : isO 20 = false := congrFun hO 20
          have v21 : CV 21 = .bool false := congrFun hCV 21
          have o21 : isO 21 = false := congrFun hO 21
          have v22 : CV 22 = .bool false := congrFun hCV 22
          have o22 : isO 22 = false := congrFun hO 22
          have v23 : CV 23 = .slice (some ⟨g, off, none⟩) L.length c6 := congrFun hCV 23
          have o23 : isO 23 = false := congrFun hO 23
          have v24 : CV 24 = .int .i64 (i0 : Nat) := congrFun hCV 24
          have o24 : isO 24 = false := congrFun hO 24
          have v25 : CV 25 = .pointer (some ⟨g, off + i0 * 10, none⟩) := congrFun hCV 25
          have o25 : isO 25 = false := congrFun hO 25
          have v26 : CV 26 = .pointer (some ⟨g, off + i0 * 10, none⟩) := congrFun hCV 26
          have o26 : isO 26 = false := congrFun hO 26
          have v27 : CV 27 = .bool true := congrFun hCV 27
          have o27 : isO 27 = false := congrFun hO 27
          have v28 : CV 28 = .bool false := congrFun hCV 28
          have o28 : isO 28 = false := congrFun hO 28
          have v29 : CV 29 = .bool false := congrFun hCV 29
          have o29 : isO 29 = false := congrFun hO 29
          have v30 : CV 30 = undef := congrFun hCV 30
          have o30 : isO 30 = false := congrFun hO 30
          have v31 : CV 31 = undef := congrFun hCV 31
          have o31 : isO 31 = false := congrFun hO 31
          have v32 : CV 32 = undef := congrFun hCV 32
          have o32 : isO 32 = false := congrFun hO 32
          have v33 : CV 33 = undef := congrFun hCV 33
          have o33 : isO 33 = false := congrFun hO 33
          have v34 : CV 34 = undef := congrFun hCV 34
          have o34 : isO 34 = false := congrFun hO 34
          have v35 : CV 35 = undef := congrFun hCV 35
          have o35 : isO 35 = false := congrFun hO 35
          have v36 : CV 36 = undef := congrFun hCV 36
          have o36 : isO 36 = false := congrFun hO 36
          have v37 : CV 37 = undef := congrFun hCV 37
          have o37 : isO 37 = false := congrFun hO 37
          have v38 : CV 38 = undef := congrFun hCV 38
          have o38 : isO 38 = false := congrFun hO 38
          have v39 : CV 39 = undef := congrFun hCV 39
          have o39 : isO 39 = false := congrFun hO 39
          have v40 : CV 40 = undef := congrFun hCV 40
          have o40 : isO 40 = false := congrFun hO 40
          have v41 : CV 41 = undef := congrFun hCV 41
          have o41 : isO 41 = false := congrFun hO 41
          have v42 : CV 42 = undef := congrFun hCV 42
          have o42 : isO 42 = false := congrFun hO 42
          have v43 : CV 43 = undef := congrFun hCV 43
          have o43 : isO 43 = false := congrFun hO 43
          have v44 : CV 44 = undef := congrFun hCV 44
          have o44 : isO 44 = false := congrFun hO 44
          have v45 : CV 45 = undef := congrFun hCV 45
          have o45 : isO 45 = false := congrFun hO 45
          have v46 : CV 46 = undef := congrFun hCV 46
          have o46 : isO 46 = false := congrFun hO 46
          have v47 : CV 47 = undef := congrFun hCV 47
          have o47 : isO 47 = false := congrFun hO 47
          have v48 : CV 48 = undef := congrFun hCV 48
          have o48 : isO 48 = false := congrFun hO 48
          have v49 : CV 49 = undef := congrFun hCV 49
          have o49 : isO 49 = false := congrFun hO 49
          have v50 : CV 50 = undef := congrFun hCV 50
          have o50 : isO 50 = false := congrFun hO 50
          have v51 : CV 51 = undef := congrFun hCV 51
          have o51 : isO 51 = false := congrFun hO 51
          have v52 : CV 52 = undef := congrFun hCV 52
          have o52 : isO 52 = false := congrFun hO 52
          have v53 : CV 53 = undef := congrFun hCV 53
          have o53 : isO 53 = false := congrFun hO 53
          have v54 : CV 54 = undef := congrFun hCV 54
          have o54 : isO 54 = false := congrFun hO 54
          have v55 : CV 55 = undef := congrFun hCV 55
          have o55 : isO 55 = false := congrFun hO 55
          have v56 : CV 56 = .bool false := congrFun hCV 56
          have o56 : isO 56 = false := congrFun hO 56
          have v57 : CV 57 = .bool false := congrFun hCV 57
          have o57 : isO 57 = false := congrFun hO 57
          clear hCV hO hBL
          have V0 := Lib.hid v0
          have V1 := Lib.hid v1
          have V2 := Lib.hid v2
          have V3 := Lib.hid v3
          have V4 := Lib.hid v4
          have V5 := Lib.hid v5
          have V6 := Lib.hid v6
          have V7 := Lib.hid v7
          have V8 := Lib.hid v8
          have V9 := Lib.hid v9
          have V10 := Lib.hid v10
          have V11 := Lib.hid v11
          have V12 := Lib.hid v12
          have V13 := Lib.hid v13
          have V14 := Lib.hid v14
          have V15 := Lib.hid v15
          have V16 := Lib.hid v16
          have V17 := Lib.hid v17
          have V18 := Lib.hid v18
          have V19 := Lib.hid v19
          have V20 := Lib.hid v20
          have V21 := Lib.hid v21
          have V22 := Lib.hid v22
          have V23 := Lib.hid v23
          have V24 := Lib.hid v24
          have V25 := Lib.hid v25
          have V26 := Lib.hid v26
          have V27 := Lib.hid v27
          have V28 := Lib.hid v28
          have V29 := Lib.hid v29
          have V30 := Lib.hid v30
          have V31 := Lib.hid v31
          have V32 := Lib.hid v32
          have V33 := Lib.hid v33
          have V34 := Lib.hid v34
          have V35 := Lib.hid v35
          have V36 := Lib.hid v36
          have V37 := Lib.hid v37
          have V38 := Lib.hid v38
          have V39 := Lib.hid v39
          have V40 := Lib.hid v40
          have V41 := Lib.hid v41
          have V42 := Lib.hid v42
          have V43 := Lib.hid v43
          have V44 := Lib.hid v44
          have V45 := Lib.hid v45
          have V46 := Lib.hid v46
          have V47 := Lib.hid v47
          have V48 := Lib.hid v48
          have V49 := Lib.hid v49
          have V50 := Lib.hid v50
          have V51 := Lib.hid v51
          have V52 := Lib.hid v52
          have V53 := Lib.hid v53
          have V54 := Lib.hid v54
          have V55 := Lib.hid v55
          have V56 := Lib.hid v56
          have V57 := Lib.hid v57
          clear v0 v1 v2 v3 v4 v5 v6 v7 v8 v9 v10 v11 v12 v13 v14 v15 v16 v17 v18 v19 v20 v21 v22 v23 v24 v25 v26 v27 v28 v29 v30 v31 v32 v33 v34 v35 v36 v37 v38 v39 v40 v41 v42 v43 v44 v45 v46 v47 v48 v49 v50 v51 v52 v53 v54 v55 v56 v57
          refine region_run (RegI w7 isO BL CV) (by kernel_rfl) (by kernel_rfl) (by kernel_rfl) (by kernel_rfl) (RegI.start w7 58) ?_ ?_
          · intro listed vals a1 wq i hs hcl hI hR hi hu hr1
            replace hi : i < 58 := hi
            obtain rfl | hi1 : i = 0 ∨ 1 ≤ i := by omega
            · have t6 := hR.fixed 6 (by kernel_rfl) rfl
              exact wpOp_val rfl rfl (by rw [V0.out]; go_simp) ⟨_, rfl, hI.keep (Below.refl _ _) 0 o0⟩
            obtain rfl | hi1 : i = 1 ∨ 2 ≤ i := by omega
            · have t7 := hR.fixed 7 (by kernel_rfl) rfl
              exact wpOp_val rfl rfl (by rw [V1.out]; go_simp) ⟨_, rfl, hI.keep (Below.refl _ _) 1 o1⟩
            obtain rfl | hi1 : i = 2 ∨ 3 ≤ i := by omega
            · have t83 : a1.tmps[83]? = some (.slice (some ⟨g, off, none⟩) L.length c6) := hI.get hR hr1 0 o0 (by kernel_rfl) (by decide) rfl V0.out
              have t84 : a1.tmps[84]? = some (.int .i64 (i0 : Nat)) := hI.get hR hr1 1 o1 (by kernel_rfl) (by decide) rfl V1.out
              exact wpOp_val rfl rfl (by rw [V2.out]; go_simp) ⟨_, rfl, hI.keep (Below.refl _ _) 2 o2⟩
            obtain rfl | hi1 : i = 3 ∨ 4 ≤ i := by omega
            · have t85 : a1.tmps[85]? = some (.pointer (some ⟨g, off + i0 * 10, none⟩)) := hI.get hR hr1 2 o2 (by kernel_rfl) (by decide) rfl V2.out
              exact wpOp_val rfl rfl (by rw [V3.out]; go_simp) ⟨_, rfl, hI.keep (Below.refl _ _) 3 o3⟩
            obtain rfl | hi1 : i = 4 ∨ 5 ≤ i := by omega
            · have t86 : a1.tmps[86]? = some (.pointer (some ⟨g, off + i0 * 10, none⟩)) := hI.get hR hr1 3 o3 (by kernel_rfl) (by decide) rfl V3.out
              have cc := cell_below hI.b Q0.out
              exact wpOp_val rfl rfl (by rw [V4.out]; go_simp) ⟨_, rfl, hI.keep (Below.refl _ _) 4 o4⟩
            obtain rfl | hi1 : i = 5 ∨ 6 ≤ i := by omega
            · have t87 : a1.tmps[87]? = some (.bool true) := hI.get hR hr1 4 o4 (by kernel_rfl) (by decide) rfl V4.out
              exact wpOp_val rfl rfl (by rw [V5.out]; go_simp) ⟨_, rfl, hI.keep (Below.refl _ _) 5 o5⟩
            obtain rfl | hi1 : i = 6 ∨ 7 ≤ i := by omega
            · have t88 : a1.tmps[88]? = some (.bool true) := hI.get hR hr1 5 o5 (by kernel_rfl) (by decide) rfl V5.out
              have t6 := hR.fixed 6 (by kernel_rfl) rfl
              exact wpOp_val rfl (wanted_yes rfl rfl t88) (by rw [V6.out]; go_simp) ⟨_, rfl, hI.keep (Below.refl _ _) 6 o6⟩
            obtain rfl | hi1 : i = 7 ∨ 8 ≤ i := by omega
            · have t88 : a1.tmps[88]? = some (.bool true) := hI.get hR hr1 5 o5 (by kernel_rfl) (by decide) rfl V5.out
              have t7 := hR.fixed 7 (by kernel_rfl) rfl
              exact wpOp_val rfl (wanted_yes rfl rfl t88) (by rw [V7.out]; go_simp) ⟨_, rfl, hI.keep (Below.refl _ _) 7 o7⟩
            obtain rfl | hi1 : i = 8 ∨ 9 ≤ i := by omega
            · have t88 : a1.tmps[88]? = some (.bool true) := hI.get hR hr1 5 o5 (by kernel_rfl) (by decide) rfl V5.out
              have t89 : a1.tmps[89]? = some (.slice (some ⟨g, off, none⟩) L.length c6) := hI.get hR hr1 6 o6 (by kernel_rfl) (by decide) rfl V6.out
              have t90 : a1.tmps[90]? = some (.int .i64 (i0 : Nat)) := hI.get hR hr1 7 o7 (by kernel_rfl) (by decide) rfl V7.out
              exact wpOp_val rfl (wanted_yes rfl rfl t88) (by rw [V8.out]; go_simp) ⟨_, rfl, hI.keep (Below.refl _ _) 8 o8⟩
            obtain rfl | hi1 : i = 9 ∨ 10 ≤ i := by omega
            · have t88 : a1.tmps[88]? = some (.bool true) := hI.get hR hr1 5 o5 (by kernel_rfl) (by decide) rfl V5.out
              have t91 : a1.tmps[91]? = some (.pointer (some ⟨g, off + i0 * 10, none⟩)) := hI.get hR hr1 8 o8 (by kernel_rfl) (by decide) rfl V8.out
              exact wpOp_val rfl (wanted_yes rfl rfl t88) (by rw [V9.out]; go_simp) ⟨_, rfl, hI.keep (Below.refl _ _) 9 o9⟩
            obtain rfl | hi1 : i = 10 ∨ 11 ≤ i := by omega
            · have t88 : a1.tmps[88]? = some (.bool true) := hI.get hR hr1 5 o5 (by kernel_rfl) (by decide) rfl V5.out
              have t92 : a1.tmps[92]? = some (.pointer (some ⟨g, off + i0 * 10 + 1, none⟩)) := hI.get hR hr1 9 o9 (by kernel_rfl) (by decide) rfl V9.out
              have cc := cell_below hI.b Q1.out
              exact wpOp_val rfl (wanted_yes rfl rfl t88) (by rw [V10.out]; go_simp) ⟨_, rfl, hI.keep (Below.refl _ _) 10 o10⟩
            obtain rfl | hi1 : i = 11 ∨ 12 ≤ i := by omega
            · have t88 : a1.tmps[88]? = some (.bool true) := hI.get hR hr1 5 o5 (by kernel_rfl) (by decide) rfl V5.out
              have t8 := hR.fixed 8 (by kernel_rfl) rfl
              exact wpOp_val rfl (wanted_yes rfl rfl t88) (by rw [V11.out]; go_simp) ⟨_, rfl, hI.keep (Below.refl _ _) 11 o11⟩
            obtain rfl | hi1 : i = 12 ∨ 13 ≤ i := by omega
            · have t88 : a1.tmps[88]? = some (.bool true) := hI.get hR hr1 5 o5 (by kernel_rfl) (by decide) rfl V5.out
              have t93 : a1.tmps[93]? = some (.int .u64 (pp : Nat)) := hI.get hR hr1 10 o10 (by kernel_rfl) (by decide) rfl V10.out
              have t94 : a1.tmps[94]? = some (.int .u64 (pp : Nat)) := hI.get hR hr1 11 o11 (by kernel_rfl) (by decide) rfl V11.out
              exact wpOp_val rfl (wanted_yes rfl rfl t88) (by rw [V12.out]; go_simp) ⟨_, rfl, hI.keep (Below.refl _ _) 12 o12⟩
            obtain rfl | hi1 : i = 13 ∨ 14 ≤ i := by omega
            · have t88 : a1.tmps[88]? = some (.bool true) := hI.get hR hr1 5 o5 (by kernel_rfl) (by decide) rfl V5.out
              have t95 : a1.tmps[95]? = some (.bool false) := hI.get hR hr1 12 o12 (by kernel_rfl) (by decide) rfl V12.out
              exact wpOp_val rfl (wanted_yes rfl rfl t88) (by rw [V13.out]; go_simp) ⟨_, rfl, hI.keep (Below.refl _ _) 13 o13⟩
            obtain rfl | hi1 : i = 14 ∨ 15 ≤ i := by omega
            · have t96 : a1.tmps[96]? = some (.bool false) := hI.get hR hr1 13 o13 (by kernel_rfl) (by decide) rfl V13.out
              have t8 := hR.fixed 8 (by kernel_rfl) rfl
              exact wpOp_val rfl (wanted_yes rfl rfl t96) (by rw [V14.out]; go_simp) ⟨_, rfl, hI.keep (Below.refl _ _) 14 o14⟩
            obtain rfl | hi1 : i = 15 ∨ 16 ≤ i := by omega
            · have t96 : a1.tmps[96]? = some (.bool false) := hI.get hR hr1 13 o13 (by kernel_rfl) (by decide) rfl V13.out
              have t97 : a1.tmps[97]? = some (.int .u64 (pp : Nat)) := hI.get hR hr1 14 o14 (by kernel_rfl) (by decide) rfl V14.out
              exact wpOp_val rfl (wanted_yes rfl rfl t96) (by rw [V15.out]; go_simp) ⟨_, rfl, hI.keep (Below.refl _ _) 15 o15⟩
            obtain rfl | hi1 : i = 16 ∨ 17 ≤ i := by omega
            · have t96 : a1.tmps[96]? = some (.bool false) := hI.get hR hr1 13 o13 (by kernel_rfl) (by decide) rfl V13.out
              have t98 : a1.tmps[98]? = some (.bool true) := hI.get hR hr1 15 o15 (by kernel_rfl) (by decide) rfl V15.out
              exact wpOp_val rfl (wanted_yes rfl rfl t96) (by rw [V16.out]; go_simp) ⟨_, rfl, hI.keep (Below.refl _ _) 16 o16⟩
            obtain rfl | hi1 : i = 17 ∨ 18 ≤ i := by omega
            · have t99 : a1.tmps[99]? = some (.bool true) := hI.get hR hr1 16 o16 (by kernel_rfl) (by decide) rfl V16.out
              have t9 := hR.fixed 9 (by kernel_rfl) rfl
              exact wpOp_val rfl (wanted_yes rfl rfl t99) (by rw [V17.out]; go_simp) ⟨_, rfl, hI.keep (Below.refl _ _) 17 o17⟩
            obtain rfl | hi1 : i = 18 ∨ 19 ≤ i := by omega
            · have t99 : a1.tmps[99]? = some (.bool true) := hI.get hR hr1 16 o16 (by kernel_rfl) (by decide) rfl V16.out
              have t100 : a1.tmps[100]? = some (.pointer (some ⟨g9, 0, none⟩)) := hI.get hR hr1 17 o17 (by kernel_rfl) (by decide) rfl V17.out
              have cc := cell_below hI.b L0.out
              exact wpOp_val rfl (wanted_yes rfl rfl t99) (by rw [V18.out]; go_simp) ⟨_, rfl, hI.keep (Below.refl _ _) 18 o18⟩
            obtain rfl | hi1 : i = 19 ∨ 20 ≤ i := by omega
            · have t96 : a1.tmps[96]? = some (.bool false) := hI.get hR hr1 13 o13 (by kernel_rfl) (by decide) rfl V13.out
              have t99 : a1.tmps[99]? = some (.bool true) := hI.get hR hr1 16 o16 (by kernel_rfl) (by decide) rfl V16.out
              have t101 : a1.tmps[101]? = some (.bool false) := hI.get hR hr1 18 o18 (by kernel_rfl) (by decide) rfl V18.out
              exact wpOp_val rfl (wanted_yes rfl rfl t96) (by rw [V19.out]; go_simp) ⟨_, rfl, hI.keep (Below.refl _ _) 19 o19⟩
            obtain rfl | hi1 : i = 20 ∨ 21 ≤ i := by omega
            · have t88 : a1.tmps[88]? = some (.bool true) := hI.get hR hr1 5 o5 (by kernel_rfl) (by decide) rfl V5.out
              have t96 : a1.tmps[96]? = some (.bool false) := hI.get hR hr1 13 o13 (by kernel_rfl) (by decide) rfl V13.out
              have t102 : a1.tmps[102]? = some (.bool false) := hI.get hR hr1 19 o19 (by kernel_rfl) (by decide) rfl V19.out
              exact wpOp_val rfl (wanted_yes rfl rfl t88) (by rw [V20.out]; go_simp) ⟨_, rfl, hI.keep (Below.refl _ _) 20 o20⟩
            obtain rfl | hi1 : i = 21 ∨ 22 ≤ i := by omega
            · have t88 : a1.tmps[88]? = some (.bool true) := hI.get hR hr1 5 o5 (by kernel_rfl) (by decide) rfl V5.out
              have t103 : a1.tmps[103]? = some (.bool false) := hI.get hR hr1 20 o20 (by kernel_rfl) (by decide) rfl V20.out
              exact wpOp_val rfl rfl (by rw [V21.out]; go_simp) ⟨_, rfl, hI.keep (Below.refl _ _) 21 o21⟩
            obtain rfl | hi1 : i = 22 ∨ 23 ≤ i := by omega
            · have t104 : a1.tmps[104]? = some (.bool false) := hI.get hR hr1 21 o21 (by kernel_rfl) (by decide) rfl V21.out
              exact wpOp_val rfl rfl (by rw [V22.out]; go_simp) ⟨_, rfl, hI.keep (Below.refl _ _) 22 o22⟩
            obtain rfl | hi1 : i = 23 ∨ 24 ≤ i := by omega
            · have t105 : a1.tmps[105]? = some (.bool false) := hI.get hR hr1 22 o22 (by kernel_rfl) (by decide) rfl V22.out
              have t6 := hR.fixed 6 (by kernel_rfl) rfl
              exact wpOp_val rfl (wanted_yes rfl rfl t105) (by rw [V23.out]; go_simp) ⟨_, rfl, hI.keep (Below.refl _ _) 23 o23⟩
            obtain rfl | hi1 : i = 24 ∨ 25 ≤ i := by omega
            · have t105 : a1.tmps[105]? = some (.bool false) := hI.get hR hr1 22 o22 (by kernel_rfl) (by decide) rfl V22.out
              have t7 := hR.fixed 7 (by kernel_rfl) rfl
              exact wpOp_val rfl (wanted_yes rfl rfl t105) (by rw [V24.out]; go_simp) ⟨_, rfl, hI.keep (Below.refl _ _) 24 o24⟩
            obtain rfl | hi1 : i = 25 ∨ 26 ≤ i := by omega
            · have t105 : a1.tmps[105]? = some (.bool false) := hI.get hR hr1 22 o22 (by kernel_rfl) (by decide) rfl V22.out
              have t106 : a1.tmps[106]? = some (.slice (some ⟨g, off, none⟩) L.length c6) := hI.get hR hr1 23 o23 (by kernel_rfl) (by decide) rfl V23.out
              have t107 : a1.tmps[107]? = some (.int .i64 (i0 : Nat)) := hI.get hR hr1 24 o24 (by kernel_rfl) (by decide) rfl V24.out
              exact wpOp_val rfl (wanted_yes rfl rfl t105) (by rw [V25.out]; go_simp) ⟨_, rfl, hI.keep (Below.refl _ _) 25 o25⟩
            obtain rfl | hi1 : i = 26 ∨ 27 ≤ i := by omega
            · have t105 : a1.tmps[105]? = some (.bool false) := hI.get hR hr1 22 o22 (by kernel_rfl) (by decide) rfl V22.out
              have t108 : a1.tmps[108]? = some (.pointer (some ⟨g, off + i0 * 10, none⟩)) := hI.get hR hr1 25 o25 (by kernel_rfl) (by decide) rfl V25.out
              exact wpOp_val rfl (wanted_yes rfl rfl t105) (by rw [V26.out]; go_simp) ⟨_, rfl, hI.keep (Below.refl _ _) 26 o26⟩
            obtain rfl | hi1 : i = 27 ∨ 28 ≤ i := by omega
            · have t105 : a1.tmps[105]? = some (.bool false) := hI.get hR hr1 22 o22 (by kernel_rfl) (by decide) rfl V22.out
              have t109 : a1.tmps[109]? = some (.pointer (some ⟨g, off + i0 * 10, none⟩)) := hI.get hR hr1 26 o26 (by kernel_rfl) (by decide) rfl V26.out
              have cc := cell_below hI.b Q0.out
              exact wpOp_val rfl (wanted_yes rfl rfl t105) (by rw [V27.out]; go_simp) ⟨_, rfl, hI.keep (Below.refl _ _) 27 o27⟩
            obtain rfl | hi1 : i = 28 ∨ 29 ≤ i := by omega
            · have t105 : a1.tmps[105]? = some (.bool false) := hI.get hR hr1 22 o22 (by kernel_rfl) (by decide) rfl V22.out
              have t110 : a1.tmps[110]? = some (.bool true) := hI.get hR hr1 27 o27 (by kernel_rfl) (by decide) rfl V27.out
              exact wpOp_val rfl (wanted_yes rfl rfl t105) (by rw [V28.out]; go_simp) ⟨_, rfl, hI.keep (Below.refl _ _) 28 o28⟩
            obtain rfl | hi1 : i = 29 ∨ 30 ≤ i := by omega
            · have t105 : a1.tmps[105]? = some (.bool false) := hI.get hR hr1 22 o22 (by kernel_rfl) (by decide) rfl V22.out
              have t111 : a1.tmps[111]? = some (.bool false) := hI.get hR hr1 28 o28 (by kernel_rfl) (by decide) rfl V28.out
              exact wpOp_val rfl (wanted_yes rfl rfl t105) (by rw [V29.out]; go_simp) ⟨_, rfl, hI.keep (Below.refl _ _) 29 o29⟩
            obtain rfl | hi1 : i = 30 ∨ 31 ≤ i := by omega
            · have t112 : a1.tmps[112]? = some (.bool false) := hI.get hR hr1 29 o29 (by kernel_rfl) (by decide) rfl V29.out
              exact wpOp_skipped rfl (wanted_no rfl rfl t112) ⟨_, rfl, hI.keepV (Below.refl _ _) 30 o30 V30.out⟩
            obtain rfl | hi1 : i = 31 ∨ 32 ≤ i := by omega
            · have t112 : a1.tmps[112]? = some (.bool false) := hI.get hR hr1 29 o29 (by kernel_rfl) (by decide) rfl V29.out
              exact wpOp_skipped rfl (wanted_no rfl rfl t112) ⟨_, rfl, hI.keepV (Below.refl _ _) 31 o31 V31.out⟩
            obtain rfl | hi1 : i = 32 ∨ 33 ≤ i := by omega
            · have t112 : a1.tmps[112]? = some (.bool false) := hI.get hR hr1 29 o29 (by kernel_rfl) (by decide) rfl V29.out
              exact wpOp_skipped rfl (wanted_no rfl rfl t112) ⟨_, rfl, hI.keepV (Below.refl _ _) 32 o32 V32.out⟩
            obtain rfl | hi1 : i = 33 ∨ 34 ≤ i := by omega
            · have t112 : a1.tmps[112]? = some (.bool false) := hI.get hR hr1 29 o29 (by kernel_rfl) (by decide) rfl V29.out
              exact wpOp_skipped rfl (wanted_no rfl rfl t112) ⟨_, rfl, hI.keepV (Below.refl _ _) 33 o33 V33.out⟩
            obtain rfl | hi1 : i = 34 ∨ 35 ≤ i := by omega
            · have t116 : a1.tmps[116]? = some (undef) := hI.get hR hr1 33 o33 (by kernel_rfl) (by decide) rfl V33.out
              exact wpOp_skipped rfl (wanted_undef rfl rfl t116) ⟨_, rfl, hI.keepV (Below.refl _ _) 34 o34 V34.out⟩
            obtain rfl | hi1 : i = 35 ∨ 36 ≤ i := by omega
            · have t116 : a1.tmps[116]? = some (undef) := hI.get hR hr1 33 o33 (by kernel_rfl) (by decide) rfl V33.out
              exact wpOp_skipped rfl (wanted_undef rfl rfl t116) ⟨_, rfl, hI.keepV (Below.refl _ _) 35 o35 V35.out⟩
            obtain rfl | hi1 : i = 36 ∨ 37 ≤ i := by omega
            · have t116 : a1.tmps[116]? = some (undef) := hI.get hR hr1 33 o33 (by kernel_rfl) (by decide) rfl V33.out
              exact wpOp_skipped rfl (wanted_undef rfl rfl t116) ⟨_, rfl, hI.keepV (Below.refl _ _) 36 o36 V36.out⟩
            obtain rfl | hi1 : i = 37 ∨ 38 ≤ i := by omega
            · have t116 : a1.tmps[116]? = some (undef) := hI.get hR hr1 33 o33 (by kernel_rfl) (by decide) rfl V33.out
              exact wpOp_skipped rfl (wanted_undef rfl rfl t116) ⟨_, rfl, hI.keepV (Below.refl _ _) 37 o37 V37.out⟩
            obtain rfl | hi1 : i = 38 ∨ 39 ≤ i := by omega
            · have t116 : a1.tmps[116]? = some (undef) := hI.get hR hr1 33 o33 (by kernel_rfl) (by decide) rfl V33.out
              exact wpOp_skipped rfl (wanted_undef rfl rfl t116) ⟨_, rfl, hI.keepV (Below.refl _ _) 38 o38 V38.out⟩
            obtain rfl | hi1 : i = 39 ∨ 40 ≤ i := by omega
            · have t116 : a1.tmps[116]? = some (undef) := hI.get hR hr1 33 o33 (by kernel_rfl) (by decide) rfl V33.out
              exact wpOp_skipped rfl (wanted_undef rfl rfl t116) ⟨_, rfl, hI.keepV (Below.refl _ _) 39 o39 V39.out⟩
            obtain rfl | hi1 : i = 40 ∨ 41 ≤ i := by omega
            · have t116 : a1.tmps[116]? = some (undef) := hI.get hR hr1 33 o33 (by kernel_rfl) (by decide) rfl V33.out
              exact wpOp_skipped rfl (wanted_undef rfl rfl t116) ⟨_, rfl, hI.keepV (Below.refl _ _) 40 o40 V40.out⟩
            obtain rfl | hi1 : i = 41 ∨ 42 ≤ i := by omega
            · have t116 : a1.tmps[116]? = some (undef) := hI.get hR hr1 33 o33 (by kernel_rfl) (by decide) rfl V33.out
              exact wpOp_skipped rfl (wanted_undef rfl rfl t116) ⟨_, rfl, hI.keepV (Below.refl _ _) 41 o41 V41.out⟩
            obtain rfl | hi1 : i = 42 ∨ 43 ≤ i := by omega
            · have t112 : a1.tmps[112]? = some (.bool false) := hI.get hR hr1 29 o29 (by kernel_rfl) (by decide) rfl V29.out
              exact wpOp_skipped rfl (wanted_no rfl rfl t112) ⟨_, rfl, hI.keepV (Below.refl _ _) 42 o42 V42.out⟩
            obtain rfl | hi1 : i = 43 ∨ 44 ≤ i := by omega
            · have t112 : a1.tmps[112]? = some (.bool false) := hI.get hR hr1 29 o29 (by kernel_rfl) (by decide) rfl V29.out
              exact wpOp_skipped rfl (wanted_no rfl rfl t112) ⟨_, rfl, hI.keepV (Below.refl _ _) 43 o43 V43.out⟩
            obtain rfl | hi1 : i = 44 ∨ 45 ≤ i := by omega
            · have t126 : a1.tmps[126]? = some (undef) := hI.get hR hr1 43 o43 (by kernel_rfl) (by decide) rfl V43.out
              exact wpOp_skipped rfl (wanted_undef rfl rfl t126) ⟨_, rfl, hI.keepV (Below.refl _ _) 44 o44 V44.out⟩
            obtain rfl | hi1 : i = 45 ∨ 46 ≤ i := by omega
            · have t126 : a1.tmps[126]? = some (undef) := hI.get hR hr1 43 o43 (by kernel_rfl) (by decide) rfl V43.out
              exact wpOp_skipped rfl (wanted_undef rfl rfl t126) ⟨_, rfl, hI.keepV (Below.refl _ _) 45 o45 V45.out⟩
            obtain rfl | hi1 : i = 46 ∨ 47 ≤ i := by omega
            · have t126 : a1.tmps[126]? = some (undef) := hI.get hR hr1 43 o43 (by kernel_rfl) (by decide) rfl V43.out
              exact wpOp_skipped rfl (wanted_undef rfl rfl t126) ⟨_, rfl, hI.keepV (Below.refl _ _) 46 o46 V46.out⟩
            obtain rfl | hi1 : i = 47 ∨ 48 ≤ i := by omega
            · have t126 : a1.tmps[126]? = some (undef) := hI.get hR hr1 43 o43 (by kernel_rfl) (by decide) rfl V43.out
              exact wpOp_skipped rfl (wanted_undef rfl rfl t126) ⟨_, rfl, hI.keepV (Below.refl _ _) 47 o47 V47.out⟩
            obtain rfl | hi1 : i = 48 ∨ 49 ≤ i := by omega
            · have t126 : a1.tmps[126]? = some (undef) := hI.get hR hr1 43 o43 (by kernel_rfl) (by decide) rfl V43.out
              exact wpOp_skipped rfl (wanted_undef rfl rfl t126) ⟨_, rfl, hI.keepV (Below.refl _ _) 48 o48 V48.out⟩
            obtain rfl | hi1 : i = 49 ∨ 50 ≤ i := by omega
            · have t126 : a1.tmps[126]? = some (undef) := hI.get hR hr1 43 o43 (by kernel_rfl) (by decide) rfl V43.out
              exact wpOp_skipped rfl (wanted_undef rfl rfl t126) ⟨_, rfl, hI.keepV (Below.refl _ _) 49 o49 V49.out⟩
            obtain rfl | hi1 : i = 50 ∨ 51 ≤ i := by omega
            · have t126 : a1.tmps[126]? = some (undef) := hI.get hR hr1 43 o43 (by kernel_rfl) (by decide) rfl V43.out
              exact wpOp_skipped rfl (wanted_undef rfl rfl t126) ⟨_, rfl, hI.keepV (Below.refl _ _) 50 o50 V50.out⟩
            obtain rfl | hi1 : i = 51 ∨ 52 ≤ i := by omega
            · have t126 : a1.tmps[126]? = some (undef) := hI.get hR hr1 43 o43 (by kernel_rfl) (by decide) rfl V43.out
              exact wpOp_skipped rfl (wanted_undef rfl rfl t126) ⟨_, rfl, hI.keepV (Below.refl _ _) 51 o51 V51.out⟩
            obtain rfl | hi1 : i = 52 ∨ 53 ≤ i := by omega
            · have t126 : a1.tmps[126]? = some (undef) := hI.get hR hr1 43 o43 (by kernel_rfl) (by decide) rfl V43.out
              exact wpOp_skipped rfl (wanted_undef rfl rfl t126) ⟨_, rfl, hI.keepV (Below.refl _ _) 52 o52 V52.out⟩
            obtain rfl | hi1 : i = 53 ∨ 54 ≤ i := by omega
            · have t126 : a1.tmps[126]? = some (undef) := hI.get hR hr1 43 o43 (by kernel_rfl) (by decide) rfl V43.out
              exact wpOp_skipped rfl (wanted_undef rfl rfl t126) ⟨_, rfl, hI.keepV (Below.refl _ _) 53 o53 V53.out⟩
            obtain rfl | hi1 : i = 54 ∨ 55 ≤ i := by omega
            · have t126 : a1.tmps[126]? = some (undef) := hI.get hR hr1 43 o43 (by kernel_rfl) (by decide) rfl V43.out
              exact wpOp_skipped rfl (wanted_undef rfl rfl t126) ⟨_, rfl, hI.keepV (Below.refl _ _) 54 o54 V54.out⟩
            obtain rfl | hi1 : i = 55 ∨ 56 ≤ i := by omega
            · have t112 : a1.tmps[112]? = some (.bool false) := hI.get hR hr1 29 o29 (by kernel_rfl) (by decide) rfl V29.out
              exact wpOp_skipped rfl (wanted_no rfl rfl t112) ⟨_, rfl, hI.keepV (Below.refl _ _) 55 o55 V55.out⟩
            obtain rfl | hi1 : i = 56 ∨ 57 ≤ i := by omega
            · have t105 : a1.tmps[105]? = some (.bool false) := hI.get hR hr1 22 o22 (by kernel_rfl) (by decide) rfl V22.out
              have t112 : a1.tmps[112]? = some (.bool false) := hI.get hR hr1 29 o29 (by kernel_rfl) (by decide) rfl V29.out
              have t138 : a1.tmps[138]? = some (undef) := hI.get hR hr1 55 o55 (by kernel_rfl) (by decide) rfl V55.out
              exact wpOp_val rfl (wanted_yes rfl rfl t105) (by rw [V56.out]; go_simp) ⟨_, rfl, hI.keep (Below.refl _ _) 56 o56⟩
            obtain rfl : i = 57 := by omega
            have t105 : a1.tmps[105]? = some (.bool false) := hI.get hR hr1 22 o22 (by kernel_rfl) (by decide) rfl V22.out
            have t139 : a1.tmps[139]? = some (.bool false) := hI.get hR hr1 56 o56 (by kernel_rfl) (by decide) rfl V56.out
            exact wpOp_val rfl rfl (by rw [V57.out]; go_simp) ⟨_, rfl, hI.keep (Below.refl _ _) 57 o57⟩
          · intro listed vals wq FF hI hall hFF
            have hF2 : FF = (((((((((((((((((((((((((((((((((((((((((((((((((((((((((Act.put _ (some 83) (vals 0)).put (some 84) (vals 1)).put (some 85) (vals 2)).put (some 86) (vals 3)).put (some 87) (vals 4)).put (some 88) (vals 5)).put (some 89) (vals 6)).put (some 90) (vals 7)).put (some 91) (vals 8)).put (some 92) (vals 9)).put (some 93) (vals 10)).put (some 94) (vals 11)).put (some 95) (vals 12)).put (some 96) (vals 13)).put (some 97) (vals 14)).put (some 98) (vals 15)).put (some 99) (vals 16)).put (some 100) (vals 17)).put (some 101) (vals 18)).put (some 102) (vals 19)).put (some 103) (vals 20)).put (some 104) (vals 21)).put (some 105) (vals 22)).put (some 106) (vals 23)).put (some 107) (vals 24)).put (some 108) (vals 25)).put (some 109) (vals 26)).put (some 110) (vals 27)).put (some 111) (vals 28)).put (some 112) (vals 29)).put (some 113) (vals 30)).put (some 114) (vals 31)).put (some 115) (vals 32)).put (some 116) (vals 33)).put (some 117) (vals 34)).put (some 118) (vals 35)).put (some 119) (vals 36)).put (some 120) (vals 37)).put (some 121) (vals 38)).put (some 122) (vals 39)).put (some 123) (vals 40)).put (some 124) (vals 41)).put (some 125) (vals 42)).put (some 126) (vals 43)).put (some 127) (vals 44)).put (some 128) (vals 45)).put (some 129) (vals 46)).put (some 130) (vals 47)).put (some 131) (vals 48)).put (some 132) (vals 49)).put (some 133) (vals 50)).put (some 134) (vals 51)).put (some 135) (vals 52)).put (some 136) (vals 53)).put (some 137) (vals 54)).put (some 138) (vals 55)).put (some 139) (vals 56)).put (some 140) (vals 57) := hFF
            simp only [putAll] at hF2
            rw [hF2]
            have e57 := hI.val 57 o57 (hall 57 (by decide))
            rw [V57.out] at e57
            have bfin := hI.b
            clear hF2 hFF hI hall
            rw [e57]
            go_frame
            generalize vals 0 = y0
            generalize vals 1 = y1
            generalize vals 2 = y2
            generalize vals 3 = y3
            generalize vals 4 = y4
            generalize vals 5 = y5
            generalize vals 6 = y6
            generalize vals 7 = y7
            generalize vals 8 = y8
            generalize vals 9 = y9
            generalize vals 10 = y10
            generalize vals 11 = y11
            generalize vals 12 = y12
            generalize vals 13 = y13
            generalize vals 14 = y14
            generalize vals 15 = y15
            generalize vals 16 = y16
            generalize vals 17 = y17
            generalize vals 18 = y18
            generalize vals 19 = y19
            generalize vals 20 = y20
            generalize vals 21 = y21
            generalize vals 22 = y22
            generalize vals 23 = y23
            generalize vals 24 = y24
            generalize vals 25 = y25
            generalize vals 26 = y26
            generalize vals 27 = y27
            generalize vals 28 = y28
            generalize vals 29 = y29
            generalize vals 30 = y30
            generalize vals 31 = y31
            generalize vals 32 = y32
            generalize vals 33 = y33
            generalize vals 34 = y34
            generalize vals 35 = y35
            generalize vals 36 = y36
            generalize vals 37 = y37
            generalize vals 38 = y38
            generalize vals 39 = y39
            generalize vals 40 = y40
            generalize vals 41 = y41
            generalize vals 42 = y42
            generalize vals 43 = y43
            generalize vals 44 = y44
            generalize vals 45 = y45
            generalize vals 46 = y46
            generalize vals 47 = y47
            generalize vals 48 = y48
            generalize vals 49 = y49
            generalize vals 50 = y50
            generalize vals 51 = y51
            generalize vals 52 = y52
            generalize vals 53 = y53
            generalize vals 54 = y54
            generalize vals 55 = y55
            generalize vals 56 = y56
            generalize vals 57 = y57
            go_wp2_with fail
            exact ⟨⟨i0 + 1, by go_num, HI.out, HBB.out.trans (bfin.mono HBB.out.size)⟩, by simp [intOf]; omega⟩
    · obtain rfl : i0 = L.length := by omega
      go_wp2_with fail
      go_ret
      exact ⟨rfl, HB5.out.trans (hb.mono HB5.out.size)⟩
open Go.ChangeShapes Go.WideShapes in
theorem revisions_walk {H : Type} {enc : TypeId × Value → H} (W : World) {b0 : Nat} {v : Value} {d : DataW H} {p : List MemPlace} (hv : Value.okWide Try.prog W .any b0 28 v)
    (h : DataW.Trod enc Try.prog W 0 (fun _ => true) true 28 v d p) {ts : List TypeId} {ds : List (DataW H)} (_ : (DataW.weightsEach Try.prog ts ds).all (· ≤ reachBytes) = true) :
    Calls Try.prog 4 #[v] W fun e w' => e = .returned (.bool true) ∧ Below W.heap.size W w' := by
  obtain ⟨A, cap, l, rfl, hr, ho⟩ := open_acts hv h
  exact revisions_any A cap l W hr ho
end Go.Proofs.Ytgpfoamhcoipgaa
