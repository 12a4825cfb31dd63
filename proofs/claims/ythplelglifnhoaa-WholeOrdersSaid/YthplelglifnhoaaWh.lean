import Derived.Test.YthplelglifnhoaaLd
import Derived.Test.YthplelglifnhoaaLp
import Derived.Test.YthplelglifnhoaaSp
import Derived.Great.BuildSlice
import Derived.Shelf.SlSortCmp.NoneTotal
import Derived.Test.YthplelglifnhoaaWg
/-! The ledger's Len, All, View. -/
namespace Go.Proofs.Ythplelglifnhoaa
open Go.RowKit Go.Sort Go.ChangeMaps
set_option linter.unusedVariables false
theorem layP (z : Array Value) (hz : z.size = 8) (b : Value) (W C : Array Value) (hW : W.size = 2) (hC : C.size = 5) (i : Nat) :
    (lay C (lay W (lay #[b] z 0) 1) 3)[i]? = (#[b] ++ W ++ C)[i]? := by
  have s1 : (lay #[b] z 0).size = 8 := by rw [lay_size _ _ _ (by rw [hz]; exact of_decide_eq_true rfl), hz]
  have s2 : (lay W (lay #[b] z 0) 1).size = 8 := by rw [lay_size _ _ _ (by rw [s1, hW]; decide), s1]
  rw [lay_at _ _ _ _ (by rw [s2, hC]; decide), lay_at _ _ _ _ (by rw [s1, hW]; decide), lay_at _ _ _ _ (by rw [hz]; exact of_decide_eq_true rfl), hC, hW]
  have e2 : (#[b] : Array Value).size = 1 := rfl
  have e3 : (#[b] ++ W).size = 3 := by rw [Array.size_append, e2, hW]
  rw [e2, Array.getElem?_append, e3, Array.getElem?_append, e2]
  by_cases h3 : i < 3
  · rw [if_neg (show ¬(3 ≤ i ∧ i < 3 + 5) by omega), if_pos h3]
    by_cases h1 : i < 1
    · rw [if_neg (show ¬(1 ≤ i ∧ i < 1 + 2) by omega), if_pos (show 0 ≤ i ∧ i < 0 + 1 by omega), if_pos h1]; rfl
    · rw [if_pos (show 1 ≤ i ∧ i < 1 + 2 by omega), if_neg h1]
  · by_cases h8 : i < 8
    · rw [if_pos (show 3 ≤ i ∧ i < 3 + 5 by omega), if_neg h3]
    · rw [if_neg (show ¬(3 ≤ i ∧ i < 3 + 5) by omega), if_neg (show ¬(1 ≤ i ∧ i < 1 + 2) by omega), if_neg (show ¬(0 ≤ i ∧ i < 0 + 1) by omega), if_neg h3, Array.getElem?_eq_none (by rw [hz]; omega), Array.getElem?_eq_none (by rw [hC]; omega)]
set_option maxRecDepth 100000 in
theorem built_pane0 (b : Value) (hb : b.cells = #[b]) (W C : Array Value) (hW : W.size = 2) (hC : C.size = 5) : Try.prog.built 63 [(0, b), (1, .agg W), (2, .agg C)] = some (#[b] ++ W ++ C) := by
  rw [built_of 63 Try.t63 (paneL default).toArray _ [(0, 1), (1, 2), (3, 5)] (by kernel_rfl) (by kernel_rfl) Try.underlying63 (by kernel_rfl)]
  have hz : (paneL default).toArray.size = 8 := rfl
  generalize (paneL default).toArray = z at *
  have s1 : (lay #[b] z 0).size = 8 := by rw [lay_size _ _ _ (by rw [hz]; exact of_decide_eq_true rfl), hz]
  have s2 : (lay W (lay #[b] z 0) 1).size = 8 := by rw [lay_size _ _ _ (by rw [s1, hW]; decide), s1]
  rw [fill_step _ _ _ _ _ 0 1 rfl (by rw [hb]; rfl) (by rw [hb, hz]; exact of_decide_eq_true rfl), hb, fill_step _ _ _ (.agg W) _ 1 2 rfl hW (by show 1 + W.size ≤ (lay #[b] z 0).size; rw [s1, hW]; decide),
    fill_step _ _ _ (.agg C) _ 3 5 rfl hC (by show 3 + C.size ≤ (lay W (lay #[b] z 0) 1).size; rw [s2, hC]; decide), Instr.fill]
  congr 1
  exact Array.ext_getElem? (layP z hz _ W C hW hC)
theorem built_pane (x : Nm) (a : AV) : Try.prog.built 63 [(0, .string x.key), (1, .agg #[.int .i64 x.s, .int .i64 x.e]), (2, .agg (avC a))] = some (paneL ⟨x, a⟩).toArray := (built_pane0 (.string x.key) rfl #[.int .i64 x.s, .int .i64 x.e] (avC a) rfl rfl).trans rfl
end Go.Proofs.Ythplelglifnhoaa
/-! Panes: laid, sorted, told. -/
namespace Go.Proofs.Ythplelglifnhoaa
open Go.RowKit Go.Sort Go.ChangeMaps Go.Shelf
set_option linter.unusedVariables false
set_option linter.unusedSectionVars false

section
variable {P : Program} {α : Type} {enc : α → List Value} {k bytes : Nat} {e : TypeId}
variable [Inhabited α]
end

set_option maxRecDepth 100000 in
/-- How a pane's cells lie. -/
theorem encPane : Enc Try.prog 63 paneL 8 72 where
  pos := by decide
  len := fun _ => rfl
  one := paneL_one
  info := ⟨_, _, rfl, rfl, rfl, rfl, rfl⟩
end Go.Proofs.Ythplelglifnhoaa
/-! Panes of events. -/
namespace Go.Proofs.Ythplelglifnhoaa
open Go.Shelf Go.RowKit Go.Lib Go.Sort
set_option linter.unusedVariables false
set_option linter.unusedSimpArgs false
attribute [-simp] Try.isAgg47 Try.sizeOf47 Try.typeInfo47 Try.type47
attribute [-simp] Try.isAgg45 Try.sizeOf45 Try.typeInfo45 Try.type45
attribute [-simp] Try.isAgg63 Try.sizeOf63 Try.typeInfo63 Try.type63
attribute [-simp] Try.isAgg61 Try.sizeOf61 Try.typeInfo61 Try.type61
attribute [-simp] Try.isAgg40 Try.sizeOf40 Try.typeInfo40 Try.type40
attribute [-simp] Try.isAgg28 Try.sizeOf28 Try.typeInfo28 Try.type28

section
variable {P : Program} {ops : Array Oper} {Q : Exit → Act → World → Prop}
theorem region_run2 {id : Nat} {a0 : Act} {w0 : World} (I : Array Bool → (Nat → Value) → World → Prop)
    (hm : P.follows .mixedOrders = true) (hf : forwardB .any ops = true) (hb : inB .any ops = true) (hd : dstsB ops a0.tmps.size [] = true)
    (h0 : I (Array.replicate ops.size false) (fun _ => undef) w0.drew)
    (hstep : ∀ listed vals a w i, listed.size = ops.size → Closed .any ops listed → I listed vals w → InRun ops a0 listed vals a → (∀ t, (∀ j, j < ops.size → listed.getD j false = true → dstAt ops j ≠ some t) → a.tmps[t]? = a0.tmps[t]?) → i < ops.size → listed.getD i false = false → i ∈ Region.ready .any ops listed →
      wpOp P ops Q i (fun a' w' => ∃ v, a' = a.put (dstAt ops i) v ∧ I (listed.setIfInBounds i true) (upd vals i v) w') a w)
    (hend : ∀ listed vals w F, I listed vals w → (∀ i, i < ops.size → listed.getD i false = true) → F = putAll ops vals a0 ops.size → Q .normal F w) : (Code.region id ops true).wp P Q a0 w0 := by
  refine region_inv hm hf hb (fun listed a w => ∃ vals, I listed vals w ∧ InRun ops a0 listed vals a ∧ (∀ t, (∀ j, j < ops.size → listed.getD j false = true → dstAt ops j ≠ some t) → a.tmps[t]? = a0.tmps[t]?)) ?_ ?_ ?_
  · refine ⟨_, h0, ⟨rfl, rfl, fun j d _ h => ?_, fun t _ => rfl⟩, fun t _ => rfl⟩
    rw [getD_replicate_false] at h; cases h
  · rintro listed a w i hs hc ⟨vals, hI, hR, hK⟩ hi hu hr
    refine wpOp_mono ?_ (hstep listed vals a w i hs hc hI hR hK hi hu hr)
    rintro a' w' ⟨v, rfl, hI'⟩
    refine ⟨_, hI', ⟨(put_size _ _ _).trans hR.size, (put_dfs _ _ _).trans hR.dfs, fun j d hj hl hdj => ?_, fun t ht => ?_⟩, fun t ht => ?_⟩
    · by_cases e : i = j
      · subst e
        obtain ⟨s1, _, _⟩ := dsts_spec hd hi hdj
        rw [hdj, put_self _ _ _ (by rw [hR.size]; exact s1)]
        simp [upd]
      · rw [getD_set_ne false e] at hl
        obtain ⟨_, _, s3⟩ := dsts_spec hd hj hdj
        rw [put_other _ _ _ _ (s3 i hi (Ne.symm e)), hR.at_ j d hj hl hdj]
        simp [upd, Ne.symm e]
    · rw [put_other _ _ _ _ (ht i hi)]
      exact hR.old t ht
    · rw [put_other _ _ _ _ (ht i hi (by rw [getD_set_self listed i false (by rw [hs]; exact hi)]))]
      exact hK t (fun j hj hl => ht j hj (by
        by_cases e : i = j
        · subst e; rw [getD_set_self listed i false (by rw [hs]; exact hi)]
        · rw [getD_set_ne false e]; exact hl))
  · rintro listed a w ⟨vals, hI, hR, _⟩ hall
    have : a = putAll ops vals a0 ops.size := by
      refine act_ext ?_ (by rw [hR.dfs, (putAll_size vals a0 _).2])
      apply Array.ext_getElem?
      intro t
      by_cases ht : ∃ j, j < ops.size ∧ dstAt ops j = some t
      · obtain ⟨j, hj, hdj⟩ := ht
        obtain ⟨s1, _, s3⟩ := dsts_spec hd hj hdj
        rw [hR.at_ j t hj (hall j hj) hdj, putAll_at vals a0 j t s1 hdj _ hj s3]
      · have hn : ∀ j, j < ops.size → dstAt ops j ≠ some t := fun j hj h => ht ⟨j, hj, h⟩
        rw [hR.old t hn, putAll_other vals a0 t _ hn]
    exact hend listed vals w a hI hall this
def notDstBut (ops : Array Oper) (t : Tmp) (k : Nat) : Bool := (List.range ops.size).all fun j => j == k || dstAt ops j != some t
theorem kept_but {a0 a : Act} {listed : Array Bool} (hK : ∀ t, (∀ j, j < ops.size → listed.getD j false = true → dstAt ops j ≠ some t) → a.tmps[t]? = a0.tmps[t]?) (t : Tmp) (k : Nat) {v : Value} (hn : notDstBut ops t k = true) (hk : listed.getD k false = false) (hv : a0.tmps[t]? = some v) : a.tmps[t]? = some v := by
  rw [hK t (fun j hj hl => by
    have := List.all_eq_true.1 hn j (List.mem_range.2 hj)
    by_cases e : j = k
    · subst e; rw [hk] at hl; cases hl
    · simpa [e] using this)]
  exact hv
end
/-- The pane of a group. -/
def tellG (g : Gr) : Pn := ⟨g.nm, tellAS (asOf g.xs)⟩
set_option maxRecDepth 100000 in
theorem zeroGr : ∀ w, (zeroValue 47).run Try.prog w = .ok (.agg (grL ⟨⟨⟨#[]⟩, 0, 0⟩, []⟩).toArray) w := (zero_of_info (P := Try.prog) (v := .agg (grL ⟨⟨⟨#[]⟩, 0, 0⟩, []⟩).toArray) (n := 46) (by kernel_rfl)).1
theorem grA_one (g : Gr) : (grL g).toArray.all (·.oneCell') = true := all_oneCell_toArray (grL_one g)
theorem map_take_succ (gs : List Gr) (i : Nat) (g : Gr) (h : gs[i]? = some g) : (gs.take (i + 1)).map tellG = (gs.take i).map tellG ++ [tellG g] := by
  have hl := List.getElem?_eq_some_iff.1 h
  rw [List.take_succ_eq_append_getElem hl.1, hl.2, List.map_append]; rfl
set_option maxRecDepth 100000 in
set_option maxHeartbeats 8000000 in
theorem panes_any (c : Cg) (hc : c.ok) (base : Nat) (v : Value) (es : List Ev) (w : World) (hv : OwnE w base 36 5 evL v es) (hok : EvsOk es) :
    Calls Try.prog 21 #[.agg (cgC c), v] w fun en w' => ∃ u gs P, en = .returned u ∧ PairsOf c.cf es P ∧ Grp P gs ∧ GrW gs ∧ gs.length ≤ 1000 ∧ OwnE w' w.heap.size 63 8 paneL u (gs.map tellG) ∧ Below w.heap.size w w' := by
  have z40 : ∀ w, (sizeOf 40).run Try.prog w = .ok 2 w := run_sizeOf_info sizeWin
  have z45 : ∀ w, (sizeOf 45).run Try.prog w = .ok 43 w := run_sizeOf_info sizeState
  have z47 : ∀ w, (sizeOf 47).run Try.prog w = .ok 46 w := run_sizeOf_info sizeGr
  have Hs40 := Lib.hid sizeWin
  have Hs45 := Lib.hid sizeState
  have Hs47 := Lib.hid sizeGr
  have Hs28 := Lib.hid sizeCg
  have zg := zeroGr
  have hZs : ((grL ⟨⟨⟨#[]⟩, 0, 0⟩, []⟩).toArray).size = 46 := by rw [List.size_toArray, grL_len]
  generalize (grL ⟨⟨⟨#[]⟩, 0, 0⟩, []⟩).toArray = ZG at zg hZs
  have HZS := Lib.hid hZs
  clear hZs
  obtain ⟨Cc, hCc⟩ : ∃ C, C = cgC c := ⟨_, rfl⟩
  have hCcs : Hid (Cc.size = 7) := Lib.hid (by rw [hCc]; rfl)
  have hgr := fun w1 (h : OwnE w1 base 36 5 evL v es) => groups_any c hc base v es w1 h hok
  rw [← hCc] at hgr ⊢
  clear hCc
  obtain ⟨A0, cap0, rfl, _, _⟩ := hv.form
  have b1 := below_alloc (Below.refl w.heap.size w) (.cells Cc 28)
  have hx1 := Lib.hid (heap_alloc_new w (.cells Cc 28))
  have hg1 := hgr _ (hv.below b1)
  have SZ1 : Hid ((w.alloc (.cells Cc 28)).heap.size = w.heap.size + 1) := Lib.hid (by simp)
  have B1 := Lib.hid b1
  clear b1 hv hok hgr
  go_enter Try.func21, Try.ntmps21
  go_wp2_with (first
    | (refine at_op (.load 28 (.tmp 2)) ?_ rfl; refine wpList_load_row rfl 28 (.tmp 2) rfl w.heap.size rfl 28 Cc (0, 0) _ hx1.out Try.underlying28 rfl (by rw [hCcs.out]; exact Hs28.out) ?_)
    | (go_at_call 16; (with_reducible refine hg1.mono ?_); rintro en w2 ⟨u2, gs, P, rfl, hP, hG, hW, hL, ho2, hb2⟩; have HP := Lib.hid hP; have HG := Lib.hid hG; have HW := Lib.hid hW; have HL := Lib.hid hL; have HO2 := Lib.hid ho2; have HB2 := Lib.hid hb2; clear hP hG hW hL ho2 hb2; obtain ⟨A2, c2, rfl, _, hr2⟩ := HO2.out.form; clear hr2))
  have HBW : Hid (Below w.heap.size w w2) := Lib.hid (below_trans B1.out HB2.out)
  have HU2 : Hid (OwnE w2 (w.heap.size + 1) 47 46 grL (.slice A2 gs.length c2) gs) := Lib.hid (by have := HO2.out; rwa [SZ1.out] at this)
  have HS2 : Hid (w.heap.size + 1 ≤ w2.heap.size) := Lib.hid (by have := HB2.out.size; rw [SZ1.out] at this; exact this)
  clear HO2 HB2 B1 hg1 hx1
  have hgl : gs.length ≤ 1000 := HL.out
  go_loopg [5, 12] gs.length (fun kx v5 v12 wr => ∃ i : Nat, v12 = .int .i64 i ∧ i ≤ gs.length ∧ gs.length - i ≤ kx ∧ Hid (Below w.heap.size w wr) ∧ Hid (w.heap.size + 1 ≤ wr.heap.size) ∧ Hid (OwnE wr (w.heap.size + 1) 47 46 grL (.slice A2 gs.length c2) gs) ∧ Hid (OwnE wr (w.heap.size + 1) 63 8 paneL v5 ((gs.take i).map tellG)))
  case atStart => exact ⟨0, rfl, Nat.zero_le _, Nat.le_refl _, HBW, HS2, HU2, Lib.hid (OwnE.nil _ _)⟩
  case round =>
    clear HBW HU2 HS2
    obtain ⟨i, rfl, hin, hkx, HB, HS, HU, HO⟩ := hrel
    generalize hw3 : wr = w3 at *
    clear hw3
    by_cases hlt : i < gs.length
    · obtain ⟨g, he⟩ : ∃ g, gs[i]? = some g := ⟨gs[i], List.getElem?_eq_getElem hlt⟩
      have hA : ∃ g2, A2 = some ⟨g2, 0, none⟩ := by
        rcases HU.out.2 with ⟨h0, h1⟩ | ⟨g, _, _, h1, _⟩
        · omega
        · injection h1 with h1; exact ⟨g, h1⟩
      obtain ⟨g2, rfl⟩ := hA
      obtain ⟨hrr, _, _, _, _⟩ := OwnE.row encGr HU.out he
      have HRR := Lib.hid hrr
      have hlz : (i : Int) < (gs.length : Int) := by omega
      obtain ⟨CG, hCG⟩ : ∃ C, C = (grL g).toArray := ⟨_, rfl⟩
      have HCG := Lib.hid hCG
      have HCGS : Hid (CG.size = 46) := Lib.hid (by rw [hCG, List.size_toArray, grL_len])
      have HCG1 : Hid (CG.all (·.oneCell') = true) := Lib.hid (by rw [hCG]; exact grA_one g)
      have HRC : Hid (w3.rangeAt g2 (i * 46) CG.toList) := Lib.hid (by rw [hCG]; exact hrr)
      have ba := below_alloc (Below.refl w3.heap.size w3) (.cells ZG 47)
      have h7 := heap_alloc_new w3 (.cells ZG 47)
      have bb := below_setRow ba (Nat.le_refl w3.heap.size) CG
      have h8 := setRow_heap (w3.alloc (.cells ZG 47)) w3.heap.size _ CG _ _ h7
      have H7 := Lib.hid h7
      have H8 := Lib.hid h8
      have BB := Lib.hid bb
      clear hrr ba h7 bb h8 hCG HRR
      have HMT := Lib.hid (map_take_succ gs i g he)
      have HWG := Lib.hid (HW.out.ok g (List.mem_iff_getElem?.2 ⟨i, he⟩))
      have hlen : ((gs.take i).map tellG).length ≤ 1000 := by rw [List.length_map, List.length_take]; omega
      go_upto_region 5 with (first
        | (refine at_op (.load 47 (.tmp 14)) ?_ rfl; refine wpList_load_mid rfl 47 (.tmp 14) rfl g2 (i * 46) rfl CG.toList _ HRC.out Try.underlying47 rfl (by rw [Array.length_toList, HCGS.out]; exact Hs47.out) ?_; rw [Array.toArray_toList])
        | (refine at_op (.alloc 47) ?_ rfl; refine wpList_alloc_row rfl _ 47 rfl (some 7) rfl w3.heap.size rfl _ zg ?_)
        | (refine at_op (.store 47 (.tmp 7) (.tmp 15)) ?_ rfl; refine wpList_store_row rfl 47 (.tmp 7) (.tmp 15) rfl w3.heap.size CG rfl rfl 47 _ H7.out (by rw [HCGS.out]; exact Hs47.out) (by rw [HZS.out, HCGS.out]) HCG1.out ?_))
      generalize hw5 : (w3.alloc (.cells ZG 47)).setRow w3.heap.size CG = w5 at *
      clear hw5
      have HU5 := Lib.hid (HU.out.below BB.out)
      have HO5 := Lib.hid (HO.out.below BB.out)
      have HBW5 := Lib.hid (below_trans HB.out BB.out)
      have HB5 : Hid (Below w5.heap.size w5 w5) := Lib.hid (Below.refl _ _)
      have HSZ : Hid (w.heap.size + 1 ≤ w5.heap.size) := Lib.hid (Nat.le_trans HS.out BB.out.size)
      have hrg : w5.rangeAt w3.heap.size 0 (grL g) := range_of H8.out 0 (grL g) (fun j v hj => by rw [Nat.zero_add, HCG.out]; rw [← hj]; simp)
      generalize w3.heap.size = g7 at *
      have K0 : Hid (w5.cell? ⟨g7, 0, none⟩ = some (.string g.nm.key)) := Lib.hid (hrg 0 _ rfl)
      have R1 : Hid (w5.rangeAt g7 1 (#[.int .i64 g.nm.s, .int .i64 g.nm.e] : Array Value).toList) := Lib.hid (fun j v hj => by
        match j with
        | 0 => injection hj with hj; subst hj; exact hrg 1 _ rfl
        | 1 => injection hj with hj; subst hj; exact hrg 2 _ rfl
        | j + 2 => cases hj)
      have hr3 : w5.rangeAt g7 (0 + 3) (asC (asOf g.xs)).toList := rangeAt_drop (A := [.string g.nm.key, .int .i64 g.nm.s, .int .i64 g.nm.e]) hrg rfl
      have htell := fun wq => tell_as (asOf g.xs) wq HWG.out
      obtain ⟨x, hx⟩ : ∃ x : Pn, x = tellG g := ⟨_, rfl⟩
      have hbp := built_pane g.nm (tellAS (asOf g.xs))
      rw [show (⟨g.nm, tellAS (asOf g.xs)⟩ : Pn) = x from hx.symm] at hbp
      have hcs : (asC (asOf g.xs)).size = 43 := asC_size _
      generalize avC (tellAS (asOf g.xs)) = CT at htell hbp
      generalize asC (asOf g.xs) = CS at htell hr3 hcs
      have R3 : Hid (w5.rangeAt g7 3 CS.toList) := Lib.hid hr3
      have HS45 : Hid ((Try.prog.info? 45).map (·.size) = some CS.size) := Lib.hid (by rw [hcs]; exact Hs45.out)
      have HBP := Lib.hid hbp
      have HXT := Lib.hid hx
      clear hr3 hrg hbp hcs hx HU HO HB BB H7 H8 HRC HCG HCGS HCG1 HS HWG
      rw [← HXT.out] at HMT
      obtain ⟨l, hl⟩ : ∃ l, l = (gs.take i).map tellG := ⟨_, rfl⟩
      rw [← hl] at HMT HO5 hlen
      have HLL := Lib.hid hlen
      clear hl hlen
      obtain ⟨A5, c5, e5, _, hr5⟩ := HO5.out.form
      clear hr5
      subst e5
      obtain ⟨CV, hCV⟩ : ∃ CV : Nat → Value, CV = fun j => match j with
        | 0 => .slice A5 (l.length) c5
        | 1 => .pointer (some ⟨g7, 0, none⟩)
        | 2 => .string g.nm.key
        | 3 => .pointer (some ⟨g7, 1, none⟩)
        | 4 => .agg #[.int .i64 g.nm.s, .int .i64 g.nm.e]
        | 5 => .pointer (some ⟨g7, 3, none⟩)
        | 6 => .agg CS
        | 7 => .agg CT
        | 8 => .agg (paneL x).toArray
        | 9 => undef
        | 10 => undef
        | 11 => undef
        | _ => undef := ⟨_, rfl⟩
      obtain ⟨isO, hO⟩ : ∃ isO : Nat → Bool, isO = fun j => match j with
        | _ => false := ⟨_, rfl⟩
      obtain ⟨BL, hBL⟩ : ∃ BL : Nat → List Int, BL = fun j => match j with
        | _ => [] := ⟨_, rfl⟩
      have v0 : CV 0 = .slice A5 (l.length) c5 := congrFun hCV 0
      have HISO := Lib.hid hO
      have o0 : isO 0 = false := congrFun hO 0
      have v1 : CV 1 = .pointer (some ⟨g7, 0, none⟩) := congrFun hCV 1
      have o1 : isO 1 = false := congrFun hO 1
      have v2 : CV 2 = .string g.nm.key := congrFun hCV 2
      have o2 : isO 2 = false := congrFun hO 2
      have v3 : CV 3 = .pointer (some ⟨g7, 1, none⟩) := congrFun hCV 3
      have o3 : isO 3 = false := congrFun hO 3
      have v4 : CV 4 = .agg #[.int .i64 g.nm.s, .int .i64 g.nm.e] := congrFun hCV 4
      have o4 : isO 4 = false := congrFun hO 4
      have v5 : CV 5 = .pointer (some ⟨g7, 3, none⟩) := congrFun hCV 5
      have o5 : isO 5 = false := congrFun hO 5
      have v6 : CV 6 = .agg CS := congrFun hCV 6
      have o6 : isO 6 = false := congrFun hO 6
      have v7 : CV 7 = .agg CT := congrFun hCV 7
      have o7 : isO 7 = false := congrFun hO 7
      have v8 : CV 8 = .agg (paneL x).toArray := congrFun hCV 8
      have o8 : isO 8 = false := congrFun hO 8
      have v9 : CV 9 = undef := congrFun hCV 9
      have o9 : isO 9 = false := congrFun hO 9
      have v10 : CV 10 = undef := congrFun hCV 10
      have o10 : isO 10 = false := congrFun hO 10
      have v11 : CV 11 = undef := congrFun hCV 11
      have o11 : isO 11 = false := congrFun hO 11
      clear hCV hO hBL
      have V0 := Lib.hid v0
      have V1 := Lib.hid v1
      have V2 := Lib.hid v2
      have V3 := Lib.hid v3
      have V4 := Lib.hid v4
      have V5 := Lib.hid v5
      have V6 := Lib.hid v6
      have V7 := Lib.hid v7
      have V8 := Lib.hid v8
      have V9 := Lib.hid v9
      have V10 := Lib.hid v10
      have V11 := Lib.hid v11
      clear v0 v1 v2 v3 v4 v5 v6 v7 v8 v9 v10 v11
      refine region_run2 (RegT w5 9 (.cells (paneL x).toArray 63) (fun v8 w8 => OwnE w8 (w.heap.size + 1) 63 8 paneL v8 (l ++ [x]) ∧ w5.grownBy w8 (Value.slice A5 l.length c5).ownBlock) isO BL CV) (by kernel_rfl) (by kernel_rfl) (by kernel_rfl) (by kernel_rfl) (RegT.start w5 9 12 _ _) ?_ ?_
      · intro listed vals a1 wq i hs hcl hP hR hK hi hu hr1
        replace hi : i < 12 := hi
        replace hs : listed.size = 12 := hs
        obtain rfl | hi1 : i = 0 ∨ 1 ≤ i := by omega
        · cases hq : listed.getD 9 false with
          | false =>
            have hn1 := unlisted (n := 10) hcl hq (by kernel_rfl)
            have hn2 := unlisted (n := 11) hcl hn1 (by kernel_rfl)
            have hI := hP.pre hq
            have t5 := kept_but hK 5 11 (by kernel_rfl) hn2 rfl
            exact wpOp_val rfl rfl (by rw [V0.out]; go_simp) ⟨_, rfl, RegT.of (hI.keep (Below.refl _ _) 0 o0) hq (by decide) hn1 (by decide) hn2 (by decide)⟩
          | true =>
            have hn1 : listed.getD 10 false = false := unlisted (n := 10) hcl hu (by kernel_rfl)
            have hn2 := unlisted (n := 11) hcl hn1 (by kernel_rfl)
            have t5 := kept_but hK 5 11 (by kernel_rfl) hn2 rfl
            exact wpOp_val rfl rfl (by rw [V0.out]; go_simp) ⟨_, rfl, RegT.midkeep hP hq hn1 hn2 0 (by decide)⟩
        obtain rfl | hi1 : i = 1 ∨ 2 ≤ i := by omega
        · have hn := (unlisted (n := 9) hcl (unlisted (n := 8) hcl (unlisted (n := 2) hcl hu (by kernel_rfl)) (by kernel_rfl)) (by kernel_rfl))
          have hn1 := unlisted (n := 10) hcl hn (by kernel_rfl)
          have hn2 := unlisted (n := 11) hcl hn1 (by kernel_rfl)
          have hI := hP.pre hn
          have t7 := hR.fixed 7 (by kernel_rfl) rfl
          exact wpOp_val rfl rfl (by rw [V1.out]; go_simp) ⟨_, rfl, RegT.of (hI.keep (Below.refl _ _) 1 o1) hn (by decide) hn1 (by decide) hn2 (by decide)⟩
        obtain rfl | hi1 : i = 2 ∨ 3 ≤ i := by omega
        · have hn := (unlisted (n := 9) hcl (unlisted (n := 8) hcl hu (by kernel_rfl)) (by kernel_rfl))
          have hn1 := unlisted (n := 10) hcl hn (by kernel_rfl)
          have hn2 := unlisted (n := 11) hcl hn1 (by kernel_rfl)
          have hI := hP.pre hn
          have t17 : a1.tmps[17]? = some (.pointer (some ⟨g7, 0, none⟩)) := hI.get hR hr1 1 o1 (by kernel_rfl) (by decide) rfl V1.out
          have cc := cell_below hI.b K0.out
          exact wpOp_val rfl rfl (by rw [V2.out]; go_simp) ⟨_, rfl, RegT.of (hI.keep (Below.refl _ _) 2 o2) hn (by decide) hn1 (by decide) hn2 (by decide)⟩
        obtain rfl | hi1 : i = 3 ∨ 4 ≤ i := by omega
        · have hn := (unlisted (n := 9) hcl (unlisted (n := 8) hcl (unlisted (n := 4) hcl hu (by kernel_rfl)) (by kernel_rfl)) (by kernel_rfl))
          have hn1 := unlisted (n := 10) hcl hn (by kernel_rfl)
          have hn2 := unlisted (n := 11) hcl hn1 (by kernel_rfl)
          have hI := hP.pre hn
          have t7 := hR.fixed 7 (by kernel_rfl) rfl
          exact wpOp_val rfl rfl (by rw [V3.out]; go_simp) ⟨_, rfl, RegT.of (hI.keep (Below.refl _ _) 3 o3) hn (by decide) hn1 (by decide) hn2 (by decide)⟩
        obtain rfl | hi1 : i = 4 ∨ 5 ≤ i := by omega
        · have hn := (unlisted (n := 9) hcl (unlisted (n := 8) hcl hu (by kernel_rfl)) (by kernel_rfl))
          have hn1 := unlisted (n := 10) hcl hn (by kernel_rfl)
          have hn2 := unlisted (n := 11) hcl hn1 (by kernel_rfl)
          have hI := hP.pre hn
          have t19 : a1.tmps[19]? = some (.pointer (some ⟨g7, 1, none⟩)) := hI.get hR hr1 3 o3 (by kernel_rfl) (by decide) rfl V3.out
          exact wpOp_mid rfl rfl 40 (.tmp 19) rfl g7 1 (getD_is t19) #[.int .i64 g.nm.s, .int .i64 g.nm.e] _ (range_below hI.b R1.out) Try.underlying40 rfl Hs40.out ⟨_, rfl, RegT.of (hI.keepV (Below.refl _ _) 4 o4 V4.out) hn (by decide) hn1 (by decide) hn2 (by decide)⟩
        obtain rfl | hi1 : i = 5 ∨ 6 ≤ i := by omega
        · have hn := (unlisted (n := 9) hcl (unlisted (n := 8) hcl (unlisted (n := 7) hcl (unlisted (n := 6) hcl hu (by kernel_rfl)) (by kernel_rfl)) (by kernel_rfl)) (by kernel_rfl))
          have hn1 := unlisted (n := 10) hcl hn (by kernel_rfl)
          have hn2 := unlisted (n := 11) hcl hn1 (by kernel_rfl)
          have hI := hP.pre hn
          have t7 := hR.fixed 7 (by kernel_rfl) rfl
          exact wpOp_val rfl rfl (by rw [V5.out]; go_simp) ⟨_, rfl, RegT.of (hI.keep (Below.refl _ _) 5 o5) hn (by decide) hn1 (by decide) hn2 (by decide)⟩
        obtain rfl | hi1 : i = 6 ∨ 7 ≤ i := by omega
        · have hn := (unlisted (n := 9) hcl (unlisted (n := 8) hcl (unlisted (n := 7) hcl hu (by kernel_rfl)) (by kernel_rfl)) (by kernel_rfl))
          have hn1 := unlisted (n := 10) hcl hn (by kernel_rfl)
          have hn2 := unlisted (n := 11) hcl hn1 (by kernel_rfl)
          have hI := hP.pre hn
          have t21 : a1.tmps[21]? = some (.pointer (some ⟨g7, 3, none⟩)) := hI.get hR hr1 5 o5 (by kernel_rfl) (by decide) rfl V5.out
          exact wpOp_mid rfl rfl 45 (.tmp 21) rfl g7 3 (getD_is t21) CS _ (range_below hI.b R3.out) Try.underlying45 rfl HS45.out ⟨_, rfl, RegT.of (hI.keepV (Below.refl _ _) 6 o6 V6.out) hn (by decide) hn1 (by decide) hn2 (by decide)⟩
        obtain rfl | hi1 : i = 7 ∨ 8 ≤ i := by omega
        · have hn := (unlisted (n := 9) hcl (unlisted (n := 8) hcl hu (by kernel_rfl)) (by kernel_rfl))
          have hn1 := unlisted (n := 10) hcl hn (by kernel_rfl)
          have hn2 := unlisted (n := 11) hcl hn1 (by kernel_rfl)
          have hI := hP.pre hn
          have t22 : a1.tmps[22]? = some (.agg CS) := hI.get hR hr1 6 o6 (by kernel_rfl) (by decide) rfl V6.out
          have hc1 := htell wq
          refine wpOp_calls (f := 31) (args := #[.agg CS]) rfl rfl (by go_simp) (hc1.mono ?_)
          rintro e wz ⟨rfl, b⟩
          exact ⟨_, rfl, _, rfl, RegT.of (hI.keepV b 7 o7 V7.out) hn (by decide) hn1 (by decide) hn2 (by decide)⟩
        obtain rfl | hi1 : i = 8 ∨ 9 ≤ i := by omega
        · have hn := (unlisted (n := 9) hcl hu (by kernel_rfl))
          have hn1 := unlisted (n := 10) hcl hn (by kernel_rfl)
          have hn2 := unlisted (n := 11) hcl hn1 (by kernel_rfl)
          have hI := hP.pre hn
          have t18 : a1.tmps[18]? = some (.string g.nm.key) := hI.get hR hr1 2 o2 (by kernel_rfl) (by decide) rfl V2.out
          have t20 : a1.tmps[20]? = some (.agg #[.int .i64 g.nm.s, .int .i64 g.nm.e]) := hI.get hR hr1 4 o4 (by kernel_rfl) (by decide) rfl V4.out
          have t23 : a1.tmps[23]? = some (.agg CT) := hI.get hR hr1 7 o7 (by kernel_rfl) (by decide) rfl V7.out
          have hbd := HBP.out
          refine wpOp_build rfl rfl 63 _ rfl ((paneL x).toArray) ?_ ⟨_, rfl, RegT.of (hI.keepV (Below.refl _ _) 8 o8 V8.out) hn (by decide) hn1 (by decide) hn2 (by decide)⟩
          simp only [List.map_toArray, List.map_cons, List.map_nil, Act.eval, getD_is t18, getD_is t20, getD_is t23]; exact hbd
        obtain rfl | hi1 : i = 9 ∨ 10 ≤ i := by omega
        · have hn1 := unlisted (n := 10) hcl hu (by kernel_rfl)
          have hn2 := unlisted (n := 11) hcl hn1 (by kernel_rfl)
          have hI := hP.pre hu
          have t24 : a1.tmps[24]? = some (.agg (paneL x).toArray) := hI.get hR hr1 8 o8 (by kernel_rfl) (by decide) rfl V8.out
          exact wpOp_of_wp rfl rfl (wp_buildOne encPane (by decide) 55 (.tmp 24) rfl Try.underlying55 x (getD_is t24) ⟨_, rfl, RegT.build hI (fun j => by rw [HISO.out]) hn1 hn2 (by omega)⟩)
        obtain rfl | hi1 : i = 10 ∨ 11 ≤ i := by omega
        · have hn2 := unlisted (n := 11) hcl hu (by kernel_rfl)
          have h9 : listed.getD 9 false = true := dep_of hr1 (by kernel_rfl)
          have h0 : listed.getD 0 false = true := dep_of hr1 (by kernel_rfl)
          obtain ⟨hv, wq0, hb, rfl, e9⟩ := hP.mid h9 hu
          have v0 := hv 0 (by decide) h0
          have t16 : a1.tmps[16]? = some (.slice A5 (l.length) c5) := (hR.dep hr1 0 (by kernel_rfl) (by decide) rfl).trans (by rw [v0, V0.out])
          have t25 : a1.tmps[25]? = some (.slice (some ⟨wq0.heap.size, 0, none⟩) 1 1) := (hR.dep hr1 9 (by kernel_rfl) (by decide) rfl).trans (by rw [e9])
          have ba := below_alloc (Below.refl wq0.heap.size wq0) (.cells (paneL x).toArray 63)
          have hrow := RowsAt.one (enc := paneL) (y := (x : Pn)) (heap_alloc_new wq0 (.cells (paneL x).toArray 63))
          have oq := (HO5.out.below hb).below ba
          have bw := below_trans (below_trans HB5.out hb) ba
          refine wpOp_of_wp rfl rfl (wp_appendE encPane (.tmp 16) (.tmp 25) 55 rfl (w.heap.size + 1) Try.underlying55 (.slice A5 (l.length) c5) l (getD_is t16) oq (some ⟨wq0.heap.size, 0, none⟩) 1 [x] (getD_is t25) hrow (Nat.le_trans (Nat.add_le_add_right HLL.out 1) (by decide)) (Nat.le_trans (Nat.mul_le_mul_right 72 (Nat.add_le_add_right HLL.out 1)) (by decide)) (Nat.le_trans HSZ.out (Nat.le_trans hb.size ba.size)) ?_)
          intro v8 w8 ho8 hg8 hv8
          exact ⟨_, rfl, RegT.app ⟨ho8, grown_of (below_trans hb ba) hg8⟩ h9 hn2 (by omega)⟩
        obtain rfl : i = 11 := by omega
        have h10 : listed.getD 10 false = true := dep_of hr1 (by kernel_rfl)
        have h9 : listed.getD 9 false = true := by
          cases hq : listed.getD 9 false with
          | true => rfl
          | false => rw [unlisted (n := 10) hcl hq (by kernel_rfl)] at h10; cases h10
        have t26 : a1.tmps[26]? = some (vals 10) := hR.dep hr1 10 (by kernel_rfl) (by decide) rfl
        exact wpOp_val (v := vals 10) rfl rfl (by go_simp) ⟨_, rfl, RegT.assign hP h9 h10⟩
      · intro listed vals wq FF hP hall hFF
        have bfin := hP.fin (hall 10 (by decide))
        have easg := hP.asg (hall 11 (by decide))
        have hF2 : FF = (((((((((((Act.put _ (some 16) (vals 0)).put (some 17) (vals 1)).put (some 18) (vals 2)).put (some 19) (vals 3)).put (some 20) (vals 4)).put (some 21) (vals 5)).put (some 22) (vals 6)).put (some 23) (vals 7)).put (some 24) (vals 8)).put (some 25) (vals 9)).put (some 26) (vals 10)).put (some 5) (vals 11) := hFF
        simp only [putAll] at hF2
        rw [hF2]
        clear hF2 hFF hP hall
        rw [easg]
        go_frame
        obtain ⟨hf1, hf2⟩ := bfin
        have HF1 := Lib.hid hf1
        have HF2 := Lib.hid hf2
        clear hf1 hf2
        generalize vals 10 = v8 at *
        generalize vals 0 = x0
        generalize vals 1 = x1
        generalize vals 2 = x2
        generalize vals 3 = x3
        generalize vals 4 = x4
        generalize vals 5 = x5
        generalize vals 6 = x6
        generalize vals 7 = x7
        generalize vals 8 = x8
        generalize vals 9 = x9
        go_wp2_with fail
        go_roundg (gs.length - (i + 1))
        case measure => omega
        case rel => exact ⟨i + 1, by go_num, hlt, Nat.le_refl _, Lib.hid (below_grown2 HBW5.out HF2.out (fun q h => by have := (HO5.out.lt q h).1; omega)), Lib.hid (Nat.le_trans HSZ.out HF2.out.size), Lib.hid (OwnE.keepT HO5.out HU5.out (by decide) HF2.out), Lib.hid (by rw [HMT.out]; exact HF1.out)⟩
    · obtain rfl : i = gs.length := by omega
      go_wp2_with fail
      go_ret
      exact ⟨_, gs, P, rfl, HP.out, HG.out, HW.out, HL.out, by have := HO.out; rw [List.take_length] at this; exact this.mono (by omega), HB.out⟩
end Go.Proofs.Ythplelglifnhoaa
