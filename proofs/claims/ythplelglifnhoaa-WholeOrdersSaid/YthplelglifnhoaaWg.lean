import Derived.Test.YthplelglifnhoaaWf
/-! The groups of events. -/
namespace Go.Proofs.Ythplelglifnhoaa
open Go.Shelf Go.RowKit Go.Lib Go.Sort
set_option linter.unusedVariables false
set_option linter.unusedSimpArgs false
attribute [-simp] Try.isAgg47 Try.sizeOf47 Try.typeInfo47 Try.type47
attribute [-simp] Try.isAgg45 Try.sizeOf45 Try.typeInfo45 Try.type45
attribute [-simp] Try.isAgg36 Try.sizeOf36 Try.typeInfo36 Try.type36
attribute [-simp] Try.isAgg40 Try.sizeOf40 Try.typeInfo40 Try.type40
attribute [-simp] Try.isAgg28 Try.sizeOf28 Try.typeInfo28 Try.type28

theorem PairsOf.turn {c : Cf} {es es' : List Ev} {P : List (Nm × Nat)} (h : PairsOf c es P) (hp : es.Perm es') : ∃ P', PairsOf c es' P' ∧ P.Perm P' := by
  by_cases k : c.kd = 2
  · obtain ⟨f, hf, rfl⟩ := h.1 k
    exact ⟨es'.map (fun e => (f e, e.val)), ⟨fun _ => ⟨f, fun e he => ⟨(hf e (hp.mem_iff.2 he)).1.cong fun e => hp.mem_iff, (hf e (hp.mem_iff.2 he)).2⟩, rfl⟩, fun q => absurd k q⟩, hp.map _⟩
  · refine ⟨es'.flatMap (pairsE c.size c.st), ⟨fun q => absurd q k, fun _ => rfl⟩, ?_⟩
    rw [h.2 k]
    exact hp.flatMap_right _
/-- Values that are numbers. -/
def GrW (l : List Gr) : Prop := ∀ g ∈ l, ∀ x ∈ g.xs, x < 18446744073709551616
theorem words_of {xs : List Nat} (h : ∀ x ∈ xs, x < 18446744073709551616) : Words64 xs := fun i hi => h _ (mem_fd xs i hi)
theorem GrW.ok {l : List Gr} (h : GrW l) : ∀ g ∈ l, (asOf g.xs).ok := fun g hg => asOf_okA g.xs (words_of (h g hg))
theorem put_len {kd : Nat} {l : List Gr} {e : Ev} {w : Int × Int} : ∀ n, (putAt kd l e w n).length ≤ l.length + 1 ∧ (GrW l → e.val < 18446744073709551616 → GrW (putAt kd l e w n)) := by
  have new : (l ++ [(⟨nmE e w, [e.val]⟩ : Gr)]).length ≤ l.length + 1 ∧ (GrW l → e.val < 18446744073709551616 → GrW (l ++ [(⟨nmE e w, [e.val]⟩ : Gr)])) := by
    refine ⟨by simp, fun h he g hg x hx => ?_⟩
    rw [List.mem_append, List.mem_singleton] at hg
    rcases hg with hg | rfl
    · exact h g hg x hx
    · rw [List.mem_singleton] at hx; rw [hx]; exact he
  have upd : ∀ (i : Nat) (g : Gr) (nm : Nm), l[i]? = some g → (l.set i ⟨nm, g.xs ++ [e.val]⟩).length ≤ l.length + 1 ∧ (GrW l → e.val < 18446744073709551616 → GrW (l.set i ⟨nm, g.xs ++ [e.val]⟩)) := fun i g nm hi => by
    refine ⟨by rw [List.length_set]; omega, fun h he g' hg' x hx => ?_⟩
    rcases List.mem_or_eq_of_mem_set hg' with q | rfl
    · exact h g' q x hx
    · rw [List.mem_append, List.mem_singleton] at hx
      rcases hx with hx | rfl
      · exact h g (List.mem_iff_getElem?.2 ⟨i, hi⟩) x hx
      · exact he
  intro n
  induction n with
  | zero => exact new
  | succ i ih =>
    rw [putAt]
    split
    · exact new
    · rename_i g hg
      split
      · split
        · exact upd i g _ hg
        · split
          · exact upd i g _ hg
          · split
            · exact new
            · exact ih
      · exact new
def putL (kd : Nat) (e : Ev) (l : List Gr) (w : Int × Int) : List Gr := putAt kd l e w l.length
theorem gsOf_take (c : Cf) (es : List Ev) (i : Nat) (e : Ev) (h : es[i]? = some e) : gsOf c (es.take (i + 1)) [] = (wsC c e.t).foldl (putL c.kd e) (gsOf c (es.take i) []) := by
  have hl := (List.getElem?_eq_some_iff.1 h)
  rw [List.take_succ_eq_append_getElem hl.1, hl.2]
  unfold gsOf
  rw [List.foldl_append]
  rfl
theorem fold_take (kd : Nat) (e : Ev) (ws : List (Int × Int)) (l : List Gr) (j : Nat) (p : Int × Int) (h : ws[j]? = some p) : (ws.take (j + 1)).foldl (putL kd e) l = putL kd e ((ws.take j).foldl (putL kd e) l) p := by
  have hl := (List.getElem?_eq_some_iff.1 h)
  rw [List.take_succ_eq_append_getElem hl.1, hl.2, List.foldl_append]
  rfl
theorem wsC_len (c : Cf) (hc : c.ok) (t : Int) : (wsC c t).length ≤ 16 := by
  unfold wsC
  split
  · simp
  · rw [ofS_len]
    have h1 := hc.kd
    have h2 := hc.size
    unfold Cf.st
    split
    · rw [div_one h2]; omega
    · have h3 := hc.slide (by omega)
      have := div_low (t := t) h3.1 h3.2.2
      omega
theorem fold_len {kd : Nat} {e : Ev} (he : e.val < 18446744073709551616) : ∀ (ws : List (Int × Int)) (l : List Gr), (ws.foldl (putL kd e) l).length ≤ l.length + ws.length ∧ (GrW l → GrW (ws.foldl (putL kd e) l)) := by
  intro ws
  induction ws with
  | nil => intro l; exact ⟨by simp, id⟩
  | cons p ws ih =>
    intro l
    rw [List.foldl_cons]
    have h1 := ih (putL kd e l p)
    have h2 := put_len (kd := kd) (l := l) (e := e) (w := p) l.length
    refine ⟨?_, fun h => h1.2 (h2.2 h he)⟩
    have := h1.1
    have : (putL kd e l p).length ≤ l.length + 1 := h2.1
    rw [List.length_cons]; omega
theorem gsOf_len {c : Cf} (hc : c.ok) {es : List Ev} (he : ∀ e ∈ es, e.val < 18446744073709551616) : ∀ i, i ≤ es.length → (gsOf c (es.take i) []).length ≤ 16 * i ∧ GrW (gsOf c (es.take i) []) := by
  intro i
  induction i with
  | zero => intro _; exact ⟨Nat.zero_le _, fun g hg => by cases hg⟩
  | succ i ih =>
    intro h
    have hi : es[i]? = some es[i] := List.getElem?_eq_getElem (by omega)
    rw [gsOf_take c es i es[i] hi]
    have h1 := ih (by omega)
    have h2 := fold_len (kd := c.kd) (he es[i] (List.getElem_mem _)) (wsC c es[i].t) (gsOf c (es.take i) [])
    have h3 := wsC_len c hc es[i].t
    exact ⟨by omega, h2.2 h1.2⟩
structure EvsOk (es : List Ev) : Prop where
  len : es.length ≤ 61
  t : ∀ e ∈ es, -2199023255552 ≤ e.t ∧ e.t ≤ 2199023255552
  val : ∀ e ∈ es, e.val < 18446744073709551616
theorem EvsOk.perm {es es' : List Ev} (h : EvsOk es) (hp : es'.Perm es) : EvsOk es' :=
  ⟨by rw [hp.length_eq]; exact h.len, fun e he => h.t e (hp.mem_iff.1 he), fun e he => h.val e (hp.mem_iff.1 he)⟩
theorem evA (e : Ev) : (evL e).toArray.size = 5 := rfl
theorem evA_one (e : Ev) : (evL e).toArray.all (·.oneCell') = true := by simp [evL, Value.oneCell']
theorem winA_one2 (p : Int × Int) : (winL p).toArray.all (·.oneCell') = true := by simp [winL, Value.oneCell']
set_option maxRecDepth 100000 in
theorem zeroEv : ∀ w, (zeroValue 36).run Try.prog w = .ok (.agg (evL ⟨0, 0, 0, ⟨#[]⟩, 0⟩).toArray) w := (zero_of_info (P := Try.prog) (v := .agg (evL ⟨0, 0, 0, ⟨#[]⟩, 0⟩).toArray) (n := 5) (by kernel_rfl)).1
set_option maxRecDepth 100000 in
theorem zeroWin : ∀ w, (zeroValue 40).run Try.prog w = .ok (.agg (winL (0, 0)).toArray) w := (zero_of_info (P := Try.prog) (v := .agg (winL (0, 0)).toArray) (n := 2) (by kernel_rfl)).1
theorem OwnE.ne_cells {α : Type} {enc : α → List Value} {k : Nat} {e t : TypeId} {w : World} {base g : Nat} {v : Value} {l : List α} (h : OwnE w base e k enc v l) {C : Array Value} {fr : Nat × Nat} (hg : w.heap[g]? = some (.cells C t fr)) (hne : t ≠ e) : v.ownBlock ≠ some g := fun q => by
  rcases h.2 with ⟨rfl, _⟩ | ⟨g2, cap, cur, rfl, _, hg2, _⟩
  · cases q
  · injection q with q
    have q : g2 = g := q
    subst q
    rw [hg] at hg2
    injection hg2 with hg2
    injection hg2 with _ h3 _
    exact hne h3
theorem OwnE.keepT {α β : Type} {enc1 : α → List Value} {enc2 : β → List Value} {k1 k2 b1 b2 : Nat} {T1 T2 : TypeId} {w w' : World} {out v : Value} {L : List α} {l : List β} (hG : OwnE w b1 T1 k1 enc1 out L) (hU : OwnE w b2 T2 k2 enc2 v l) (hne : T2 ≠ T1) (hg : w.grownBy w' out.ownBlock) : OwnE w' b2 T2 k2 enc2 v l := by
  refine hU.kept hg ?_
  rcases hU.2 with ⟨rfl, _⟩ | ⟨g2, cap, cur, rfl, _, hg2, _⟩
  · exact .inl rfl
  · exact .inr (fun q => hG.ne_cells hg2 hne q.symm)
theorem cells_keepT {α : Type} {enc1 : α → List Value} {k1 b1 : Nat} {T1 T2 : TypeId} {w w' : World} {out : Value} {L : List α} {g : Nat} {C : Array Value} {fr : Nat × Nat} (hG : OwnE w b1 T1 k1 enc1 out L) (h : w.heap[g]? = some (.cells C T2 fr)) (hne : T2 ≠ T1) (hg : w.grownBy w' out.ownBlock) : w'.heap[g]? = some (.cells C T2 fr) :=
  (hg.block g (heap_lt h) (fun q => hG.ne_cells h hne q.symm)).trans h
set_option maxRecDepth 100000 in
set_option maxHeartbeats 8000000 in
theorem groups_any (c : Cg) (hc : c.ok) (base : Nat) (v : Value) (es : List Ev) (w : World) (hv : OwnE w base 36 5 evL v es) (hok : EvsOk es) :
    Calls Try.prog 16 #[.agg (cgC c), v] w fun en w' => ∃ u gs P, en = .returned u ∧ PairsOf c.cf es P ∧ Grp P gs ∧ GrW gs ∧ gs.length ≤ 1000 ∧ OwnE w' w.heap.size 47 46 grL u gs ∧ Below w.heap.size w w' := by
  have z36 : ∀ w, (sizeOf 36).run Try.prog w = .ok 5 w := run_sizeOf_info sizeEv
  have z40 : ∀ w, (sizeOf 40).run Try.prog w = .ok 2 w := run_sizeOf_info sizeWin
  have Hs36 := Lib.hid sizeEv
  have Hs40 := Lib.hid sizeWin
  have Hs28 := Lib.hid sizeCg
  have ze := zeroEv
  have zw := zeroWin
  generalize hzE : (evL ⟨0, 0, 0, ⟨#[]⟩, 0⟩).toArray = ZE at ze
  have hZE : Hid (ZE.size = 5) := Lib.hid (by rw [← hzE]; rfl)
  generalize hzW : (winL (0, 0)).toArray = ZW at zw
  have hZW : Hid (ZW.size = 2) := Lib.hid (by rw [← hzW]; rfl)
  clear hzE hzW
  obtain ⟨Cc, hCc⟩ : ∃ C, C = cgC c := ⟨_, rfl⟩
  have hCcs : Hid (Cc.size = 7) := Lib.hid (by rw [hCc]; rfl)
  have hso := fun w1 (h : OwnE w1 base 36 5 evL v es) => sort_ev base v es w1 h (Nat.le_trans hok.len (by decide))
  have hof := fun (t : Int) w1 (h1 : -2199023255552 ≤ t) (h2 : t ≤ 2199023255552) => of_any c hc t w1 h1 h2
  have hput := put_any c
  rw [← hCc] at hof hput ⊢
  clear hCc
  obtain ⟨A0, cap0, rfl, _, _⟩ := hv.form
  have b1 := below_alloc (Below.refl w.heap.size w) (.cells Cc 28)
  have hx1 := heap_alloc_new w (.cells Cc 28)
  have hv1 := hv.below b1
  have hsz1 : (w.alloc (.cells Cc 28)).heap.size = w.heap.size + 1 := by simp
  have hs1 := hso _ hv1
  have B1 := Lib.hid b1
  have HX1 := Lib.hid hx1
  have SZ1 := Lib.hid hsz1
  have HOK := Lib.hid hok
  have HOF := Lib.hid hof
  have HPUT := Lib.hid hput
  clear b1 hx1 hv1 hsz1 hv hok hso hof hput
  go_enter Try.func16, Try.ntmps16
  go_wp2_with (go_at_call 29; (with_reducible refine hs1.mono ?_); rintro en w2 ⟨u2, es2, rfl, hp2, ho2, hw2, hb2⟩; have HP2 := Lib.hid hp2; have HO2 := Lib.hid ho2; have HW2 := Lib.hid hw2; have HB2 := Lib.hid hb2; clear hp2 ho2 hw2 hb2; have HS2 := HO2; obtain ⟨A2, c2, rfl, _, hr2⟩ := HW2.out.form; clear hr2)
  have hst := sort_gr
  have HL2 := Lib.hid (HOK.out.perm HP2.out)
  have hlen : es2.length ≤ 61 := HL2.out.len
  have HBW : Hid (Below w.heap.size w w2) := Lib.hid (below_trans B1.out HB2.out)
  have HX2 : Hid (w2.heap[w.heap.size]? = some (.cells Cc 28 (0, 0))) := Lib.hid ((HB2.out.block _ (by rw [SZ1.out]; omega)).trans HX1.out)
  have HU2 : Hid (OwnE w2 (w.heap.size + 1) 36 5 evL (.slice A2 es2.length c2) es2) := Lib.hid (by have := HW2.out; rwa [SZ1.out] at this)
  have HST := Lib.hid hst
  clear hst HW2 HB2 HX1 B1 hs1
  go_wp2_with fail
  go_loopg [5, 13] es2.length (fun kx v5 v13 wr => ∃ i : Nat, v13 = .int .i64 i ∧ i ≤ es2.length ∧ es2.length - i ≤ kx ∧ Hid (Below w.heap.size w wr) ∧ Hid (wr.heap[w.heap.size]? = some (.cells Cc 28 (0, 0))) ∧ Hid (OwnE wr (w.heap.size + 1) 36 5 evL (.slice A2 es2.length c2) es2) ∧ Hid (OwnE wr (w.heap.size + 1) 47 46 grL v5 (gsOf c.cf (es2.take i) [])))
  case atStart => exact ⟨0, rfl, Nat.zero_le _, Nat.le_refl _, HBW, HX2, HU2, Lib.hid (OwnE.nil _ _)⟩
  case round =>
    clear HBW HX2 HU2
    obtain ⟨i, rfl, hin, hkx, HB, HX, HU, HG⟩ := hrel
    generalize hw3 : wr = w3 at *
    clear hw3
    by_cases hlt : i < es2.length
    · obtain ⟨e, he⟩ : ∃ e, es2[i]? = some e := ⟨es2[i], List.getElem?_eq_getElem hlt⟩
      have hem : e ∈ es2 := List.mem_iff_getElem?.2 ⟨i, he⟩
      have hA : ∃ g2, A2 = some ⟨g2, 0, none⟩ := by
        rcases HU.out.2 with ⟨h0, h1⟩ | ⟨g, _, _, h1, _⟩
        · omega
        · injection h1 with h1; exact ⟨g, h1⟩
      obtain ⟨g2, rfl⟩ := hA
      obtain ⟨hrr, _, _, _, _⟩ := OwnE.row encEv HU.out he
      have HRR := Lib.hid hrr
      have hlz : (i : Int) < (es2.length : Int) := by omega
      have ba := below_alloc (Below.refl w3.heap.size w3) (.cells ZE 36)
      have h7 := heap_alloc_new w3 (.cells ZE 36)
      have bb := below_setRow ba (Nat.le_refl w3.heap.size) (evL e).toArray
      have h8 := setRow_heap (w3.alloc (.cells ZE 36)) w3.heap.size _ (evL e).toArray _ _ h7
      have H7 := Lib.hid h7
      have H8 := Lib.hid h8
      have BB := Lib.hid bb
      clear hrr ba h7 bb h8
      have hL := gsOf_take c.cf es2 i e he
      have hlenL := (gsOf_len hc.cf HL2.out.val i hin)
      have HLEN := Lib.hid hlenL
      have HL := Lib.hid hL
      have HT := Lib.hid (HL2.out.t e hem)
      have HV := Lib.hid (HL2.out.val e hem)
      clear hL hlenL hem
      go_upto_region 5 with (first
        | (refine at_op (.load 36 (.tmp 15)) ?_ rfl; refine wpList_load_mid rfl 36 (.tmp 15) rfl g2 (i * 5) rfl (evL e) _ HRR.out Try.underlying36 rfl Hs36.out ?_)
        | (refine at_op (.alloc 36) ?_ rfl; refine wpList_alloc_row rfl _ 36 rfl (some 7) rfl w3.heap.size rfl _ ze ?_)
        | (refine at_op (.store 36 (.tmp 7) (.tmp 16)) ?_ rfl; refine wpList_store_row rfl 36 (.tmp 7) (.tmp 16) rfl w3.heap.size (evL e).toArray rfl rfl 36 _ H7.out Hs36.out hZE.out (evA_one _) ?_))
      generalize hw5 : (w3.alloc (.cells ZE 36)).setRow w3.heap.size (evL e).toArray = w5 at *
      clear hw5
      have HX5 : Hid (w5.heap[w.heap.size]? = some (.cells Cc 28 (0, 0))) := Lib.hid ((BB.out.block _ (heap_lt HX.out)).trans HX.out)
      have HU5 := Lib.hid (HU.out.below BB.out)
      have HG5 := Lib.hid (HG.out.below BB.out)
      have HB5 := Lib.hid (below_trans HB.out BB.out)
      have c2 := (cell_of_row _ _ 2 _ _ _ H8.out).trans (show (evL e).toArray[2]? = some (.int .i64 e.t) from rfl)
      have hof := HOF.out e.t w5 HT.out.1 HT.out.2
      clear HX HU HG HB BB H7 HRR HT
      generalize w3.heap.size = g7 at *
      go_wp2_with (first
        | (refine at_op (.load 28 (.tmp 2)) ?_ rfl; refine wpList_load_row rfl 28 (.tmp 2) rfl w.heap.size rfl 28 Cc (0, 0) _ HX5.out Try.underlying28 rfl (by rw [hCcs.out]; exact Hs28.out) ?_)
        | (go_at_call 15; (with_reducible refine hof.mono ?_); rintro en w6 ⟨u6, rfl, ho6, hb6⟩; have HO6 := Lib.hid ho6; have HB6 := Lib.hid hb6; clear ho6 hb6; obtain ⟨A6, c6, rfl, _, hr6⟩ := HO6.out.form; clear hr6))
      have HX6 : Hid (w6.heap[w.heap.size]? = some (.cells Cc 28 (0, 0))) := Lib.hid ((HB6.out.block _ (heap_lt HX5.out)).trans HX5.out)
      have HE6 : Hid (w6.heap[g7]? = some (.cells (evL e).toArray 36 (0, 0))) := Lib.hid ((HB6.out.block _ (heap_lt H8.out)).trans H8.out)
      have HU6 := Lib.hid (HU5.out.below HB6.out)
      have HG6 := Lib.hid (HG5.out.below HB6.out)
      have HBB6 := Lib.hid (below_trans HB5.out HB6.out)
      have HWS6 : Hid (OwnE w6 (w.heap.size + 1) 40 2 winL (.slice A6 (wsC c.cf e.t).length c6) (wsC c.cf e.t)) := Lib.hid (HO6.out.mono (heap_lt HX5.out))
      clear HX5 HU5 HG5 HB5 H8 HO6 HB6 hof c2
      have hwl := wsC_len c.cf hc.cf e.t
      obtain ⟨ws, hws⟩ : ∃ ws, ws = wsC c.cf e.t := ⟨_, rfl⟩
      rw [← hws] at HL HWS6 hwl ⊢
      clear hws
      obtain ⟨L, hLL⟩ : ∃ L, L = gsOf c.cf (es2.take i) [] := ⟨_, rfl⟩
      rw [← hLL] at HL HG6 HLEN
      clear hLL
      go_loopg [5, 22] ws.length (fun ky v5 v22 wr => ∃ j : Nat, v22 = .int .i64 j ∧ j ≤ ws.length ∧ ws.length - j ≤ ky ∧ Hid (Below w.heap.size w wr) ∧ Hid (wr.heap[w.heap.size]? = some (.cells Cc 28 (0, 0))) ∧ Hid (wr.heap[g7]? = some (.cells (evL e).toArray 36 (0, 0))) ∧ Hid (OwnE wr (w.heap.size + 1) 36 5 evL (.slice (some ⟨g2, 0, none⟩) es2.length c2) es2) ∧ Hid (OwnE wr (w.heap.size + 1) 40 2 winL (.slice A6 ws.length c6) ws) ∧ Hid (OwnE wr (w.heap.size + 1) 47 46 grL v5 ((ws.take j).foldl (putL c.cf.kd e) L)))
      case atStart => exact ⟨0, rfl, Nat.zero_le _, Nat.le_refl _, HBB6, HX6, HE6, HU6, HWS6, HG6⟩
      case round =>
        clear HBB6 HX6 HE6 HU6 HWS6 HG6
        obtain ⟨j, rfl, hjn, hky, HB, HX, HE, HU, HWS, HG⟩ := hrel
        generalize hw7 : wr = w7 at *
        clear hw7
        by_cases hlj : j < ws.length
        · obtain ⟨p, hp⟩ : ∃ p, ws[j]? = some p := ⟨ws[j], List.getElem?_eq_getElem hlj⟩
          have hA : ∃ g6, A6 = some ⟨g6, 0, none⟩ := by
            rcases HWS.out.2 with ⟨h0, h1⟩ | ⟨g, _, _, h1, _⟩
            · omega
            · injection h1 with h1; exact ⟨g, h1⟩
          obtain ⟨g6, rfl⟩ := hA
          obtain ⟨hrr, _, _, _, _⟩ := OwnE.row encWin HWS.out hp
          have HRR := Lib.hid hrr
          have hlz2 : (j : Int) < (ws.length : Int) := by omega
          have ba := below_alloc (Below.refl w7.heap.size w7) (.cells ZW 40)
          have h7 := heap_alloc_new w7 (.cells ZW 40)
          have bb := below_setRow ba (Nat.le_refl w7.heap.size) (winL p).toArray
          have h8 := setRow_heap (w7.alloc (.cells ZW 40)) w7.heap.size _ (winL p).toArray _ _ h7
          have H7 := Lib.hid h7
          have H8 := Lib.hid h8
          have BB := Lib.hid bb
          clear hrr ba h7 bb h8
          have HF := Lib.hid (fold_take c.cf.kd e ws L j p hp)
          have hfl := fold_len (kd := c.cf.kd) HV.out (ws.take j) L
          have HFL : Hid (((ws.take j).foldl (putL c.cf.kd e) L).length ≤ 2000 ∧ GrW ((ws.take j).foldl (putL c.cf.kd e) L)) := Lib.hid ⟨by have := HLEN.out.1; have := hfl.1; rw [List.length_take] at this; omega, hfl.2 HLEN.out.2⟩
          clear hfl
          go_upto_region 8 with (first
            | (refine at_op (.load 40 (.tmp 24)) ?_ rfl; refine wpList_load_mid rfl 40 (.tmp 24) rfl g6 (j * 2) rfl (winL p) _ HRR.out Try.underlying40 rfl Hs40.out ?_)
            | (refine at_op (.alloc 40) ?_ rfl; refine wpList_alloc_row rfl _ 40 rfl (some 9) rfl w7.heap.size rfl _ zw ?_)
            | (refine at_op (.store 40 (.tmp 9) (.tmp 25)) ?_ rfl; refine wpList_store_row rfl 40 (.tmp 9) (.tmp 25) rfl w7.heap.size (winL p).toArray rfl rfl 40 _ H7.out Hs40.out hZW.out (winA_one2 _) ?_))
          generalize hw9 : (w7.alloc (.cells ZW 40)).setRow w7.heap.size (winL p).toArray = w9 at *
          clear hw9
          have HX9 : Hid (w9.heap[w.heap.size]? = some (.cells Cc 28 (0, 0))) := Lib.hid ((BB.out.block _ (heap_lt HX.out)).trans HX.out)
          have HE9 : Hid (w9.heap[g7]? = some (.cells (evL e).toArray 36 (0, 0))) := Lib.hid ((BB.out.block _ (heap_lt HE.out)).trans HE.out)
          have HU9 := Lib.hid (HU.out.below BB.out)
          have HWS9 := Lib.hid (HWS.out.below BB.out)
          have HG9 := Lib.hid (HG.out.below BB.out)
          have HB9 := Lib.hid (below_trans HB.out BB.out)
          have hput := HPUT.out (w.heap.size + 1) _ _ e p w9 HG9.out (Nat.le_of_lt (Nat.lt_of_le_of_lt (heap_lt HX9.out) (Nat.lt_succ_self _)) |> fun _ => heap_lt HX9.out) HFL.out.1 HFL.out.2.ok HV.out
          have HPT := Lib.hid hput
          clear HX HE HU HWS HG HB BB H7 HRR hput
          generalize w7.heap.size = g9 at *
          obtain ⟨A5, c5, e5, _, hr5⟩ := HG9.out.form
          clear hr5
          subst e5
          go_wp2_with (first
            | (refine at_op (.load 28 (.tmp 2)) ?_ rfl; refine wpList_load_row rfl 28 (.tmp 2) rfl w.heap.size rfl 28 Cc (0, 0) _ HX9.out Try.underlying28 rfl (by rw [hCcs.out]; exact Hs28.out) ?_)
            | (refine at_op (.load 36 (.tmp 7)) ?_ rfl; refine wpList_load_row rfl 36 (.tmp 7) rfl g7 rfl 36 (evL e).toArray (0, 0) _ HE9.out Try.underlying36 rfl Hs36.out ?_)
            | (refine at_op (.load 40 (.tmp 9)) ?_ rfl; refine wpList_load_row rfl 40 (.tmp 9) rfl g9 rfl 40 (winL p).toArray (0, 0) _ H8.out Try.underlying40 rfl Hs40.out ?_)
            | (go_at_call 30; (with_reducible refine HPT.out.mono ?_); rintro en w10 ⟨u10, rfl, ho10, hg10⟩; have HO10 := Lib.hid ho10; have HG10 := Lib.hid hg10; clear ho10 hg10))
          go_roundg (ws.length - (j + 1))
          case measure => omega
          case rel => exact ⟨j + 1, by go_num, hlj, Nat.le_refl _, Lib.hid (below_grown2 HB9.out HG10.out (fun q h => by have := (HG9.out.lt q h).1; omega)), Lib.hid (cells_keepT HG9.out HX9.out (by decide) HG10.out), Lib.hid (cells_keepT HG9.out HE9.out (by decide) HG10.out), Lib.hid (OwnE.keepT HG9.out HU9.out (by decide) HG10.out), Lib.hid (OwnE.keepT HG9.out HWS9.out (by decide) HG10.out), Lib.hid (by rw [HF.out]; exact HO10.out)⟩
        · obtain rfl : j = ws.length := by omega
          go_wp2_with fail
          go_roundg (es2.length - (i + 1))
          case measure => omega
          case rel => exact ⟨i + 1, by go_num, hlt, Nat.le_refl _, HB, HX, HU, Lib.hid (by rw [HL.out]; have := HG.out; rwa [List.take_length] at this)⟩
    · obtain rfl : i = es2.length := by omega
      have HG2 : Hid (OwnE w3 (w.heap.size + 1) 47 46 grL u5 (gsOf c.cf es2 [])) := Lib.hid (by have := HG.out; rwa [List.take_length] at this)
      have hgl := gsOf_len hc.cf HL2.out.val es2.length (Nat.le_refl _)
      rw [List.take_length] at hgl
      have HGL := Lib.hid hgl
      have hsg := HST.out w3 (w.heap.size + 1) _ _ HG2.out (by have := HGL.out.1; omega)
      have HSG := Lib.hid hsg
      clear hgl hsg HG
      obtain ⟨A5, c5, e5, _, hr5⟩ := HG2.out.form
      clear hr5
      subst e5
      go_wp2_with (go_at_call 24; (with_reducible refine HSG.out.mono ?_); rintro en w4 ⟨rfl, l4, hp4, hs4, ho4, hg4⟩; have HP4 := Lib.hid hp4; have HS4 := Lib.hid hs4; have HO4 := Lib.hid ho4; have HG4 := Lib.hid hg4; clear hp4 hs4 ho4 hg4)
      go_ret
      obtain ⟨P, hP, hGr⟩ := groups_are hc.cf HS2.out
      have e4 := hGr.sorted HP4.out HS4.out
      subst e4
      obtain ⟨P', hP', hPP⟩ := hP.turn HP2.out
      exact ⟨_, _, P', rfl, hP', hGr.of_perm hPP, HGL.out.2, by have := HGL.out.1; omega, HO4.out.mono (by omega), below_grown2 HB.out HG4.out (fun q h => by have := (HG2.out.lt q h).1; omega)⟩
end Go.Proofs.Ythplelglifnhoaa
