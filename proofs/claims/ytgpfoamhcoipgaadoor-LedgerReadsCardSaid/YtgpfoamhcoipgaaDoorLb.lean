import Derived.Test.YtgpfoamhcoipgaaDoorLa
import Derived.Test.YtgpfoamhcoipgaaDoorLc
import Derived.Deep.DeepCutAuto
import Derived.Deep.CutBlock
/-! The ledger's Add: the walk. -/
namespace Go.Proofs.YtgpfoamhcoipgaaDoor
open Go.RowKit Go.Sort Go.ChangeMaps
set_option linter.unusedVariables false
attribute [-simp] Tryd.isAgg34 Tryd.sizeOf34 Tryd.typeInfo34 Tryd.type34
attribute [-simp] Tryd.isAgg40 Tryd.sizeOf40 Tryd.typeInfo40 Tryd.type40
attribute [-simp] Tryd.isAgg38 Tryd.sizeOf38 Tryd.typeInfo38 Tryd.type38
attribute [-simp] Tryd.isAgg43 Tryd.sizeOf43 Tryd.typeInfo43 Tryd.type43
attribute [-simp] Tryd.isAgg65 Tryd.sizeOf65 Tryd.typeInfo65 Tryd.type65
attribute [-simp] Tryd.isAgg67 Tryd.sizeOf67 Tryd.typeInfo67 Tryd.type67

theorem run_builtK {P : Program} {ops : Array Oper} {rest : List Oper} {o : Oper} {a : Act} {Q : Exit → Act → World → Prop} {w : World} (hgd : o.guard = none) (t : TypeId) (parts : Array (Nat × Operand)) (ho : o.op = .build t parts) (cells : Array Value) (hf : P.built t (parts.map fun (i, x) => (i, a.eval x)).toList = some cells)
    (h : wpList P ops Q rest (a.put o.dst (.agg cells)) w) : wpList P ops Q (o :: rest) a w :=
  wpList_plain hgd fun K hK => wp_build t parts ho (by rw [hf]; rfl) (hK _ _ (by rw [hf]; exact h))
theorem wpList_load_midG {P : Program} {ops : Array Oper} {rest : List Oper} {op : Oper} {a : Act} {w : World} {Q : Exit → Act → World → Prop} (hw : Region.wanted op (yielded ops a.tmps) = true) (ty : TypeId) (x : Operand) (ho : op.op = .load ty x)
    (b o : Nat) (hx : a.eval x = .pointer (some ⟨b, o, none⟩)) (cs : List Value) (d : TypeDesc) (hc : w.rangeAt b o cs)
    (hu : P.underlying ty = some d) (hd : d.isRow = true) (hi : (P.info? ty).map (·.size) = some cs.length)
    (h : wpList P ops Q rest (a.put op.dst (.agg cs.toArray)) w) : wpList P ops Q (op :: rest) a w :=
  BigFrame.wpList_want hw fun K hK => wp_load_mid ty x ho b o hx cs d hc hu hd hi (hK _ _ h)
theorem noAV_okK : noAV.ok := ⟨show 0 < 18446744073709551616 by decide, show 0 < 18446744073709551616 by decide, show 0 < 18446744073709551616 by decide, show 0 < 18446744073709551616 by decide⟩
set_option maxRecDepth 100000 in
theorem built_noAggK : Tryd.prog.built 38 [] = some (avC noAV) := by kernel_rfl
/-- What Add leaves. -/
def AddPost (gb base : Nat) (m v : Value) (L more : List Ch) (w : World) : Option (Nm → Std) → Ending → World → Prop
  | none, e, w' => e = .returned (.int .i64 7) ∧ Below w.heap.size w w'
  | some f, e, w' => e = .returned (.int .i64 0) ∧ ∃ v' m', w'.heap[gb]? = some (.cells #[v', m'] 32 (0, 0)) ∧ OwnE w' base 43 10 chL v' (L ++ more) ∧ AtIs w' m' f ∧
      w'.os = w.os ∧ w'.tape = w.tape ∧ w'.output = w.output ∧ w.heap.size ≤ w'.heap.size ∧ (∀ i, i < w.heap.size → i ≠ gb → m ≠ .map (some i) → v.ownBlock ≠ some i → w'.heap[i]? = w.heap[i]?) ∧ (∀ i, m' = .map (some i) → w.heap.size ≤ i ∨ m = .map (some i)) ∧ ∀ i, v'.ownBlock = some i → w.heap.size ≤ i ∨ v.ownBlock = some i
set_option maxRecDepth 100000 in
set_option maxHeartbeats 16000000 in
theorem add_led (gb base : Nat) (m v : Value) (L more : List Ch) (f : Nm → Std) (A : Option Addr) (cap : Nat) (w : World)
    (hg : w.heap[gb]? = some (.cells #[v, m] 32 (0, 0))) (hv : OwnE w base 43 10 chL v L) (hm : AtIs w m f) (hf : ∀ n, (f n).a.ok ∧ (f n).next < 18446744073709551616) (hr : RowsAt w chL A more) (ho : ∀ c ∈ more, c.ok)
    (hl : L.length + more.length ≤ 1000) (hb : base ≤ w.heap.size) :
    Calls Tryd.prog 7 #[.pointer (some ⟨gb, 0, none⟩), .slice A more.length cap] w (AddPost gb base m v L more w (addF f more)) := by
  have T := mapTy_led
  have zc := zeroCh
  have zn := zeroNm
  have zs := zeroStd
  have Hc := Lib.hid sizeCh
  have Hn := Lib.hid sizeNm
  have Hst := Lib.hid sizeStd
  have hgl := heap_lt hg
  have z1 : ∀ w, (sizeOf 43).run Tryd.prog w = .ok 10 w := run_sizeOf_info sizeCh
  have z2 : ∀ w, (sizeOf 40).run Tryd.prog w = .ok 8 w := run_sizeOf_info sizePane
  have z3 : ∀ w, (sizeOf 34).run Tryd.prog w = .ok 2 w := run_sizeOf_info sizeWin
  have z4 : ∀ w, (sizeOf 38).run Tryd.prog w = .ok 5 w := run_sizeOf_info sizeAgg
  have z5 : ∀ w, (sizeOf 65).run Tryd.prog w = .ok 3 w := run_sizeOf_info sizeNm
  have z6 : ∀ w, (sizeOf 67).run Tryd.prog w = .ok 7 w := run_sizeOf_info sizeStd
  have g1 : ∀ w, (isAgg 43).run Tryd.prog w = .ok true w := fun w => by rw [Tryd.isAgg43]
  have g2 : ∀ w, (isAgg 40).run Tryd.prog w = .ok true w := fun w => by rw [Tryd.isAgg40]
  have g5 : ∀ w, (isAgg 65).run Tryd.prog w = .ok true w := fun w => by rw [Tryd.isAgg65]
  have g6 : ∀ w, (isAgg 67).run Tryd.prog w = .ok true w := fun w => by rw [Tryd.isAgg67]
  obtain ⟨R, hR⟩ : ∃ R, R = addF f more := ⟨_, rfl⟩
  rw [← hR]
  have HR := Lib.hid hR
  clear hR
  have hM0 := MapAt.new (K := Nm) (V := Std) (kC := nmC) (vC := stC) w
  have b0 := below_alloc (Below.refl w.heap.size w) (.map #[] 0)
  have s0 : (w.alloc (.map #[] 0)).heap.size = w.heap.size + 1 := by simp
  go_enter Tryd.func7, Tryd.ntmps7
  go_upto_block 0 with (refine at_op (.makeMap 30 none) ?_ rfl; refine wpList_makeMapK rfl w 30 rfl (some 15) rfl w.heap.size rfl ?_)
  generalize w.alloc (.map #[] 0) = w1 at *
  go_wp2_with fail
  go_loopw [18] (fun i wr => ∃ (j : Nat) (fj : Nm → Std) (mp : List (Nm × Std)), i = .int .i64 (j : Nat) ∧ j ≤ more.length ∧ R = addF fj (more.drop j) ∧ MapAt nmC stC wr w.heap.size mp ∧ (∀ n, (lget mp n).getD (f n) = fj n) ∧ (∀ n, (fj n).a.ok ∧ (fj n).next < 18446744073709551616) ∧ Below w.heap.size w wr) (fun i _ => more.length - (intOf i).toNat)
  case atStart => exact ⟨0, f, [], rfl, Nat.zero_le _, HR.out, hM0, fun n => rfl, hf, b0⟩
  case round =>
    clear hM0 b0 s0 HR
    obtain ⟨j, fj, mp, rfl, hj, hR, hM, hmp, hfj, hbr⟩ := hrel
    by_cases hlt : j < more.length
    · obtain ⟨c, hc⟩ : ∃ c, more[j]? = some c := ⟨_, List.getElem?_eq_getElem hlt⟩
      obtain ⟨g, off, rfl, hrow⟩ := RowsAt.row encCh (hr.below hbr) hc
      have hok := ho c (List.mem_of_getElem? hc)
      have hji : (j : Int) < (more.length : Int) := by omega
      have hCs : (chA c).size = 10 := rfl
      have hC1 := chA_one c
      have c0 : (chA c)[0]? = some (.bool c.put) := rfl
      have c1 : (chA c)[1]? = some (.int .u64 (c.rev : Int)) := rfl
      have c2 : (chA c)[2]? = some (.string c.p.nm.key) := rfl
      have c3 : ((chA c).extract 3 (3 + 2)).toList = [.int .i64 c.p.nm.s, .int .i64 c.p.nm.e] := rfl
      have c5 : ((chA c).extract 5 (5 + 5)).toList = (avC c.p.a).toList := rfl
      have hdr : more.drop j = c :: more.drop (j + 1) := by rw [List.drop_eq_getElem_cons hlt]; congr 1; rw [List.getElem?_eq_getElem hlt] at hc; exact Option.some.inj hc
      rw [hdr, addF] at hR
      have HR := Lib.hid hR
      have hbn := built_nm c.p.nm
      have hq := hmp c.p.nm
      have hfq := hfj c.p.nm
      have HF := Lib.hid hfj
      have HM := Lib.hid hM
      have Hmp := Lib.hid hmp
      clear hR hdr hc hfj hM hmp
      have hrow : wr.rangeAt g (off + j * 10) (chL c) := hrow
      obtain ⟨C, hC⟩ : ∃ C, C = chA c := ⟨_, rfl⟩
      rw [← hC] at hCs hC1 c0 c1 c2 c3 c5
      have hrow : wr.rangeAt g (off + j * 10) C.toList := by rw [hC]; exact hrow
      have HC := Lib.hid hC
      clear hC
      obtain ⟨N, hN⟩ : ∃ N, N = nmA c.p.nm := ⟨_, rfl⟩
      rw [← hN] at hbn
      have HN := Lib.hid hN
      clear hN
      have hN1 : N.size = 3 := by rw [HN.out]; rfl
      have hN2 : N.all (·.oneCell') = true := by rw [HN.out]; exact nmA_one _
      have k7 := heap_alloc_new wr (.cells C 43)
      have d2 := (cell_of_row _ _ 2 _ _ _ k7).trans c2
      have r3 := World.rangeAt_of_block k7 3 2
      rw [c3] at r3
      have bb7 := below_alloc (Below.refl wr.heap.size wr) (.cells C 43)
      have bb8 := below_alloc bb7 (.cells N 65)
      have k78 := ((below_alloc (Below.refl _ (wr.alloc (.cells C 43))) (.cells N 65)).block wr.heap.size (by simp)).trans k7
      have k8 : ((wr.alloc (.cells C 43)).alloc (.cells N 65)).heap[wr.heap.size + 1]? = some (.cells N 65) := heap_alloc2_new wr _ _
      go_upto_region 8 with (first
        | (refine at_op (.load 43 (.tmp 20)) ?_ rfl; refine wpList_load_mid rfl 43 (.tmp 20) rfl g (off + j * 10) rfl C.toList _ hrow Tryd.underlying43 rfl (by rw [Array.length_toList, hCs]; exact Hc.out) ?_; rw [Array.toArray_toList])
        | (refine at_op (.alloc 43) ?_ rfl; refine wpList_alloc_row rfl _ 43 rfl (some 7) rfl wr.heap.size rfl _ zc ?_)
        | (refine at_op (.store 43 (.tmp 7) (.tmp 21)) ?_ rfl; refine wpList_store_row rfl 43 (.tmp 7) (.tmp 21) rfl wr.heap.size C rfl rfl 43 _ (heap_alloc_new wr _) (by rw [hCs]; exact Hc.out) (by rw [hCs]; rfl) hC1 ?_; rw [World.setRow_alloc_new])
        | (refine at_op (.load 34 (.tmp 26)) ?_ rfl; refine wpList_load_mid rfl 34 (.tmp 26) rfl wr.heap.size 3 rfl _ _ r3 Tryd.underlying34 rfl (by exact sizeWin) ?_)
        | (refine run_builtK rfl 65 _ rfl N (by simp only [List.map_toArray, List.map_cons, List.map_nil, Act.eval]; exact hbn) ?_)
        | (refine at_op (.alloc 65) ?_ rfl; refine wpList_alloc_row rfl _ 65 rfl (some 8) rfl (wr.heap.size + 1) (by simp) _ zn ?_)
        | (refine at_op (.store 65 (.tmp 8) (.tmp 28)) ?_ rfl; refine wpList_store_row rfl 65 (.tmp 8) (.tmp 28) rfl (wr.heap.size + 1) N rfl rfl 65 _ (heap_alloc2_new wr _ _) (by rw [hN1]; exact Hn.out) (by rw [hN1]; rfl) hN2 ?_; rw [setRow2]))
      go_frame
      generalize hw8 : (wr.alloc (.cells C 43)).alloc (.cells N 65) = w8 at *
      have hs8 : w8.heap.size = wr.heap.size + 2 := by rw [← hw8]; simp
      have HM8 := HM.out.same (bb8.block _ HM.out.lt)
      have bw8 := below_trans hbr bb8
      have hbl := HM.out.lt
      clear hw8 bb7 d2 r3 k7 hrow hbn hN2 c3 zc zn
      obtain ⟨s1, hs1⟩ : ∃ s1, s1 = (lget mp c.p.nm).getD st0 := ⟨_, rfl⟩
      have hlk : (if true = true then Value.tuple #[((lget mp c.p.nm).map stC).getD (stC st0), .bool (lget mp c.p.nm).isSome] else ((lget mp c.p.nm).map stC).getD (stC st0)) = .tuple #[.agg (stL s1), .bool (lget mp c.p.nm).isSome] := by
        rw [hs1]; cases lget mp c.p.nm <;> rfl
      have HLK := Lib.hid hlk
      have HS1 := Lib.hid hs1
      have HS8 := Lib.hid hs8
      clear hlk hs1 hs8
      have k9 := heap_alloc_new w8 (.cells (stL s1) 67)
      have b9 := below_alloc (Below.refl w8.heap.size w8) (.cells (stL s1) 67)
      go_upto_region 9 with (first
        | (refine at_op (.load 65 (.tmp 8)) ?_ rfl; refine wpList_load_row rfl 65 (.tmp 8) rfl (wr.heap.size + 1) rfl 65 N (0, 0) _ k8 Tryd.underlying65 rfl (by rw [hN1]; exact Hn.out) ?_)
        | (at_lookup; refine wpList_lookupK T rfl w8 (.tmp 30) (.tmp 31) true rfl w.heap.size mp rfl HM8 c.p.nm (by exact congrArg Value.agg HN.out) ?_; rw [HLK.out])
        | (refine at_op (.alloc 67) ?_ rfl; refine wpList_alloc_row rfl _ 67 rfl (some 9) rfl w8.heap.size rfl _ zs ?_)
        | (refine at_op (.store 67 (.tmp 9) (.tmp 33)) ?_ rfl; refine wpList_store_row rfl 67 (.tmp 9) (.tmp 33) rfl w8.heap.size (stL s1) rfl rfl 67 _ (heap_alloc_new w8 _) Hst.out rfl (stL_one s1) ?_; rw [World.setRow_alloc_new]))
      have k79 := ((b9.block _ (by rw [HS8.out]; omega)).trans k78)
      have k89 := ((b9.block _ (by rw [HS8.out]; omega)).trans k8)
      have HM9 := HM8.same (b9.block _ HM8.lt)
      have bw9 := below_trans bw8 b9
      have hs9 : (w8.alloc (.cells (stL s1) 67)).heap.size = w8.heap.size + 1 := by simp
      have g9 := (bw9.block gb hgl).trans hg
      have cm := cell_of_row _ _ 1 _ _ _ g9
      have hlk0 : ∀ wq, Below (w8.alloc (.cells (stL s1) 67)).heap.size (w8.alloc (.cells (stL s1) 67)) wq → lget mp c.p.nm = none → (Instr.lookup 30 m (.agg N) false).run Tryd.prog wq = .ok (.agg (stL (fj c.p.nm))) wq := fun wq bq hn => by
        rw [hn] at hq
        have hfe : f c.p.nm = fj c.p.nm := hq
        rw [HN.out]
        rcases hm with ⟨rfl, hz⟩ | ⟨b0, mp0, rfl, hM0, hl0⟩
        · have := run_lookup_nilK (w := wq) T c.p.nm false
          rw [← hfe, hz]
          exact this
        · have hM1 := hM0.same (bw9.block _ hM0.lt)
          have hM2 := hM1.same (bq.block _ hM1.lt)
          have := run_lookupK T hM2 c.p.nm false
          have hv : ((lget mp0 c.p.nm).map stC).getD (stC st0) = .agg (stL (fj c.p.nm)) := by
            rw [← hfe, ← hl0 c.p.nm]; cases lget mp0 c.p.nm <;> rfl
          rw [hv] at this
          exact this
      have hrest := hm
      have HMm := Lib.hid hm
      have HQ := Lib.hid hq
      have KM := Lib.hid cm
      have K8 := Lib.hid k89
      have K9 := Lib.hid k9
      have K7 := Lib.hid k79
      clear hm hq hrest cm k89 k9 k79 k8 k78 HM8 bb8 b9 bw8 HLK HM
      generalize w8.heap.size = gS at *
      generalize w8.alloc (.cells (stL s1) 67) = w9 at *
      obtain ⟨bq, hbq⟩ : ∃ bq, bq = (lget mp c.p.nm).isSome := ⟨_, rfl⟩
      rw [← hbq]
      have HBQ := Lib.hid hbq
      clear hbq
      cases bq with
      | true =>
        obtain ⟨sx, hlg⟩ : ∃ sx, lget mp c.p.nm = some sx := Option.isSome_iff_exists.1 HBQ.out.symm
        have hsx : s1 = fj c.p.nm := by
          have h1 := HQ.out
          rw [hlg] at h1
          rw [HS1.out, hlg]; exact h1
        have KS := Lib.hid (show w9.heap[gS]? = some (.cells (stL (fj c.p.nm)) 67 (0, 0)) by rw [← hsx]; exact K9.out)
        clear hlk0 hlg hsx g9 K9
        go_upto_block 2 with fail

        have e0 := (cell_of_row _ _ 0 _ _ _ K7.out).trans c0
        have e1 := (cell_of_row _ _ 1 _ _ _ K7.out).trans c1
        have d0 := (cell_of_row _ _ 0 _ _ _ KS.out).trans (show (stL (fj c.p.nm))[0]? = some (.bool (fj c.p.nm).live) from rfl)
        have d6 := (cell_of_row _ _ 6 _ _ _ KS.out).trans (show (stL (fj c.p.nm))[6]? = some (.int .u64 ((fj c.p.nm).next : Int)) from rfl)
        have r5 := World.rangeAt_of_block K7.out 5 5
        rw [c5] at r5
        have rs := World.rangeAt_of_block KS.out 1 5
        rw [show ((stL (fj c.p.nm)).extract 1 (1 + 5)).toList = (avC (fj c.p.nm).a).toList from rfl] at rs
        have hsame := fun w => aggSame_any c.p.a (fj c.p.nm).a w hok.a hfq.1
        have HST : Hid (stepS (fj c.p.nm) c = if c.put = true ∧ (fj c.p.nm).live = false ∧ c.rev = (fj c.p.nm).next then some ⟨true, c.p.a, (fj c.p.nm).next⟩
          else if c.put = false ∧ (fj c.p.nm).live = true ∧ c.rev = (fj c.p.nm).next ∧ sameAV c.p.a (fj c.p.nm).a = true then some ⟨false, noAV, ((fj c.p.nm).next + 1) % 18446744073709551616⟩
          else none) := Lib.hid rfl
        have R5 := Lib.hid r5
        have RS := Lib.hid rs
        have hgo : ∀ s', s'.a.ok ∧ s'.next < 18446744073709551616 → (∀ n, (lget (lset mp c.p.nm s') n).getD (f n) = putF fj c.p.nm s' n) ∧ ∀ n, (putF fj c.p.nm s' n).a.ok ∧ (putF fj c.p.nm s' n).next < 18446744073709551616 := fun s' hs => by
          refine ⟨fun n => ?_, fun n => ?_⟩
          · rw [lget_lset]
            unfold putF
            by_cases h : n = c.p.nm
            · rw [if_pos h, if_pos h]; rfl
            · rw [if_neg h, if_neg h]; exact Hmp.out n
          · unfold putF
            split
            · exact hs
            · exact HF.out n
        clear r5 rs
        cases hpt : c.put
        · cases hlv : (fj c.p.nm).live
          · have hRn : R = none := by rw [HR.out, HST.out, hpt, hlv]; rfl
            have HRn := Lib.hid hRn
            rw [hpt] at e0
            rw [hlv] at d0
            clear hRn hgo
            go_wp2_with fail
            go_ret
            rw [HRn.out]
            exact ⟨rfl, bw9⟩
          · by_cases hrv : c.rev = (fj c.p.nm).next
            · have hre : ((c.rev : Int) == ((fj c.p.nm).next : Int)) = true := by rw [canon_int]; exact decide_eq_true hrv
              rw [hpt] at e0
              rw [hlv] at d0
              cases hsv : sameAV c.p.a (fj c.p.nm).a
              · have hRn : R = none := by rw [HR.out, HST.out, hpt, hlv, hsv]; simp
                have HRn := Lib.hid hRn
                rw [hsv] at hsame
                clear hRn hgo hrv
                go_wp2_with (first
                  | (refine at_opG (.load 38 (.tmp 81)) (some (14, true)) ?_ rfl rfl; refine wpList_load_midG rfl 38 (.tmp 81) rfl wr.heap.size 5 rfl _ _ R5.out Tryd.underlying38 rfl (by exact sizeAgg) ?_; rw [Array.toArray_toList])
                  | (refine at_opG (.load 38 (.tmp 83)) (some (14, true)) ?_ rfl rfl; refine wpList_load_midG rfl 38 (.tmp 83) rfl gS 1 rfl _ _ RS.out Tryd.underlying38 rfl (by exact sizeAgg) ?_; rw [Array.toArray_toList])
                  | (go_at_call 24; (with_reducible refine (hsame _).mono ?_); rintro e w5 ⟨rfl, b5⟩))
                go_ret
                rw [HRn.out]
                exact ⟨rfl, below_trans bw9 b5⟩
              · have hRs : R = addF (putF fj c.p.nm ⟨false, noAV, ((fj c.p.nm).next + 1) % 18446744073709551616⟩) (more.drop (j + 1)) := by rw [HR.out, HST.out, if_neg (fun h => by rw [hpt] at h; cases h.1), if_pos ⟨hpt, hlv, hrv, hsv⟩]; rfl
                have HRs := Lib.hid hRs
                have hbs := built_std false noAV (((fj c.p.nm).next + 1) % 18446744073709551616)
                have Hgo := Lib.hid (hgo ⟨false, noAV, ((fj c.p.nm).next + 1) % 18446744073709551616⟩ ⟨noAV_okK, Nat.mod_lt _ (by decide)⟩)
                have hb0 := built_noAggK
                have hwn : IntKind.u64.wrap (((fj c.p.nm).next : Int) + 1) = ((((fj c.p.nm).next + 1) % 18446744073709551616 : Nat) : Int) := by rw [IntKind.wrap_u64]; omega
                rw [hsv] at hsame
                clear hRs hrv hgo
                obtain ⟨T2, hT2⟩ : ∃ T2 : Std, T2 = ⟨false, noAV, ((fj c.p.nm).next + 1) % 18446744073709551616⟩ := ⟨_, rfl⟩
                rw [← hT2] at hbs Hgo HRs
                obtain ⟨nx, hnx⟩ : ∃ nx : Nat, nx = ((fj c.p.nm).next + 1) % 18446744073709551616 := ⟨_, rfl⟩
                rw [← hnx] at hbs hwn
                clear hT2 hnx
                go_wp2_with (first
                  | (refine at_opG (.load 38 (.tmp 81)) (some (14, true)) ?_ rfl rfl; refine wpList_load_midG rfl 38 (.tmp 81) rfl wr.heap.size 5 rfl _ _ R5.out Tryd.underlying38 rfl (by exact sizeAgg) ?_; rw [Array.toArray_toList])
                  | (refine at_opG (.load 38 (.tmp 83)) (some (14, true)) ?_ rfl rfl; refine wpList_load_midG rfl 38 (.tmp 83) rfl gS 1 rfl _ _ RS.out Tryd.underlying38 rfl (by exact sizeAgg) ?_; rw [Array.toArray_toList])
                  | (go_at_call 24; (with_reducible refine (hsame _).mono ?_); rintro e w5 ⟨rfl, b5⟩; have KS5 := Lib.hid ((b5.block _ (heap_lt KS.out)).trans KS.out); have K85 := Lib.hid ((b5.block _ (heap_lt K8.out)).trans K8.out); have HM5 := HM9.same (b5.block _ HM9.lt); have bw5 := below_trans bw9 b5; have d65 := cell_below b5 d6)
                  | (refine at_op (.build 38 #[]) ?_ rfl; refine run_builtK rfl 38 _ rfl (avC noAV) (by simp only [List.map_toArray, List.map_nil]; exact hb0) ?_)
                  | (refine at_op (.build 67 #[(0, .const (.bool false)), (1, .tmp 87), (2, .tmp 90)]) ?_ rfl; refine run_builtK rfl 67 _ rfl (stL T2) (by simp only [List.map_toArray, List.map_cons, List.map_nil, Act.eval]; exact hbs) ?_)
                  | (refine at_op (.store 67 (.tmp 9) (.tmp 91)) ?_ rfl; refine wpList_store_row rfl 67 (.tmp 9) (.tmp 91) rfl gS (stL T2) rfl rfl 67 _ KS5.out Hst.out rfl (stL_one _) ?_; have KT := setRow_heap w5 gS _ (stL T2) _ _ KS5.out; have K8T := (setRow_other w5 gS (wr.heap.size + 1) (stL T2) (by have := HS8.out; omega)).trans K85.out; have HMT := HM5.same (setRow_other w5 gS w.heap.size (stL T2) (by have := HS8.out; omega)); have bwT := below_setRow bw5 (show w.heap.size ≤ gS by have := HS8.out; omega) (stL T2); generalize w5.setRow gS (stL T2) = wT at *)
                  | (refine at_op (.load 65 (.tmp 8)) ?_ rfl; refine wpList_load_row rfl 65 (.tmp 8) rfl (wr.heap.size + 1) rfl 65 N (0, 0) _ K8T Tryd.underlying65 rfl (by rw [hN1]; exact Hn.out) ?_)
                  | (refine at_op (.load 67 (.tmp 9)) ?_ rfl; refine wpList_load_row rfl 67 (.tmp 9) rfl gS rfl 67 (stL T2) (0, 0) _ KT Tryd.underlying67 rfl Hst.out ?_)
                  | (at_mapUpdate; refine wpList_updateK T rfl wT (.tmp 92) (.tmp 93) (.tmp 94) rfl w.heap.size mp rfl HMT c.p.nm (by exact congrArg Value.agg HN.out) T2 rfl ?_; intro es ck hM2))
                exact ⟨⟨j + 1, _, _, by go_num, by omega, HRs.out, hM2, Hgo.out.1, Hgo.out.2, below_setBlock bwT (Nat.le_refl _) _⟩, by simp [intOf]; omega⟩
            · have hRn : R = none := by rw [HR.out, HST.out, if_neg (fun h => hrv h.2.2), if_neg (fun h => hrv h.2.2.1)]; rfl
              have HRn := Lib.hid hRn
              have hre : ((c.rev : Int) == ((fj c.p.nm).next : Int)) = false := by rw [canon_int]; exact decide_eq_false hrv
              rw [hpt] at e0
              rw [hlv] at d0
              clear hRn hrv hgo
              go_wp2_with fail
              go_ret
              rw [HRn.out]
              exact ⟨rfl, bw9⟩
        · cases hlv : (fj c.p.nm).live
          · by_cases hrv : c.rev = (fj c.p.nm).next
            · have hRs : R = addF (putF fj c.p.nm ⟨true, c.p.a, (fj c.p.nm).next⟩) (more.drop (j + 1)) := by rw [HR.out, HST.out, if_pos ⟨hpt, hlv, hrv⟩]; rfl
              have HRs := Lib.hid hRs
              have hre : ((c.rev : Int) == ((fj c.p.nm).next : Int)) = true := by rw [canon_int]; exact decide_eq_true hrv
              have hbs := built_std true c.p.a (fj c.p.nm).next
              have Hgo := Lib.hid (hgo ⟨true, c.p.a, (fj c.p.nm).next⟩ ⟨hok.a, hfq.2⟩)
              rw [hpt] at e0
              rw [hlv] at d0
              clear hRs hrv hgo
              go_wp2_with (first
                | (refine at_op (.load 38 (.tmp 59)) ?_ rfl; refine wpList_load_mid rfl 38 (.tmp 59) rfl wr.heap.size 5 rfl _ _ R5.out Tryd.underlying38 rfl (by exact sizeAgg) ?_)
                | (refine at_op (.build 67 #[(0, .const (.bool true)), (1, .tmp 60), (2, .tmp 62)]) ?_ rfl; refine run_builtK rfl 67 _ rfl (stL ⟨true, c.p.a, (fj c.p.nm).next⟩) (by simp only [List.map_toArray, List.map_cons, List.map_nil, Act.eval]; exact hbs) ?_)
                | (refine at_op (.store 67 (.tmp 9) (.tmp 63)) ?_ rfl; refine wpList_store_row rfl 67 (.tmp 9) (.tmp 63) rfl gS (stL ⟨true, c.p.a, (fj c.p.nm).next⟩) rfl rfl 67 _ KS.out Hst.out rfl (stL_one _) ?_; have KT := setRow_heap w9 gS _ (stL ⟨true, c.p.a, (fj c.p.nm).next⟩) _ _ KS.out; have K8T := (setRow_other w9 gS (wr.heap.size + 1) (stL ⟨true, c.p.a, (fj c.p.nm).next⟩) (by have := HS8.out; omega)).trans K8.out; have HMT := HM9.same (setRow_other w9 gS w.heap.size (stL ⟨true, c.p.a, (fj c.p.nm).next⟩) (by have := HS8.out; omega)); have bwT := below_setRow bw9 (show w.heap.size ≤ gS by have := HS8.out; omega) (stL ⟨true, c.p.a, (fj c.p.nm).next⟩); generalize w9.setRow gS (stL ⟨true, c.p.a, (fj c.p.nm).next⟩) = wT at *)
                | (refine at_op (.load 65 (.tmp 8)) ?_ rfl; refine wpList_load_row rfl 65 (.tmp 8) rfl (wr.heap.size + 1) rfl 65 N (0, 0) _ K8T Tryd.underlying65 rfl (by rw [hN1]; exact Hn.out) ?_)
                | (refine at_op (.load 67 (.tmp 9)) ?_ rfl; refine wpList_load_row rfl 67 (.tmp 9) rfl gS rfl 67 (stL ⟨true, c.p.a, (fj c.p.nm).next⟩) (0, 0) _ KT Tryd.underlying67 rfl Hst.out ?_)
                | (at_mapUpdate; refine wpList_updateK T rfl wT (.tmp 92) (.tmp 93) (.tmp 94) rfl w.heap.size mp rfl HMT c.p.nm (by exact congrArg Value.agg HN.out) ⟨true, c.p.a, (fj c.p.nm).next⟩ rfl ?_; intro es ck hM2))
              exact ⟨⟨j + 1, _, _, by go_num, by omega, HRs.out, hM2, Hgo.out.1, Hgo.out.2, below_setBlock bwT (Nat.le_refl _) _⟩, by simp [intOf]; omega⟩
            · have hRn : R = none := by rw [HR.out, HST.out, if_neg (fun h => hrv h.2.2), if_neg (fun h => by rw [hpt] at h; cases h.1)]; rfl
              have HRn := Lib.hid hRn
              have hre : ((c.rev : Int) == ((fj c.p.nm).next : Int)) = false := by rw [canon_int]; exact decide_eq_false hrv
              rw [hpt] at e0
              rw [hlv] at d0
              clear hRn hrv hgo
              go_wp2_with fail
              go_ret
              rw [HRn.out]
              exact ⟨rfl, bw9⟩
          · have hRn : R = none := by rw [HR.out, HST.out, hpt, hlv]; rfl
            have HRn := Lib.hid hRn
            rw [hpt] at e0
            rw [hlv] at d0
            clear hRn hgo
            go_wp2_with fail
            go_ret
            rw [HRn.out]
            exact ⟨rfl, bw9⟩
      | false =>
        have hlg : lget mp c.p.nm = none := by
          cases hq : lget mp c.p.nm with
          | none => rfl
          | some x => have := HBQ.out; rw [hq] at this; cases this
        have hlk0 := fun wq bq => hlk0 wq bq hlg
        clear hlg
        go_upto_region 10 with fail
        obtain ⟨CV, hCV⟩ : ∃ CV : Nat → Value, CV = fun j => match j with
          | 0 => .pointer (some ⟨gb, 0, none⟩)
          | 1 => .pointer (some ⟨gb, 0, none⟩)
          | 2 => .pointer (some ⟨gb, 1, none⟩)
          | 3 => m
          | 4 => .agg N
          | 5 => .agg (stL (fj c.p.nm))
          | 6 => undef
          | _ => undef := ⟨_, rfl⟩
        obtain ⟨isO, hO⟩ : ∃ isO : Nat → Bool, isO = fun j => match j with
          | _ => false := ⟨_, rfl⟩
        obtain ⟨BL, hBL⟩ : ∃ BL : Nat → List Int, BL = fun j => match j with
          | _ => [] := ⟨_, rfl⟩
        have v0 : CV 0 = .pointer (some ⟨gb, 0, none⟩) := congrFun hCV 0
        have o0 : isO 0 = false := congrFun hO 0
        have v1 : CV 1 = .pointer (some ⟨gb, 0, none⟩) := congrFun hCV 1
        have o1 : isO 1 = false := congrFun hO 1
        have v2 : CV 2 = .pointer (some ⟨gb, 1, none⟩) := congrFun hCV 2
        have o2 : isO 2 = false := congrFun hO 2
        have v3 : CV 3 = m := congrFun hCV 3
        have o3 : isO 3 = false := congrFun hO 3
        have v4 : CV 4 = .agg N := congrFun hCV 4
        have o4 : isO 4 = false := congrFun hO 4
        have v5 : CV 5 = .agg (stL (fj c.p.nm)) := congrFun hCV 5
        have o5 : isO 5 = false := congrFun hO 5
        have v6 : CV 6 = undef := congrFun hCV 6
        have o6 : isO 6 = false := congrFun hO 6
        clear hCV hO hBL
        have V0 := Lib.hid v0
        have V1 := Lib.hid v1
        have V2 := Lib.hid v2
        have V3 := Lib.hid v3
        have V4 := Lib.hid v4
        have V5 := Lib.hid v5
        have V6 := Lib.hid v6
        clear v0 v1 v2 v3 v4 v5 v6
        refine region_run (RegL w9 6 gS (stL (fj c.p.nm)) isO BL CV) (by kernel_rfl) (by kernel_rfl) (by kernel_rfl) (by kernel_rfl) (RegL.start w9 6 7 _ _) ?_ ?_
        · intro listed vals a1 wq i hs hcl hP hR hi hu hr1
          replace hi : i < 7 := hi
          replace hs : listed.size = 7 := hs
          obtain rfl | hi1 : i = 0 ∨ 1 ≤ i := by omega
          · have hn := unlisted (n := 6) hcl hu (by kernel_rfl)
            have hI := hP.pre hn
            have t0 := hR.fixed 0 (by kernel_rfl) rfl
            clear hlk0
            exact wpOp_val rfl rfl (by rw [V0.out]; go_simp) ⟨_, rfl, RegL.of (hI.keep (Below.refl _ _) 0 o0) hn (by decide)⟩
          obtain rfl | hi1 : i = 1 ∨ 2 ≤ i := by omega
          · have hn := unlisted (n := 6) hcl hu (by kernel_rfl)
            have hI := hP.pre hn
            have t37 : a1.tmps[37]? = some (.pointer (some ⟨gb, 0, none⟩)) := hI.get hR hr1 0 o0 (by kernel_rfl) (by decide) rfl V0.out
            clear hlk0
            exact wpOp_val rfl rfl (by rw [V1.out]; go_simp) ⟨_, rfl, RegL.of (hI.keep (Below.refl _ _) 1 o1) hn (by decide)⟩
          obtain rfl | hi1 : i = 2 ∨ 3 ≤ i := by omega
          · have hn := unlisted (n := 6) hcl hu (by kernel_rfl)
            have hI := hP.pre hn
            have t38 : a1.tmps[38]? = some (.pointer (some ⟨gb, 0, none⟩)) := hI.get hR hr1 1 o1 (by kernel_rfl) (by decide) rfl V1.out
            clear hlk0
            exact wpOp_val rfl rfl (by rw [V2.out]; go_simp) ⟨_, rfl, RegL.of (hI.keep (Below.refl _ _) 2 o2) hn (by decide)⟩
          obtain rfl | hi1 : i = 3 ∨ 4 ≤ i := by omega
          · have hn := unlisted (n := 6) hcl hu (by kernel_rfl)
            have hI := hP.pre hn
            have t39 : a1.tmps[39]? = some (.pointer (some ⟨gb, 1, none⟩)) := hI.get hR hr1 2 o2 (by kernel_rfl) (by decide) rfl V2.out
            have cc := cell_below hI.b KM.out
            clear hlk0
            exact wpOp_val rfl rfl (by rw [V3.out]; go_simp) ⟨_, rfl, RegL.of (hI.keep (Below.refl _ _) 3 o3) hn (by decide)⟩
          obtain rfl | hi1 : i = 4 ∨ 5 ≤ i := by omega
          · have hn := unlisted (n := 6) hcl hu (by kernel_rfl)
            have hI := hP.pre hn
            have t8 := hR.fixed 8 (by kernel_rfl) rfl
            have kk := (hI.b.block _ (heap_lt K8.out)).trans K8.out
            exact wpOp_of_wp rfl rfl (wp_load_row 65 (.tmp 8) rfl (wr.heap.size + 1) (getD_is t8) 65 N (0, 0) _ kk Tryd.underlying65 rfl (by rw [hN1]; exact Hn.out) ⟨_, rfl, RegL.of (hI.keepV (Below.refl _ _) 4 o4 V4.out) hn (by decide)⟩)
          obtain rfl | hi1 : i = 5 ∨ 6 ≤ i := by omega
          · have hn := unlisted (n := 6) hcl hu (by kernel_rfl)
            have hI := hP.pre hn
            have t40 : a1.tmps[40]? = some (m) := hI.get hR hr1 3 o3 (by kernel_rfl) (by decide) rfl V3.out
            have t41 : a1.tmps[41]? = some (.agg N) := hI.get hR hr1 4 o4 (by kernel_rfl) (by decide) rfl V4.out
            have hlr := hlk0 wq hI.b
            exact wpOp_lookup rfl rfl 30 (.tmp 40) (.tmp 41) false rfl (getD_is t40) (getD_is t41) hlr ⟨_, rfl, RegL.of (hI.keepV (Below.refl _ _) 5 o5 V5.out) hn (by decide)⟩
          obtain rfl : i = 6 := by omega
          have hI := hP.pre hu
          have t9 := hR.fixed 9 (by kernel_rfl) rfl
          have t42 : a1.tmps[42]? = some (.agg (stL (fj c.p.nm))) := hI.get hR hr1 5 o5 (by kernel_rfl) (by decide) rfl V5.out
          have kk := (hI.b.block _ (heap_lt K9.out)).trans K9.out
          exact wpOp_of_wp rfl rfl (wp_store_row 67 (.tmp 9) (.tmp 42) rfl gS (stL (fj c.p.nm)) (getD_is t9) (getD_is t42) 67 _ kk Hst.out rfl (stL_one _) ⟨undef, rfl, RegL.done hI.b (by omega)⟩)
        · intro listed vals wq FF hP hall hFF
          obtain ⟨wz, bfin, rfl⟩ := hP.fin (hall 6 (by decide))
          have hF2 : FF = ((((((Act.put _ (some 37) (vals 0)).put (some 38) (vals 1)).put (some 39) (vals 2)).put (some 40) (vals 3)).put (some 41) (vals 4)).put (some 42) (vals 5)).put none (vals 6) := hFF
          simp only [putAll] at hF2
          rw [hF2]
          clear hF2 hFF hP hall
          go_frame
          have KS0 := setRow_heap wz gS _ (stL (fj c.p.nm)) _ _ ((bfin.block _ (by omega)).trans K9.out)
          have K70 := (setRow_other wz gS wr.heap.size (stL (fj c.p.nm)) (by have := HS8.out; omega)).trans ((bfin.block _ (heap_lt K7.out)).trans K7.out)
          have K80 := (setRow_other wz gS (wr.heap.size + 1) (stL (fj c.p.nm)) (by have := HS8.out; omega)).trans ((bfin.block _ (heap_lt K8.out)).trans K8.out)
          have HM10 := (HM9.same (bfin.block _ HM9.lt)).same (setRow_other wz gS w.heap.size (stL (fj c.p.nm)) (by have := HS8.out; omega))
          have bw10 := below_setRow (below_trans bw9 bfin) (show w.heap.size ≤ gS by have := HS8.out; omega) (stL (fj c.p.nm))
          clear K7 K8 K9 HM9 bw9 hlk0 g9 KM
          have KS := Lib.hid KS0
          have K7 := Lib.hid K70
          have K8 := Lib.hid K80
          have HM9 := HM10
          have bw9 := bw10
          clear KS0 K70 K80 HM10 bw10 bfin
          generalize wz.setRow gS (stL (fj c.p.nm)) = w9 at *
          generalize vals 0 = x0
          generalize vals 1 = x1
          generalize vals 2 = x2
          generalize vals 3 = x3
          generalize vals 4 = x4
          generalize vals 5 = x5
          go_upto_block 2 with fail

          have e0 := (cell_of_row _ _ 0 _ _ _ K7.out).trans c0
          have e1 := (cell_of_row _ _ 1 _ _ _ K7.out).trans c1
          have d0 := (cell_of_row _ _ 0 _ _ _ KS.out).trans (show (stL (fj c.p.nm))[0]? = some (.bool (fj c.p.nm).live) from rfl)
          have d6 := (cell_of_row _ _ 6 _ _ _ KS.out).trans (show (stL (fj c.p.nm))[6]? = some (.int .u64 ((fj c.p.nm).next : Int)) from rfl)
          have r5 := World.rangeAt_of_block K7.out 5 5
          rw [c5] at r5
          have rs := World.rangeAt_of_block KS.out 1 5
          rw [show ((stL (fj c.p.nm)).extract 1 (1 + 5)).toList = (avC (fj c.p.nm).a).toList from rfl] at rs
          have hsame := fun w => aggSame_any c.p.a (fj c.p.nm).a w hok.a hfq.1
          have HST : Hid (stepS (fj c.p.nm) c = if c.put = true ∧ (fj c.p.nm).live = false ∧ c.rev = (fj c.p.nm).next then some ⟨true, c.p.a, (fj c.p.nm).next⟩
            else if c.put = false ∧ (fj c.p.nm).live = true ∧ c.rev = (fj c.p.nm).next ∧ sameAV c.p.a (fj c.p.nm).a = true then some ⟨false, noAV, ((fj c.p.nm).next + 1) % 18446744073709551616⟩
            else none) := Lib.hid rfl
          have R5 := Lib.hid r5
          have RS := Lib.hid rs
          have hgo : ∀ s', s'.a.ok ∧ s'.next < 18446744073709551616 → (∀ n, (lget (lset mp c.p.nm s') n).getD (f n) = putF fj c.p.nm s' n) ∧ ∀ n, (putF fj c.p.nm s' n).a.ok ∧ (putF fj c.p.nm s' n).next < 18446744073709551616 := fun s' hs => by
            refine ⟨fun n => ?_, fun n => ?_⟩
            · rw [lget_lset]
              unfold putF
              by_cases h : n = c.p.nm
              · rw [if_pos h, if_pos h]; rfl
              · rw [if_neg h, if_neg h]; exact Hmp.out n
            · unfold putF
              split
              · exact hs
              · exact HF.out n
          clear r5 rs
          cases hpt : c.put
          · cases hlv : (fj c.p.nm).live
            · have hRn : R = none := by rw [HR.out, HST.out, hpt, hlv]; rfl
              have HRn := Lib.hid hRn
              rw [hpt] at e0
              rw [hlv] at d0
              clear hRn hgo
              go_wp2_with fail
              go_ret
              rw [HRn.out]
              exact ⟨rfl, bw9⟩
            · by_cases hrv : c.rev = (fj c.p.nm).next
              · have hre : ((c.rev : Int) == ((fj c.p.nm).next : Int)) = true := by rw [canon_int]; exact decide_eq_true hrv
                rw [hpt] at e0
                rw [hlv] at d0
                cases hsv : sameAV c.p.a (fj c.p.nm).a
                · have hRn : R = none := by rw [HR.out, HST.out, hpt, hlv, hsv]; simp
                  have HRn := Lib.hid hRn
                  rw [hsv] at hsame
                  clear hRn hgo hrv
                  go_wp2_with (first
                    | (refine at_opG (.load 38 (.tmp 81)) (some (14, true)) ?_ rfl rfl; refine wpList_load_midG rfl 38 (.tmp 81) rfl wr.heap.size 5 rfl _ _ R5.out Tryd.underlying38 rfl (by exact sizeAgg) ?_; rw [Array.toArray_toList])
                    | (refine at_opG (.load 38 (.tmp 83)) (some (14, true)) ?_ rfl rfl; refine wpList_load_midG rfl 38 (.tmp 83) rfl gS 1 rfl _ _ RS.out Tryd.underlying38 rfl (by exact sizeAgg) ?_; rw [Array.toArray_toList])
                    | (go_at_call 24; (with_reducible refine (hsame _).mono ?_); rintro e w5 ⟨rfl, b5⟩))
                  go_ret
                  rw [HRn.out]
                  exact ⟨rfl, below_trans bw9 b5⟩
                · have hRs : R = addF (putF fj c.p.nm ⟨false, noAV, ((fj c.p.nm).next + 1) % 18446744073709551616⟩) (more.drop (j + 1)) := by rw [HR.out, HST.out, if_neg (fun h => by rw [hpt] at h; cases h.1), if_pos ⟨hpt, hlv, hrv, hsv⟩]; rfl
                  have HRs := Lib.hid hRs
                  have hbs := built_std false noAV (((fj c.p.nm).next + 1) % 18446744073709551616)
                  have Hgo := Lib.hid (hgo ⟨false, noAV, ((fj c.p.nm).next + 1) % 18446744073709551616⟩ ⟨noAV_okK, Nat.mod_lt _ (by decide)⟩)
                  have hb0 := built_noAggK
                  have hwn : IntKind.u64.wrap (((fj c.p.nm).next : Int) + 1) = ((((fj c.p.nm).next + 1) % 18446744073709551616 : Nat) : Int) := by rw [IntKind.wrap_u64]; omega
                  rw [hsv] at hsame
                  clear hRs hrv hgo
                  obtain ⟨T2, hT2⟩ : ∃ T2 : Std, T2 = ⟨false, noAV, ((fj c.p.nm).next + 1) % 18446744073709551616⟩ := ⟨_, rfl⟩
                  rw [← hT2] at hbs Hgo HRs
                  obtain ⟨nx, hnx⟩ : ∃ nx : Nat, nx = ((fj c.p.nm).next + 1) % 18446744073709551616 := ⟨_, rfl⟩
                  rw [← hnx] at hbs hwn
                  clear hT2 hnx
                  go_wp2_with (first
                    | (refine at_opG (.load 38 (.tmp 81)) (some (14, true)) ?_ rfl rfl; refine wpList_load_midG rfl 38 (.tmp 81) rfl wr.heap.size 5 rfl _ _ R5.out Tryd.underlying38 rfl (by exact sizeAgg) ?_; rw [Array.toArray_toList])
                    | (refine at_opG (.load 38 (.tmp 83)) (some (14, true)) ?_ rfl rfl; refine wpList_load_midG rfl 38 (.tmp 83) rfl gS 1 rfl _ _ RS.out Tryd.underlying38 rfl (by exact sizeAgg) ?_; rw [Array.toArray_toList])
                    | (go_at_call 24; (with_reducible refine (hsame _).mono ?_); rintro e w5 ⟨rfl, b5⟩; have KS5 := Lib.hid ((b5.block _ (heap_lt KS.out)).trans KS.out); have K85 := Lib.hid ((b5.block _ (heap_lt K8.out)).trans K8.out); have HM5 := HM9.same (b5.block _ HM9.lt); have bw5 := below_trans bw9 b5; have d65 := cell_below b5 d6)
                    | (refine at_op (.build 38 #[]) ?_ rfl; refine run_builtK rfl 38 _ rfl (avC noAV) (by simp only [List.map_toArray, List.map_nil]; exact hb0) ?_)
                    | (refine at_op (.build 67 #[(0, .const (.bool false)), (1, .tmp 87), (2, .tmp 90)]) ?_ rfl; refine run_builtK rfl 67 _ rfl (stL T2) (by simp only [List.map_toArray, List.map_cons, List.map_nil, Act.eval]; exact hbs) ?_)
                    | (refine at_op (.store 67 (.tmp 9) (.tmp 91)) ?_ rfl; refine wpList_store_row rfl 67 (.tmp 9) (.tmp 91) rfl gS (stL T2) rfl rfl 67 _ KS5.out Hst.out rfl (stL_one _) ?_; have KT := setRow_heap w5 gS _ (stL T2) _ _ KS5.out; have K8T := (setRow_other w5 gS (wr.heap.size + 1) (stL T2) (by have := HS8.out; omega)).trans K85.out; have HMT := HM5.same (setRow_other w5 gS w.heap.size (stL T2) (by have := HS8.out; omega)); have bwT := below_setRow bw5 (show w.heap.size ≤ gS by have := HS8.out; omega) (stL T2); generalize w5.setRow gS (stL T2) = wT at *)
                    | (refine at_op (.load 65 (.tmp 8)) ?_ rfl; refine wpList_load_row rfl 65 (.tmp 8) rfl (wr.heap.size + 1) rfl 65 N (0, 0) _ K8T Tryd.underlying65 rfl (by rw [hN1]; exact Hn.out) ?_)
                    | (refine at_op (.load 67 (.tmp 9)) ?_ rfl; refine wpList_load_row rfl 67 (.tmp 9) rfl gS rfl 67 (stL T2) (0, 0) _ KT Tryd.underlying67 rfl Hst.out ?_)
                    | (at_mapUpdate; refine wpList_updateK T rfl wT (.tmp 92) (.tmp 93) (.tmp 94) rfl w.heap.size mp rfl HMT c.p.nm (by exact congrArg Value.agg HN.out) T2 rfl ?_; intro es ck hM2))
                  exact ⟨⟨j + 1, _, _, by go_num, by omega, HRs.out, hM2, Hgo.out.1, Hgo.out.2, below_setBlock bwT (Nat.le_refl _) _⟩, by simp [intOf]; omega⟩
              · have hRn : R = none := by rw [HR.out, HST.out, if_neg (fun h => hrv h.2.2), if_neg (fun h => hrv h.2.2.1)]; rfl
                have HRn := Lib.hid hRn
                have hre : ((c.rev : Int) == ((fj c.p.nm).next : Int)) = false := by rw [canon_int]; exact decide_eq_false hrv
                rw [hpt] at e0
                rw [hlv] at d0
                clear hRn hrv hgo
                go_wp2_with fail
                go_ret
                rw [HRn.out]
                exact ⟨rfl, bw9⟩
          · cases hlv : (fj c.p.nm).live
            · by_cases hrv : c.rev = (fj c.p.nm).next
              · have hRs : R = addF (putF fj c.p.nm ⟨true, c.p.a, (fj c.p.nm).next⟩) (more.drop (j + 1)) := by rw [HR.out, HST.out, if_pos ⟨hpt, hlv, hrv⟩]; rfl
                have HRs := Lib.hid hRs
                have hre : ((c.rev : Int) == ((fj c.p.nm).next : Int)) = true := by rw [canon_int]; exact decide_eq_true hrv
                have hbs := built_std true c.p.a (fj c.p.nm).next
                have Hgo := Lib.hid (hgo ⟨true, c.p.a, (fj c.p.nm).next⟩ ⟨hok.a, hfq.2⟩)
                rw [hpt] at e0
                rw [hlv] at d0
                clear hRs hrv hgo
                go_wp2_with (first
                  | (refine at_op (.load 38 (.tmp 59)) ?_ rfl; refine wpList_load_mid rfl 38 (.tmp 59) rfl wr.heap.size 5 rfl _ _ R5.out Tryd.underlying38 rfl (by exact sizeAgg) ?_)
                  | (refine at_op (.build 67 #[(0, .const (.bool true)), (1, .tmp 60), (2, .tmp 62)]) ?_ rfl; refine run_builtK rfl 67 _ rfl (stL ⟨true, c.p.a, (fj c.p.nm).next⟩) (by simp only [List.map_toArray, List.map_cons, List.map_nil, Act.eval]; exact hbs) ?_)
                  | (refine at_op (.store 67 (.tmp 9) (.tmp 63)) ?_ rfl; refine wpList_store_row rfl 67 (.tmp 9) (.tmp 63) rfl gS (stL ⟨true, c.p.a, (fj c.p.nm).next⟩) rfl rfl 67 _ KS.out Hst.out rfl (stL_one _) ?_; have KT := setRow_heap w9 gS _ (stL ⟨true, c.p.a, (fj c.p.nm).next⟩) _ _ KS.out; have K8T := (setRow_other w9 gS (wr.heap.size + 1) (stL ⟨true, c.p.a, (fj c.p.nm).next⟩) (by have := HS8.out; omega)).trans K8.out; have HMT := HM9.same (setRow_other w9 gS w.heap.size (stL ⟨true, c.p.a, (fj c.p.nm).next⟩) (by have := HS8.out; omega)); have bwT := below_setRow bw9 (show w.heap.size ≤ gS by have := HS8.out; omega) (stL ⟨true, c.p.a, (fj c.p.nm).next⟩); generalize w9.setRow gS (stL ⟨true, c.p.a, (fj c.p.nm).next⟩) = wT at *)
                  | (refine at_op (.load 65 (.tmp 8)) ?_ rfl; refine wpList_load_row rfl 65 (.tmp 8) rfl (wr.heap.size + 1) rfl 65 N (0, 0) _ K8T Tryd.underlying65 rfl (by rw [hN1]; exact Hn.out) ?_)
                  | (refine at_op (.load 67 (.tmp 9)) ?_ rfl; refine wpList_load_row rfl 67 (.tmp 9) rfl gS rfl 67 (stL ⟨true, c.p.a, (fj c.p.nm).next⟩) (0, 0) _ KT Tryd.underlying67 rfl Hst.out ?_)
                  | (at_mapUpdate; refine wpList_updateK T rfl wT (.tmp 92) (.tmp 93) (.tmp 94) rfl w.heap.size mp rfl HMT c.p.nm (by exact congrArg Value.agg HN.out) ⟨true, c.p.a, (fj c.p.nm).next⟩ rfl ?_; intro es ck hM2))
                exact ⟨⟨j + 1, _, _, by go_num, by omega, HRs.out, hM2, Hgo.out.1, Hgo.out.2, below_setBlock bwT (Nat.le_refl _) _⟩, by simp [intOf]; omega⟩
              · have hRn : R = none := by rw [HR.out, HST.out, if_neg (fun h => hrv h.2.2), if_neg (fun h => by rw [hpt] at h; cases h.1)]; rfl
                have HRn := Lib.hid hRn
                have hre : ((c.rev : Int) == ((fj c.p.nm).next : Int)) = false := by rw [canon_int]; exact decide_eq_false hrv
                rw [hpt] at e0
                rw [hlv] at d0
                clear hRn hrv hgo
                go_wp2_with fail
                go_ret
                rw [HRn.out]
                exact ⟨rfl, bw9⟩
            · have hRn : R = none := by rw [HR.out, HST.out, hpt, hlv]; rfl
              have HRn := Lib.hid hRn
              rw [hpt] at e0
              rw [hlv] at d0
              clear hRn hgo
              go_wp2_with fail
              go_ret
              rw [HRn.out]
              exact ⟨rfl, bw9⟩
    · obtain rfl : j = more.length := by omega
      rw [List.drop_length] at hR
      have HRs := Lib.hid (show R = some fj from hR)
      have HMP := Lib.hid hmp
      have hMN := hM
      have hgr := (hbr.block gb hgl).trans hg
      have hvr := hv.below hbr
      have hor : Oth gb m v w wr := Oth.of_below hbr
      have hrr := hr.below hbr
      have cm := cell_of_row _ _ 1 _ _ _ hgr
      have hsr := hbr.size
      have hNr := hM.lt
      have hgv : v.ownBlock ≠ some gb := hv.ne_cells hg (of_decide_eq_true rfl)
      have hvl : ∀ q, v.ownBlock = some q → q < w.heap.size := fun q h => (hv.lt _ h).2
      obtain ⟨m0, hm0⟩ : ∃ m0, m0 = m := ⟨_, rfl⟩
      clear hR hfj hM hmp hlt hf hj z1 z2 z3 z4 g1 g2 zc ho
      have el1 : ∀ (b : Nat) w, (binOp .eql 30 (.map (some b)) (.map none)).run Tryd.prog w = .ok (.bool false) w := fun b w => by kernel_rfl
      have el0 : ∀ w, (binOp .eql 30 (.map none) (.map none)).run Tryd.prog w = .ok (.bool true) w := fun w => by kernel_rfl
      rw [← hm0] at hor
      rcases hm with ⟨rfl, hz⟩ | ⟨b0, mp0, rfl, hM0, hl0⟩
      · have ba := below_alloc (Below.refl wr.heap.size wr) (.map #[] 0)
        have ca := cell_below ba cm
        have kg := (ba.block gb (by omega)).trans hgr
        have fz := frozen_of_row kg 1
        have hrw := (hrr.below ba).setCell encCh kg (by decide : 2 < 10) 1 (.map (some wr.heap.size))
        have hgA := heap_setCell_at (k := 1) kg (.map (some wr.heap.size))
        have hA := (MapAt.new (kC := nmC) (vC := stC) wr).same (Below.heap_setCell (wr.alloc (.map #[] 0)) ⟨gb, 1, none⟩ (.map (some wr.heap.size)) wr.heap.size (by show wr.heap.size ≠ gb; omega))
        have hlA : ∀ n, (lget ([] : List (Nm × Std)) n).getD st0 = f n := fun n => by rw [hz n]; rfl
        have hOw := (hvr.below ba).setCell hgv 1 (.map (some wr.heap.size))
        have hOth := (hor.below ba).setCell 1 (.map (some wr.heap.size))
        have hMN2 := (hMN.same (ba.block _ hMN.lt)).same (Below.heap_setCell (wr.alloc (.map #[] 0)) ⟨gb, 1, none⟩ (.map (some wr.heap.size)) w.heap.size (by show w.heap.size ≠ gb; omega))
        have hs2 : ((wr.alloc (.map #[] 0)).setCell ⟨gb, 1, none⟩ (.map (some wr.heap.size))).heap.size = wr.heap.size + 1 := by simp
        clear kg hMN hrr hvr hor
        have hMN := hMN2
        clear hMN2
        have HM0 := Lib.hid hm0
        clear hm0
        go_upto_region 20 with (refine at_op (.makeMap 30 none) ?_ rfl; refine wpList_makeMapK rfl wr 30 rfl (some 102) rfl wr.heap.size rfl ?_)
        clear ba ca fz cm hgr hbr el0 el1
        obtain ⟨mA0, hmA0⟩ : ∃ mA0 : List (Nm × Std), mA0 = [] := ⟨_, rfl⟩
        rw [← hmA0] at hA hlA
        have hAN : wr.heap.size ≠ w.heap.size := by omega
        have hAg : wr.heap.size ≠ gb := by omega
        have hvA : v.ownBlock ≠ some wr.heap.size := fun q => by have := hvl _ q; omega
        have hA0 : w.heap.size ≤ wr.heap.size ∨ m0 = .map (some wr.heap.size) := .inl (by omega)
        have hA1 : wr.heap.size < wr.heap.size + 1 := by omega
        rw [← hs2] at hA1
        generalize wr.heap.size = bA at *
        generalize (wr.alloc (.map #[] 0)).setCell ⟨gb, 1, none⟩ (.map (some bA)) = w2 at *
        have S : LaySt gb m0 v w bA w.heap.size w2.heap.size := ⟨by omega, by omega, by omega, hAN, hAg, hvA, fun q => by have := hvl _ q; omega, by omega, hA0⟩
        have hbw : base ≤ w2.heap.size := by omega
        clear hs2
        go_wp2_with (refine at_op (.range 30 (.tmp 105)) ?_ rfl; refine wpList_rangeK T rfl w2 (.tmp 105) rfl w.heap.size mp rfl hMN ?_; intro it hI; have hLI := LayI.start hI hA hlA HMP.out hgA hOw hOth hrw; clear hI hA hlA hgA hOw hOth hrw hMN)
        clear hA1
        generalize w2.heap.size = r at *
        generalize w2.alloc it = w3 at *
        go_frame
        go_loopw [] (fun wr => ∃ left mA, LayI gb base m0 v L w bA w.heap.size r mp f fj A more wr left mA) (fun wr => itLeft wr r w.heap.size)
        case atStart => exact ⟨mp, mA0, hLI⟩
        case round =>
          clear hLI
          obtain ⟨left, mA, hLI⟩ := hrel
          have hil := hLI.it.left
          generalize hw4 : wr = w4 at *
          rcases run_nextK (P := Tryd.prog) hLI.it 0 S.rN with ⟨el, hrun⟩ | ⟨PA, p, PB, w5, it2, el, hrun, hI2, hw5, hen⟩
          · subst el
            have c0 := cell_of_row _ _ 0 _ _ _ hLI.led
            go_wp2_with (refine at_op (.call { callee := .builtin .append, args := #[.tmp 122, .tmp 123], argTypes := #[24, 24] }) ?_ rfl; refine wpList_appendE encCh rfl w4 (.tmp 122) (.tmp 123) 24 rfl base rfl v L rfl hLI.own A cap more rfl hLI.rows (Nat.le_trans hl (by decide)) (Nat.le_trans (Nat.mul_le_mul_right 88 hl) (by decide)) (Nat.le_trans hb hLI.oth.size) ?_; intro v6 w6 hO hG hB; obtain ⟨A6, c9, e6, hc9, hr9⟩ := hO.form; clear hc9 hr9; generalize (L ++ more).length = cn at e6; subst e6; have kg6 := (hG.block gb (heap_lt hLI.led) (fun e => hgv e.symm)).trans hLI.led; have fz6 := frozen_of_row kg6 0; have c6 := cell_of_row _ _ 0 _ _ _ kg6)
            go_ret
            rw [HRs.out]
            have kS := heap_setCell_at (k := 0) kg6 (.slice A6 cn c9)
            have hgS : (Value.slice A6 cn c9).ownBlock ≠ some gb := hO.ne_cells kg6 (of_decide_eq_true rfl)
            have hM6 := hLI.at_.same (hG.block bA hLI.at_.lt (fun e => hvA e.symm))
            have hM7 := hM6.same (Below.heap_setCell w6 ⟨gb, 0, none⟩ (.slice A6 cn c9) bA hAg)
            have hOf := (hLI.oth.grown hG (fun k hk => .inl hk)).setCell 0 (.slice A6 cn c9)
            have HM1 := HM0.out
            subst HM1
            refine ⟨rfl, _, _, kS, hO.setCell hgS 0 _, .inr ⟨bA, mA, rfl, hM7, fun k => ?_⟩, hOf.os, hOf.tape, hOf.output, hOf.size, fun i h1 h2 h3 h4 => hOf.block i h1 h2 h3 h4, fun i q => (by injection q with q; injection q with q; subst q; exact S.A0), fun i q => hB.elim (fun e => .inr (e.symm.trans q)) (fun e => .inl (by rw [e] at q; injection q with q; rw [← q]; exact hLI.oth.size))⟩
            have h5 := hLI.val k
            have h6 := HMP.out k
            rw [lget_nil] at h5
            rw [h5]
            cases hq : lget mp k with
            | none => rw [hq] at h6; simpa using h6
            | some x => simp
          · subst el
            obtain ⟨n1, n2, n3, n4, n5⟩ := hLI.next S hw5
            have he5 := hen w5 rfl rfl
            have ba5 := below_alloc (Below.refl w5.heap.size w5) (.cells #[.string ⟨#[]⟩, .int .i64 0, .int .i64 0] 65)
            have bb5 := below_alloc ba5 (.cells (stL st0) 67)
            have h11 := ((below_alloc (Below.refl (w5.alloc (.cells #[.string ⟨#[]⟩, .int .i64 0, .int .i64 0] 65)).heap.size (w5.alloc (.cells #[.string ⟨#[]⟩, .int .i64 0, .int .i64 0] 65))) (.cells (stL st0) 67)).block w5.heap.size (by simp)).trans (heap_alloc_new w5 _)
            have h12 := heap_alloc2_new w5 (.cells #[.string ⟨#[]⟩, .int .i64 0, .int .i64 0] 65) (.cells (stL st0) 67)
            clear ba5
            go_upto_region 23 with (first
              | (refine at_op (.alloc 65) ?_ rfl; refine wpList_alloc_row rfl _ 65 rfl (some 11) rfl w5.heap.size rfl _ zn ?_)
              | (refine at_op (.alloc 67) ?_ rfl; refine wpList_alloc_row rfl _ 67 rfl (some 12) rfl (w5.heap.size + 1) (by simp) _ zs ?_; generalize (w5.alloc (.cells #[.string ⟨#[]⟩, .int .i64 0, .int .i64 0] 65)).alloc (.cells (stL st0) 67) = w7 at *)
              | (refine at_op (.store 65 (.tmp 11) (.tmp 110)) ?_ rfl; refine wpList_store_row rfl 65 (.tmp 11) (.tmp 110) rfl w5.heap.size (nmA p.1) rfl rfl 65 _ h11 Hn.out rfl (nmA_one _) ?_; have h13 := setRow_heap w7 w5.heap.size _ (nmA p.1) _ _ h11; have h14 := (setRow_other w7 w5.heap.size (w5.heap.size + 1) (nmA p.1) (by omega)).trans h12; have b8 := below_setRow bb5 (Nat.le_refl w5.heap.size) (nmA p.1); generalize w7.setRow w5.heap.size (nmA p.1) = w8 at *)
              | (refine at_op (.store 67 (.tmp 12) (.tmp 111)) ?_ rfl; refine wpList_store_row rfl 67 (.tmp 12) (.tmp 111) rfl (w5.heap.size + 1) (stL p.2) rfl rfl 67 _ h14 Hst.out rfl (stL_one _) ?_; have h15 := setRow_heap w8 (w5.heap.size + 1) _ (stL p.2) _ _ h14; have h16 := (setRow_other w8 (w5.heap.size + 1) w5.heap.size (stL p.2) (by omega)).trans h13; have b9 := below_setRow b8 (show w5.heap.size ≤ w5.heap.size + 1 by omega) (stL p.2); generalize w8.setRow (w5.heap.size + 1) (stL p.2) = w9 at *))
            have KN := Lib.hid h16
            have KT := Lib.hid h15
            have HMA := Lib.hid (n1.same (b9.block _ n1.lt))
            have KMA := Lib.hid (cell_of_row _ _ 1 _ _ _ ((b9.block _ (heap_lt n2)).trans n2))
            clear h11 h12 h13 h14 h15 h16 bb5 b8 n1 n2 n3 n4 n5 he5 hen hrun
            go_frame
            generalize w5.heap.size + 1 = gT at *
            generalize hgN : w5.heap.size = gN at *
            obtain ⟨CV, hCV⟩ : ∃ CV : Nat → Value, CV = fun j => match j with
              | 0 => .pointer (some ⟨gb, 0, none⟩)
              | 1 => .pointer (some ⟨gb, 0, none⟩)
              | 2 => .pointer (some ⟨gb, 1, none⟩)
              | 3 => .map (some bA)
              | 4 => .agg (nmA p.1)
              | 5 => .agg (stL p.2)
              | 6 => undef
              | _ => undef := ⟨_, rfl⟩
            obtain ⟨isO, hO⟩ : ∃ isO : Nat → Bool, isO = fun j => match j with
              | _ => false := ⟨_, rfl⟩
            obtain ⟨BL, hBL⟩ : ∃ BL : Nat → List Int, BL = fun j => match j with
              | _ => [] := ⟨_, rfl⟩
            have v0 : CV 0 = .pointer (some ⟨gb, 0, none⟩) := congrFun hCV 0
            have o0 : isO 0 = false := congrFun hO 0
            have v1 : CV 1 = .pointer (some ⟨gb, 0, none⟩) := congrFun hCV 1
            have o1 : isO 1 = false := congrFun hO 1
            have v2 : CV 2 = .pointer (some ⟨gb, 1, none⟩) := congrFun hCV 2
            have o2 : isO 2 = false := congrFun hO 2
            have v3 : CV 3 = .map (some bA) := congrFun hCV 3
            have o3 : isO 3 = false := congrFun hO 3
            have v4 : CV 4 = .agg (nmA p.1) := congrFun hCV 4
            have o4 : isO 4 = false := congrFun hO 4
            have v5 : CV 5 = .agg (stL p.2) := congrFun hCV 5
            have o5 : isO 5 = false := congrFun hO 5
            have v6 : CV 6 = undef := congrFun hCV 6
            have o6 : isO 6 = false := congrFun hO 6
            clear hCV hO hBL
            have V0 := Lib.hid v0
            have V1 := Lib.hid v1
            have V2 := Lib.hid v2
            have V3 := Lib.hid v3
            have V4 := Lib.hid v4
            have V5 := Lib.hid v5
            have V6 := Lib.hid v6
            clear v0 v1 v2 v3 v4 v5 v6
            refine region_run (RegF w9 6 (fun wz => ∃ wq es ck, Below w9.heap.size w9 wq ∧ wz = setBlock wq bA (.map es ck) ∧ MapAt nmC stC wz bA (lset mA p.1 p.2)) isO BL CV) (by kernel_rfl) (by kernel_rfl) (by kernel_rfl) (by kernel_rfl) (RegF.start w9 6 7 _) ?_ ?_
            · intro listed vals a1 wq i hs hcl hP hR hi hu hr1
              replace hi : i < 7 := hi
              replace hs : listed.size = 7 := hs
              obtain rfl | hi1 : i = 0 ∨ 1 ≤ i := by omega
              · have hn := unlisted (n := 6) hcl hu (by kernel_rfl)
                have hI := hP.pre hn
                have t0 := hR.fixed 0 (by kernel_rfl) rfl
                exact wpOp_val rfl rfl (by rw [V0.out]; go_simp) ⟨_, rfl, RegF.of (hI.keep (Below.refl _ _) 0 o0) hn (by decide)⟩
              obtain rfl | hi1 : i = 1 ∨ 2 ≤ i := by omega
              · have hn := unlisted (n := 6) hcl hu (by kernel_rfl)
                have hI := hP.pre hn
                have t112 : a1.tmps[112]? = some (.pointer (some ⟨gb, 0, none⟩)) := hI.get hR hr1 0 o0 (by kernel_rfl) (by decide) rfl V0.out
                exact wpOp_val rfl rfl (by rw [V1.out]; go_simp) ⟨_, rfl, RegF.of (hI.keep (Below.refl _ _) 1 o1) hn (by decide)⟩
              obtain rfl | hi1 : i = 2 ∨ 3 ≤ i := by omega
              · have hn := unlisted (n := 6) hcl hu (by kernel_rfl)
                have hI := hP.pre hn
                have t113 : a1.tmps[113]? = some (.pointer (some ⟨gb, 0, none⟩)) := hI.get hR hr1 1 o1 (by kernel_rfl) (by decide) rfl V1.out
                exact wpOp_val rfl rfl (by rw [V2.out]; go_simp) ⟨_, rfl, RegF.of (hI.keep (Below.refl _ _) 2 o2) hn (by decide)⟩
              obtain rfl | hi1 : i = 3 ∨ 4 ≤ i := by omega
              · have hn := unlisted (n := 6) hcl hu (by kernel_rfl)
                have hI := hP.pre hn
                have t114 : a1.tmps[114]? = some (.pointer (some ⟨gb, 1, none⟩)) := hI.get hR hr1 2 o2 (by kernel_rfl) (by decide) rfl V2.out
                have cc := cell_below hI.b KMA.out
                exact wpOp_val rfl rfl (by rw [V3.out]; go_simp) ⟨_, rfl, RegF.of (hI.keep (Below.refl _ _) 3 o3) hn (by decide)⟩
              obtain rfl | hi1 : i = 4 ∨ 5 ≤ i := by omega
              · have hn := unlisted (n := 6) hcl hu (by kernel_rfl)
                have hI := hP.pre hn
                have t11 := hR.fixed 11 (by kernel_rfl) rfl
                have kk := (hI.b.block _ (heap_lt KN.out)).trans KN.out
                exact wpOp_of_wp rfl rfl (wp_load_row 65 (.tmp 11) rfl gN (getD_is t11) 65 (nmA p.1) (0, 0) _ kk Tryd.underlying65 rfl Hn.out ⟨_, rfl, RegF.of (hI.keepV (Below.refl _ _) 4 o4 V4.out) hn (by decide)⟩)
              obtain rfl | hi1 : i = 5 ∨ 6 ≤ i := by omega
              · have hn := unlisted (n := 6) hcl hu (by kernel_rfl)
                have hI := hP.pre hn
                have t12 := hR.fixed 12 (by kernel_rfl) rfl
                have kk := (hI.b.block _ (heap_lt KT.out)).trans KT.out
                exact wpOp_of_wp rfl rfl (wp_load_row 67 (.tmp 12) rfl gT (getD_is t12) 67 (stL p.2) (0, 0) _ kk Tryd.underlying67 rfl Hst.out ⟨_, rfl, RegF.of (hI.keepV (Below.refl _ _) 5 o5 V5.out) hn (by decide)⟩)
              obtain rfl : i = 6 := by omega
              have hI := hP.pre hu
              have t115 : a1.tmps[115]? = some (.map (some bA)) := hI.get hR hr1 3 o3 (by kernel_rfl) (by decide) rfl V3.out
              have t116 : a1.tmps[116]? = some (.agg (nmA p.1)) := hI.get hR hr1 4 o4 (by kernel_rfl) (by decide) rfl V4.out
              have t117 : a1.tmps[117]? = some (.agg (stL p.2)) := hI.get hR hr1 5 o5 (by kernel_rfl) (by decide) rfl V5.out
              refine wpOp_updateK T rfl rfl (.tmp 115) (.tmp 116) (.tmp 117) rfl bA mA (getD_is t115) ((HMA.out.same (hI.b.block _ HMA.out.lt))) p.1 (getD_is t116) p.2 (getD_is t117) ?_
              intro es ck hM2
              exact ⟨_, rfl, RegF.done ⟨wq, es, ck, hI.b, rfl, hM2⟩ (by omega)⟩
            · intro listed vals wq FF hP hall hFF
              have bfin := hP.fin (hall 6 (by decide))
              have hF2 : FF = ((((((Act.put _ (some 112) (vals 0)).put (some 113) (vals 1)).put (some 114) (vals 2)).put (some 115) (vals 3)).put (some 116) (vals 4)).put (some 117) (vals 5)).put none (vals 6) := hFF
              simp only [putAll] at hF2
              rw [hF2]
              clear hF2 hFF hP hall
              go_frame
              obtain ⟨wq, es, ck, bq, rfl, hM2⟩ := bfin
              have hLN := LayI.step HMP.out S hLI hw5 hI2 (hgN ▸ b9) bq hM2
              generalize vals 0 = x0
              generalize vals 1 = x1
              generalize vals 2 = x2
              generalize vals 3 = x3
              generalize vals 4 = x4
              generalize vals 5 = x5
              generalize vals 6 = x6
              go_wp2_with fail
              exact ⟨⟨_, _, hLN⟩, by rw [hLN.it.left, hil]; simp⟩
      · have hA := hM0.same (hbr.block _ hM0.lt)
        have hAN : b0 ≠ w.heap.size := by have := hM0.lt; omega
        have hAg : b0 ≠ gb := fun q => by
          have h1 := hM0.is
          obtain ⟨es, ck, h1, _⟩ := h1
          rw [q, hg] at h1; cases h1
        have hvA : v.ownBlock ≠ some b0 := fun q => by
          obtain ⟨es, ck, h1, _⟩ := hM0.is
          exact hv.ne_map h1 q
        have hA0 : w.heap.size ≤ b0 ∨ m0 = .map (some b0) := .inr hm0
        have HM0 := Lib.hid hm0
        clear hm0 hM0
        go_upto_region 20 with fail
        have hA1 : b0 < wr.heap.size := hA.lt
        clear cm hbr el0 el1
        have hgA := hgr
        have hlA := hl0
        have hOw := hvr
        have hOth := hor
        have hrw := hrr
        clear hgr hl0 hvr hor hrr
        have hs2 : wr.heap.size = wr.heap.size := rfl
        generalize b0 = bA at *
        generalize mp0 = mA0 at *
        generalize wr = w2 at *
        have S : LaySt gb m0 v w bA w.heap.size w2.heap.size := ⟨by omega, by omega, by omega, hAN, hAg, hvA, fun q => by have := hvl _ q; omega, by omega, hA0⟩
        have hbw : base ≤ w2.heap.size := by omega
        clear hs2
        go_wp2_with (refine at_op (.range 30 (.tmp 105)) ?_ rfl; refine wpList_rangeK T rfl w2 (.tmp 105) rfl w.heap.size mp rfl hMN ?_; intro it hI; have hLI := LayI.start hI hA hlA HMP.out hgA hOw hOth hrw; clear hI hA hlA hgA hOw hOth hrw hMN)
        clear hA1
        generalize w2.heap.size = r at *
        generalize w2.alloc it = w3 at *
        go_frame
        go_loopw [] (fun wr => ∃ left mA, LayI gb base m0 v L w bA w.heap.size r mp f fj A more wr left mA) (fun wr => itLeft wr r w.heap.size)
        case atStart => exact ⟨mp, mA0, hLI⟩
        case round =>
          clear hLI
          obtain ⟨left, mA, hLI⟩ := hrel
          have hil := hLI.it.left
          generalize hw4 : wr = w4 at *
          rcases run_nextK (P := Tryd.prog) hLI.it 0 S.rN with ⟨el, hrun⟩ | ⟨PA, p, PB, w5, it2, el, hrun, hI2, hw5, hen⟩
          · subst el
            have c0 := cell_of_row _ _ 0 _ _ _ hLI.led
            go_wp2_with (refine at_op (.call { callee := .builtin .append, args := #[.tmp 122, .tmp 123], argTypes := #[24, 24] }) ?_ rfl; refine wpList_appendE encCh rfl w4 (.tmp 122) (.tmp 123) 24 rfl base rfl v L rfl hLI.own A cap more rfl hLI.rows (Nat.le_trans hl (by decide)) (Nat.le_trans (Nat.mul_le_mul_right 88 hl) (by decide)) (Nat.le_trans hb hLI.oth.size) ?_; intro v6 w6 hO hG hB; obtain ⟨A6, c9, e6, hc9, hr9⟩ := hO.form; clear hc9 hr9; generalize (L ++ more).length = cn at e6; subst e6; have kg6 := (hG.block gb (heap_lt hLI.led) (fun e => hgv e.symm)).trans hLI.led; have fz6 := frozen_of_row kg6 0; have c6 := cell_of_row _ _ 0 _ _ _ kg6)
            go_ret
            rw [HRs.out]
            have kS := heap_setCell_at (k := 0) kg6 (.slice A6 cn c9)
            have hgS : (Value.slice A6 cn c9).ownBlock ≠ some gb := hO.ne_cells kg6 (of_decide_eq_true rfl)
            have hM6 := hLI.at_.same (hG.block bA hLI.at_.lt (fun e => hvA e.symm))
            have hM7 := hM6.same (Below.heap_setCell w6 ⟨gb, 0, none⟩ (.slice A6 cn c9) bA hAg)
            have hOf := (hLI.oth.grown hG (fun k hk => .inl hk)).setCell 0 (.slice A6 cn c9)
            have HM1 := HM0.out
            subst HM1
            refine ⟨rfl, _, _, kS, hO.setCell hgS 0 _, .inr ⟨bA, mA, rfl, hM7, fun k => ?_⟩, hOf.os, hOf.tape, hOf.output, hOf.size, fun i h1 h2 h3 h4 => hOf.block i h1 h2 h3 h4, fun i q => (by injection q with q; injection q with q; subst q; exact S.A0), fun i q => hB.elim (fun e => .inr (e.symm.trans q)) (fun e => .inl (by rw [e] at q; injection q with q; rw [← q]; exact hLI.oth.size))⟩
            have h5 := hLI.val k
            have h6 := HMP.out k
            rw [lget_nil] at h5
            rw [h5]
            cases hq : lget mp k with
            | none => rw [hq] at h6; simpa using h6
            | some x => simp
          · subst el
            obtain ⟨n1, n2, n3, n4, n5⟩ := hLI.next S hw5
            have he5 := hen w5 rfl rfl
            have ba5 := below_alloc (Below.refl w5.heap.size w5) (.cells #[.string ⟨#[]⟩, .int .i64 0, .int .i64 0] 65)
            have bb5 := below_alloc ba5 (.cells (stL st0) 67)
            have h11 := ((below_alloc (Below.refl (w5.alloc (.cells #[.string ⟨#[]⟩, .int .i64 0, .int .i64 0] 65)).heap.size (w5.alloc (.cells #[.string ⟨#[]⟩, .int .i64 0, .int .i64 0] 65))) (.cells (stL st0) 67)).block w5.heap.size (by simp)).trans (heap_alloc_new w5 _)
            have h12 := heap_alloc2_new w5 (.cells #[.string ⟨#[]⟩, .int .i64 0, .int .i64 0] 65) (.cells (stL st0) 67)
            clear ba5
            go_upto_region 23 with (first
              | (refine at_op (.alloc 65) ?_ rfl; refine wpList_alloc_row rfl _ 65 rfl (some 11) rfl w5.heap.size rfl _ zn ?_)
              | (refine at_op (.alloc 67) ?_ rfl; refine wpList_alloc_row rfl _ 67 rfl (some 12) rfl (w5.heap.size + 1) (by simp) _ zs ?_; generalize (w5.alloc (.cells #[.string ⟨#[]⟩, .int .i64 0, .int .i64 0] 65)).alloc (.cells (stL st0) 67) = w7 at *)
              | (refine at_op (.store 65 (.tmp 11) (.tmp 110)) ?_ rfl; refine wpList_store_row rfl 65 (.tmp 11) (.tmp 110) rfl w5.heap.size (nmA p.1) rfl rfl 65 _ h11 Hn.out rfl (nmA_one _) ?_; have h13 := setRow_heap w7 w5.heap.size _ (nmA p.1) _ _ h11; have h14 := (setRow_other w7 w5.heap.size (w5.heap.size + 1) (nmA p.1) (by omega)).trans h12; have b8 := below_setRow bb5 (Nat.le_refl w5.heap.size) (nmA p.1); generalize w7.setRow w5.heap.size (nmA p.1) = w8 at *)
              | (refine at_op (.store 67 (.tmp 12) (.tmp 111)) ?_ rfl; refine wpList_store_row rfl 67 (.tmp 12) (.tmp 111) rfl (w5.heap.size + 1) (stL p.2) rfl rfl 67 _ h14 Hst.out rfl (stL_one _) ?_; have h15 := setRow_heap w8 (w5.heap.size + 1) _ (stL p.2) _ _ h14; have h16 := (setRow_other w8 (w5.heap.size + 1) w5.heap.size (stL p.2) (by omega)).trans h13; have b9 := below_setRow b8 (show w5.heap.size ≤ w5.heap.size + 1 by omega) (stL p.2); generalize w8.setRow (w5.heap.size + 1) (stL p.2) = w9 at *))
            have KN := Lib.hid h16
            have KT := Lib.hid h15
            have HMA := Lib.hid (n1.same (b9.block _ n1.lt))
            have KMA := Lib.hid (cell_of_row _ _ 1 _ _ _ ((b9.block _ (heap_lt n2)).trans n2))
            clear h11 h12 h13 h14 h15 h16 bb5 b8 n1 n2 n3 n4 n5 he5 hen hrun
            go_frame
            generalize w5.heap.size + 1 = gT at *
            generalize hgN : w5.heap.size = gN at *
            obtain ⟨CV, hCV⟩ : ∃ CV : Nat → Value, CV = fun j => match j with
              | 0 => .pointer (some ⟨gb, 0, none⟩)
              | 1 => .pointer (some ⟨gb, 0, none⟩)
              | 2 => .pointer (some ⟨gb, 1, none⟩)
              | 3 => .map (some bA)
              | 4 => .agg (nmA p.1)
              | 5 => .agg (stL p.2)
              | 6 => undef
              | _ => undef := ⟨_, rfl⟩
            obtain ⟨isO, hO⟩ : ∃ isO : Nat → Bool, isO = fun j => match j with
              | _ => false := ⟨_, rfl⟩
            obtain ⟨BL, hBL⟩ : ∃ BL : Nat → List Int, BL = fun j => match j with
              | _ => [] := ⟨_, rfl⟩
            have v0 : CV 0 = .pointer (some ⟨gb, 0, none⟩) := congrFun hCV 0
            have o0 : isO 0 = false := congrFun hO 0
            have v1 : CV 1 = .pointer (some ⟨gb, 0, none⟩) := congrFun hCV 1
            have o1 : isO 1 = false := congrFun hO 1
            have v2 : CV 2 = .pointer (some ⟨gb, 1, none⟩) := congrFun hCV 2
            have o2 : isO 2 = false := congrFun hO 2
            have v3 : CV 3 = .map (some bA) := congrFun hCV 3
            have o3 : isO 3 = false := congrFun hO 3
            have v4 : CV 4 = .agg (nmA p.1) := congrFun hCV 4
            have o4 : isO 4 = false := congrFun hO 4
            have v5 : CV 5 = .agg (stL p.2) := congrFun hCV 5
            have o5 : isO 5 = false := congrFun hO 5
            have v6 : CV 6 = undef := congrFun hCV 6
            have o6 : isO 6 = false := congrFun hO 6
            clear hCV hO hBL
            have V0 := Lib.hid v0
            have V1 := Lib.hid v1
            have V2 := Lib.hid v2
            have V3 := Lib.hid v3
            have V4 := Lib.hid v4
            have V5 := Lib.hid v5
            have V6 := Lib.hid v6
            clear v0 v1 v2 v3 v4 v5 v6
            refine region_run (RegF w9 6 (fun wz => ∃ wq es ck, Below w9.heap.size w9 wq ∧ wz = setBlock wq bA (.map es ck) ∧ MapAt nmC stC wz bA (lset mA p.1 p.2)) isO BL CV) (by kernel_rfl) (by kernel_rfl) (by kernel_rfl) (by kernel_rfl) (RegF.start w9 6 7 _) ?_ ?_
            · intro listed vals a1 wq i hs hcl hP hR hi hu hr1
              replace hi : i < 7 := hi
              replace hs : listed.size = 7 := hs
              obtain rfl | hi1 : i = 0 ∨ 1 ≤ i := by omega
              · have hn := unlisted (n := 6) hcl hu (by kernel_rfl)
                have hI := hP.pre hn
                have t0 := hR.fixed 0 (by kernel_rfl) rfl
                exact wpOp_val rfl rfl (by rw [V0.out]; go_simp) ⟨_, rfl, RegF.of (hI.keep (Below.refl _ _) 0 o0) hn (by decide)⟩
              obtain rfl | hi1 : i = 1 ∨ 2 ≤ i := by omega
              · have hn := unlisted (n := 6) hcl hu (by kernel_rfl)
                have hI := hP.pre hn
                have t112 : a1.tmps[112]? = some (.pointer (some ⟨gb, 0, none⟩)) := hI.get hR hr1 0 o0 (by kernel_rfl) (by decide) rfl V0.out
                exact wpOp_val rfl rfl (by rw [V1.out]; go_simp) ⟨_, rfl, RegF.of (hI.keep (Below.refl _ _) 1 o1) hn (by decide)⟩
              obtain rfl | hi1 : i = 2 ∨ 3 ≤ i := by omega
              · have hn := unlisted (n := 6) hcl hu (by kernel_rfl)
                have hI := hP.pre hn
                have t113 : a1.tmps[113]? = some (.pointer (some ⟨gb, 0, none⟩)) := hI.get hR hr1 1 o1 (by kernel_rfl) (by decide) rfl V1.out
                exact wpOp_val rfl rfl (by rw [V2.out]; go_simp) ⟨_, rfl, RegF.of (hI.keep (Below.refl _ _) 2 o2) hn (by decide)⟩
              obtain rfl | hi1 : i = 3 ∨ 4 ≤ i := by omega
              · have hn := unlisted (n := 6) hcl hu (by kernel_rfl)
                have hI := hP.pre hn
                have t114 : a1.tmps[114]? = some (.pointer (some ⟨gb, 1, none⟩)) := hI.get hR hr1 2 o2 (by kernel_rfl) (by decide) rfl V2.out
                have cc := cell_below hI.b KMA.out
                exact wpOp_val rfl rfl (by rw [V3.out]; go_simp) ⟨_, rfl, RegF.of (hI.keep (Below.refl _ _) 3 o3) hn (by decide)⟩
              obtain rfl | hi1 : i = 4 ∨ 5 ≤ i := by omega
              · have hn := unlisted (n := 6) hcl hu (by kernel_rfl)
                have hI := hP.pre hn
                have t11 := hR.fixed 11 (by kernel_rfl) rfl
                have kk := (hI.b.block _ (heap_lt KN.out)).trans KN.out
                exact wpOp_of_wp rfl rfl (wp_load_row 65 (.tmp 11) rfl gN (getD_is t11) 65 (nmA p.1) (0, 0) _ kk Tryd.underlying65 rfl Hn.out ⟨_, rfl, RegF.of (hI.keepV (Below.refl _ _) 4 o4 V4.out) hn (by decide)⟩)
              obtain rfl | hi1 : i = 5 ∨ 6 ≤ i := by omega
              · have hn := unlisted (n := 6) hcl hu (by kernel_rfl)
                have hI := hP.pre hn
                have t12 := hR.fixed 12 (by kernel_rfl) rfl
                have kk := (hI.b.block _ (heap_lt KT.out)).trans KT.out
                exact wpOp_of_wp rfl rfl (wp_load_row 67 (.tmp 12) rfl gT (getD_is t12) 67 (stL p.2) (0, 0) _ kk Tryd.underlying67 rfl Hst.out ⟨_, rfl, RegF.of (hI.keepV (Below.refl _ _) 5 o5 V5.out) hn (by decide)⟩)
              obtain rfl : i = 6 := by omega
              have hI := hP.pre hu
              have t115 : a1.tmps[115]? = some (.map (some bA)) := hI.get hR hr1 3 o3 (by kernel_rfl) (by decide) rfl V3.out
              have t116 : a1.tmps[116]? = some (.agg (nmA p.1)) := hI.get hR hr1 4 o4 (by kernel_rfl) (by decide) rfl V4.out
              have t117 : a1.tmps[117]? = some (.agg (stL p.2)) := hI.get hR hr1 5 o5 (by kernel_rfl) (by decide) rfl V5.out
              refine wpOp_updateK T rfl rfl (.tmp 115) (.tmp 116) (.tmp 117) rfl bA mA (getD_is t115) ((HMA.out.same (hI.b.block _ HMA.out.lt))) p.1 (getD_is t116) p.2 (getD_is t117) ?_
              intro es ck hM2
              exact ⟨_, rfl, RegF.done ⟨wq, es, ck, hI.b, rfl, hM2⟩ (by omega)⟩
            · intro listed vals wq FF hP hall hFF
              have bfin := hP.fin (hall 6 (by decide))
              have hF2 : FF = ((((((Act.put _ (some 112) (vals 0)).put (some 113) (vals 1)).put (some 114) (vals 2)).put (some 115) (vals 3)).put (some 116) (vals 4)).put (some 117) (vals 5)).put none (vals 6) := hFF
              simp only [putAll] at hF2
              rw [hF2]
              clear hF2 hFF hP hall
              go_frame
              obtain ⟨wq, es, ck, bq, rfl, hM2⟩ := bfin
              have hLN := LayI.step HMP.out S hLI hw5 hI2 (hgN ▸ b9) bq hM2
              generalize vals 0 = x0
              generalize vals 1 = x1
              generalize vals 2 = x2
              generalize vals 3 = x3
              generalize vals 4 = x4
              generalize vals 5 = x5
              generalize vals 6 = x6
              go_wp2_with fail
              exact ⟨⟨_, _, hLN⟩, by rw [hLN.it.left, hil]; simp⟩
end Go.Proofs.YtgpfoamhcoipgaaDoor
