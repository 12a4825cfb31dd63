import Derived.Test.YthplelglifnhoaaWd2
import Derived.StillTailTactics
import Derived.Shelf.SlSortCmp.QuietGrown
import Derived.Deep.LoopGhost
import Derived.Deep.RegionHeld3
import Derived.Deep.RegionWith
/-! A value put into the groups. -/
namespace Go.Proofs.Ythplelglifnhoaa
open Go.Shelf Go.RowKit Go.Lib Go.Sort
set_option linter.unusedVariables false
set_option linter.unusedSimpArgs false
attribute [-simp] Try.isAgg47 Try.sizeOf47 Try.typeInfo47 Try.type47
attribute [-simp] Try.isAgg45 Try.sizeOf45 Try.typeInfo45 Try.type45
attribute [-simp] Try.isAgg36 Try.sizeOf36 Try.typeInfo36 Try.type36
attribute [-simp] Try.isAgg40 Try.sizeOf40 Try.typeInfo40 Try.type40
attribute [-simp] Try.isAgg28 Try.sizeOf28 Try.typeInfo28 Try.type28

theorem grS_lay (z : Array Value) (hz : z.size = 46) (b : Value) (hb : b.cells = #[b]) (s e : Value) (C : Array Value) (hC : C.size = 43) (i : Nat) :
    (lay C (lay #[s, e] (lay #[b] z 0) 1) 3)[i]? = (#[b] ++ #[s, e] ++ C)[i]? := by
  have s1 : (lay #[b] z 0).size = 46 := by rw [lay_size _ _ _ (by rw [hz]; exact of_decide_eq_true rfl), hz]
  have s2 : (lay #[s, e] (lay #[b] z 0) 1).size = 46 := by rw [lay_size _ _ _ (by rw [s1]; exact of_decide_eq_true rfl), s1]
  rw [lay_at _ _ _ _ (by rw [s2, hC]; exact Nat.le_refl _)]
  by_cases c3 : 3 ≤ i ∧ i < 3 + C.size
  · rw [if_pos c3, Array.getElem?_append_right (by simp; omega)]
    simp
  · rw [if_neg c3]
    by_cases c4 : i < 3
    · rw [Array.getElem?_append_left (by simpa using c4), lay_at _ _ _ _ (by rw [s1]; exact of_decide_eq_true rfl)]
      have : i = 0 ∨ i = 1 ∨ i = 2 := by omega
      rcases this with rfl | rfl | rfl
      · rw [if_neg (by simp), lay_at _ _ _ _ (by rw [hz]; exact of_decide_eq_true rfl), if_pos (by simp)]; rfl
      · rw [if_pos (by simp)]; rfl
      · rw [if_pos (by simp)]; rfl
    · rw [Array.getElem?_eq_none (by rw [s2]; omega), Array.getElem?_eq_none (by simp; omega)]
set_option maxRecDepth 100000 in
theorem built_gr (nm : Nm) (C : Array Value) (hC : C.size = 43) : Try.prog.built 47 [(0, .string nm.key), (1, .agg (winL (nm.s, nm.e)).toArray), (2, .agg C)] = some (grS nm C).toArray := by
  rw [built_of 47 Try.t47 (grL default).toArray _ [(0, 1), (1, 2), (3, 43)] (by kernel_rfl) (by kernel_rfl) Try.underlying47 (by kernel_rfl)]
  have hz : (grL default).toArray.size = 46 := by rw [List.size_toArray, grL_len]
  generalize (grL default).toArray = z at *
  have s1 : (lay #[.string nm.key] z 0).size = 46 := by rw [lay_size _ _ _ (by rw [hz]; exact of_decide_eq_true rfl), hz]
  have s2 : (lay (winL (nm.s, nm.e)).toArray (lay #[.string nm.key] z 0) 1).size = 46 := by rw [lay_size _ _ _ (by rw [s1]; exact of_decide_eq_true rfl), s1]
  rw [fill_step _ _ _ _ _ 0 1 rfl (by rfl) (by rw [hz]; exact of_decide_eq_true rfl), show (Value.string nm.key).cells = #[.string nm.key] from rfl, fill_step _ _ _ (.agg (winL (nm.s, nm.e)).toArray) _ 1 2 rfl rfl (by show 1 + 2 ≤ (lay #[.string nm.key] z 0).size; rw [s1]; decide),
    fill_step _ _ _ (.agg C) _ 3 43 rfl hC (by show 3 + C.size ≤ (lay (winL (nm.s, nm.e)).toArray (lay #[.string nm.key] z 0) 1).size; rw [s2, hC]; decide), Instr.fill]
  congr 1
  rw [show (grS nm C).toArray = #[.string nm.key] ++ #[.int .i64 nm.s, .int .i64 nm.e] ++ C from by apply Array.ext'; simp [grS]]
  exact Array.ext_getElem? (grS_lay z hz _ rfl _ _ C hC)
theorem grS_state (nm : Nm) (C C2 : Array Value) (h : C.size = 43) (h2 : C2.size = 43) : ∀ c, c < 46 → (grS nm C2)[c]? = if 3 ≤ c ∧ c < 3 + C2.toList.length then C2.toList[c - 3]? else (grS nm C)[c]? := fun c hc => by
  rw [Array.length_toList, h2]
  match c with
  | 0 => rfl
  | 1 => rfl
  | 2 => rfl
  | c + 3 => rw [if_pos ⟨by omega, by omega⟩]; rfl
theorem grS_win (key : ByteArray) (s e s2 e2 : Int) (C : Array Value) : ∀ c, c < 46 → (grS ⟨key, s2, e2⟩ C)[c]? = if 1 ≤ c ∧ c < 1 + [Value.int .i64 s2, .int .i64 e2].length then [Value.int .i64 s2, .int .i64 e2][c - 1]? else (grS ⟨key, s, e⟩ C)[c]? := fun c hc => by
  match c with
  | 0 => rfl
  | 1 => rfl
  | 2 => rfl
  | c + 3 => rw [if_neg (by simp only [List.length_cons, List.length_nil]; omega)]; rfl
theorem load_grown {w : World} {g off n : Nat} {cs : List Value} (P : Program) (h : w.rangeAt g off cs) (hn : cs.length = n) (hg : g < w.heap.size) (m : Nat) (os : Array Obj) :
    Sem.run P (loadCellsFrom ⟨g, off, none⟩ 0 n #[]) (grow (w.drewN m) os) = .ok cs.toArray (grow (w.drewN m) os) :=
  run_loadCellsFrom_list P _ _ _ n hn (fun j v hj => by
    rw [Addr.add_lit, cell?_grow _ _ _ (by exact hg)]
    exact h j v hj)
theorem Grew.below {w w' : World} (h : Grew w w') : Below w.heap.size w w' := by
  obtain ⟨q, os, rfl⟩ := h
  exact ⟨rfl, rfl, rfl, by show _ ≤ (w.heap ++ os).size; rw [Array.size_append]; omega, fun i hi => by show (w.heap ++ os)[i]? = _; rw [Array.getElem?_append_left hi]⟩
theorem run_store_in (P : Program) {w : World} {g q : Nat} {L : List Value} {C : Array Value} {t : TypeId} (hg : w.heap[g]? = some (.cells C t (0, 0))) (hq : q + L.length ≤ C.size) (h0 : L ≠ []) (h1 : ∀ v ∈ L, v.oneCell' = true) :
    Sem.run P (storeCells ⟨g, q, none⟩ L 0) w = .ok () (w.setRow g (setMany C q L)) := by
  have := run_storeCells_cells (P := P) g q L 0 w (fun j hj => by
    rw [cell_of_row _ _ _ _ _ _ hg, Array.getElem?_eq_getElem (by omega)]; rfl) (fun j hj => frozen_of_row hg _) h1
  rw [Nat.add_zero] at this
  rw [this, setCells_eq_setRow _ _ _ _ _ _ _ hg h0]
set_option maxRecDepth 100000 in
theorem built_noState : Try.prog.built 45 [] = some (asC noAS) := by kernel_rfl
set_option maxRecDepth 100000 in
set_option maxHeartbeats 8000000 in
theorem put_any (c : Cg) (base : Nat) (v : Value) (l : List Gr) (e : Ev) (p : Int × Int) (w : World) (hv : OwnE w base 47 46 grL v l) (hb : base ≤ w.heap.size) (hl : l.length ≤ 2000) (hok : ∀ g ∈ l, (asOf g.xs).ok) (hx : e.val < 18446744073709551616) :
    Calls Try.prog 30 #[.agg (cgC c), v, .agg (evL e).toArray, .agg (winL p).toArray] w fun en w' => ∃ u, en = .returned u ∧ OwnE w' base 47 46 grL u (putAt c.cf.kd l e p l.length) ∧ w.grownBy w' v.ownBlock := by
  have Hs40 := Lib.hid sizeWin
  have Hs45 := Lib.hid sizeState
  have z40 : ∀ w, (sizeOf 40).run Try.prog w = .ok 2 w := run_sizeOf_info sizeWin
  have z45 : ∀ w, (sizeOf 45).run Try.prog w = .ok 43 w := run_sizeOf_info sizeState
  have z47 : ∀ w, (sizeOf 47).run Try.prog w = .ok 46 w := run_sizeOf_info sizeGr
  have z36 : ∀ w, (sizeOf 36).run Try.prog w = .ok 5 w := run_sizeOf_info sizeEv
  have z28 : ∀ w, (sizeOf 28).run Try.prog w = .ok 7 w := run_sizeOf_info sizeCg
  have g40 : ∀ w, (isAgg 40).run Try.prog w = .ok true w := fun w => by rw [Try.isAgg40]
  have g45 : ∀ w, (isAgg 45).run Try.prog w = .ok true w := fun w => by rw [Try.isAgg45]
  obtain ⟨A0, cap, rfl, hcap, _⟩ := hv.form
  obtain ⟨Cc, hCc⟩ : ∃ C, C = cgC c := ⟨_, rfl⟩
  obtain ⟨Ce, hCe⟩ : ∃ C, C = (evL e).toArray := ⟨_, rfl⟩
  obtain ⟨Cw, hCw⟩ : ∃ C, C = (winL p).toArray := ⟨_, rfl⟩
  have i0 : Cc[0]? = some (.int .u8 (c.cf.kd : Int)) := by rw [hCc]; rfl
  have i3 : Ce[3]? = some (.string e.key) := by rw [hCe]; rfl
  have i4 : Ce[4]? = some (.float .f64 e.val) := by rw [hCe]; rfl
  have j0 : Cw[0]? = some (.int .i64 p.1) := by rw [hCw]; rfl
  have j1 : Cw[1]? = some (.int .i64 p.2) := by rw [hCw]; rfl
  rw [← hCc, ← hCe, ← hCw]
  have hCW := Lib.hid hCw
  clear hCc hCe hCw
  have b0 := heap_alloc2_old w (.cells Cc 28) (.cells Ce 36)
  have b1 := heap_alloc2_new w (.cells Cc 28) (.cells Ce 36)
  have b0 := (heap_alloc_old ((w.alloc (.cells Cc 28)).alloc (.cells Ce 36)) (.cells Cw 40) (heap_lt b0)).trans b0
  have b1 := (heap_alloc_old ((w.alloc (.cells Cc 28)).alloc (.cells Ce 36)) (.cells Cw 40) (heap_lt b1)).trans b1
  have b2 := heap_alloc_new ((w.alloc (.cells Cc 28)).alloc (.cells Ce 36)) (.cells Cw 40)
  rw [show ((w.alloc (.cells Cc 28)).alloc (.cells Ce 36)).heap.size = w.heap.size + 2 from by simp] at b2
  have hw3 := below_alloc (below_alloc (below_alloc (Below.refl w.heap.size w) (.cells Cc 28)) (.cells Ce 36)) (.cells Cw 40)
  have hsz3 : (((w.alloc (.cells Cc 28)).alloc (.cells Ce 36)).alloc (.cells Cw 40)).heap.size = w.heap.size + 3 := by simp
  have B0 := Lib.hid b0
  have B1 := Lib.hid b1
  have B2 := Lib.hid b2
  have W3 := Lib.hid hw3
  have SZ3 := Lib.hid hsz3
  have wl1 : IntKind.i64.wrap ((l.length : Int) - 1) = (l.length : Int) - 1 := by rw [IntKind.wrap_i64]; omega
  have hadd := fun w => add_as noAS e.val w noAS_ok hx
  have hbg := built_gr (nmE e p) (asC (addAS noAS e.val)) (asC_size _)
  obtain ⟨x, hxe⟩ : ∃ x : Gr, x = ⟨nmE e p, [e.val]⟩ := ⟨_, rfl⟩
  have hgl : grS (nmE e p) (asC (addAS noAS e.val)) = grL x := by rw [hxe]; unfold grL asOf; rw [List.foldl_cons, List.foldl_nil]
  rw [hgl] at hbg
  have hns : Try.prog.built 45 [] = some (asC noAS) := built_noState
  generalize asC (addAS noAS e.val) = CA at hadd hbg
  generalize asC noAS = CN at hadd hns
  have HBG : Hid (Try.prog.built 47 [(0, .string e.key), (1, .agg #[.int .i64 p.1, .int .i64 p.2]), (2, .agg CA)] = some (grL x).toArray) := hbg
  have HNS := Lib.hid hns
  have HXE := Lib.hid hxe
  clear hbg hgl hns hxe
  have HVLT : Hid (∀ q, (Value.slice A0 l.length cap).ownBlock = some q → q < w.heap.size) := Lib.hid (fun q h => (hv.lt q h).2)
  have HB00 := Lib.hid hb
  have HV := Lib.hid hv
  have HOK := Lib.hid hok
  clear b0 b1 b2 hw3 hsz3 hv hok
  go_enter Try.func30, Try.ntmps30
  go_wp2_with fail
  generalize hw : ((w.alloc (.cells Cc 28)).alloc (.cells Ce 36)).alloc (.cells Cw 40) = w3 at *
  clear hw
  go_loopg [9] l.length (fun kx s9 wr => ∃ n : Nat, s9 = .int .i64 ((n : Int) - 1) ∧ n ≤ l.length ∧ n ≤ kx ∧ Hid (Below (w.heap.size + 3) w3 wr) ∧ Hid (putAt c.cf.kd l e p n = putAt c.cf.kd l e p l.length))
  case atStart => exact ⟨l.length, rfl, Nat.le_refl _, Nat.le_refl _, Lib.hid (Below.refl _ _), Lib.hid rfl⟩
  case round =>
    obtain ⟨n, rfl, hn, hkx, HB, HP⟩ := hrel
    have b0 := (HB.out.block w.heap.size (by omega)).trans B0.out
    have b1 := (HB.out.block (w.heap.size + 1) (by omega)).trans B1.out
    have b2 := (HB.out.block (w.heap.size + 2) (by omega)).trans B2.out
    have k0 := (cell_of_row _ _ 0 _ _ _ b0).trans i0
    have k3 := (cell_of_row _ _ 3 _ _ _ b1).trans i3
    have k4 := (cell_of_row _ _ 4 _ _ _ b1).trans i4
    have hown : OwnE wr base 47 46 grL (.slice A0 l.length cap) l := (HV.out.below W3.out).below (HB.out.mono (by rw [SZ3.out]; exact Nat.le_refl _))
    have HOWN := Lib.hid hown
    have HW4 : Hid (Below w.heap.size w wr) := Lib.hid (W3.out.trans (HB.out.mono (by omega)))
    have w0 := (cell_of_row _ _ 0 _ _ _ b2).trans j0
    have w1 := (cell_of_row _ _ 1 _ _ _ b2).trans j1
    have HB0 := Lib.hid b0
    have HB1 := Lib.hid b1
    have HB2 := Lib.hid b2
    clear b0 b1 b2 hown
    generalize hw4 : wr = w4 at *
    clear hw4
    go_upto_region 2 with fail
    cases n with
    | zero => as_aux_lemma =>
      have HPX : Hid (putAt c.cf.kd l e p l.length = l ++ [x]) := Lib.hid (by rw [← HP.out, HXE.out]; rfl)
      go_quiet (fail)
      go_wp2_with fail
      have HWQ : Hid (Below w.heap.size w (w4.drewN nq)) := Lib.hid (below_drewN HW4.out nq)
      have HOQ : Hid (OwnE (w4.drewN nq) base 47 46 grL (.slice A0 l.length cap) l) := Lib.hid HOWN.out
      have k3 : (w4.drewN nq).cell? ⟨w.heap.size + 1, 3, none⟩ = some (.string e.key) := k3
      have k4 : (w4.drewN nq).cell? ⟨w.heap.size + 1, 4, none⟩ = some (.float .f64 e.val) := k4
      have w0 : (w4.drewN nq).cell? ⟨w.heap.size + 1 + 1, 0, none⟩ = some (.int .i64 p.1) := w0
      have w1 : (w4.drewN nq).cell? ⟨w.heap.size + 1 + 1, 1, none⟩ = some (.int .i64 p.2) := w1
      generalize w4.drewN nq = w5 at *
      have HK3 := Lib.hid k3
      have HK4 := Lib.hid k4
      have HRP : Hid (w5.rangeAt (w.heap.size + 1 + 1) 0 (#[.int .i64 p.1, .int .i64 p.2] : Array Value).toList) := Lib.hid (fun j v hj => by
        match j with
        | 0 => injection hj with hj; subst hj; exact w0
        | 1 => injection hj with hj; subst hj; exact w1
        | j + 2 => cases hj)
      have HOW : Hid (OwnE w5 base 47 46 grL (.slice A0 l.length cap) l) := Lib.hid (HOQ.out)
      have HBW : Hid (Below w.heap.size w w5) := Lib.hid (HWQ.out)
      obtain ⟨CV, hCV⟩ : ∃ CV : Nat → Value, CV = fun j => match j with
        | 0 => .slice A0 l.length cap
        | 1 => .pointer (some ⟨w.heap.size + 1, 3, none⟩)
        | 2 => .string e.key
        | 3 => .agg #[.int .i64 p.1, .int .i64 p.2]
        | 4 => .agg CN
        | 5 => .pointer (some ⟨w.heap.size + 1, 4, none⟩)
        | 6 => .float .f64 e.val
        | 7 => .agg CA
        | 8 => .agg (grL x).toArray
        | 9 => undef
        | 10 => undef
        | 11 => undef
        | _ => undef := ⟨_, rfl⟩
      obtain ⟨isO, hO⟩ : ∃ isO : Nat → Bool, isO = fun j => match j with
        | _ => false := ⟨_, rfl⟩
      obtain ⟨BL, hBL⟩ : ∃ BL : Nat → List Int, BL = fun j => match j with
        | _ => [] := ⟨_, rfl⟩
      have v0 : CV 0 = .slice A0 l.length cap := congrFun hCV 0
      have HISO := Lib.hid hO
      have o0 : isO 0 = false := congrFun hO 0
      have v1 : CV 1 = .pointer (some ⟨w.heap.size + 1, 3, none⟩) := congrFun hCV 1
      have o1 : isO 1 = false := congrFun hO 1
      have v2 : CV 2 = .string e.key := congrFun hCV 2
      have o2 : isO 2 = false := congrFun hO 2
      have v3 : CV 3 = .agg #[.int .i64 p.1, .int .i64 p.2] := congrFun hCV 3
      have o3 : isO 3 = false := congrFun hO 3
      have v4 : CV 4 = .agg CN := congrFun hCV 4
      have o4 : isO 4 = false := congrFun hO 4
      have v5 : CV 5 = .pointer (some ⟨w.heap.size + 1, 4, none⟩) := congrFun hCV 5
      have o5 : isO 5 = false := congrFun hO 5
      have v6 : CV 6 = .float .f64 e.val := congrFun hCV 6
      have o6 : isO 6 = false := congrFun hO 6
      have v7 : CV 7 = .agg CA := congrFun hCV 7
      have o7 : isO 7 = false := congrFun hO 7
      have v8 : CV 8 = .agg (grL x).toArray := congrFun hCV 8
      have o8 : isO 8 = false := congrFun hO 8
      have v9 : CV 9 = undef := congrFun hCV 9
      have o9 : isO 9 = false := congrFun hO 9
      have v10 : CV 10 = undef := congrFun hCV 10
      have o10 : isO 10 = false := congrFun hO 10
      have v11 : CV 11 = undef := congrFun hCV 11
      have o11 : isO 11 = false := congrFun hO 11
      clear hCV hO hBL
      have V0 := Lib.hid v0
      have V1 := Lib.hid v1
      have V2 := Lib.hid v2
      have V3 := Lib.hid v3
      have V4 := Lib.hid v4
      have V5 := Lib.hid v5
      have V6 := Lib.hid v6
      have V7 := Lib.hid v7
      have V8 := Lib.hid v8
      have V9 := Lib.hid v9
      have V10 := Lib.hid v10
      have V11 := Lib.hid v11
      clear v0 v1 v2 v3 v4 v5 v6 v7 v8 v9 v10 v11
      refine region_run (RegT w5 9 (.cells (grL x).toArray 47) (fun v8 w8 => OwnE w8 base 47 46 grL v8 (l ++ [x]) ∧ w.grownBy w8 (Value.slice A0 l.length cap).ownBlock) isO BL CV) (by kernel_rfl) (by kernel_rfl) (by kernel_rfl) (by kernel_rfl) (RegT.start w5 9 12 _ _) ?_ ?_
      · intro listed vals a1 wq i hs hcl hP hR hi hu hr1
        replace hi : i < 12 := hi
        replace hs : listed.size = 12 := hs
        obtain rfl | hi1 : i = 0 ∨ 1 ≤ i := by omega
        · have t1 := hR.fixed 1 (by kernel_rfl) rfl
          cases hq : listed.getD 9 false with
          | false =>
            have hn1 := unlisted (n := 10) hcl hq (by kernel_rfl)
            have hn2 := unlisted (n := 11) hcl hn1 (by kernel_rfl)
            have hI := hP.pre hq
            exact wpOp_val rfl rfl (by rw [V0.out]; go_simp) ⟨_, rfl, RegT.of (hI.keep (Below.refl _ _) 0 o0) hq (by decide) hn1 (by decide) hn2 (by decide)⟩
          | true =>
            have hn1 : listed.getD 10 false = false := unlisted (n := 10) hcl hu (by kernel_rfl)
            have hn2 := unlisted (n := 11) hcl hn1 (by kernel_rfl)
            exact wpOp_val rfl rfl (by rw [V0.out]; go_simp) ⟨_, rfl, RegT.midkeep hP hq hn1 hn2 0 (by decide)⟩
        obtain rfl | hi1 : i = 1 ∨ 2 ≤ i := by omega
        · have hn := (unlisted (n := 9) hcl (unlisted (n := 8) hcl (unlisted (n := 2) hcl hu (by kernel_rfl)) (by kernel_rfl)) (by kernel_rfl))
          have hn1 := unlisted (n := 10) hcl hn (by kernel_rfl)
          have hn2 := unlisted (n := 11) hcl hn1 (by kernel_rfl)
          have hI := hP.pre hn
          have t6 := hR.fixed 6 (by kernel_rfl) rfl
          exact wpOp_val rfl rfl (by rw [V1.out]; go_simp) ⟨_, rfl, RegT.of (hI.keep (Below.refl _ _) 1 o1) hn (by decide) hn1 (by decide) hn2 (by decide)⟩
        obtain rfl | hi1 : i = 2 ∨ 3 ≤ i := by omega
        · have hn := (unlisted (n := 9) hcl (unlisted (n := 8) hcl hu (by kernel_rfl)) (by kernel_rfl))
          have hn1 := unlisted (n := 10) hcl hn (by kernel_rfl)
          have hn2 := unlisted (n := 11) hcl hn1 (by kernel_rfl)
          have hI := hP.pre hn
          have t94 : a1.tmps[94]? = some (.pointer (some ⟨w.heap.size + 1, 3, none⟩)) := hI.get hR hr1 1 o1 (by kernel_rfl) (by decide) rfl V1.out
          have cc := cell_below hI.b HK3.out
          exact wpOp_val rfl rfl (by rw [V2.out]; go_simp) ⟨_, rfl, RegT.of (hI.keep (Below.refl _ _) 2 o2) hn (by decide) hn1 (by decide) hn2 (by decide)⟩
        obtain rfl | hi1 : i = 3 ∨ 4 ≤ i := by omega
        · have hn := (unlisted (n := 9) hcl (unlisted (n := 8) hcl hu (by kernel_rfl)) (by kernel_rfl))
          have hn1 := unlisted (n := 10) hcl hn (by kernel_rfl)
          have hn2 := unlisted (n := 11) hcl hn1 (by kernel_rfl)
          have hI := hP.pre hn
          have t7 := hR.fixed 7 (by kernel_rfl) rfl
          exact wpOp_mid rfl rfl 40 (.tmp 7) rfl (w.heap.size + 1 + 1) 0 (getD_is t7) #[.int .i64 p.1, .int .i64 p.2] _ (range_below hI.b HRP.out) Try.underlying40 rfl Hs40.out ⟨_, rfl, RegT.of (hI.keepV (Below.refl _ _) 3 o3 V3.out) hn (by decide) hn1 (by decide) hn2 (by decide)⟩
        obtain rfl | hi1 : i = 4 ∨ 5 ≤ i := by omega
        · have hn := (unlisted (n := 9) hcl (unlisted (n := 8) hcl (unlisted (n := 7) hcl hu (by kernel_rfl)) (by kernel_rfl)) (by kernel_rfl))
          have hn1 := unlisted (n := 10) hcl hn (by kernel_rfl)
          have hn2 := unlisted (n := 11) hcl hn1 (by kernel_rfl)
          have hI := hP.pre hn
          have hbd := HNS.out
          refine wpOp_build rfl rfl 45 _ rfl (CN) ?_ ⟨_, rfl, RegT.of (hI.keepV (Below.refl _ _) 4 o4 V4.out) hn (by decide) hn1 (by decide) hn2 (by decide)⟩
          simp only [List.map_toArray, List.map_nil]; exact hbd
        obtain rfl | hi1 : i = 5 ∨ 6 ≤ i := by omega
        · have hn := (unlisted (n := 9) hcl (unlisted (n := 8) hcl (unlisted (n := 7) hcl (unlisted (n := 6) hcl hu (by kernel_rfl)) (by kernel_rfl)) (by kernel_rfl)) (by kernel_rfl))
          have hn1 := unlisted (n := 10) hcl hn (by kernel_rfl)
          have hn2 := unlisted (n := 11) hcl hn1 (by kernel_rfl)
          have hI := hP.pre hn
          have t6 := hR.fixed 6 (by kernel_rfl) rfl
          exact wpOp_val rfl rfl (by rw [V5.out]; go_simp) ⟨_, rfl, RegT.of (hI.keep (Below.refl _ _) 5 o5) hn (by decide) hn1 (by decide) hn2 (by decide)⟩
        obtain rfl | hi1 : i = 6 ∨ 7 ≤ i := by omega
        · have hn := (unlisted (n := 9) hcl (unlisted (n := 8) hcl (unlisted (n := 7) hcl hu (by kernel_rfl)) (by kernel_rfl)) (by kernel_rfl))
          have hn1 := unlisted (n := 10) hcl hn (by kernel_rfl)
          have hn2 := unlisted (n := 11) hcl hn1 (by kernel_rfl)
          have hI := hP.pre hn
          have t98 : a1.tmps[98]? = some (.pointer (some ⟨w.heap.size + 1, 4, none⟩)) := hI.get hR hr1 5 o5 (by kernel_rfl) (by decide) rfl V5.out
          have cc := cell_below hI.b HK4.out
          exact wpOp_val rfl rfl (by rw [V6.out]; go_simp) ⟨_, rfl, RegT.of (hI.keep (Below.refl _ _) 6 o6) hn (by decide) hn1 (by decide) hn2 (by decide)⟩
        obtain rfl | hi1 : i = 7 ∨ 8 ≤ i := by omega
        · have hn := (unlisted (n := 9) hcl (unlisted (n := 8) hcl hu (by kernel_rfl)) (by kernel_rfl))
          have hn1 := unlisted (n := 10) hcl hn (by kernel_rfl)
          have hn2 := unlisted (n := 11) hcl hn1 (by kernel_rfl)
          have hI := hP.pre hn
          have t97 : a1.tmps[97]? = some (.agg CN) := hI.get hR hr1 4 o4 (by kernel_rfl) (by decide) rfl V4.out
          have t99 : a1.tmps[99]? = some (.float .f64 e.val) := hI.get hR hr1 6 o6 (by kernel_rfl) (by decide) rfl V6.out
          have hc1 := hadd wq
          refine wpOp_calls (f := 42) (args := #[.agg CN, .float .f64 e.val]) rfl rfl (by go_simp) (hc1.mono ?_)
          rintro e wz ⟨rfl, b⟩
          exact ⟨_, rfl, _, rfl, RegT.of (hI.keepV b 7 o7 V7.out) hn (by decide) hn1 (by decide) hn2 (by decide)⟩
        obtain rfl | hi1 : i = 8 ∨ 9 ≤ i := by omega
        · have hn := (unlisted (n := 9) hcl hu (by kernel_rfl))
          have hn1 := unlisted (n := 10) hcl hn (by kernel_rfl)
          have hn2 := unlisted (n := 11) hcl hn1 (by kernel_rfl)
          have hI := hP.pre hn
          have t95 : a1.tmps[95]? = some (.string e.key) := hI.get hR hr1 2 o2 (by kernel_rfl) (by decide) rfl V2.out
          have t96 : a1.tmps[96]? = some (.agg #[.int .i64 p.1, .int .i64 p.2]) := hI.get hR hr1 3 o3 (by kernel_rfl) (by decide) rfl V3.out
          have t100 : a1.tmps[100]? = some (.agg CA) := hI.get hR hr1 7 o7 (by kernel_rfl) (by decide) rfl V7.out
          have hbd := HBG.out
          refine wpOp_build rfl rfl 47 _ rfl ((grL x).toArray) ?_ ⟨_, rfl, RegT.of (hI.keepV (Below.refl _ _) 8 o8 V8.out) hn (by decide) hn1 (by decide) hn2 (by decide)⟩
          simp only [List.map_toArray, List.map_cons, List.map_nil, Act.eval, getD_is t95, getD_is t96, getD_is t100]; exact hbd
        obtain rfl | hi1 : i = 9 ∨ 10 ≤ i := by omega
        · have hn1 := unlisted (n := 10) hcl hu (by kernel_rfl)
          have hn2 := unlisted (n := 11) hcl hn1 (by kernel_rfl)
          have hI := hP.pre hu
          have t101 : a1.tmps[101]? = some (.agg (grL x).toArray) := hI.get hR hr1 8 o8 (by kernel_rfl) (by decide) rfl V8.out
          exact wpOp_of_wp rfl rfl (wp_buildOne encGr (by decide) 37 (.tmp 101) rfl Try.underlying37 x (getD_is t101) ⟨_, rfl, RegT.build hI (fun j => by rw [HISO.out]) hn1 hn2 (by omega)⟩)
        obtain rfl | hi1 : i = 10 ∨ 11 ≤ i := by omega
        · have hn2 := unlisted (n := 11) hcl hu (by kernel_rfl)
          have h9 : listed.getD 9 false = true := dep_of hr1 (by kernel_rfl)
          have h0 : listed.getD 0 false = true := dep_of hr1 (by kernel_rfl)
          obtain ⟨hv, wq0, hb, rfl, e9⟩ := hP.mid h9 hu
          have v0 := hv 0 (by decide) h0
          have t93 : a1.tmps[93]? = some (.slice A0 l.length cap) := (hR.dep hr1 0 (by kernel_rfl) (by decide) rfl).trans (by rw [v0, V0.out])
          have t102 : a1.tmps[102]? = some (.slice (some ⟨wq0.heap.size, 0, none⟩) 1 1) := (hR.dep hr1 9 (by kernel_rfl) (by decide) rfl).trans (by rw [e9])
          have ba := below_alloc (Below.refl wq0.heap.size wq0) (.cells (grL x).toArray 47)
          have hrow := RowsAt.one (enc := grL) (y := (x : Gr)) (heap_alloc_new wq0 (.cells (grL x).toArray 47))
          have oq := (HOW.out.below hb).below ba
          have bw := below_trans (below_trans HBW.out hb) ba
          refine wpOp_of_wp rfl rfl (wp_appendE encGr (.tmp 93) (.tmp 102) 37 rfl base Try.underlying37 (.slice A0 l.length cap) l (getD_is t93) oq (some ⟨wq0.heap.size, 0, none⟩) 1 [x] (getD_is t102) hrow (Nat.le_trans (Nat.add_le_add_right hl 1) (by decide)) (Nat.le_trans (Nat.mul_le_mul_right 344 (Nat.add_le_add_right hl 1)) (by decide)) (Nat.le_trans HB00.out bw.size) ?_)
          intro v8 w8 ho8 hg8 hv8
          exact ⟨_, rfl, RegT.app ⟨ho8, grown_of bw hg8⟩ h9 hn2 (by omega)⟩
        obtain rfl : i = 11 := by omega
        have h10 : listed.getD 10 false = true := dep_of hr1 (by kernel_rfl)
        have h9 : listed.getD 9 false = true := by
          cases hq : listed.getD 9 false with
          | true => rfl
          | false => rw [unlisted (n := 10) hcl hq (by kernel_rfl)] at h10; cases h10
        have t103 : a1.tmps[103]? = some (vals 10) := hR.dep hr1 10 (by kernel_rfl) (by decide) rfl
        exact wpOp_val (v := vals 10) rfl rfl (by go_simp) ⟨_, rfl, RegT.assign hP h9 h10⟩
      · intro listed vals wq FF hP hall hFF
        have bfin := hP.fin (hall 10 (by decide))
        have easg := hP.asg (hall 11 (by decide))
        have hF2 : FF = (((((((((((Act.put _ (some 93) (vals 0)).put (some 94) (vals 1)).put (some 95) (vals 2)).put (some 96) (vals 3)).put (some 97) (vals 4)).put (some 98) (vals 5)).put (some 99) (vals 6)).put (some 100) (vals 7)).put (some 101) (vals 8)).put (some 102) (vals 9)).put (some 103) (vals 10)).put (some 8) (vals 11) := hFF
        simp only [putAll] at hF2
        rw [hF2]
        clear hF2 hFF hP hall
        rw [easg]
        go_frame
        obtain ⟨hf1, hf2⟩ := bfin
        have HF1 := Lib.hid hf1
        have HF2 := Lib.hid hf2
        clear hf1 hf2
        generalize vals 10 = v8 at *
        generalize vals 0 = x0
        generalize vals 1 = x1
        generalize vals 2 = x2
        generalize vals 3 = x3
        generalize vals 4 = x4
        generalize vals 5 = x5
        generalize vals 6 = x6
        generalize vals 7 = x7
        generalize vals 8 = x8
        generalize vals 9 = x9
        go_wp2_with fail
        go_ret
        exact ⟨_, rfl, by rw [HPX.out]; exact HF1.out, HF2.out⟩
    | succ k =>
      rw [show ((k + 1 : Nat) : Int) - 1 = (k : Int) by omega]
      obtain ⟨gr, hgr⟩ : ∃ gr, l[k]? = some gr := ⟨l[k], List.getElem?_eq_getElem (by omega)⟩
      have hA : ∃ g, A0 = some ⟨g, 0, none⟩ := by
        rcases HV.out.2 with ⟨h0, h1⟩ | ⟨g, _, _, h1, _⟩
        · omega
        · injection h1 with h1; exact ⟨g, h1⟩
      obtain ⟨g, rfl⟩ := hA
      obtain ⟨hrr, C4, hC4, hsz4, hlt4⟩ := OwnE.row encGr HOWN.out hgr
      have r0 : w4.cell? ⟨g, k * 46, none⟩ = some (.string gr.nm.key) := hrr 0 _ rfl
      have r1 : w4.cell? ⟨g, k * 46 + 1, none⟩ = some (.int .i64 gr.nm.s) := hrr 1 _ rfl
      have r2 : w4.cell? ⟨g, k * 46 + 2, none⟩ = some (.int .i64 gr.nm.e) := hrr 2 _ rfl
      have HRR := Lib.hid hrr
      clear hrr hC4 hsz4
      have ek : ((k : Int)).toNat = k := by omega
      have kl : (k : Int) < (l.length : Int) := by omega
      have kp : (0 : Int) ≤ (k : Int) := by omega
      have ewk : IntKind.i64.wrap ((k : Int)) = (k : Int) := by rw [IntKind.wrap_i64]; omega
      have HGR := Lib.hid hgr
      by_cases hkey : gr.nm.key.toList = e.key.toList
      rotate_left
      · as_aux_lemma =>
        have hkb : (gr.nm.key.toList == e.key.toList) = false := by simpa using hkey
        have HPX : Hid (putAt c.cf.kd l e p l.length = l ++ [x]) := Lib.hid (by rw [← HP.out, HXE.out, putAt, HGR.out]; simp only; rw [if_neg (fun q => hkey (by rw [q]))])
        clear hkey
        go_quiet (fail)
        go_wp2_with fail
        have HWQ : Hid (Below w.heap.size w (w4.drewN nq)) := Lib.hid (below_drewN HW4.out nq)
        have HOQ : Hid (OwnE (w4.drewN nq) base 47 46 grL (.slice (some ⟨g, 0, none⟩) l.length cap) l) := Lib.hid HOWN.out
        have k3 : (w4.drewN nq).cell? ⟨w.heap.size + 1, 3, none⟩ = some (.string e.key) := k3
        have k4 : (w4.drewN nq).cell? ⟨w.heap.size + 1, 4, none⟩ = some (.float .f64 e.val) := k4
        have w0 : (w4.drewN nq).cell? ⟨w.heap.size + 1 + 1, 0, none⟩ = some (.int .i64 p.1) := w0
        have w1 : (w4.drewN nq).cell? ⟨w.heap.size + 1 + 1, 1, none⟩ = some (.int .i64 p.2) := w1
        generalize w4.drewN nq = w5 at *
        have HK3 := Lib.hid k3
        have HK4 := Lib.hid k4
        have HRP : Hid (w5.rangeAt (w.heap.size + 1 + 1) 0 (#[.int .i64 p.1, .int .i64 p.2] : Array Value).toList) := Lib.hid (fun j v hj => by
          match j with
          | 0 => injection hj with hj; subst hj; exact w0
          | 1 => injection hj with hj; subst hj; exact w1
          | j + 2 => cases hj)
        have HOW : Hid (OwnE w5 base 47 46 grL (.slice (some ⟨g, 0, none⟩) l.length cap) l) := Lib.hid (HOQ.out)
        have HBW : Hid (Below w.heap.size w w5) := Lib.hid (HWQ.out)
        obtain ⟨CV, hCV⟩ : ∃ CV : Nat → Value, CV = fun j => match j with
          | 0 => .slice (some ⟨g, 0, none⟩) l.length cap
          | 1 => .pointer (some ⟨w.heap.size + 1, 3, none⟩)
          | 2 => .string e.key
          | 3 => .agg #[.int .i64 p.1, .int .i64 p.2]
          | 4 => .agg CN
          | 5 => .pointer (some ⟨w.heap.size + 1, 4, none⟩)
          | 6 => .float .f64 e.val
          | 7 => .agg CA
          | 8 => .agg (grL x).toArray
          | 9 => undef
          | 10 => undef
          | 11 => undef
          | _ => undef := ⟨_, rfl⟩
        obtain ⟨isO, hO⟩ : ∃ isO : Nat → Bool, isO = fun j => match j with
          | _ => false := ⟨_, rfl⟩
        obtain ⟨BL, hBL⟩ : ∃ BL : Nat → List Int, BL = fun j => match j with
          | _ => [] := ⟨_, rfl⟩
        have v0 : CV 0 = .slice (some ⟨g, 0, none⟩) l.length cap := congrFun hCV 0
        have HISO := Lib.hid hO
        have o0 : isO 0 = false := congrFun hO 0
        have v1 : CV 1 = .pointer (some ⟨w.heap.size + 1, 3, none⟩) := congrFun hCV 1
        have o1 : isO 1 = false := congrFun hO 1
        have v2 : CV 2 = .string e.key := congrFun hCV 2
        have o2 : isO 2 = false := congrFun hO 2
        have v3 : CV 3 = .agg #[.int .i64 p.1, .int .i64 p.2] := congrFun hCV 3
        have o3 : isO 3 = false := congrFun hO 3
        have v4 : CV 4 = .agg CN := congrFun hCV 4
        have o4 : isO 4 = false := congrFun hO 4
        have v5 : CV 5 = .pointer (some ⟨w.heap.size + 1, 4, none⟩) := congrFun hCV 5
        have o5 : isO 5 = false := congrFun hO 5
        have v6 : CV 6 = .float .f64 e.val := congrFun hCV 6
        have o6 : isO 6 = false := congrFun hO 6
        have v7 : CV 7 = .agg CA := congrFun hCV 7
        have o7 : isO 7 = false := congrFun hO 7
        have v8 : CV 8 = .agg (grL x).toArray := congrFun hCV 8
        have o8 : isO 8 = false := congrFun hO 8
        have v9 : CV 9 = undef := congrFun hCV 9
        have o9 : isO 9 = false := congrFun hO 9
        have v10 : CV 10 = undef := congrFun hCV 10
        have o10 : isO 10 = false := congrFun hO 10
        have v11 : CV 11 = undef := congrFun hCV 11
        have o11 : isO 11 = false := congrFun hO 11
        clear hCV hO hBL
        have V0 := Lib.hid v0
        have V1 := Lib.hid v1
        have V2 := Lib.hid v2
        have V3 := Lib.hid v3
        have V4 := Lib.hid v4
        have V5 := Lib.hid v5
        have V6 := Lib.hid v6
        have V7 := Lib.hid v7
        have V8 := Lib.hid v8
        have V9 := Lib.hid v9
        have V10 := Lib.hid v10
        have V11 := Lib.hid v11
        clear v0 v1 v2 v3 v4 v5 v6 v7 v8 v9 v10 v11
        refine region_run (RegT w5 9 (.cells (grL x).toArray 47) (fun v8 w8 => OwnE w8 base 47 46 grL v8 (l ++ [x]) ∧ w.grownBy w8 (Value.slice (some ⟨g, 0, none⟩) l.length cap).ownBlock) isO BL CV) (by kernel_rfl) (by kernel_rfl) (by kernel_rfl) (by kernel_rfl) (RegT.start w5 9 12 _ _) ?_ ?_
        · intro listed vals a1 wq i hs hcl hP hR hi hu hr1
          replace hi : i < 12 := hi
          replace hs : listed.size = 12 := hs
          obtain rfl | hi1 : i = 0 ∨ 1 ≤ i := by omega
          · have t1 := hR.fixed 1 (by kernel_rfl) rfl
            cases hq : listed.getD 9 false with
            | false =>
              have hn1 := unlisted (n := 10) hcl hq (by kernel_rfl)
              have hn2 := unlisted (n := 11) hcl hn1 (by kernel_rfl)
              have hI := hP.pre hq
              exact wpOp_val rfl rfl (by rw [V0.out]; go_simp) ⟨_, rfl, RegT.of (hI.keep (Below.refl _ _) 0 o0) hq (by decide) hn1 (by decide) hn2 (by decide)⟩
            | true =>
              have hn1 : listed.getD 10 false = false := unlisted (n := 10) hcl hu (by kernel_rfl)
              have hn2 := unlisted (n := 11) hcl hn1 (by kernel_rfl)
              exact wpOp_val rfl rfl (by rw [V0.out]; go_simp) ⟨_, rfl, RegT.midkeep hP hq hn1 hn2 0 (by decide)⟩
          obtain rfl | hi1 : i = 1 ∨ 2 ≤ i := by omega
          · have hn := (unlisted (n := 9) hcl (unlisted (n := 8) hcl (unlisted (n := 2) hcl hu (by kernel_rfl)) (by kernel_rfl)) (by kernel_rfl))
            have hn1 := unlisted (n := 10) hcl hn (by kernel_rfl)
            have hn2 := unlisted (n := 11) hcl hn1 (by kernel_rfl)
            have hI := hP.pre hn
            have t6 := hR.fixed 6 (by kernel_rfl) rfl
            exact wpOp_val rfl rfl (by rw [V1.out]; go_simp) ⟨_, rfl, RegT.of (hI.keep (Below.refl _ _) 1 o1) hn (by decide) hn1 (by decide) hn2 (by decide)⟩
          obtain rfl | hi1 : i = 2 ∨ 3 ≤ i := by omega
          · have hn := (unlisted (n := 9) hcl (unlisted (n := 8) hcl hu (by kernel_rfl)) (by kernel_rfl))
            have hn1 := unlisted (n := 10) hcl hn (by kernel_rfl)
            have hn2 := unlisted (n := 11) hcl hn1 (by kernel_rfl)
            have hI := hP.pre hn
            have t94 : a1.tmps[94]? = some (.pointer (some ⟨w.heap.size + 1, 3, none⟩)) := hI.get hR hr1 1 o1 (by kernel_rfl) (by decide) rfl V1.out
            have cc := cell_below hI.b HK3.out
            exact wpOp_val rfl rfl (by rw [V2.out]; go_simp) ⟨_, rfl, RegT.of (hI.keep (Below.refl _ _) 2 o2) hn (by decide) hn1 (by decide) hn2 (by decide)⟩
          obtain rfl | hi1 : i = 3 ∨ 4 ≤ i := by omega
          · have hn := (unlisted (n := 9) hcl (unlisted (n := 8) hcl hu (by kernel_rfl)) (by kernel_rfl))
            have hn1 := unlisted (n := 10) hcl hn (by kernel_rfl)
            have hn2 := unlisted (n := 11) hcl hn1 (by kernel_rfl)
            have hI := hP.pre hn
            have t7 := hR.fixed 7 (by kernel_rfl) rfl
            exact wpOp_mid rfl rfl 40 (.tmp 7) rfl (w.heap.size + 1 + 1) 0 (getD_is t7) #[.int .i64 p.1, .int .i64 p.2] _ (range_below hI.b HRP.out) Try.underlying40 rfl Hs40.out ⟨_, rfl, RegT.of (hI.keepV (Below.refl _ _) 3 o3 V3.out) hn (by decide) hn1 (by decide) hn2 (by decide)⟩
          obtain rfl | hi1 : i = 4 ∨ 5 ≤ i := by omega
          · have hn := (unlisted (n := 9) hcl (unlisted (n := 8) hcl (unlisted (n := 7) hcl hu (by kernel_rfl)) (by kernel_rfl)) (by kernel_rfl))
            have hn1 := unlisted (n := 10) hcl hn (by kernel_rfl)
            have hn2 := unlisted (n := 11) hcl hn1 (by kernel_rfl)
            have hI := hP.pre hn
            have hbd := HNS.out
            refine wpOp_build rfl rfl 45 _ rfl (CN) ?_ ⟨_, rfl, RegT.of (hI.keepV (Below.refl _ _) 4 o4 V4.out) hn (by decide) hn1 (by decide) hn2 (by decide)⟩
            simp only [List.map_toArray, List.map_nil]; exact hbd
          obtain rfl | hi1 : i = 5 ∨ 6 ≤ i := by omega
          · have hn := (unlisted (n := 9) hcl (unlisted (n := 8) hcl (unlisted (n := 7) hcl (unlisted (n := 6) hcl hu (by kernel_rfl)) (by kernel_rfl)) (by kernel_rfl)) (by kernel_rfl))
            have hn1 := unlisted (n := 10) hcl hn (by kernel_rfl)
            have hn2 := unlisted (n := 11) hcl hn1 (by kernel_rfl)
            have hI := hP.pre hn
            have t6 := hR.fixed 6 (by kernel_rfl) rfl
            exact wpOp_val rfl rfl (by rw [V5.out]; go_simp) ⟨_, rfl, RegT.of (hI.keep (Below.refl _ _) 5 o5) hn (by decide) hn1 (by decide) hn2 (by decide)⟩
          obtain rfl | hi1 : i = 6 ∨ 7 ≤ i := by omega
          · have hn := (unlisted (n := 9) hcl (unlisted (n := 8) hcl (unlisted (n := 7) hcl hu (by kernel_rfl)) (by kernel_rfl)) (by kernel_rfl))
            have hn1 := unlisted (n := 10) hcl hn (by kernel_rfl)
            have hn2 := unlisted (n := 11) hcl hn1 (by kernel_rfl)
            have hI := hP.pre hn
            have t98 : a1.tmps[98]? = some (.pointer (some ⟨w.heap.size + 1, 4, none⟩)) := hI.get hR hr1 5 o5 (by kernel_rfl) (by decide) rfl V5.out
            have cc := cell_below hI.b HK4.out
            exact wpOp_val rfl rfl (by rw [V6.out]; go_simp) ⟨_, rfl, RegT.of (hI.keep (Below.refl _ _) 6 o6) hn (by decide) hn1 (by decide) hn2 (by decide)⟩
          obtain rfl | hi1 : i = 7 ∨ 8 ≤ i := by omega
          · have hn := (unlisted (n := 9) hcl (unlisted (n := 8) hcl hu (by kernel_rfl)) (by kernel_rfl))
            have hn1 := unlisted (n := 10) hcl hn (by kernel_rfl)
            have hn2 := unlisted (n := 11) hcl hn1 (by kernel_rfl)
            have hI := hP.pre hn
            have t97 : a1.tmps[97]? = some (.agg CN) := hI.get hR hr1 4 o4 (by kernel_rfl) (by decide) rfl V4.out
            have t99 : a1.tmps[99]? = some (.float .f64 e.val) := hI.get hR hr1 6 o6 (by kernel_rfl) (by decide) rfl V6.out
            have hc1 := hadd wq
            refine wpOp_calls (f := 42) (args := #[.agg CN, .float .f64 e.val]) rfl rfl (by go_simp) (hc1.mono ?_)
            rintro e wz ⟨rfl, b⟩
            exact ⟨_, rfl, _, rfl, RegT.of (hI.keepV b 7 o7 V7.out) hn (by decide) hn1 (by decide) hn2 (by decide)⟩
          obtain rfl | hi1 : i = 8 ∨ 9 ≤ i := by omega
          · have hn := (unlisted (n := 9) hcl hu (by kernel_rfl))
            have hn1 := unlisted (n := 10) hcl hn (by kernel_rfl)
            have hn2 := unlisted (n := 11) hcl hn1 (by kernel_rfl)
            have hI := hP.pre hn
            have t95 : a1.tmps[95]? = some (.string e.key) := hI.get hR hr1 2 o2 (by kernel_rfl) (by decide) rfl V2.out
            have t96 : a1.tmps[96]? = some (.agg #[.int .i64 p.1, .int .i64 p.2]) := hI.get hR hr1 3 o3 (by kernel_rfl) (by decide) rfl V3.out
            have t100 : a1.tmps[100]? = some (.agg CA) := hI.get hR hr1 7 o7 (by kernel_rfl) (by decide) rfl V7.out
            have hbd := HBG.out
            refine wpOp_build rfl rfl 47 _ rfl ((grL x).toArray) ?_ ⟨_, rfl, RegT.of (hI.keepV (Below.refl _ _) 8 o8 V8.out) hn (by decide) hn1 (by decide) hn2 (by decide)⟩
            simp only [List.map_toArray, List.map_cons, List.map_nil, Act.eval, getD_is t95, getD_is t96, getD_is t100]; exact hbd
          obtain rfl | hi1 : i = 9 ∨ 10 ≤ i := by omega
          · have hn1 := unlisted (n := 10) hcl hu (by kernel_rfl)
            have hn2 := unlisted (n := 11) hcl hn1 (by kernel_rfl)
            have hI := hP.pre hu
            have t101 : a1.tmps[101]? = some (.agg (grL x).toArray) := hI.get hR hr1 8 o8 (by kernel_rfl) (by decide) rfl V8.out
            exact wpOp_of_wp rfl rfl (wp_buildOne encGr (by decide) 37 (.tmp 101) rfl Try.underlying37 x (getD_is t101) ⟨_, rfl, RegT.build hI (fun j => by rw [HISO.out]) hn1 hn2 (by omega)⟩)
          obtain rfl | hi1 : i = 10 ∨ 11 ≤ i := by omega
          · have hn2 := unlisted (n := 11) hcl hu (by kernel_rfl)
            have h9 : listed.getD 9 false = true := dep_of hr1 (by kernel_rfl)
            have h0 : listed.getD 0 false = true := dep_of hr1 (by kernel_rfl)
            obtain ⟨hv, wq0, hb, rfl, e9⟩ := hP.mid h9 hu
            have v0 := hv 0 (by decide) h0
            have t93 : a1.tmps[93]? = some (.slice (some ⟨g, 0, none⟩) l.length cap) := (hR.dep hr1 0 (by kernel_rfl) (by decide) rfl).trans (by rw [v0, V0.out])
            have t102 : a1.tmps[102]? = some (.slice (some ⟨wq0.heap.size, 0, none⟩) 1 1) := (hR.dep hr1 9 (by kernel_rfl) (by decide) rfl).trans (by rw [e9])
            have ba := below_alloc (Below.refl wq0.heap.size wq0) (.cells (grL x).toArray 47)
            have hrow := RowsAt.one (enc := grL) (y := (x : Gr)) (heap_alloc_new wq0 (.cells (grL x).toArray 47))
            have oq := (HOW.out.below hb).below ba
            have bw := below_trans (below_trans HBW.out hb) ba
            refine wpOp_of_wp rfl rfl (wp_appendE encGr (.tmp 93) (.tmp 102) 37 rfl base Try.underlying37 (.slice (some ⟨g, 0, none⟩) l.length cap) l (getD_is t93) oq (some ⟨wq0.heap.size, 0, none⟩) 1 [x] (getD_is t102) hrow (Nat.le_trans (Nat.add_le_add_right hl 1) (by decide)) (Nat.le_trans (Nat.mul_le_mul_right 344 (Nat.add_le_add_right hl 1)) (by decide)) (Nat.le_trans HB00.out bw.size) ?_)
            intro v8 w8 ho8 hg8 hv8
            exact ⟨_, rfl, RegT.app ⟨ho8, grown_of bw hg8⟩ h9 hn2 (by omega)⟩
          obtain rfl : i = 11 := by omega
          have h10 : listed.getD 10 false = true := dep_of hr1 (by kernel_rfl)
          have h9 : listed.getD 9 false = true := by
            cases hq : listed.getD 9 false with
            | true => rfl
            | false => rw [unlisted (n := 10) hcl hq (by kernel_rfl)] at h10; cases h10
          have t103 : a1.tmps[103]? = some (vals 10) := hR.dep hr1 10 (by kernel_rfl) (by decide) rfl
          exact wpOp_val (v := vals 10) rfl rfl (by go_simp) ⟨_, rfl, RegT.assign hP h9 h10⟩
        · intro listed vals wq FF hP hall hFF
          have bfin := hP.fin (hall 10 (by decide))
          have easg := hP.asg (hall 11 (by decide))
          have hF2 : FF = (((((((((((Act.put _ (some 93) (vals 0)).put (some 94) (vals 1)).put (some 95) (vals 2)).put (some 96) (vals 3)).put (some 97) (vals 4)).put (some 98) (vals 5)).put (some 99) (vals 6)).put (some 100) (vals 7)).put (some 101) (vals 8)).put (some 102) (vals 9)).put (some 103) (vals 10)).put (some 8) (vals 11) := hFF
          simp only [putAll] at hF2
          rw [hF2]
          clear hF2 hFF hP hall
          rw [easg]
          go_frame
          obtain ⟨hf1, hf2⟩ := bfin
          have HF1 := Lib.hid hf1
          have HF2 := Lib.hid hf2
          clear hf1 hf2
          generalize vals 10 = v8 at *
          generalize vals 0 = x0
          generalize vals 1 = x1
          generalize vals 2 = x2
          generalize vals 3 = x3
          generalize vals 4 = x4
          generalize vals 5 = x5
          generalize vals 6 = x6
          generalize vals 7 = x7
          generalize vals 8 = x8
          generalize vals 9 = x9
          go_wp2_with fail
          go_ret
          exact ⟨_, rfl, by rw [HPX.out]; exact HF1.out, HF2.out⟩
      · have hkb : (gr.nm.key.toList == e.key.toList) = true := by simpa using hkey
        have HKEY := Lib.hid (toList_inj.1 hkey)
        clear hkey
        go_quiet (fail)
        go_upto_region 4 with fail
        have HWQ : Hid (Below w.heap.size w (w4.drewN nq)) := Lib.hid (below_drewN HW4.out nq)
        have HOQ : Hid (OwnE (w4.drewN nq) base 47 46 grL (.slice (some ⟨g, 0, none⟩) l.length cap) l) := Lib.hid HOWN.out
        have k3 : (w4.drewN nq).cell? ⟨w.heap.size + 1, 3, none⟩ = some (.string e.key) := k3
        have k4 : (w4.drewN nq).cell? ⟨w.heap.size + 1, 4, none⟩ = some (.float .f64 e.val) := k4
        have w0 : (w4.drewN nq).cell? ⟨w.heap.size + 1 + 1, 0, none⟩ = some (.int .i64 p.1) := w0
        have w1 : (w4.drewN nq).cell? ⟨w.heap.size + 1 + 1, 1, none⟩ = some (.int .i64 p.2) := w1
        have k0 : (w4.drewN nq).cell? ⟨w.heap.size, 0, none⟩ = some (.int .u8 (c.cf.kd : Int)) := k0
        have r0 : (w4.drewN nq).cell? ⟨g, k * 46, none⟩ = some (.string gr.nm.key) := r0
        have r1 : (w4.drewN nq).cell? ⟨g, k * 46 + 1, none⟩ = some (.int .i64 gr.nm.s) := r1
        have r2 : (w4.drewN nq).cell? ⟨g, k * 46 + 2, none⟩ = some (.int .i64 gr.nm.e) := r2
        have H3Q : Hid (Below (w.heap.size + 3) w3 (w4.drewN nq)) := Lib.hid (below_drewN HB.out nq)
        generalize w4.drewN nq = w5 at *
        clear HRR HB HB0 HB1 HB2 HOWN HW4
        obtain ⟨bb, hbb⟩ : ∃ bb : Bool, bb = decide (c.cf.kd = 2 ∧ meetB gr.nm.s gr.nm.e p.1 p.2 = true) := ⟨_, rfl⟩
        have HBBK := Lib.hid hbb
        clear hbb
        have hrw : w5.rangeAt g (k * 46 + 1) [.int .i64 gr.nm.s, .int .i64 gr.nm.e] := fun j v hj => by
          match j with
          | 0 => injection hj with hj; subst hj; exact r1
          | 1 => injection hj with hj; subst hj; exact r2
          | j + 2 => cases hj
        have hrp : w5.rangeAt (w.heap.size + 1 + 1) 0 [.int .i64 p.1, .int .i64 p.2] := fun j v hj => by
          match j with
          | 0 => injection hj with hj; subst hj; exact w0
          | 1 => injection hj with hj; subst hj; exact w1
          | j + 2 => cases hj
        have hg5 : g < w5.heap.size := (HOQ.out.lt g rfl).2
        have hw5 : w.heap.size + 1 + 1 < w5.heap.size := World.block_lt_of_cell? w5 _ w0
        go_cut [27] (fun b wx => b = .bool bb ∧ Below w5.heap.size w5 wx)
        case first =>
          by_cases h2 : c.cf.kd = 2
          · as_aux_lemma =>
            have hk2 : ((c.cf.kd : Int) == 2) = true := by simp; omega
            have hbm : bb = meetB gr.nm.s gr.nm.e p.1 p.2 := by rw [HBBK.out]; simp [h2]
            have rg1 : ∀ n os, (grow (w5.drewN n) os).cell? ⟨g, k * 46 + 1, none⟩ = some (.int .i64 gr.nm.s) := fun n os => (cell?_grow _ _ _ (by show g < w5.heap.size; exact hg5)).trans r1
            have rg2 : ∀ n os, (grow (w5.drewN n) os).cell? ⟨g, k * 46 + 2, none⟩ = some (.int .i64 gr.nm.e) := fun n os => (cell?_grow _ _ _ (by show g < w5.heap.size; exact hg5)).trans r2
            have wg0 : ∀ n os, (grow (w5.drewN n) os).cell? ⟨w.heap.size + 1 + 1, 0, none⟩ = some (.int .i64 p.1) := fun n os => (cell?_grow _ _ _ (by show w.heap.size + 1 + 1 < w5.heap.size; exact hw5)).trans w0
            have wg1 : ∀ n os, (grow (w5.drewN n) os).cell? ⟨w.heap.size + 1 + 1, 1, none⟩ = some (.int .i64 p.2) := fun n os => (cell?_grow _ _ _ (by show w.heap.size + 1 + 1 < w5.heap.size; exact hw5)).trans w1
            have mixed : Try.prog.follows .mixedOrders = true := by kernel_rfl
            have kg0 : ∀ n os, (grow (w5.drewN n) os).cell? ⟨w.heap.size, 0, none⟩ = some (.int .u8 (c.cf.kd : Int)) := fun n os => (cell?_grow _ _ _ (by show w.heap.size < w5.heap.size; omega)).trans k0
            have hmt := fun n os => (meet_any (gr.nm.s, gr.nm.e) p (grow (w5.drewN n) os)).mono (fun _ _ h => (⟨h.1, h.2⟩ : _ ∧ ∃ q os', _ = grow ((grow (w5.drewN n) os).drewN q) os'))
            subst hbm
            generalize meetB gr.nm.s gr.nm.e p.1 p.2 = bm at *
            clear hrw hrp h2
            go_quiet_grown (first | (go_at_call 23; refine Calls.grown_of (hmt _ _)))
            go_wp2_with fail
            go_meet
            exact ⟨rfl, (show Grew w5 _ from ⟨nq, osq, rfl⟩).below⟩
          · as_aux_lemma =>
            have hk2 : ((c.cf.kd : Int) == 2) = false := by simp; omega
            obtain rfl : bb = false := by rw [HBBK.out]; simp [h2]
            clear h2
            go_quiet (fail)
            go_wp2_with fail
            go_meet
            exact ⟨rfl, below_drewN (Below.refl _ _) nq⟩
        case rest =>
          obtain ⟨rfl, hb5⟩ := hcut
          have k3c : wc.cell? ⟨w.heap.size + 1, 3, none⟩ = some (.string e.key) := cell_below hb5 k3
          have k4c : wc.cell? ⟨w.heap.size + 1, 4, none⟩ = some (.float .f64 e.val) := cell_below hb5 k4
          have w0c := cell_below hb5 w0
          have w1c := cell_below hb5 w1
          have r1c := cell_below hb5 r1
          have r2c := cell_below hb5 r2
          have k0c := cell_below hb5 k0
          have hrw2 : wc.rangeAt g (k * 46 + 1) [.int .i64 gr.nm.s, .int .i64 gr.nm.e] := fun j v hj => cell_below hb5 (hrw j v hj)
          have HWC := Lib.hid (below_trans HWQ.out hb5)
          have H3C : Hid (Below (w.heap.size + 3) w3 wc) := Lib.hid (H3Q.out.trans (hb5.mono (by have := H3Q.out.size; have := SZ3.out; omega)))
          have HOC := Lib.hid (HOQ.out.below hb5)
          clear hrw hrp k0 k3 k4 w0 w1 r0 r1 r2 hb5 HWQ HOQ H3Q hg5 hw5 w5
          generalize hwc : wc = w7 at *
          clear hwc
          cases bb
          · have HNM : Hid (¬ (c.cf.kd = 2 ∧ meetB gr.nm.s gr.nm.e p.1 p.2 = true)) := Lib.hid (of_decide_eq_false HBBK.out.symm)
            clear HBBK
            go_upto_region 6 with fail
            by_cases hw : gr.nm.s = p.1 ∧ gr.nm.e = p.2
            · as_aux_lemma =>
              have HPX0 : Hid (putAt c.cf.kd l e p l.length = l.set k ⟨gr.nm, gr.xs ++ [e.val]⟩) := Lib.hid (by rw [← HP.out, putAt, HGR.out]; simp only; rw [if_pos HKEY.out, if_neg HNM.out, if_pos hw])
              obtain ⟨hw1, hw2⟩ := hw
              rw [← hw1] at w0c
              rw [← hw2] at w1c
              obtain ⟨CO, hco⟩ : ∃ C, C = asC (asOf gr.xs) := ⟨_, rfl⟩
              obtain ⟨CB, hcb⟩ : ∃ C, C = asC (addAS (asOf gr.xs) e.val) := ⟨_, rfl⟩
              have HCO := Lib.hid hco
              have HCO2 : Hid (CO.size = 43) := Lib.hid (by rw [hco, asC_size])
              have HCB2 : Hid (CB.size = 43) := Lib.hid (by rw [hcb, asC_size])
              have HCB1 : Hid (CB.all (·.oneCell') = true) := Lib.hid (by rw [hcb]; exact asC_one _)
              have hadd2 := fun w => add_as (asOf gr.xs) e.val w (HOK.out gr (List.mem_iff_getElem?.2 ⟨k, HGR.out⟩)) hx
              rw [← hco, ← hcb] at hadd2
              obtain ⟨y, hy⟩ : ∃ y : Gr, y = ⟨gr.nm, gr.xs ++ [e.val]⟩ := ⟨_, rfl⟩
              have hgy : grL y = grS (gr.nm) CB := by rw [hy, hcb]; unfold grL asOf; rw [List.foldl_append, List.foldl_cons, List.foldl_nil]
              have HY : Hid (∀ c, c < 46 → (grL y)[c]? = if 3 ≤ c ∧ c < 3 + CB.toList.length then CB.toList[c - 3]? else (grL gr)[c]?) := Lib.hid (by rw [hgy]; exact grS_state _ (asC (asOf gr.xs)) CB (asC_size _) HCB2.out)
              have HYE := Lib.hid hy
              clear hco hcb hgy hy
              have HPX : Hid (putAt c.cf.kd l e p l.length = l.set k y) := Lib.hid (by rw [HYE.out]; exact HPX0.out)
              clear HPX0
              go_quiet (fail)
              go_wp2_with fail
              have hLk := HGR.out
              have k4d : (w7.drewN nq).cell? ⟨w.heap.size + 1, 4, none⟩ = some (.float .f64 e.val) := k4c
              have HOD0 : Hid (OwnE (w7.drewN nq) base 47 46 grL (.slice (some ⟨g, 0, none⟩) l.length cap) l) := HOC
              have HPD0 : Hid (w.grownBy (w7.drewN nq) (some g)) := Lib.hid (grown_of_below (below_drewN HWC.out nq) _)
              clear HOC HWC k4c
              generalize w7.drewN nq = w9 at *
              obtain ⟨hrr, C9, hC9, hsz9, hlt9⟩ := OwnE.row encGr (HOD0.out) (i := k) (x := gr) hLk
              have hst : w9.rangeAt g (k * 46 + 3) CO.toList := by
                have hrr2 : w9.rangeAt g (k * 46) ([.string gr.nm.key, .int .i64 gr.nm.s, .int .i64 gr.nm.e] ++ (asC (asOf gr.xs)).toList) := hrr
                have := rangeAt_drop hrr2 rfl
                rw [HCO.out]; exact this
              have HST := Lib.hid hst
              have HK4 := Lib.hid k4d
              have HC9 := Lib.hid hC9
              have HSZ9 := Lib.hid hsz9
              clear hrr hC9 hsz9 hst
              have S45 : Hid ((Try.prog.info? 45).map (·.size) = some CO.size) := Lib.hid (by rw [HCO2.out]; exact Hs45.out)
              have S45B : Hid ((Try.prog.info? 45).map (·.size) = some CB.size) := Lib.hid (by rw [HCB2.out]; exact Hs45.out)
              obtain ⟨CV, hCV⟩ : ∃ CV : Nat → Value, CV = fun j => match j with
                | 0 => .slice (some ⟨g, 0, none⟩) l.length cap
                | 1 => .int .i64 (k : Int)
                | 2 => .slice (some ⟨g, 0, none⟩) l.length cap
                | 3 => .int .i64 (k : Int)
                | 4 => .pointer (some ⟨g, k * 46, none⟩)
                | 5 => .pointer (some ⟨g, k * 46 + 3, none⟩)
                | 6 => .agg CO
                | 7 => .pointer (some ⟨w.heap.size + 1, 4, none⟩)
                | 8 => .float .f64 e.val
                | 9 => .agg CB
                | 10 => .pointer (some ⟨g, k * 46, none⟩)
                | 11 => .pointer (some ⟨g, k * 46 + 3, none⟩)
                | 12 => undef
                | _ => undef := ⟨_, rfl⟩
              obtain ⟨isO, hO⟩ : ∃ isO : Nat → Bool, isO = fun j => match j with
                | _ => false := ⟨_, rfl⟩
              obtain ⟨BL, hBL⟩ : ∃ BL : Nat → List Int, BL = fun j => match j with
                | _ => [] := ⟨_, rfl⟩
              have v0 : CV 0 = .slice (some ⟨g, 0, none⟩) l.length cap := congrFun hCV 0
              have o0 : isO 0 = false := congrFun hO 0
              have v1 : CV 1 = .int .i64 (k : Int) := congrFun hCV 1
              have o1 : isO 1 = false := congrFun hO 1
              have v2 : CV 2 = .slice (some ⟨g, 0, none⟩) l.length cap := congrFun hCV 2
              have o2 : isO 2 = false := congrFun hO 2
              have v3 : CV 3 = .int .i64 (k : Int) := congrFun hCV 3
              have o3 : isO 3 = false := congrFun hO 3
              have v4 : CV 4 = .pointer (some ⟨g, k * 46, none⟩) := congrFun hCV 4
              have o4 : isO 4 = false := congrFun hO 4
              have v5 : CV 5 = .pointer (some ⟨g, k * 46 + 3, none⟩) := congrFun hCV 5
              have o5 : isO 5 = false := congrFun hO 5
              have v6 : CV 6 = .agg CO := congrFun hCV 6
              have o6 : isO 6 = false := congrFun hO 6
              have v7 : CV 7 = .pointer (some ⟨w.heap.size + 1, 4, none⟩) := congrFun hCV 7
              have o7 : isO 7 = false := congrFun hO 7
              have v8 : CV 8 = .float .f64 e.val := congrFun hCV 8
              have o8 : isO 8 = false := congrFun hO 8
              have v9 : CV 9 = .agg CB := congrFun hCV 9
              have o9 : isO 9 = false := congrFun hO 9
              have v10 : CV 10 = .pointer (some ⟨g, k * 46, none⟩) := congrFun hCV 10
              have o10 : isO 10 = false := congrFun hO 10
              have v11 : CV 11 = .pointer (some ⟨g, k * 46 + 3, none⟩) := congrFun hCV 11
              have o11 : isO 11 = false := congrFun hO 11
              have v12 : CV 12 = undef := congrFun hCV 12
              have o12 : isO 12 = false := congrFun hO 12
              clear hCV hO hBL
              have V0 := Lib.hid v0
              have V1 := Lib.hid v1
              have V2 := Lib.hid v2
              have V3 := Lib.hid v3
              have V4 := Lib.hid v4
              have V5 := Lib.hid v5
              have V6 := Lib.hid v6
              have V7 := Lib.hid v7
              have V8 := Lib.hid v8
              have V9 := Lib.hid v9
              have V10 := Lib.hid v10
              have V11 := Lib.hid v11
              have V12 := Lib.hid v12
              clear v0 v1 v2 v3 v4 v5 v6 v7 v8 v9 v10 v11 v12
              refine region_run (RegF w9 12 (fun wz => ∃ wq, Below w9.heap.size w9 wq ∧ wz = wq.setCells g (k * 46 + 3) CB.toList) isO BL CV) (by kernel_rfl) (by kernel_rfl) (by kernel_rfl) (by kernel_rfl) (RegF.start w9 12 13 _) ?_ ?_
              · intro listed vals a1 wq i hs hcl hP hR hi hu hr1
                replace hi : i < 13 := hi
                replace hs : listed.size = 13 := hs
                obtain rfl | hi1 : i = 0 ∨ 1 ≤ i := by omega
                · have hn := (unlisted (n := 12) hcl (unlisted (n := 11) hcl (unlisted (n := 10) hcl hu (by kernel_rfl)) (by kernel_rfl)) (by kernel_rfl))
                  have hI := hP.pre hn
                  have t1 := hR.fixed 1 (by kernel_rfl) rfl
                  exact wpOp_val rfl rfl (by rw [V0.out]; go_simp) ⟨_, rfl, RegF.of (hI.keep (Below.refl _ _) 0 o0) hn (by decide)⟩
                obtain rfl | hi1 : i = 1 ∨ 2 ≤ i := by omega
                · have hn := (unlisted (n := 12) hcl (unlisted (n := 11) hcl (unlisted (n := 10) hcl hu (by kernel_rfl)) (by kernel_rfl)) (by kernel_rfl))
                  have hI := hP.pre hn
                  have t9 := hR.fixed 9 (by kernel_rfl) rfl
                  exact wpOp_val rfl rfl (by rw [V1.out]; go_simp) ⟨_, rfl, RegF.of (hI.keep (Below.refl _ _) 1 o1) hn (by decide)⟩
                obtain rfl | hi1 : i = 2 ∨ 3 ≤ i := by omega
                · have hn := (unlisted (n := 12) hcl (unlisted (n := 9) hcl (unlisted (n := 6) hcl (unlisted (n := 5) hcl (unlisted (n := 4) hcl hu (by kernel_rfl)) (by kernel_rfl)) (by kernel_rfl)) (by kernel_rfl)) (by kernel_rfl))
                  have hI := hP.pre hn
                  have t1 := hR.fixed 1 (by kernel_rfl) rfl
                  exact wpOp_val rfl rfl (by rw [V2.out]; go_simp) ⟨_, rfl, RegF.of (hI.keep (Below.refl _ _) 2 o2) hn (by decide)⟩
                obtain rfl | hi1 : i = 3 ∨ 4 ≤ i := by omega
                · have hn := (unlisted (n := 12) hcl (unlisted (n := 9) hcl (unlisted (n := 6) hcl (unlisted (n := 5) hcl (unlisted (n := 4) hcl hu (by kernel_rfl)) (by kernel_rfl)) (by kernel_rfl)) (by kernel_rfl)) (by kernel_rfl))
                  have hI := hP.pre hn
                  have t9 := hR.fixed 9 (by kernel_rfl) rfl
                  exact wpOp_val rfl rfl (by rw [V3.out]; go_simp) ⟨_, rfl, RegF.of (hI.keep (Below.refl _ _) 3 o3) hn (by decide)⟩
                obtain rfl | hi1 : i = 4 ∨ 5 ≤ i := by omega
                · have hn := (unlisted (n := 12) hcl (unlisted (n := 9) hcl (unlisted (n := 6) hcl (unlisted (n := 5) hcl hu (by kernel_rfl)) (by kernel_rfl)) (by kernel_rfl)) (by kernel_rfl))
                  have hI := hP.pre hn
                  have t82 : a1.tmps[82]? = some (.slice (some ⟨g, 0, none⟩) l.length cap) := hI.get hR hr1 2 o2 (by kernel_rfl) (by decide) rfl V2.out
                  have t83 : a1.tmps[83]? = some (.int .i64 (k : Int)) := hI.get hR hr1 3 o3 (by kernel_rfl) (by decide) rfl V3.out
                  exact wpOp_val rfl rfl (by rw [V4.out]; go_simp) ⟨_, rfl, RegF.of (hI.keep (Below.refl _ _) 4 o4) hn (by decide)⟩
                obtain rfl | hi1 : i = 5 ∨ 6 ≤ i := by omega
                · have hn := (unlisted (n := 12) hcl (unlisted (n := 9) hcl (unlisted (n := 6) hcl hu (by kernel_rfl)) (by kernel_rfl)) (by kernel_rfl))
                  have hI := hP.pre hn
                  have t84 : a1.tmps[84]? = some (.pointer (some ⟨g, k * 46, none⟩)) := hI.get hR hr1 4 o4 (by kernel_rfl) (by decide) rfl V4.out
                  exact wpOp_val rfl rfl (by rw [V5.out]; go_simp) ⟨_, rfl, RegF.of (hI.keep (Below.refl _ _) 5 o5) hn (by decide)⟩
                obtain rfl | hi1 : i = 6 ∨ 7 ≤ i := by omega
                · have hn := (unlisted (n := 12) hcl (unlisted (n := 9) hcl hu (by kernel_rfl)) (by kernel_rfl))
                  have hI := hP.pre hn
                  have t85 : a1.tmps[85]? = some (.pointer (some ⟨g, k * 46 + 3, none⟩)) := hI.get hR hr1 5 o5 (by kernel_rfl) (by decide) rfl V5.out
                  exact wpOp_mid rfl rfl 45 (.tmp 85) rfl g (k * 46 + 3) (getD_is t85) CO _ (range_below hI.b HST.out) Try.underlying45 rfl S45.out ⟨_, rfl, RegF.of (hI.keepV (Below.refl _ _) 6 o6 V6.out) hn (by decide)⟩
                obtain rfl | hi1 : i = 7 ∨ 8 ≤ i := by omega
                · have hn := (unlisted (n := 12) hcl (unlisted (n := 9) hcl (unlisted (n := 8) hcl hu (by kernel_rfl)) (by kernel_rfl)) (by kernel_rfl))
                  have hI := hP.pre hn
                  have t6 := hR.fixed 6 (by kernel_rfl) rfl
                  exact wpOp_val rfl rfl (by rw [V7.out]; go_simp) ⟨_, rfl, RegF.of (hI.keep (Below.refl _ _) 7 o7) hn (by decide)⟩
                obtain rfl | hi1 : i = 8 ∨ 9 ≤ i := by omega
                · have hn := (unlisted (n := 12) hcl (unlisted (n := 9) hcl hu (by kernel_rfl)) (by kernel_rfl))
                  have hI := hP.pre hn
                  have t87 : a1.tmps[87]? = some (.pointer (some ⟨w.heap.size + 1, 4, none⟩)) := hI.get hR hr1 7 o7 (by kernel_rfl) (by decide) rfl V7.out
                  have cc := cell_below hI.b HK4.out
                  exact wpOp_val rfl rfl (by rw [V8.out]; go_simp) ⟨_, rfl, RegF.of (hI.keep (Below.refl _ _) 8 o8) hn (by decide)⟩
                obtain rfl | hi1 : i = 9 ∨ 10 ≤ i := by omega
                · have hn := (unlisted (n := 12) hcl hu (by kernel_rfl))
                  have hI := hP.pre hn
                  have t86 : a1.tmps[86]? = some (.agg CO) := hI.get hR hr1 6 o6 (by kernel_rfl) (by decide) rfl V6.out
                  have t88 : a1.tmps[88]? = some (.float .f64 e.val) := hI.get hR hr1 8 o8 (by kernel_rfl) (by decide) rfl V8.out
                  have hc1 := hadd2 wq
                  refine wpOp_calls (f := 42) (args := #[.agg CO, .float .f64 e.val]) rfl rfl (by go_simp) (hc1.mono ?_)
                  rintro e wz ⟨rfl, b⟩
                  exact ⟨_, rfl, _, rfl, RegF.of (hI.keepV b 9 o9 V9.out) hn (by decide)⟩
                obtain rfl | hi1 : i = 10 ∨ 11 ≤ i := by omega
                · have hn := (unlisted (n := 12) hcl (unlisted (n := 11) hcl hu (by kernel_rfl)) (by kernel_rfl))
                  have hI := hP.pre hn
                  have t80 : a1.tmps[80]? = some (.slice (some ⟨g, 0, none⟩) l.length cap) := hI.get hR hr1 0 o0 (by kernel_rfl) (by decide) rfl V0.out
                  have t81 : a1.tmps[81]? = some (.int .i64 (k : Int)) := hI.get hR hr1 1 o1 (by kernel_rfl) (by decide) rfl V1.out
                  exact wpOp_val rfl rfl (by rw [V10.out]; go_simp) ⟨_, rfl, RegF.of (hI.keep (Below.refl _ _) 10 o10) hn (by decide)⟩
                obtain rfl | hi1 : i = 11 ∨ 12 ≤ i := by omega
                · have hn := (unlisted (n := 12) hcl hu (by kernel_rfl))
                  have hI := hP.pre hn
                  have t90 : a1.tmps[90]? = some (.pointer (some ⟨g, k * 46, none⟩)) := hI.get hR hr1 10 o10 (by kernel_rfl) (by decide) rfl V10.out
                  exact wpOp_val rfl rfl (by rw [V11.out]; go_simp) ⟨_, rfl, RegF.of (hI.keep (Below.refl _ _) 11 o11) hn (by decide)⟩
                obtain rfl : i = 12 := by omega
                have hI := hP.pre hu
                have t91 : a1.tmps[91]? = some (.pointer (some ⟨g, k * 46 + 3, none⟩)) := hI.get hR hr1 11 o11 (by kernel_rfl) (by decide) rfl V11.out
                have t89 : a1.tmps[89]? = some (.agg CB) := hI.get hR hr1 9 o9 (by kernel_rfl) (by decide) rfl V9.out
                have kk := (hI.b.block g (heap_lt HC9.out)).trans HC9.out
                have hszz := HSZ9.out
                have hcz := HCB2.out
                exact wpOp_of_wp rfl rfl (wp_store_mid 45 (.tmp 91) (.tmp 89) rfl g (k * 46 + 3) CB (getD_is t91) (getD_is t89) (fun j hj => ⟨by rw [cell_of_row _ _ _ _ _ _ kk, Array.getElem?_eq_getElem (by omega)]; rfl, frozen_of_row kk _⟩) S45B.out HCB1.out ⟨undef, rfl, RegF.done ⟨wq, hI.b, rfl⟩ (by omega)⟩)
              · intro listed vals wq FF hP hall hFF
                have bfin := hP.fin (hall 12 (by decide))
                have hF2 : FF = ((((((((((((Act.put _ (some 80) (vals 0)).put (some 81) (vals 1)).put (some 82) (vals 2)).put (some 83) (vals 3)).put (some 84) (vals 4)).put (some 85) (vals 5)).put (some 86) (vals 6)).put (some 87) (vals 7)).put (some 88) (vals 8)).put (some 89) (vals 9)).put (some 90) (vals 10)).put (some 91) (vals 11)).put none (vals 12) := hFF
                simp only [putAll] at hF2
                rw [hF2]
                clear hF2 hFF hP hall
                go_frame
                obtain ⟨wq, bq, rfl⟩ := bfin
                have cq := (bq.block g (heap_lt HC9.out)).trans HC9.out
                have oq := (HOD0.out).below bq
                have st9 := OwnE.setIn encGr oq cq hLk (y := y) 3 CB.toList (by rw [Array.length_toList, HCB2.out]; decide) HY.out
                rw [setCells_eq_setRow _ _ _ _ _ _ _ cq (fun q => by have := congrArg List.length q; rw [Array.length_toList, HCB2.out] at this; cases this)]
                have HF9 := Lib.hid st9
                clear st9 cq oq
                generalize vals 0 = x0
                generalize vals 1 = x1
                generalize vals 2 = x2
                generalize vals 3 = x3
                generalize vals 4 = x4
                generalize vals 5 = x5
                generalize vals 6 = x6
                generalize vals 7 = x7
                generalize vals 8 = x8
                generalize vals 9 = x9
                generalize vals 10 = x10
                generalize vals 11 = x11
                generalize vals 12 = x12
                generalize wq.setRow g (setMany C9 (k * 46 + 3) CB.toList) = wf at *
                go_wp2_with fail
                go_ret
                exact ⟨_, rfl, by rw [HPX.out]; exact HF9.out.1, grown_trans (grown_trans (HPD0.out) (grown_of_below bq none) (fun q h => by cases h)) HF9.out.2 (fun q h => .inl h)⟩
            ·
              have HPN : Hid (k + 32 ≤ l.length ∨ c.cf.kd ≠ 1 → putAt c.cf.kd l e p l.length = l ++ [x]) := Lib.hid (fun q => by rw [← HP.out, HXE.out, putAt, HGR.out]; simp only; rw [if_pos HKEY.out, if_neg HNM.out, if_neg hw, if_pos q])
              have HPK : Hid (¬ (k + 32 ≤ l.length ∨ c.cf.kd ≠ 1) → putAt c.cf.kd l e p k = putAt c.cf.kd l e p l.length) := Lib.hid (fun q => by rw [← HP.out]; conv => rhs; rw [putAt, HGR.out]; simp only; rw [if_pos HKEY.out, if_neg HNM.out, if_neg hw, if_neg q])
              have hcase : gr.nm.s ≠ p.1 ∨ gr.nm.s = p.1 ∧ gr.nm.e ≠ p.2 := by
                by_cases q : gr.nm.s = p.1
                · exact .inr ⟨q, fun q2 => hw ⟨q, q2⟩⟩
                · exact .inl q
              clear hw
              go_cut [51] (fun b wx => b = .bool true ∧ ∃ n, wx = w7.drewN n)
              case first => as_aux_lemma =>
                rcases hcase with q | ⟨q, q2⟩
                · have hq1 : (gr.nm.s == p.1) = false := by simpa using q
                  clear q
                  go_quiet (fail)
                  go_wp2_with fail
                  go_meet
                  exact ⟨rfl, _, rfl⟩
                · rw [← q] at w0c
                  have hq1 : (gr.nm.e == p.2) = false := by simpa using q2
                  clear q q2
                  go_quiet (fail)
                  go_wp2_with fail
                  go_meet
                  exact ⟨rfl, _, rfl⟩
              case rest =>
              obtain ⟨rfl, nq, rfl⟩ := hcut
              clear hcase
              have hb7 : Below w7.heap.size w7 (w7.drewN nq) := below_drewN (Below.refl _ _) nq
              have k3d : (w7.drewN nq).cell? ⟨w.heap.size + 1, 3, none⟩ = some (.string e.key) := k3c
              have k4d : (w7.drewN nq).cell? ⟨w.heap.size + 1, 4, none⟩ = some (.float .f64 e.val) := k4c
              have w0d : (w7.drewN nq).cell? ⟨w.heap.size + 1 + 1, 0, none⟩ = some (.int .i64 p.1) := w0c
              have w1d : (w7.drewN nq).cell? ⟨w.heap.size + 1 + 1, 1, none⟩ = some (.int .i64 p.2) := w1c
              have k0d : (w7.drewN nq).cell? ⟨w.heap.size, 0, none⟩ = some (.int .u8 (c.cf.kd : Int)) := k0c
              have HOD0 : Hid (OwnE (w7.drewN nq) base 47 46 grL (.slice (some ⟨g, 0, none⟩) l.length cap) l) := HOC
              have HWD : Hid (Below w.heap.size w (w7.drewN nq)) := Lib.hid (below_drewN HWC.out nq)
              have H3D : Hid (Below (w.heap.size + 3) w3 (w7.drewN nq)) := Lib.hid (below_drewN H3C.out nq)
              clear HOC HWC H3C k3c k4c w0c w1c k0c r1c r2c hrw2 hb7
              generalize w7.drewN nq = w9 at *
              obtain ⟨br, hbr⟩ : ∃ br : Bool, br = decide (k + 32 ≤ l.length ∨ c.cf.kd ≠ 1) := ⟨_, rfl⟩
              have HBR := Lib.hid hbr
              clear hbr
              have wl32 : IntKind.i64.wrap ((l.length : Int) - 32) = (l.length : Int) - 32 := by rw [IntKind.wrap_i64]; omega
              go_upto_region 7 with fail
              go_cut [68] (fun b wx => b = .bool br ∧ w9 = wx)
              case first => as_aux_lemma =>
                by_cases h1 : k + 32 ≤ l.length
                · obtain rfl : br = true := by rw [HBR.out]; simp [h1]
                  have h1z : (k : Int) ≤ (l.length : Int) - 32 := by omega
                  go_wp2_with fail
                  go_meet
                  exact ⟨rfl, rfl⟩
                · have h1z : ¬ (k : Int) ≤ (l.length : Int) - 32 := by omega
                  by_cases h2 : c.cf.kd = 1
                  · obtain rfl : br = false := by rw [HBR.out]; simp [h1, h2]
                    have hk1 : ((c.cf.kd : Int) != 1) = false := by simp; omega
                    clear h2
                    go_wp2_with fail
                    go_meet
                    exact ⟨rfl, rfl⟩
                  · obtain rfl : br = true := by rw [HBR.out]; simp [h2]
                    have hk1 : ((c.cf.kd : Int) != 1) = true := by simp; omega
                    clear h2
                    go_wp2_with fail
                    go_meet
                    exact ⟨rfl, rfl⟩
              case rest =>
              obtain ⟨rfl, rfl⟩ := hcut
              cases br
              ·
                have HPX := Lib.hid (HPK.out (of_decide_eq_false HBR.out.symm))
                clear HPN HPK
                go_wp2_with fail
                go_roundg k
                case measure => omega
                case rel => exact ⟨k, rfl, by omega, Nat.le_refl _, H3D, HPX⟩
              · as_aux_lemma =>
                have HPX := Lib.hid (HPN.out (of_decide_eq_true HBR.out.symm))
                clear HPN HPK
                go_wp2_with fail
                have HK3 := Lib.hid k3d
                have HK4 := Lib.hid k4d
                have HRP : Hid (w9.rangeAt (w.heap.size + 1 + 1) 0 (#[.int .i64 p.1, .int .i64 p.2] : Array Value).toList) := Lib.hid (fun j v hj => by
                  match j with
                  | 0 => injection hj with hj; subst hj; exact w0d
                  | 1 => injection hj with hj; subst hj; exact w1d
                  | j + 2 => cases hj)
                have HOW : Hid (OwnE w9 base 47 46 grL (.slice (some ⟨g, 0, none⟩) l.length cap) l) := Lib.hid (HOD0.out)
                have HBW : Hid (Below w.heap.size w w9) := Lib.hid (HWD.out)
                obtain ⟨CV, hCV⟩ : ∃ CV : Nat → Value, CV = fun j => match j with
                  | 0 => .slice (some ⟨g, 0, none⟩) l.length cap
                  | 1 => .pointer (some ⟨w.heap.size + 1, 3, none⟩)
                  | 2 => .string e.key
                  | 3 => .agg #[.int .i64 p.1, .int .i64 p.2]
                  | 4 => .agg CN
                  | 5 => .pointer (some ⟨w.heap.size + 1, 4, none⟩)
                  | 6 => .float .f64 e.val
                  | 7 => .agg CA
                  | 8 => .agg (grL x).toArray
                  | 9 => undef
                  | 10 => undef
                  | 11 => undef
                  | _ => undef := ⟨_, rfl⟩
                obtain ⟨isO, hO⟩ : ∃ isO : Nat → Bool, isO = fun j => match j with
                  | _ => false := ⟨_, rfl⟩
                obtain ⟨BL, hBL⟩ : ∃ BL : Nat → List Int, BL = fun j => match j with
                  | _ => [] := ⟨_, rfl⟩
                have v0 : CV 0 = .slice (some ⟨g, 0, none⟩) l.length cap := congrFun hCV 0
                have HISO := Lib.hid hO
                have o0 : isO 0 = false := congrFun hO 0
                have v1 : CV 1 = .pointer (some ⟨w.heap.size + 1, 3, none⟩) := congrFun hCV 1
                have o1 : isO 1 = false := congrFun hO 1
                have v2 : CV 2 = .string e.key := congrFun hCV 2
                have o2 : isO 2 = false := congrFun hO 2
                have v3 : CV 3 = .agg #[.int .i64 p.1, .int .i64 p.2] := congrFun hCV 3
                have o3 : isO 3 = false := congrFun hO 3
                have v4 : CV 4 = .agg CN := congrFun hCV 4
                have o4 : isO 4 = false := congrFun hO 4
                have v5 : CV 5 = .pointer (some ⟨w.heap.size + 1, 4, none⟩) := congrFun hCV 5
                have o5 : isO 5 = false := congrFun hO 5
                have v6 : CV 6 = .float .f64 e.val := congrFun hCV 6
                have o6 : isO 6 = false := congrFun hO 6
                have v7 : CV 7 = .agg CA := congrFun hCV 7
                have o7 : isO 7 = false := congrFun hO 7
                have v8 : CV 8 = .agg (grL x).toArray := congrFun hCV 8
                have o8 : isO 8 = false := congrFun hO 8
                have v9 : CV 9 = undef := congrFun hCV 9
                have o9 : isO 9 = false := congrFun hO 9
                have v10 : CV 10 = undef := congrFun hCV 10
                have o10 : isO 10 = false := congrFun hO 10
                have v11 : CV 11 = undef := congrFun hCV 11
                have o11 : isO 11 = false := congrFun hO 11
                clear hCV hO hBL
                have V0 := Lib.hid v0
                have V1 := Lib.hid v1
                have V2 := Lib.hid v2
                have V3 := Lib.hid v3
                have V4 := Lib.hid v4
                have V5 := Lib.hid v5
                have V6 := Lib.hid v6
                have V7 := Lib.hid v7
                have V8 := Lib.hid v8
                have V9 := Lib.hid v9
                have V10 := Lib.hid v10
                have V11 := Lib.hid v11
                clear v0 v1 v2 v3 v4 v5 v6 v7 v8 v9 v10 v11
                refine region_run (RegT w9 9 (.cells (grL x).toArray 47) (fun v8 w8 => OwnE w8 base 47 46 grL v8 (l ++ [x]) ∧ w.grownBy w8 (Value.slice (some ⟨g, 0, none⟩) l.length cap).ownBlock) isO BL CV) (by kernel_rfl) (by kernel_rfl) (by kernel_rfl) (by kernel_rfl) (RegT.start w9 9 12 _ _) ?_ ?_
                · intro listed vals a1 wq i hs hcl hP hR hi hu hr1
                  replace hi : i < 12 := hi
                  replace hs : listed.size = 12 := hs
                  obtain rfl | hi1 : i = 0 ∨ 1 ≤ i := by omega
                  · have t1 := hR.fixed 1 (by kernel_rfl) rfl
                    cases hq : listed.getD 9 false with
                    | false =>
                      have hn1 := unlisted (n := 10) hcl hq (by kernel_rfl)
                      have hn2 := unlisted (n := 11) hcl hn1 (by kernel_rfl)
                      have hI := hP.pre hq
                      exact wpOp_val rfl rfl (by rw [V0.out]; go_simp) ⟨_, rfl, RegT.of (hI.keep (Below.refl _ _) 0 o0) hq (by decide) hn1 (by decide) hn2 (by decide)⟩
                    | true =>
                      have hn1 : listed.getD 10 false = false := unlisted (n := 10) hcl hu (by kernel_rfl)
                      have hn2 := unlisted (n := 11) hcl hn1 (by kernel_rfl)
                      exact wpOp_val rfl rfl (by rw [V0.out]; go_simp) ⟨_, rfl, RegT.midkeep hP hq hn1 hn2 0 (by decide)⟩
                  obtain rfl | hi1 : i = 1 ∨ 2 ≤ i := by omega
                  · have hn := (unlisted (n := 9) hcl (unlisted (n := 8) hcl (unlisted (n := 2) hcl hu (by kernel_rfl)) (by kernel_rfl)) (by kernel_rfl))
                    have hn1 := unlisted (n := 10) hcl hn (by kernel_rfl)
                    have hn2 := unlisted (n := 11) hcl hn1 (by kernel_rfl)
                    have hI := hP.pre hn
                    have t6 := hR.fixed 6 (by kernel_rfl) rfl
                    exact wpOp_val rfl rfl (by rw [V1.out]; go_simp) ⟨_, rfl, RegT.of (hI.keep (Below.refl _ _) 1 o1) hn (by decide) hn1 (by decide) hn2 (by decide)⟩
                  obtain rfl | hi1 : i = 2 ∨ 3 ≤ i := by omega
                  · have hn := (unlisted (n := 9) hcl (unlisted (n := 8) hcl hu (by kernel_rfl)) (by kernel_rfl))
                    have hn1 := unlisted (n := 10) hcl hn (by kernel_rfl)
                    have hn2 := unlisted (n := 11) hcl hn1 (by kernel_rfl)
                    have hI := hP.pre hn
                    have t70 : a1.tmps[70]? = some (.pointer (some ⟨w.heap.size + 1, 3, none⟩)) := hI.get hR hr1 1 o1 (by kernel_rfl) (by decide) rfl V1.out
                    have cc := cell_below hI.b HK3.out
                    exact wpOp_val rfl rfl (by rw [V2.out]; go_simp) ⟨_, rfl, RegT.of (hI.keep (Below.refl _ _) 2 o2) hn (by decide) hn1 (by decide) hn2 (by decide)⟩
                  obtain rfl | hi1 : i = 3 ∨ 4 ≤ i := by omega
                  · have hn := (unlisted (n := 9) hcl (unlisted (n := 8) hcl hu (by kernel_rfl)) (by kernel_rfl))
                    have hn1 := unlisted (n := 10) hcl hn (by kernel_rfl)
                    have hn2 := unlisted (n := 11) hcl hn1 (by kernel_rfl)
                    have hI := hP.pre hn
                    have t7 := hR.fixed 7 (by kernel_rfl) rfl
                    exact wpOp_mid rfl rfl 40 (.tmp 7) rfl (w.heap.size + 1 + 1) 0 (getD_is t7) #[.int .i64 p.1, .int .i64 p.2] _ (range_below hI.b HRP.out) Try.underlying40 rfl Hs40.out ⟨_, rfl, RegT.of (hI.keepV (Below.refl _ _) 3 o3 V3.out) hn (by decide) hn1 (by decide) hn2 (by decide)⟩
                  obtain rfl | hi1 : i = 4 ∨ 5 ≤ i := by omega
                  · have hn := (unlisted (n := 9) hcl (unlisted (n := 8) hcl (unlisted (n := 7) hcl hu (by kernel_rfl)) (by kernel_rfl)) (by kernel_rfl))
                    have hn1 := unlisted (n := 10) hcl hn (by kernel_rfl)
                    have hn2 := unlisted (n := 11) hcl hn1 (by kernel_rfl)
                    have hI := hP.pre hn
                    have hbd := HNS.out
                    refine wpOp_build rfl rfl 45 _ rfl (CN) ?_ ⟨_, rfl, RegT.of (hI.keepV (Below.refl _ _) 4 o4 V4.out) hn (by decide) hn1 (by decide) hn2 (by decide)⟩
                    simp only [List.map_toArray, List.map_nil]; exact hbd
                  obtain rfl | hi1 : i = 5 ∨ 6 ≤ i := by omega
                  · have hn := (unlisted (n := 9) hcl (unlisted (n := 8) hcl (unlisted (n := 7) hcl (unlisted (n := 6) hcl hu (by kernel_rfl)) (by kernel_rfl)) (by kernel_rfl)) (by kernel_rfl))
                    have hn1 := unlisted (n := 10) hcl hn (by kernel_rfl)
                    have hn2 := unlisted (n := 11) hcl hn1 (by kernel_rfl)
                    have hI := hP.pre hn
                    have t6 := hR.fixed 6 (by kernel_rfl) rfl
                    exact wpOp_val rfl rfl (by rw [V5.out]; go_simp) ⟨_, rfl, RegT.of (hI.keep (Below.refl _ _) 5 o5) hn (by decide) hn1 (by decide) hn2 (by decide)⟩
                  obtain rfl | hi1 : i = 6 ∨ 7 ≤ i := by omega
                  · have hn := (unlisted (n := 9) hcl (unlisted (n := 8) hcl (unlisted (n := 7) hcl hu (by kernel_rfl)) (by kernel_rfl)) (by kernel_rfl))
                    have hn1 := unlisted (n := 10) hcl hn (by kernel_rfl)
                    have hn2 := unlisted (n := 11) hcl hn1 (by kernel_rfl)
                    have hI := hP.pre hn
                    have t74 : a1.tmps[74]? = some (.pointer (some ⟨w.heap.size + 1, 4, none⟩)) := hI.get hR hr1 5 o5 (by kernel_rfl) (by decide) rfl V5.out
                    have cc := cell_below hI.b HK4.out
                    exact wpOp_val rfl rfl (by rw [V6.out]; go_simp) ⟨_, rfl, RegT.of (hI.keep (Below.refl _ _) 6 o6) hn (by decide) hn1 (by decide) hn2 (by decide)⟩
                  obtain rfl | hi1 : i = 7 ∨ 8 ≤ i := by omega
                  · have hn := (unlisted (n := 9) hcl (unlisted (n := 8) hcl hu (by kernel_rfl)) (by kernel_rfl))
                    have hn1 := unlisted (n := 10) hcl hn (by kernel_rfl)
                    have hn2 := unlisted (n := 11) hcl hn1 (by kernel_rfl)
                    have hI := hP.pre hn
                    have t73 : a1.tmps[73]? = some (.agg CN) := hI.get hR hr1 4 o4 (by kernel_rfl) (by decide) rfl V4.out
                    have t75 : a1.tmps[75]? = some (.float .f64 e.val) := hI.get hR hr1 6 o6 (by kernel_rfl) (by decide) rfl V6.out
                    have hc1 := hadd wq
                    refine wpOp_calls (f := 42) (args := #[.agg CN, .float .f64 e.val]) rfl rfl (by go_simp) (hc1.mono ?_)
                    rintro e wz ⟨rfl, b⟩
                    exact ⟨_, rfl, _, rfl, RegT.of (hI.keepV b 7 o7 V7.out) hn (by decide) hn1 (by decide) hn2 (by decide)⟩
                  obtain rfl | hi1 : i = 8 ∨ 9 ≤ i := by omega
                  · have hn := (unlisted (n := 9) hcl hu (by kernel_rfl))
                    have hn1 := unlisted (n := 10) hcl hn (by kernel_rfl)
                    have hn2 := unlisted (n := 11) hcl hn1 (by kernel_rfl)
                    have hI := hP.pre hn
                    have t71 : a1.tmps[71]? = some (.string e.key) := hI.get hR hr1 2 o2 (by kernel_rfl) (by decide) rfl V2.out
                    have t72 : a1.tmps[72]? = some (.agg #[.int .i64 p.1, .int .i64 p.2]) := hI.get hR hr1 3 o3 (by kernel_rfl) (by decide) rfl V3.out
                    have t76 : a1.tmps[76]? = some (.agg CA) := hI.get hR hr1 7 o7 (by kernel_rfl) (by decide) rfl V7.out
                    have hbd := HBG.out
                    refine wpOp_build rfl rfl 47 _ rfl ((grL x).toArray) ?_ ⟨_, rfl, RegT.of (hI.keepV (Below.refl _ _) 8 o8 V8.out) hn (by decide) hn1 (by decide) hn2 (by decide)⟩
                    simp only [List.map_toArray, List.map_cons, List.map_nil, Act.eval, getD_is t71, getD_is t72, getD_is t76]; exact hbd
                  obtain rfl | hi1 : i = 9 ∨ 10 ≤ i := by omega
                  · have hn1 := unlisted (n := 10) hcl hu (by kernel_rfl)
                    have hn2 := unlisted (n := 11) hcl hn1 (by kernel_rfl)
                    have hI := hP.pre hu
                    have t77 : a1.tmps[77]? = some (.agg (grL x).toArray) := hI.get hR hr1 8 o8 (by kernel_rfl) (by decide) rfl V8.out
                    exact wpOp_of_wp rfl rfl (wp_buildOne encGr (by decide) 37 (.tmp 77) rfl Try.underlying37 x (getD_is t77) ⟨_, rfl, RegT.build hI (fun j => by rw [HISO.out]) hn1 hn2 (by omega)⟩)
                  obtain rfl | hi1 : i = 10 ∨ 11 ≤ i := by omega
                  · have hn2 := unlisted (n := 11) hcl hu (by kernel_rfl)
                    have h9 : listed.getD 9 false = true := dep_of hr1 (by kernel_rfl)
                    have h0 : listed.getD 0 false = true := dep_of hr1 (by kernel_rfl)
                    obtain ⟨hv, wq0, hb, rfl, e9⟩ := hP.mid h9 hu
                    have v0 := hv 0 (by decide) h0
                    have t69 : a1.tmps[69]? = some (.slice (some ⟨g, 0, none⟩) l.length cap) := (hR.dep hr1 0 (by kernel_rfl) (by decide) rfl).trans (by rw [v0, V0.out])
                    have t78 : a1.tmps[78]? = some (.slice (some ⟨wq0.heap.size, 0, none⟩) 1 1) := (hR.dep hr1 9 (by kernel_rfl) (by decide) rfl).trans (by rw [e9])
                    have ba := below_alloc (Below.refl wq0.heap.size wq0) (.cells (grL x).toArray 47)
                    have hrow := RowsAt.one (enc := grL) (y := (x : Gr)) (heap_alloc_new wq0 (.cells (grL x).toArray 47))
                    have oq := (HOW.out.below hb).below ba
                    have bw := below_trans (below_trans HBW.out hb) ba
                    refine wpOp_of_wp rfl rfl (wp_appendE encGr (.tmp 69) (.tmp 78) 37 rfl base Try.underlying37 (.slice (some ⟨g, 0, none⟩) l.length cap) l (getD_is t69) oq (some ⟨wq0.heap.size, 0, none⟩) 1 [x] (getD_is t78) hrow (Nat.le_trans (Nat.add_le_add_right hl 1) (by decide)) (Nat.le_trans (Nat.mul_le_mul_right 344 (Nat.add_le_add_right hl 1)) (by decide)) (Nat.le_trans HB00.out bw.size) ?_)
                    intro v8 w8 ho8 hg8 hv8
                    exact ⟨_, rfl, RegT.app ⟨ho8, grown_of bw hg8⟩ h9 hn2 (by omega)⟩
                  obtain rfl : i = 11 := by omega
                  have h10 : listed.getD 10 false = true := dep_of hr1 (by kernel_rfl)
                  have h9 : listed.getD 9 false = true := by
                    cases hq : listed.getD 9 false with
                    | true => rfl
                    | false => rw [unlisted (n := 10) hcl hq (by kernel_rfl)] at h10; cases h10
                  have t79 : a1.tmps[79]? = some (vals 10) := hR.dep hr1 10 (by kernel_rfl) (by decide) rfl
                  exact wpOp_val (v := vals 10) rfl rfl (by go_simp) ⟨_, rfl, RegT.assign hP h9 h10⟩
                · intro listed vals wq FF hP hall hFF
                  have bfin := hP.fin (hall 10 (by decide))
                  have easg := hP.asg (hall 11 (by decide))
                  have hF2 : FF = (((((((((((Act.put _ (some 69) (vals 0)).put (some 70) (vals 1)).put (some 71) (vals 2)).put (some 72) (vals 3)).put (some 73) (vals 4)).put (some 74) (vals 5)).put (some 75) (vals 6)).put (some 76) (vals 7)).put (some 77) (vals 8)).put (some 78) (vals 9)).put (some 79) (vals 10)).put (some 8) (vals 11) := hFF
                  simp only [putAll] at hF2
                  rw [hF2]
                  clear hF2 hFF hP hall
                  rw [easg]
                  go_frame
                  obtain ⟨hf1, hf2⟩ := bfin
                  have HF1 := Lib.hid hf1
                  have HF2 := Lib.hid hf2
                  clear hf1 hf2
                  generalize vals 10 = v8 at *
                  generalize vals 0 = x0
                  generalize vals 1 = x1
                  generalize vals 2 = x2
                  generalize vals 3 = x3
                  generalize vals 4 = x4
                  generalize vals 5 = x5
                  generalize vals 6 = x6
                  generalize vals 7 = x7
                  generalize vals 8 = x8
                  generalize vals 9 = x9
                  go_wp2_with fail
                  go_ret
                  exact ⟨_, rfl, by rw [HPX.out]; exact HF1.out, HF2.out⟩
          · as_aux_lemma =>
            obtain ⟨hk2, hmt⟩ := of_decide_eq_true HBBK.out.symm
            have HPX0 : Hid (putAt c.cf.kd l e p l.length = l.set k ⟨⟨gr.nm.key, min gr.nm.s p.1, max gr.nm.e p.2⟩, gr.xs ++ [e.val]⟩) := Lib.hid (by rw [← HP.out, putAt, HGR.out]; simp only; rw [if_pos HKEY.out, if_pos ⟨hk2, hmt⟩])
            clear hk2 hmt HBBK
            obtain ⟨gj, hgj⟩ : ∃ gj : Gr, gj = ⟨⟨gr.nm.key, min gr.nm.s p.1, max gr.nm.e p.2⟩, gr.xs⟩ := ⟨_, rfl⟩
            have hjx : gj.xs = gr.xs := by rw [hgj]
            have hjn : gj.nm = ⟨gr.nm.key, min gr.nm.s p.1, max gr.nm.e p.2⟩ := by rw [hgj]
            have hj := fun w => join_win (gr.nm.s, gr.nm.e) p w
            have HJ1 : Hid (∀ c, c < 46 → (grL gj)[c]? = if 1 ≤ c ∧ c < 1 + (winL (min gr.nm.s p.1, max gr.nm.e p.2)).toArray.toList.length then (winL (min gr.nm.s p.1, max gr.nm.e p.2)).toArray.toList[c - 1]? else (grL gr)[c]?) := Lib.hid (by rw [hgj]; exact grS_win gr.nm.key gr.nm.s gr.nm.e _ _ (asC (asOf gr.xs)))
            have hjs : (winL (min gr.nm.s p.1, max gr.nm.e p.2)).toArray.size = 2 := rfl
            have hjo : (winL (min gr.nm.s p.1, max gr.nm.e p.2)).toArray.all (·.oneCell') = true := winA_one _ _
            have hj : ∀ w, Calls Try.prog 41 #[.agg #[.int .i64 gr.nm.s, .int .i64 gr.nm.e], .agg #[.int .i64 p.1, .int .i64 p.2]] w fun e' w' => e' = .returned (.agg (winL (min gr.nm.s p.1, max gr.nm.e p.2)).toArray) ∧ Below w.heap.size w w' := hj
            generalize (winL (min gr.nm.s p.1, max gr.nm.e p.2)).toArray = CJ at hj HJ1 hjs hjo
            have HJS := Lib.hid hjs
            have HJO := Lib.hid hjo
            have HJN := Lib.hid hjn
            have HJX := Lib.hid hjx
            clear hjs hjo hjn hjx hgj
            obtain ⟨hrrJ, C7, hC7, hsz7, hlt7⟩ := OwnE.row encGr HOC.out HGR.out
            have HC7 := Lib.hid hC7
            have HSZ7 := Lib.hid hsz7
            have HRW : Hid (w7.rangeAt g (k * 46 + 1) (#[.int .i64 gr.nm.s, .int .i64 gr.nm.e] : Array Value).toList) := Lib.hid hrw2
            have HRP : Hid (w7.rangeAt (w.heap.size + 1 + 1) 0 (#[.int .i64 p.1, .int .i64 p.2] : Array Value).toList) := Lib.hid (fun j v hj => by
              match j with
              | 0 => injection hj with hj; subst hj; exact w0c
              | 1 => injection hj with hj; subst hj; exact w1c
              | j + 2 => cases hj)
            have HK4C := Lib.hid k4c
            have S40 : Hid ((Try.prog.info? 40).map (·.size) = some CJ.size) := Lib.hid (by rw [HJS.out]; exact Hs40.out)
            clear hrw2 hrrJ hC7 hsz7 r1c r2c k0c k3c k4c w0c w1c H3C
            go_upto_region 5 with fail
            obtain ⟨CV, hCV⟩ : ∃ CV : Nat → Value, CV = fun j => match j with
              | 0 => .slice (some ⟨g, 0, none⟩) l.length cap
              | 1 => .int .i64 (k : Int)
              | 2 => .slice (some ⟨g, 0, none⟩) l.length cap
              | 3 => .int .i64 (k : Int)
              | 4 => .pointer (some ⟨g, k * 46, none⟩)
              | 5 => .pointer (some ⟨g, k * 46 + 1, none⟩)
              | 6 => .agg #[.int .i64 gr.nm.s, .int .i64 gr.nm.e]
              | 7 => .agg #[.int .i64 p.1, .int .i64 p.2]
              | 8 => .agg CJ
              | 9 => .pointer (some ⟨g, k * 46, none⟩)
              | 10 => .pointer (some ⟨g, k * 46 + 1, none⟩)
              | 11 => undef
              | _ => undef := ⟨_, rfl⟩
            obtain ⟨isO, hO⟩ : ∃ isO : Nat → Bool, isO = fun j => match j with
              | _ => false := ⟨_, rfl⟩
            obtain ⟨BL, hBL⟩ : ∃ BL : Nat → List Int, BL = fun j => match j with
              | _ => [] := ⟨_, rfl⟩
            have v0 : CV 0 = .slice (some ⟨g, 0, none⟩) l.length cap := congrFun hCV 0
            have o0 : isO 0 = false := congrFun hO 0
            have v1 : CV 1 = .int .i64 (k : Int) := congrFun hCV 1
            have o1 : isO 1 = false := congrFun hO 1
            have v2 : CV 2 = .slice (some ⟨g, 0, none⟩) l.length cap := congrFun hCV 2
            have o2 : isO 2 = false := congrFun hO 2
            have v3 : CV 3 = .int .i64 (k : Int) := congrFun hCV 3
            have o3 : isO 3 = false := congrFun hO 3
            have v4 : CV 4 = .pointer (some ⟨g, k * 46, none⟩) := congrFun hCV 4
            have o4 : isO 4 = false := congrFun hO 4
            have v5 : CV 5 = .pointer (some ⟨g, k * 46 + 1, none⟩) := congrFun hCV 5
            have o5 : isO 5 = false := congrFun hO 5
            have v6 : CV 6 = .agg #[.int .i64 gr.nm.s, .int .i64 gr.nm.e] := congrFun hCV 6
            have o6 : isO 6 = false := congrFun hO 6
            have v7 : CV 7 = .agg #[.int .i64 p.1, .int .i64 p.2] := congrFun hCV 7
            have o7 : isO 7 = false := congrFun hO 7
            have v8 : CV 8 = .agg CJ := congrFun hCV 8
            have o8 : isO 8 = false := congrFun hO 8
            have v9 : CV 9 = .pointer (some ⟨g, k * 46, none⟩) := congrFun hCV 9
            have o9 : isO 9 = false := congrFun hO 9
            have v10 : CV 10 = .pointer (some ⟨g, k * 46 + 1, none⟩) := congrFun hCV 10
            have o10 : isO 10 = false := congrFun hO 10
            have v11 : CV 11 = undef := congrFun hCV 11
            have o11 : isO 11 = false := congrFun hO 11
            clear hCV hO hBL
            have V0 := Lib.hid v0
            have V1 := Lib.hid v1
            have V2 := Lib.hid v2
            have V3 := Lib.hid v3
            have V4 := Lib.hid v4
            have V5 := Lib.hid v5
            have V6 := Lib.hid v6
            have V7 := Lib.hid v7
            have V8 := Lib.hid v8
            have V9 := Lib.hid v9
            have V10 := Lib.hid v10
            have V11 := Lib.hid v11
            clear v0 v1 v2 v3 v4 v5 v6 v7 v8 v9 v10 v11
            refine region_run (RegF w7 11 (fun wz => ∃ wq, Below w7.heap.size w7 wq ∧ wz = wq.setCells g (k * 46 + 1) CJ.toList) isO BL CV) (by kernel_rfl) (by kernel_rfl) (by kernel_rfl) (by kernel_rfl) (RegF.start w7 11 12 _) ?_ ?_
            · intro listed vals a1 wq i hs hcl hP hR hi hu hr1
              replace hi : i < 12 := hi
              replace hs : listed.size = 12 := hs
              obtain rfl | hi1 : i = 0 ∨ 1 ≤ i := by omega
              · have hn := (unlisted (n := 11) hcl (unlisted (n := 10) hcl (unlisted (n := 9) hcl hu (by kernel_rfl)) (by kernel_rfl)) (by kernel_rfl))
                have hI := hP.pre hn
                have t1 := hR.fixed 1 (by kernel_rfl) rfl
                exact wpOp_val rfl rfl (by rw [V0.out]; go_simp) ⟨_, rfl, RegF.of (hI.keep (Below.refl _ _) 0 o0) hn (by decide)⟩
              obtain rfl | hi1 : i = 1 ∨ 2 ≤ i := by omega
              · have hn := (unlisted (n := 11) hcl (unlisted (n := 10) hcl (unlisted (n := 9) hcl hu (by kernel_rfl)) (by kernel_rfl)) (by kernel_rfl))
                have hI := hP.pre hn
                have t9 := hR.fixed 9 (by kernel_rfl) rfl
                exact wpOp_val rfl rfl (by rw [V1.out]; go_simp) ⟨_, rfl, RegF.of (hI.keep (Below.refl _ _) 1 o1) hn (by decide)⟩
              obtain rfl | hi1 : i = 2 ∨ 3 ≤ i := by omega
              · have hn := (unlisted (n := 11) hcl (unlisted (n := 8) hcl (unlisted (n := 6) hcl (unlisted (n := 5) hcl (unlisted (n := 4) hcl hu (by kernel_rfl)) (by kernel_rfl)) (by kernel_rfl)) (by kernel_rfl)) (by kernel_rfl))
                have hI := hP.pre hn
                have t1 := hR.fixed 1 (by kernel_rfl) rfl
                exact wpOp_val rfl rfl (by rw [V2.out]; go_simp) ⟨_, rfl, RegF.of (hI.keep (Below.refl _ _) 2 o2) hn (by decide)⟩
              obtain rfl | hi1 : i = 3 ∨ 4 ≤ i := by omega
              · have hn := (unlisted (n := 11) hcl (unlisted (n := 8) hcl (unlisted (n := 6) hcl (unlisted (n := 5) hcl (unlisted (n := 4) hcl hu (by kernel_rfl)) (by kernel_rfl)) (by kernel_rfl)) (by kernel_rfl)) (by kernel_rfl))
                have hI := hP.pre hn
                have t9 := hR.fixed 9 (by kernel_rfl) rfl
                exact wpOp_val rfl rfl (by rw [V3.out]; go_simp) ⟨_, rfl, RegF.of (hI.keep (Below.refl _ _) 3 o3) hn (by decide)⟩
              obtain rfl | hi1 : i = 4 ∨ 5 ≤ i := by omega
              · have hn := (unlisted (n := 11) hcl (unlisted (n := 8) hcl (unlisted (n := 6) hcl (unlisted (n := 5) hcl hu (by kernel_rfl)) (by kernel_rfl)) (by kernel_rfl)) (by kernel_rfl))
                have hI := hP.pre hn
                have t42 : a1.tmps[42]? = some (.slice (some ⟨g, 0, none⟩) l.length cap) := hI.get hR hr1 2 o2 (by kernel_rfl) (by decide) rfl V2.out
                have t43 : a1.tmps[43]? = some (.int .i64 (k : Int)) := hI.get hR hr1 3 o3 (by kernel_rfl) (by decide) rfl V3.out
                exact wpOp_val rfl rfl (by rw [V4.out]; go_simp) ⟨_, rfl, RegF.of (hI.keep (Below.refl _ _) 4 o4) hn (by decide)⟩
              obtain rfl | hi1 : i = 5 ∨ 6 ≤ i := by omega
              · have hn := (unlisted (n := 11) hcl (unlisted (n := 8) hcl (unlisted (n := 6) hcl hu (by kernel_rfl)) (by kernel_rfl)) (by kernel_rfl))
                have hI := hP.pre hn
                have t44 : a1.tmps[44]? = some (.pointer (some ⟨g, k * 46, none⟩)) := hI.get hR hr1 4 o4 (by kernel_rfl) (by decide) rfl V4.out
                exact wpOp_val rfl rfl (by rw [V5.out]; go_simp) ⟨_, rfl, RegF.of (hI.keep (Below.refl _ _) 5 o5) hn (by decide)⟩
              obtain rfl | hi1 : i = 6 ∨ 7 ≤ i := by omega
              · have hn := (unlisted (n := 11) hcl (unlisted (n := 8) hcl hu (by kernel_rfl)) (by kernel_rfl))
                have hI := hP.pre hn
                have t45 : a1.tmps[45]? = some (.pointer (some ⟨g, k * 46 + 1, none⟩)) := hI.get hR hr1 5 o5 (by kernel_rfl) (by decide) rfl V5.out
                exact wpOp_mid rfl rfl 40 (.tmp 45) rfl g (k * 46 + 1) (getD_is t45) #[.int .i64 gr.nm.s, .int .i64 gr.nm.e] _ (range_below hI.b HRW.out) Try.underlying40 rfl Hs40.out ⟨_, rfl, RegF.of (hI.keepV (Below.refl _ _) 6 o6 V6.out) hn (by decide)⟩
              obtain rfl | hi1 : i = 7 ∨ 8 ≤ i := by omega
              · have hn := (unlisted (n := 11) hcl (unlisted (n := 8) hcl hu (by kernel_rfl)) (by kernel_rfl))
                have hI := hP.pre hn
                have t7 := hR.fixed 7 (by kernel_rfl) rfl
                exact wpOp_mid rfl rfl 40 (.tmp 7) rfl (w.heap.size + 1 + 1) 0 (getD_is t7) #[.int .i64 p.1, .int .i64 p.2] _ (range_below hI.b HRP.out) Try.underlying40 rfl Hs40.out ⟨_, rfl, RegF.of (hI.keepV (Below.refl _ _) 7 o7 V7.out) hn (by decide)⟩
              obtain rfl | hi1 : i = 8 ∨ 9 ≤ i := by omega
              · have hn := (unlisted (n := 11) hcl hu (by kernel_rfl))
                have hI := hP.pre hn
                have t46 : a1.tmps[46]? = some (.agg #[.int .i64 gr.nm.s, .int .i64 gr.nm.e]) := hI.get hR hr1 6 o6 (by kernel_rfl) (by decide) rfl V6.out
                have t47 : a1.tmps[47]? = some (.agg #[.int .i64 p.1, .int .i64 p.2]) := hI.get hR hr1 7 o7 (by kernel_rfl) (by decide) rfl V7.out
                have hc1 := hj wq
                refine wpOp_calls (f := 41) (args := #[.agg #[.int .i64 gr.nm.s, .int .i64 gr.nm.e], .agg #[.int .i64 p.1, .int .i64 p.2]]) rfl rfl (by go_simp) (hc1.mono ?_)
                rintro e wz ⟨rfl, b⟩
                exact ⟨_, rfl, _, rfl, RegF.of (hI.keepV b 8 o8 V8.out) hn (by decide)⟩
              obtain rfl | hi1 : i = 9 ∨ 10 ≤ i := by omega
              · have hn := (unlisted (n := 11) hcl (unlisted (n := 10) hcl hu (by kernel_rfl)) (by kernel_rfl))
                have hI := hP.pre hn
                have t40 : a1.tmps[40]? = some (.slice (some ⟨g, 0, none⟩) l.length cap) := hI.get hR hr1 0 o0 (by kernel_rfl) (by decide) rfl V0.out
                have t41 : a1.tmps[41]? = some (.int .i64 (k : Int)) := hI.get hR hr1 1 o1 (by kernel_rfl) (by decide) rfl V1.out
                exact wpOp_val rfl rfl (by rw [V9.out]; go_simp) ⟨_, rfl, RegF.of (hI.keep (Below.refl _ _) 9 o9) hn (by decide)⟩
              obtain rfl | hi1 : i = 10 ∨ 11 ≤ i := by omega
              · have hn := (unlisted (n := 11) hcl hu (by kernel_rfl))
                have hI := hP.pre hn
                have t49 : a1.tmps[49]? = some (.pointer (some ⟨g, k * 46, none⟩)) := hI.get hR hr1 9 o9 (by kernel_rfl) (by decide) rfl V9.out
                exact wpOp_val rfl rfl (by rw [V10.out]; go_simp) ⟨_, rfl, RegF.of (hI.keep (Below.refl _ _) 10 o10) hn (by decide)⟩
              obtain rfl : i = 11 := by omega
              have hI := hP.pre hu
              have t50 : a1.tmps[50]? = some (.pointer (some ⟨g, k * 46 + 1, none⟩)) := hI.get hR hr1 10 o10 (by kernel_rfl) (by decide) rfl V10.out
              have t48 : a1.tmps[48]? = some (.agg CJ) := hI.get hR hr1 8 o8 (by kernel_rfl) (by decide) rfl V8.out
              have kk := (hI.b.block g (heap_lt HC7.out)).trans HC7.out
              have hszz := HSZ7.out
              have hcz := HJS.out
              exact wpOp_of_wp rfl rfl (wp_store_mid 40 (.tmp 50) (.tmp 48) rfl g (k * 46 + 1) CJ (getD_is t50) (getD_is t48) (fun j hj => ⟨by rw [cell_of_row _ _ _ _ _ _ kk, Array.getElem?_eq_getElem (by omega)]; rfl, frozen_of_row kk _⟩) S40.out HJO.out ⟨undef, rfl, RegF.done ⟨wq, hI.b, rfl⟩ (by omega)⟩)
            · intro listed vals wq FF hP hall hFF
              have bfin := hP.fin (hall 11 (by decide))
              have hF2 : FF = (((((((((((Act.put _ (some 40) (vals 0)).put (some 41) (vals 1)).put (some 42) (vals 2)).put (some 43) (vals 3)).put (some 44) (vals 4)).put (some 45) (vals 5)).put (some 46) (vals 6)).put (some 47) (vals 7)).put (some 48) (vals 8)).put (some 49) (vals 9)).put (some 50) (vals 10)).put none (vals 11) := hFF
              simp only [putAll] at hF2
              rw [hF2]
              clear hF2 hFF hP hall
              go_frame
              obtain ⟨wq, bq, rfl⟩ := bfin
              have cq := (bq.block g (heap_lt HC7.out)).trans HC7.out
              have oq := HOC.out.below bq
              have st9 := OwnE.setIn encGr oq cq HGR.out (y := gj) 1 CJ.toList (by rw [Array.length_toList, HJS.out]; decide) HJ1.out
              rw [setCells_eq_setRow _ _ _ _ _ _ _ cq (fun q => by have := congrArg List.length q; rw [Array.length_toList, HJS.out] at this; cases this)]
              have HOJ := Lib.hid st9.1
              have HPJ : Hid (w.grownBy (wq.setRow g (setMany C7 (k * 46 + 1) CJ.toList)) (some g)) := Lib.hid (grown_of (below_trans HWC.out bq) st9.2)
              have k48 := st9.2.cell (cell_below bq HK4C.out) (fun q => by have := HVLT.out (w.heap.size + 1) q.symm; omega)
              clear st9 cq oq HOC HWC HC7 HSZ7 HRW HRP HK4C bq
              generalize vals 0 = x0
              generalize vals 1 = x1
              generalize vals 2 = x2
              generalize vals 3 = x3
              generalize vals 4 = x4
              generalize vals 5 = x5
              generalize vals 6 = x6
              generalize vals 7 = x7
              generalize vals 8 = x8
              generalize vals 9 = x9
              generalize vals 10 = x10
              generalize vals 11 = x11
              generalize wq.setRow g (setMany C7 (k * 46 + 1) CJ.toList) = w9 at *
              go_wp2_with fail
              have HOJ2 : Hid (OwnE w9 base 47 46 grL (.slice (some ⟨g, 0, none⟩) l.length cap) (l.set k gj)) := HOJ
              have hLk : (l.set k gj)[k]? = some gj := by rw [List.getElem?_set, if_pos rfl, if_pos (by omega)]
              obtain ⟨CO, hco⟩ : ∃ C, C = asC (asOf gj.xs) := ⟨_, rfl⟩
              obtain ⟨CB, hcb⟩ : ∃ C, C = asC (addAS (asOf gr.xs) e.val) := ⟨_, rfl⟩
              have HCO := Lib.hid hco
              have HCO2 : Hid (CO.size = 43) := Lib.hid (by rw [hco, asC_size])
              have HCB2 : Hid (CB.size = 43) := Lib.hid (by rw [hcb, asC_size])
              have HCB1 : Hid (CB.all (·.oneCell') = true) := Lib.hid (by rw [hcb]; exact asC_one _)
              have hadd2 := fun w => add_as (asOf gr.xs) e.val w (HOK.out gr (List.mem_iff_getElem?.2 ⟨k, HGR.out⟩)) hx
              rw [← hcb, ← HJX.out, ← hco] at hadd2
              obtain ⟨y, hy⟩ : ∃ y : Gr, y = ⟨⟨gr.nm.key, min gr.nm.s p.1, max gr.nm.e p.2⟩, gr.xs ++ [e.val]⟩ := ⟨_, rfl⟩
              have hgy : grL y = grS (⟨gr.nm.key, min gr.nm.s p.1, max gr.nm.e p.2⟩) CB := by rw [hy, hcb]; unfold grL asOf; rw [List.foldl_append, List.foldl_cons, List.foldl_nil]
              have HY : Hid (∀ c, c < 46 → (grL y)[c]? = if 3 ≤ c ∧ c < 3 + CB.toList.length then CB.toList[c - 3]? else (grL gj)[c]?) := Lib.hid (by rw [hgy]; rw [show grL gj = grS gj.nm (asC (asOf gj.xs)) from rfl, HJN.out]; exact grS_state _ _ CB (asC_size _) HCB2.out)
              have HYE := Lib.hid hy
              clear hco hcb hgy hy
              have HPX : Hid (putAt c.cf.kd l e p l.length = l.set k y) := Lib.hid (by rw [HYE.out]; exact HPX0.out)
              clear HPX0
              obtain ⟨hrr, C9, hC9, hsz9, hlt9⟩ := OwnE.row encGr (HOJ2.out) (i := k) (x := gj) hLk
              have hst : w9.rangeAt g (k * 46 + 3) CO.toList := by
                have hrr2 : w9.rangeAt g (k * 46) ([.string gj.nm.key, .int .i64 gj.nm.s, .int .i64 gj.nm.e] ++ (asC (asOf gj.xs)).toList) := hrr
                have := rangeAt_drop hrr2 rfl
                rw [HCO.out]; exact this
              have HST := Lib.hid hst
              have HK4 := Lib.hid k48
              have HC9 := Lib.hid hC9
              have HSZ9 := Lib.hid hsz9
              clear hrr hC9 hsz9 hst
              have S45 : Hid ((Try.prog.info? 45).map (·.size) = some CO.size) := Lib.hid (by rw [HCO2.out]; exact Hs45.out)
              have S45B : Hid ((Try.prog.info? 45).map (·.size) = some CB.size) := Lib.hid (by rw [HCB2.out]; exact Hs45.out)
              obtain ⟨CV, hCV⟩ : ∃ CV : Nat → Value, CV = fun j => match j with
                | 0 => .slice (some ⟨g, 0, none⟩) l.length cap
                | 1 => .int .i64 (k : Int)
                | 2 => .slice (some ⟨g, 0, none⟩) l.length cap
                | 3 => .int .i64 (k : Int)
                | 4 => .pointer (some ⟨g, k * 46, none⟩)
                | 5 => .pointer (some ⟨g, k * 46 + 3, none⟩)
                | 6 => .agg CO
                | 7 => .pointer (some ⟨w.heap.size + 1, 4, none⟩)
                | 8 => .float .f64 e.val
                | 9 => .agg CB
                | 10 => .pointer (some ⟨g, k * 46, none⟩)
                | 11 => .pointer (some ⟨g, k * 46 + 3, none⟩)
                | 12 => undef
                | _ => undef := ⟨_, rfl⟩
              obtain ⟨isO, hO⟩ : ∃ isO : Nat → Bool, isO = fun j => match j with
                | _ => false := ⟨_, rfl⟩
              obtain ⟨BL, hBL⟩ : ∃ BL : Nat → List Int, BL = fun j => match j with
                | _ => [] := ⟨_, rfl⟩
              have v0 : CV 0 = .slice (some ⟨g, 0, none⟩) l.length cap := congrFun hCV 0
              have o0 : isO 0 = false := congrFun hO 0
              have v1 : CV 1 = .int .i64 (k : Int) := congrFun hCV 1
              have o1 : isO 1 = false := congrFun hO 1
              have v2 : CV 2 = .slice (some ⟨g, 0, none⟩) l.length cap := congrFun hCV 2
              have o2 : isO 2 = false := congrFun hO 2
              have v3 : CV 3 = .int .i64 (k : Int) := congrFun hCV 3
              have o3 : isO 3 = false := congrFun hO 3
              have v4 : CV 4 = .pointer (some ⟨g, k * 46, none⟩) := congrFun hCV 4
              have o4 : isO 4 = false := congrFun hO 4
              have v5 : CV 5 = .pointer (some ⟨g, k * 46 + 3, none⟩) := congrFun hCV 5
              have o5 : isO 5 = false := congrFun hO 5
              have v6 : CV 6 = .agg CO := congrFun hCV 6
              have o6 : isO 6 = false := congrFun hO 6
              have v7 : CV 7 = .pointer (some ⟨w.heap.size + 1, 4, none⟩) := congrFun hCV 7
              have o7 : isO 7 = false := congrFun hO 7
              have v8 : CV 8 = .float .f64 e.val := congrFun hCV 8
              have o8 : isO 8 = false := congrFun hO 8
              have v9 : CV 9 = .agg CB := congrFun hCV 9
              have o9 : isO 9 = false := congrFun hO 9
              have v10 : CV 10 = .pointer (some ⟨g, k * 46, none⟩) := congrFun hCV 10
              have o10 : isO 10 = false := congrFun hO 10
              have v11 : CV 11 = .pointer (some ⟨g, k * 46 + 3, none⟩) := congrFun hCV 11
              have o11 : isO 11 = false := congrFun hO 11
              have v12 : CV 12 = undef := congrFun hCV 12
              have o12 : isO 12 = false := congrFun hO 12
              clear hCV hO hBL
              have V0 := Lib.hid v0
              have V1 := Lib.hid v1
              have V2 := Lib.hid v2
              have V3 := Lib.hid v3
              have V4 := Lib.hid v4
              have V5 := Lib.hid v5
              have V6 := Lib.hid v6
              have V7 := Lib.hid v7
              have V8 := Lib.hid v8
              have V9 := Lib.hid v9
              have V10 := Lib.hid v10
              have V11 := Lib.hid v11
              have V12 := Lib.hid v12
              clear v0 v1 v2 v3 v4 v5 v6 v7 v8 v9 v10 v11 v12
              refine region_run (RegF w9 12 (fun wz => ∃ wq, Below w9.heap.size w9 wq ∧ wz = wq.setCells g (k * 46 + 3) CB.toList) isO BL CV) (by kernel_rfl) (by kernel_rfl) (by kernel_rfl) (by kernel_rfl) (RegF.start w9 12 13 _) ?_ ?_
              · intro listed vals a1 wq i hs hcl hP hR hi hu hr1
                replace hi : i < 13 := hi
                replace hs : listed.size = 13 := hs
                obtain rfl | hi1 : i = 0 ∨ 1 ≤ i := by omega
                · have hn := (unlisted (n := 12) hcl (unlisted (n := 11) hcl (unlisted (n := 10) hcl hu (by kernel_rfl)) (by kernel_rfl)) (by kernel_rfl))
                  have hI := hP.pre hn
                  have t1 := hR.fixed 1 (by kernel_rfl) rfl
                  exact wpOp_val rfl rfl (by rw [V0.out]; go_simp) ⟨_, rfl, RegF.of (hI.keep (Below.refl _ _) 0 o0) hn (by decide)⟩
                obtain rfl | hi1 : i = 1 ∨ 2 ≤ i := by omega
                · have hn := (unlisted (n := 12) hcl (unlisted (n := 11) hcl (unlisted (n := 10) hcl hu (by kernel_rfl)) (by kernel_rfl)) (by kernel_rfl))
                  have hI := hP.pre hn
                  have t9 := hR.fixed 9 (by kernel_rfl) rfl
                  exact wpOp_val rfl rfl (by rw [V1.out]; go_simp) ⟨_, rfl, RegF.of (hI.keep (Below.refl _ _) 1 o1) hn (by decide)⟩
                obtain rfl | hi1 : i = 2 ∨ 3 ≤ i := by omega
                · have hn := (unlisted (n := 12) hcl (unlisted (n := 9) hcl (unlisted (n := 6) hcl (unlisted (n := 5) hcl (unlisted (n := 4) hcl hu (by kernel_rfl)) (by kernel_rfl)) (by kernel_rfl)) (by kernel_rfl)) (by kernel_rfl))
                  have hI := hP.pre hn
                  have t1 := hR.fixed 1 (by kernel_rfl) rfl
                  exact wpOp_val rfl rfl (by rw [V2.out]; go_simp) ⟨_, rfl, RegF.of (hI.keep (Below.refl _ _) 2 o2) hn (by decide)⟩
                obtain rfl | hi1 : i = 3 ∨ 4 ≤ i := by omega
                · have hn := (unlisted (n := 12) hcl (unlisted (n := 9) hcl (unlisted (n := 6) hcl (unlisted (n := 5) hcl (unlisted (n := 4) hcl hu (by kernel_rfl)) (by kernel_rfl)) (by kernel_rfl)) (by kernel_rfl)) (by kernel_rfl))
                  have hI := hP.pre hn
                  have t9 := hR.fixed 9 (by kernel_rfl) rfl
                  exact wpOp_val rfl rfl (by rw [V3.out]; go_simp) ⟨_, rfl, RegF.of (hI.keep (Below.refl _ _) 3 o3) hn (by decide)⟩
                obtain rfl | hi1 : i = 4 ∨ 5 ≤ i := by omega
                · have hn := (unlisted (n := 12) hcl (unlisted (n := 9) hcl (unlisted (n := 6) hcl (unlisted (n := 5) hcl hu (by kernel_rfl)) (by kernel_rfl)) (by kernel_rfl)) (by kernel_rfl))
                  have hI := hP.pre hn
                  have t82 : a1.tmps[82]? = some (.slice (some ⟨g, 0, none⟩) l.length cap) := hI.get hR hr1 2 o2 (by kernel_rfl) (by decide) rfl V2.out
                  have t83 : a1.tmps[83]? = some (.int .i64 (k : Int)) := hI.get hR hr1 3 o3 (by kernel_rfl) (by decide) rfl V3.out
                  exact wpOp_val rfl rfl (by rw [V4.out]; go_simp) ⟨_, rfl, RegF.of (hI.keep (Below.refl _ _) 4 o4) hn (by decide)⟩
                obtain rfl | hi1 : i = 5 ∨ 6 ≤ i := by omega
                · have hn := (unlisted (n := 12) hcl (unlisted (n := 9) hcl (unlisted (n := 6) hcl hu (by kernel_rfl)) (by kernel_rfl)) (by kernel_rfl))
                  have hI := hP.pre hn
                  have t84 : a1.tmps[84]? = some (.pointer (some ⟨g, k * 46, none⟩)) := hI.get hR hr1 4 o4 (by kernel_rfl) (by decide) rfl V4.out
                  exact wpOp_val rfl rfl (by rw [V5.out]; go_simp) ⟨_, rfl, RegF.of (hI.keep (Below.refl _ _) 5 o5) hn (by decide)⟩
                obtain rfl | hi1 : i = 6 ∨ 7 ≤ i := by omega
                · have hn := (unlisted (n := 12) hcl (unlisted (n := 9) hcl hu (by kernel_rfl)) (by kernel_rfl))
                  have hI := hP.pre hn
                  have t85 : a1.tmps[85]? = some (.pointer (some ⟨g, k * 46 + 3, none⟩)) := hI.get hR hr1 5 o5 (by kernel_rfl) (by decide) rfl V5.out
                  exact wpOp_mid rfl rfl 45 (.tmp 85) rfl g (k * 46 + 3) (getD_is t85) CO _ (range_below hI.b HST.out) Try.underlying45 rfl S45.out ⟨_, rfl, RegF.of (hI.keepV (Below.refl _ _) 6 o6 V6.out) hn (by decide)⟩
                obtain rfl | hi1 : i = 7 ∨ 8 ≤ i := by omega
                · have hn := (unlisted (n := 12) hcl (unlisted (n := 9) hcl (unlisted (n := 8) hcl hu (by kernel_rfl)) (by kernel_rfl)) (by kernel_rfl))
                  have hI := hP.pre hn
                  have t6 := hR.fixed 6 (by kernel_rfl) rfl
                  exact wpOp_val rfl rfl (by rw [V7.out]; go_simp) ⟨_, rfl, RegF.of (hI.keep (Below.refl _ _) 7 o7) hn (by decide)⟩
                obtain rfl | hi1 : i = 8 ∨ 9 ≤ i := by omega
                · have hn := (unlisted (n := 12) hcl (unlisted (n := 9) hcl hu (by kernel_rfl)) (by kernel_rfl))
                  have hI := hP.pre hn
                  have t87 : a1.tmps[87]? = some (.pointer (some ⟨w.heap.size + 1, 4, none⟩)) := hI.get hR hr1 7 o7 (by kernel_rfl) (by decide) rfl V7.out
                  have cc := cell_below hI.b HK4.out
                  exact wpOp_val rfl rfl (by rw [V8.out]; go_simp) ⟨_, rfl, RegF.of (hI.keep (Below.refl _ _) 8 o8) hn (by decide)⟩
                obtain rfl | hi1 : i = 9 ∨ 10 ≤ i := by omega
                · have hn := (unlisted (n := 12) hcl hu (by kernel_rfl))
                  have hI := hP.pre hn
                  have t86 : a1.tmps[86]? = some (.agg CO) := hI.get hR hr1 6 o6 (by kernel_rfl) (by decide) rfl V6.out
                  have t88 : a1.tmps[88]? = some (.float .f64 e.val) := hI.get hR hr1 8 o8 (by kernel_rfl) (by decide) rfl V8.out
                  have hc1 := hadd2 wq
                  refine wpOp_calls (f := 42) (args := #[.agg CO, .float .f64 e.val]) rfl rfl (by go_simp) (hc1.mono ?_)
                  rintro e wz ⟨rfl, b⟩
                  exact ⟨_, rfl, _, rfl, RegF.of (hI.keepV b 9 o9 V9.out) hn (by decide)⟩
                obtain rfl | hi1 : i = 10 ∨ 11 ≤ i := by omega
                · have hn := (unlisted (n := 12) hcl (unlisted (n := 11) hcl hu (by kernel_rfl)) (by kernel_rfl))
                  have hI := hP.pre hn
                  have t80 : a1.tmps[80]? = some (.slice (some ⟨g, 0, none⟩) l.length cap) := hI.get hR hr1 0 o0 (by kernel_rfl) (by decide) rfl V0.out
                  have t81 : a1.tmps[81]? = some (.int .i64 (k : Int)) := hI.get hR hr1 1 o1 (by kernel_rfl) (by decide) rfl V1.out
                  exact wpOp_val rfl rfl (by rw [V10.out]; go_simp) ⟨_, rfl, RegF.of (hI.keep (Below.refl _ _) 10 o10) hn (by decide)⟩
                obtain rfl | hi1 : i = 11 ∨ 12 ≤ i := by omega
                · have hn := (unlisted (n := 12) hcl hu (by kernel_rfl))
                  have hI := hP.pre hn
                  have t90 : a1.tmps[90]? = some (.pointer (some ⟨g, k * 46, none⟩)) := hI.get hR hr1 10 o10 (by kernel_rfl) (by decide) rfl V10.out
                  exact wpOp_val rfl rfl (by rw [V11.out]; go_simp) ⟨_, rfl, RegF.of (hI.keep (Below.refl _ _) 11 o11) hn (by decide)⟩
                obtain rfl : i = 12 := by omega
                have hI := hP.pre hu
                have t91 : a1.tmps[91]? = some (.pointer (some ⟨g, k * 46 + 3, none⟩)) := hI.get hR hr1 11 o11 (by kernel_rfl) (by decide) rfl V11.out
                have t89 : a1.tmps[89]? = some (.agg CB) := hI.get hR hr1 9 o9 (by kernel_rfl) (by decide) rfl V9.out
                have kk := (hI.b.block g (heap_lt HC9.out)).trans HC9.out
                have hszz := HSZ9.out
                have hcz := HCB2.out
                exact wpOp_of_wp rfl rfl (wp_store_mid 45 (.tmp 91) (.tmp 89) rfl g (k * 46 + 3) CB (getD_is t91) (getD_is t89) (fun j hj => ⟨by rw [cell_of_row _ _ _ _ _ _ kk, Array.getElem?_eq_getElem (by omega)]; rfl, frozen_of_row kk _⟩) S45B.out HCB1.out ⟨undef, rfl, RegF.done ⟨wq, hI.b, rfl⟩ (by omega)⟩)
              · intro listed vals wq FF hP hall hFF
                have bfin := hP.fin (hall 12 (by decide))
                have hF2 : FF = ((((((((((((Act.put _ (some 80) (vals 0)).put (some 81) (vals 1)).put (some 82) (vals 2)).put (some 83) (vals 3)).put (some 84) (vals 4)).put (some 85) (vals 5)).put (some 86) (vals 6)).put (some 87) (vals 7)).put (some 88) (vals 8)).put (some 89) (vals 9)).put (some 90) (vals 10)).put (some 91) (vals 11)).put none (vals 12) := hFF
                simp only [putAll] at hF2
                rw [hF2]
                clear hF2 hFF hP hall
                go_frame
                obtain ⟨wq, bq, rfl⟩ := bfin
                have cq := (bq.block g (heap_lt HC9.out)).trans HC9.out
                have oq := (HOJ2.out).below bq
                have st9 := OwnE.setIn encGr oq cq hLk (y := y) 3 CB.toList (by rw [Array.length_toList, HCB2.out]; decide) HY.out
                rw [setCells_eq_setRow _ _ _ _ _ _ _ cq (fun q => by have := congrArg List.length q; rw [Array.length_toList, HCB2.out] at this; cases this)]
                have HF9 := Lib.hid st9
                clear st9 cq oq
                generalize vals 0 = x0
                generalize vals 1 = x1
                generalize vals 2 = x2
                generalize vals 3 = x3
                generalize vals 4 = x4
                generalize vals 5 = x5
                generalize vals 6 = x6
                generalize vals 7 = x7
                generalize vals 8 = x8
                generalize vals 9 = x9
                generalize vals 10 = x10
                generalize vals 11 = x11
                generalize vals 12 = x12
                generalize wq.setRow g (setMany C9 (k * 46 + 3) CB.toList) = wf at *
                go_wp2_with fail
                go_ret
                exact ⟨_, rfl, by rw [HPX.out]; exact (by have := HF9.out.1; rwa [List.set_set] at this), grown_trans (grown_trans (HPJ.out) (grown_of_below bq none) (fun q h => by cases h)) HF9.out.2 (fun q h => .inl h)⟩
end Go.Proofs.Ythplelglifnhoaa
