import Derived.Test.YthplelglifnhoaaWj
import Derived.Deep.RegionHeld3
/-! Which of two keys and windows stands ahead: the statement, ahead. -/
namespace Go.Proofs.Ythplelglifnhoaa
open Go.Shelf Go.RowKit Go.Lib Go.Sort
set_option linter.unusedVariables false
set_option linter.unusedSimpArgs false
attribute [-simp] Try.isAgg47 Try.sizeOf47 Try.typeInfo47 Try.type47
set_option maxRecDepth 100000 in
set_option maxHeartbeats 8000000 in
theorem orders_lt (x y : Nm) (nx ny : Int) (lt ke se ee : Bool) (hx : nmOrd x y = nx) (hy : nmOrd y x = ny) (hlt : nmLt x y = lt) (hke : (x.key.toList == y.key.toList) = ke) (hse : (x.s == y.s) = se) (hee : (x.e == y.e) = ee)
    (hxy : (nx = -1 ∧ ny = 1 ∧ lt = true) ∧ (ke = false ∨ ke = true ∧ se = false ∨ ke = true ∧ se = true ∧ ee = false)) (w : World) :
    Calls Try.prog 9 #[.string x.key, .string y.key, .agg #[.int .i64 x.s, .int .i64 x.e], .agg #[.int .i64 y.s, .int .i64 y.e]] w fun en w' => en = .returned (.bool true) ∧ Below w.heap.size w w' := by
  have z47 : ∀ w, (sizeOf 47).run Try.prog w = .ok 46 w := run_sizeOf_info sizeGr
  have ho1 := fun w => order_any x y w
  have ho2 := fun w => order_any y x w
  have hbf := fun w => nmBefore_any x y w
  rw [hx] at ho1
  rw [hy] at ho2
  rw [hlt] at hbf
  have HO1 := Lib.hid ho1
  have HO2 := Lib.hid ho2
  have HBF := Lib.hid hbf
  have hbx := built_gr2 x.key x.s x.e
  have hby := built_gr2 y.key y.s y.e
  obtain ⟨gx, hgx⟩ : ∃ g : Gr, g = ⟨x, []⟩ := ⟨_, rfl⟩
  obtain ⟨gy, hgy⟩ : ∃ g : Gr, g = ⟨y, []⟩ := ⟨_, rfl⟩
  have hbx : Try.prog.built 47 [(0, .string x.key), (1, .agg #[.int .i64 x.s, .int .i64 x.e])] = some (grL gx).toArray := by rw [hgx]; exact hbx
  have hby : Try.prog.built 47 [(0, .string y.key), (1, .agg #[.int .i64 y.s, .int .i64 y.e])] = some (grL gy).toArray := by rw [hgy]; exact hby
  have HBX := Lib.hid hbx
  have HBY := Lib.hid hby
  have HX := Lib.hid hgx
  have HY := Lib.hid hgy
  clear ho1 ho2 hbf hx hy hlt hbx hby hgx hgy
  obtain ⟨k1, s1, e1⟩ := x
  obtain ⟨k2, s2, e2⟩ := y
  simp only at hke hse hee HBX HBY ⊢
  have hq1 := heap_alloc2_old w (.cells #[.int .i64 s1, .int .i64 e1] 40) (.cells #[.int .i64 s2, .int .i64 e2] 40)
  have hq2 := heap_alloc2_new w (.cells #[.int .i64 s1, .int .i64 e1] 40) (.cells #[.int .i64 s2, .int .i64 e2] 40)
  have a0 := (cell_of_row _ _ 0 _ _ _ hq1).trans (show (#[.int .i64 s1, .int .i64 e1] : Array Value)[0]? = some (.int .i64 s1) from rfl)
  have a1 := (cell_of_row _ _ 1 _ _ _ hq1).trans (show (#[.int .i64 s1, .int .i64 e1] : Array Value)[1]? = some (.int .i64 e1) from rfl)
  have b0 := (cell_of_row _ _ 0 _ _ _ hq2).trans (show (#[.int .i64 s2, .int .i64 e2] : Array Value)[0]? = some (.int .i64 s2) from rfl)
  have b1 := (cell_of_row _ _ 1 _ _ _ hq2).trans (show (#[.int .i64 s2, .int .i64 e2] : Array Value)[1]? = some (.int .i64 e2) from rfl)
  have hbw := below_alloc (below_alloc (Below.refl w.heap.size w) (.cells #[.int .i64 s1, .int .i64 e1] 40)) (.cells #[.int .i64 s2, .int .i64 e2] 40)
  have HBW := Lib.hid hbw
  clear hq1 hq2 hbw
  go_enter Try.func9, Try.ntmps9
  go_upto_region 3 with (first
    | (go_at_call 18; (with_reducible refine (HO1.out _).mono ?_); rintro en w1 ⟨rfl, hg1⟩; have a01 := cell_below hg1.below a0; have a11 := cell_below hg1.below a1; have b01 := cell_below hg1.below b0; have b11 := cell_below hg1.below b1; have HB1 := Lib.hid (below_trans HBW.out hg1.below); clear hg1)
    | (go_at_call 18; (with_reducible refine (HO2.out _).mono ?_); rintro en w2 ⟨rfl, hg2⟩; have a02 := cell_below hg2.below a01; have a12 := cell_below hg2.below a11; have b02 := cell_below hg2.below b01; have b12 := cell_below hg2.below b11; have HB2 := Lib.hid (below_trans HB1.out hg2.below); clear hg2))
  clear a0 a1 b0 b1 a01 a11 b01 b11 HB1 HBW HO2
  have ba := below_alloc (Below.refl w2.heap.size w2) (.cells (grL gx ++ grL gy).toArray 47)
  have a03 := cell_below ba a02
  have a13 := cell_below ba a12
  have b03 := cell_below ba b02
  have b13 := cell_below ba b12
  have HB3 := Lib.hid (below_trans HB2.out ba)
  have HO3 : Hid (OwnE (w2.alloc (.cells (grL gx ++ grL gy).toArray 47)) w2.heap.size 47 46 grL (.slice (some ⟨w2.heap.size, 0, none⟩) 2 2) [gx, gy]) := Lib.hid (OwnE.two encGr (heap_alloc_new w2 _) (Nat.le_refl _))
  have HST := Lib.hid (sort_gr _ _ _ _ HO3.out (show 2 ≤ 100000 by decide))
  have hlt0 := World.block_lt_of_cell? w2 _ b02
  have HLT : Hid (w.heap.size + 1 < w2.heap.size) := Lib.hid hlt0
  clear ba hlt0
  go_upto_region 5 with (first
    | (refine at_op (.build 47 #[(0, .tmp 22), (1, .tmp 23)]) ?_ rfl; refine run_builtK rfl 47 _ rfl (grL gx).toArray (by simp only [List.map_toArray, List.map_cons, List.map_nil, Act.eval]; exact HBX.out) ?_)
    | (refine at_op (.build 47 #[(0, .tmp 25), (1, .tmp 26)]) ?_ rfl; refine run_builtK rfl 47 _ rfl (grL gy).toArray (by simp only [List.map_toArray, List.map_cons, List.map_nil, Act.eval]; exact HBY.out) ?_)
    | (refine at_op (.buildSlice 37 2 #[(0, .tmp 24), (1, .tmp 27)]) ?_ rfl; refine wpList_buildTwo encGr (by decide) rfl w2 37 (.tmp 24) (.tmp 27) rfl (some 28) rfl w2.heap.size rfl rfl gx gy rfl rfl ?_)
    | (go_at_call 24; (with_reducible refine HST.out.mono ?_); rintro en w4 ⟨rfl, l4, hp4, hs4, ho4, hg4⟩; have HP4 := Lib.hid hp4; have HS4 := Lib.hid hs4; have HO4 := Lib.hid ho4; have HG4 := Lib.hid hg4; clear hp4 hs4 ho4 hg4))
  have hne1 : some w.heap.size ≠ (Value.slice (some ⟨w2.heap.size, 0, none⟩) 2 2).ownBlock := fun q => by
    have q2 : w.heap.size = w2.heap.size := by injection q
    have := HLT.out; omega
  have hne2 : some (w.heap.size + 1) ≠ (Value.slice (some ⟨w2.heap.size, 0, none⟩) 2 2).ownBlock := fun q => by
    have q2 : w.heap.size + 1 = w2.heap.size := by injection q
    have := HLT.out; omega
  have a04 := HG4.out.cell a03 hne1
  have a14 := HG4.out.cell a13 hne1
  have b04 := HG4.out.cell b03 hne2
  have b14 := HG4.out.cell b13 hne2
  have HB4 := Lib.hid (below_grown2 HB3.out HG4.out (fun q h => by have := (HO3.out.lt q h).1; have := HB2.out.size; omega))
  clear a02 a12 b02 b12 a03 a13 b03 b13 HB2 HB3 HST hne1 hne2 HBX HBY
  have hl4 : ∃ p q : Gr, l4 = [p, q] := by
    have := HP4.out.length_eq
    match l4, this with
    | [p, q], _ => exact ⟨p, q, rfl⟩
  obtain ⟨p, q, rfl⟩ := hl4
  have hpq := (List.pairwise_cons.1 HS4.out).1 q (by simp)
  have HLE := Lib.hid (ord_le hpq)
  have hopq := fun w => order_any p.nm q.nm w
  obtain ⟨r0, _⟩ := OwnE.row encGr HO4.out (i := 0) (x := p) rfl
  obtain ⟨r1, _⟩ := OwnE.row encGr HO4.out (i := 1) (x := q) rfl
  have p0 : w4.cell? ⟨w2.heap.size, 0, none⟩ = some (.string p.nm.key) := r0 0 _ rfl
  have p1 : w4.cell? ⟨w2.heap.size, 1, none⟩ = some (.int .i64 p.nm.s) := r0 1 _ rfl
  have p2 : w4.cell? ⟨w2.heap.size, 2, none⟩ = some (.int .i64 p.nm.e) := r0 2 _ rfl
  have q0 : w4.cell? ⟨w2.heap.size, 46, none⟩ = some (.string q.nm.key) := r1 0 _ rfl
  have q1 : w4.cell? ⟨w2.heap.size, 47, none⟩ = some (.int .i64 q.nm.s) := r1 1 _ rfl
  have q2 : w4.cell? ⟨w2.heap.size, 48, none⟩ = some (.int .i64 q.nm.e) := r1 2 _ rfl
  obtain ⟨nn, hnn⟩ : ∃ nn, nn = nmOrd p.nm q.nm := ⟨_, rfl⟩
  rw [← hnn] at hopq
  have hnl : nn ≤ 0 := by rw [hnn]; exact HLE.out
  have HOP := Lib.hid hopq
  clear hopq hnn HLE r0 r1 HO3 HO4 HG4 HP4 HS4 hpq
  generalize w2.heap.size = g5 at *
  have wm1 : IntKind.i64.wrap (-1) = -1 := by rw [IntKind.wrap_i64]; omega
  have wp1 : IntKind.i64.wrap 1 = 1 := by rw [IntKind.wrap_i64]; omega
  have wp0 : IntKind.i64.wrap 0 = 0 := by rw [IntKind.wrap_i64]; omega
  have haw := fun w => awake_any w
  have HAW := Lib.hid haw
  have hnd : decide (nn ≤ 0) = true := decide_eq_true hnl
  have A04 : w4.drew.cell? ⟨w.heap.size, 0, none⟩ = some (.int .i64 s1) := a04
  have A14 : w4.drew.cell? ⟨w.heap.size, 1, none⟩ = some (.int .i64 e1) := a14
  have B04 : w4.drew.cell? ⟨w.heap.size + 1, 0, none⟩ = some (.int .i64 s2) := b04
  have B14 : w4.drew.cell? ⟨w.heap.size + 1, 1, none⟩ = some (.int .i64 e2) := b14
  have P0 : w4.drew.cell? ⟨g5, 0, none⟩ = some (.string p.nm.key) := p0
  have P1 : w4.drew.cell? ⟨g5, 1, none⟩ = some (.int .i64 p.nm.s) := p1
  have P2 : w4.drew.cell? ⟨g5, 2, none⟩ = some (.int .i64 p.nm.e) := p2
  have Q0 : w4.drew.cell? ⟨g5, 46, none⟩ = some (.string q.nm.key) := q0
  have Q1 : w4.drew.cell? ⟨g5, 47, none⟩ = some (.int .i64 q.nm.s) := q1
  have Q2 : w4.drew.cell? ⟨g5, 48, none⟩ = some (.int .i64 q.nm.e) := q2
  have HBD : Hid (Below w.heap.size w w4.drew) := Lib.hid HB4.out.drew
  have HB4D := HB4
  clear a04 a14 b04 b14 p0 p1 p2 q0 q1 q2 haw hnl HLT HB4 HO1 HX HY hbx hby
  obtain ⟨⟨rfl, rfl, rfl⟩, hxy⟩ := hxy
  rcases hxy with rfl | ⟨rfl, rfl⟩ | ⟨rfl, rfl, rfl⟩
  · as_aux_lemma =>
    have HSW := Lib.hid sizeWin
    have RX : Hid (w4.rangeAt w.heap.size 0 (#[.int .i64 s1, .int .i64 e1] : Array Value).toList) := Lib.hid (fun j v hj => by
      match j with
      | 0 => injection hj with hj; subst hj; exact A04
      | 1 => injection hj with hj; subst hj; exact A14
      | j + 2 => cases hj)
    have RY : Hid (w4.rangeAt (w.heap.size + 1) 0 (#[.int .i64 s2, .int .i64 e2] : Array Value).toList) := Lib.hid (fun j v hj => by
      match j with
      | 0 => injection hj with hj; subst hj; exact B04
      | 1 => injection hj with hj; subst hj; exact B14
      | j + 2 => cases hj)
    have RP : Hid (w4.rangeAt g5 1 (#[.int .i64 p.nm.s, .int .i64 p.nm.e] : Array Value).toList) := Lib.hid (fun j v hj => by
      match j with
      | 0 => injection hj with hj; subst hj; exact P1
      | 1 => injection hj with hj; subst hj; exact P2
      | j + 2 => cases hj)
    have RQ : Hid (w4.rangeAt g5 47 (#[.int .i64 q.nm.s, .int .i64 q.nm.e] : Array Value).toList) := Lib.hid (fun j v hj => by
      match j with
      | 0 => injection hj with hj; subst hj; exact Q1
      | 1 => injection hj with hj; subst hj; exact Q2
      | j + 2 => cases hj)
    have KP : Hid (w4.cell? ⟨g5, 0, none⟩ = some (.string p.nm.key)) := Lib.hid P0
    have KQ : Hid (w4.cell? ⟨g5, 46, none⟩ = some (.string q.nm.key)) := Lib.hid Q0
    have HBFB := Lib.hid (fun w => (HBF.out w).mono (fun _ _ h => (⟨h.1, h.2.below⟩ : _ ∧ Below w.heap.size w _)))
    have HOPB := Lib.hid (fun w => (HOP.out w).mono (fun _ _ h => (⟨h.1, h.2.below⟩ : _ ∧ Below w.heap.size w _)))
    clear A04 A14 B04 B14 P0 P1 P2 Q0 Q1 Q2
    obtain ⟨CV, hCV⟩ : ∃ CV : Nat → Value, CV = fun j => match j with
      | 0 => .bool true
      | 1 => .bool true
      | 2 => .int .i64 (-1)
      | 3 => .int .i64 1
      | 4 => .int .i64 (-1)
      | 5 => .bool true
      | 6 => .bool true
      | 7 => .bool true
      | 8 => .int .i64 (-1)
      | 9 => .bool false
      | 10 => .string k1
      | 11 => .string k2
      | 12 => .bool false
      | 13 => .bool false
      | 14 => undef
      | 15 => undef
      | 16 => undef
      | 17 => .bool false
      | 18 => .bool true
      | 19 => .bool true
      | 20 => .bool true
      | 21 => .int .i64 (-1)
      | 22 => .bool true
      | 23 => .string k1
      | 24 => .agg #[.int .i64 s1, .int .i64 e1]
      | 25 => .string k2
      | 26 => .agg #[.int .i64 s2, .int .i64 e2]
      | 27 => .bool true
      | 28 => .bool true
      | 29 => .bool true
      | 30 => .bool true
      | 31 => .slice (some ⟨g5, 0, none⟩) 2 2
      | 32 => .pointer (some ⟨g5, 0, none⟩)
      | 33 => .pointer (some ⟨g5, 0, none⟩)
      | 34 => .string p.nm.key
      | 35 => .slice (some ⟨g5, 0, none⟩) 2 2
      | 36 => .pointer (some ⟨g5, 0, none⟩)
      | 37 => .pointer (some ⟨g5, 1, none⟩)
      | 38 => .agg #[.int .i64 p.nm.s, .int .i64 p.nm.e]
      | 39 => .slice (some ⟨g5, 0, none⟩) 2 2
      | 40 => .pointer (some ⟨g5, 46, none⟩)
      | 41 => .pointer (some ⟨g5, 46, none⟩)
      | 42 => .string q.nm.key
      | 43 => .slice (some ⟨g5, 0, none⟩) 2 2
      | 44 => .pointer (some ⟨g5, 46, none⟩)
      | 45 => .pointer (some ⟨g5, 47, none⟩)
      | 46 => .agg #[.int .i64 q.nm.s, .int .i64 q.nm.e]
      | 47 => .int .i64 nn
      | 48 => .bool true
      | 49 => .bool true
      | 50 => .bool true
      | _ => undef := ⟨_, rfl⟩
    obtain ⟨isO, hO⟩ : ∃ isO : Nat → Bool, isO = fun j => match j with
      | _ => false := ⟨_, rfl⟩
    obtain ⟨BL, hBL⟩ : ∃ BL : Nat → List Int, BL = fun j => match j with
      | _ => [] := ⟨_, rfl⟩
    have v0 : CV 0 = .bool true := congrFun hCV 0
    have o0 : isO 0 = false := congrFun hO 0
    have v1 : CV 1 = .bool true := congrFun hCV 1
    have o1 : isO 1 = false := congrFun hO 1
    have v2 : CV 2 = .int .i64 (-1) := congrFun hCV 2
    have o2 : isO 2 = false := congrFun hO 2
    have v3 : CV 3 = .int .i64 1 := congrFun hCV 3
    have o3 : isO 3 = false := congrFun hO 3
    have v4 : CV 4 = .int .i64 (-1) := congrFun hCV 4
    have o4 : isO 4 = false := congrFun hO 4
    have v5 : CV 5 = .bool true := congrFun hCV 5
    have o5 : isO 5 = false := congrFun hO 5
    have v6 : CV 6 = .bool true := congrFun hCV 6
    have o6 : isO 6 = false := congrFun hO 6
    have v7 : CV 7 = .bool true := congrFun hCV 7
    have o7 : isO 7 = false := congrFun hO 7
    have v8 : CV 8 = .int .i64 (-1) := congrFun hCV 8
    have o8 : isO 8 = false := congrFun hO 8
    have v9 : CV 9 = .bool false := congrFun hCV 9
    have o9 : isO 9 = false := congrFun hO 9
    have v10 : CV 10 = .string k1 := congrFun hCV 10
    have o10 : isO 10 = false := congrFun hO 10
    have v11 : CV 11 = .string k2 := congrFun hCV 11
    have o11 : isO 11 = false := congrFun hO 11
    have v12 : CV 12 = .bool false := congrFun hCV 12
    have o12 : isO 12 = false := congrFun hO 12
    have v13 : CV 13 = .bool false := congrFun hCV 13
    have o13 : isO 13 = false := congrFun hO 13
    have v14 : CV 14 = undef := congrFun hCV 14
    have o14 : isO 14 = false := congrFun hO 14
    have v15 : CV 15 = undef := congrFun hCV 15
    have o15 : isO 15 = false := congrFun hO 15
    have v16 : CV 16 = undef := congrFun hCV 16
    have o16 : isO 16 = false := congrFun hO 16
    have v17 : CV 17 = .bool false := congrFun hCV 17
    have o17 : isO 17 = false := congrFun hO 17
    have v18 : CV 18 = .bool true := congrFun hCV 18
    have o18 : isO 18 = false := congrFun hO 18
    have v19 : CV 19 = .bool true := congrFun hCV 19
    have o19 : isO 19 = false := congrFun hO 19
    have v20 : CV 20 = .bool true := congrFun hCV 20
    have o20 : isO 20 = false := congrFun hO 20
    have v21 : CV 21 = .int .i64 (-1) := congrFun hCV 21
    have o21 : isO 21 = false := congrFun hO 21
    have v22 : CV 22 = .bool true := congrFun hCV 22
    have o22 : isO 22 = false := congrFun hO 22
    have v23 : CV 23 = .string k1 := congrFun hCV 23
    have o23 : isO 23 = false := congrFun hO 23
    have v24 : CV 24 = .agg #[.int .i64 s1, .int .i64 e1] := congrFun hCV 24
    have o24 : isO 24 = false := congrFun hO 24
    have v25 : CV 25 = .string k2 := congrFun hCV 25
    have o25 : isO 25 = false := congrFun hO 25
    have v26 : CV 26 = .agg #[.int .i64 s2, .int .i64 e2] := congrFun hCV 26
    have o26 : isO 26 = false := congrFun hO 26
    have v27 : CV 27 = .bool true := congrFun hCV 27
    have o27 : isO 27 = false := congrFun hO 27
    have v28 : CV 28 = .bool true := congrFun hCV 28
    have o28 : isO 28 = false := congrFun hO 28
    have v29 : CV 29 = .bool true := congrFun hCV 29
    have o29 : isO 29 = false := congrFun hO 29
    have v30 : CV 30 = .bool true := congrFun hCV 30
    have o30 : isO 30 = false := congrFun hO 30
    have v31 : CV 31 = .slice (some ⟨g5, 0, none⟩) 2 2 := congrFun hCV 31
    have o31 : isO 31 = false := congrFun hO 31
    have v32 : CV 32 = .pointer (some ⟨g5, 0, none⟩) := congrFun hCV 32
    have o32 : isO 32 = false := congrFun hO 32
    have v33 : CV 33 = .pointer (some ⟨g5, 0, none⟩) := congrFun hCV 33
    have o33 : isO 33 = false := congrFun hO 33
    have v34 : CV 34 = .string p.nm.key := congrFun hCV 34
    have o34 : isO 34 = false := congrFun hO 34
    have v35 : CV 35 = .slice (some ⟨g5, 0, none⟩) 2 2 := congrFun hCV 35
    have o35 : isO 35 = false := congrFun hO 35
    have v36 : CV 36 = .pointer (some ⟨g5, 0, none⟩) := congrFun hCV 36
    have o36 : isO 36 = false := congrFun hO 36
    have v37 : CV 37 = .pointer (some ⟨g5, 1, none⟩) := congrFun hCV 37
    have o37 : isO 37 = false := congrFun hO 37
    have v38 : CV 38 = .agg #[.int .i64 p.nm.s, .int .i64 p.nm.e] := congrFun hCV 38
    have o38 : isO 38 = false := congrFun hO 38
    have v39 : CV 39 = .slice (some ⟨g5, 0, none⟩) 2 2 := congrFun hCV 39
    have o39 : isO 39 = false := congrFun hO 39
    have v40 : CV 40 = .pointer (some ⟨g5, 46, none⟩) := congrFun hCV 40
    have o40 : isO 40 = false := congrFun hO 40
    have v41 : CV 41 = .pointer (some ⟨g5, 46, none⟩) := congrFun hCV 41
    have o41 : isO 41 = false := congrFun hO 41
    have v42 : CV 42 = .string q.nm.key := congrFun hCV 42
    have o42 : isO 42 = false := congrFun hO 42
    have v43 : CV 43 = .slice (some ⟨g5, 0, none⟩) 2 2 := congrFun hCV 43
    have o43 : isO 43 = false := congrFun hO 43
    have v44 : CV 44 = .pointer (some ⟨g5, 46, none⟩) := congrFun hCV 44
    have o44 : isO 44 = false := congrFun hO 44
    have v45 : CV 45 = .pointer (some ⟨g5, 47, none⟩) := congrFun hCV 45
    have o45 : isO 45 = false := congrFun hO 45
    have v46 : CV 46 = .agg #[.int .i64 q.nm.s, .int .i64 q.nm.e] := congrFun hCV 46
    have o46 : isO 46 = false := congrFun hO 46
    have v47 : CV 47 = .int .i64 nn := congrFun hCV 47
    have o47 : isO 47 = false := congrFun hO 47
    have v48 : CV 48 = .bool true := congrFun hCV 48
    have o48 : isO 48 = false := congrFun hO 48
    have v49 : CV 49 = .bool true := congrFun hCV 49
    have o49 : isO 49 = false := congrFun hO 49
    have v50 : CV 50 = .bool true := congrFun hCV 50
    have o50 : isO 50 = false := congrFun hO 50
    clear hCV hO hBL
    have V0 := Lib.hid v0
    have V1 := Lib.hid v1
    have V2 := Lib.hid v2
    have V3 := Lib.hid v3
    have V4 := Lib.hid v4
    have V5 := Lib.hid v5
    have V6 := Lib.hid v6
    have V7 := Lib.hid v7
    have V8 := Lib.hid v8
    have V9 := Lib.hid v9
    have V10 := Lib.hid v10
    have V11 := Lib.hid v11
    have V12 := Lib.hid v12
    have V13 := Lib.hid v13
    have V14 := Lib.hid v14
    have V15 := Lib.hid v15
    have V16 := Lib.hid v16
    have V17 := Lib.hid v17
    have V18 := Lib.hid v18
    have V19 := Lib.hid v19
    have V20 := Lib.hid v20
    have V21 := Lib.hid v21
    have V22 := Lib.hid v22
    have V23 := Lib.hid v23
    have V24 := Lib.hid v24
    have V25 := Lib.hid v25
    have V26 := Lib.hid v26
    have V27 := Lib.hid v27
    have V28 := Lib.hid v28
    have V29 := Lib.hid v29
    have V30 := Lib.hid v30
    have V31 := Lib.hid v31
    have V32 := Lib.hid v32
    have V33 := Lib.hid v33
    have V34 := Lib.hid v34
    have V35 := Lib.hid v35
    have V36 := Lib.hid v36
    have V37 := Lib.hid v37
    have V38 := Lib.hid v38
    have V39 := Lib.hid v39
    have V40 := Lib.hid v40
    have V41 := Lib.hid v41
    have V42 := Lib.hid v42
    have V43 := Lib.hid v43
    have V44 := Lib.hid v44
    have V45 := Lib.hid v45
    have V46 := Lib.hid v46
    have V47 := Lib.hid v47
    have V48 := Lib.hid v48
    have V49 := Lib.hid v49
    have V50 := Lib.hid v50
    clear v0 v1 v2 v3 v4 v5 v6 v7 v8 v9 v10 v11 v12 v13 v14 v15 v16 v17 v18 v19 v20 v21 v22 v23 v24 v25 v26 v27 v28 v29 v30 v31 v32 v33 v34 v35 v36 v37 v38 v39 v40 v41 v42 v43 v44 v45 v46 v47 v48 v49 v50
    refine region_run (RegI w4 isO BL CV) (by kernel_rfl) (by kernel_rfl) (by kernel_rfl) (by kernel_rfl) (RegI.start w4 51) ?_ ?_
    · intro listed vals a1 wq i hs hcl hI hR hi hu hr1
      replace hi : i < 51 := hi
      obtain rfl | hi1 : i = 0 ∨ 1 ≤ i := by omega
      · have hc1 := HAW.out wq
        refine wpOp_calls (f := 12) (args := #[]) rfl rfl (by go_simp) (hc1.mono ?_)
        rintro e wz ⟨rfl, b⟩
        exact ⟨_, rfl, _, rfl, hI.keepV b 0 o0 V0.out⟩
      obtain rfl | hi1 : i = 1 ∨ 2 ≤ i := by omega
      · have t31 : a1.tmps[31]? = some (.bool true) := hI.get hR hr1 0 o0 (by kernel_rfl) (by decide) rfl V0.out
        exact wpOp_val rfl rfl (by rw [V1.out]; go_simp) ⟨_, rfl, hI.keep (Below.refl _ _) 1 o1⟩
      obtain rfl | hi1 : i = 2 ∨ 3 ≤ i := by omega
      · have t32 : a1.tmps[32]? = some (.bool true) := hI.get hR hr1 1 o1 (by kernel_rfl) (by decide) rfl V1.out
        have t9 := hR.fixed 9 (by kernel_rfl) rfl
        exact wpOp_val rfl (wanted_yes rfl rfl t32) (by rw [V2.out]; go_simp) ⟨_, rfl, hI.keep (Below.refl _ _) 2 o2⟩
      obtain rfl | hi1 : i = 3 ∨ 4 ≤ i := by omega
      · have t32 : a1.tmps[32]? = some (.bool true) := hI.get hR hr1 1 o1 (by kernel_rfl) (by decide) rfl V1.out
        have t10 := hR.fixed 10 (by kernel_rfl) rfl
        exact wpOp_val rfl (wanted_yes rfl rfl t32) (by rw [V3.out]; go_simp) ⟨_, rfl, hI.keep (Below.refl _ _) 3 o3⟩
      obtain rfl | hi1 : i = 4 ∨ 5 ≤ i := by omega
      · have t32 : a1.tmps[32]? = some (.bool true) := hI.get hR hr1 1 o1 (by kernel_rfl) (by decide) rfl V1.out
        have t34 : a1.tmps[34]? = some (.int .i64 1) := hI.get hR hr1 3 o3 (by kernel_rfl) (by decide) rfl V3.out
        exact wpOp_val rfl (wanted_yes rfl rfl t32) (by rw [V4.out]; go_simp) ⟨_, rfl, hI.keep (Below.refl _ _) 4 o4⟩
      obtain rfl | hi1 : i = 5 ∨ 6 ≤ i := by omega
      · have t32 : a1.tmps[32]? = some (.bool true) := hI.get hR hr1 1 o1 (by kernel_rfl) (by decide) rfl V1.out
        have t33 : a1.tmps[33]? = some (.int .i64 (-1)) := hI.get hR hr1 2 o2 (by kernel_rfl) (by decide) rfl V2.out
        have t35 : a1.tmps[35]? = some (.int .i64 (-1)) := hI.get hR hr1 4 o4 (by kernel_rfl) (by decide) rfl V4.out
        exact wpOp_val rfl (wanted_yes rfl rfl t32) (by rw [V5.out]; go_simp) ⟨_, rfl, hI.keep (Below.refl _ _) 5 o5⟩
      obtain rfl | hi1 : i = 6 ∨ 7 ≤ i := by omega
      · have t32 : a1.tmps[32]? = some (.bool true) := hI.get hR hr1 1 o1 (by kernel_rfl) (by decide) rfl V1.out
        have t36 : a1.tmps[36]? = some (.bool true) := hI.get hR hr1 5 o5 (by kernel_rfl) (by decide) rfl V5.out
        exact wpOp_val rfl rfl (by rw [V6.out]; go_simp) ⟨_, rfl, hI.keep (Below.refl _ _) 6 o6⟩
      obtain rfl | hi1 : i = 7 ∨ 8 ≤ i := by omega
      · have t37 : a1.tmps[37]? = some (.bool true) := hI.get hR hr1 6 o6 (by kernel_rfl) (by decide) rfl V6.out
        exact wpOp_val rfl rfl (by rw [V7.out]; go_simp) ⟨_, rfl, hI.keep (Below.refl _ _) 7 o7⟩
      obtain rfl | hi1 : i = 8 ∨ 9 ≤ i := by omega
      · have t38 : a1.tmps[38]? = some (.bool true) := hI.get hR hr1 7 o7 (by kernel_rfl) (by decide) rfl V7.out
        have t9 := hR.fixed 9 (by kernel_rfl) rfl
        exact wpOp_val rfl (wanted_yes rfl rfl t38) (by rw [V8.out]; go_simp) ⟨_, rfl, hI.keep (Below.refl _ _) 8 o8⟩
      obtain rfl | hi1 : i = 9 ∨ 10 ≤ i := by omega
      · have t38 : a1.tmps[38]? = some (.bool true) := hI.get hR hr1 7 o7 (by kernel_rfl) (by decide) rfl V7.out
        have t39 : a1.tmps[39]? = some (.int .i64 (-1)) := hI.get hR hr1 8 o8 (by kernel_rfl) (by decide) rfl V8.out
        exact wpOp_val rfl (wanted_yes rfl rfl t38) (by rw [V9.out]; go_simp) ⟨_, rfl, hI.keep (Below.refl _ _) 9 o9⟩
      obtain rfl | hi1 : i = 10 ∨ 11 ≤ i := by omega
      · have t38 : a1.tmps[38]? = some (.bool true) := hI.get hR hr1 7 o7 (by kernel_rfl) (by decide) rfl V7.out
        have t0 := hR.fixed 0 (by kernel_rfl) rfl
        exact wpOp_val rfl (wanted_yes rfl rfl t38) (by rw [V10.out]; go_simp) ⟨_, rfl, hI.keep (Below.refl _ _) 10 o10⟩
      obtain rfl | hi1 : i = 11 ∨ 12 ≤ i := by omega
      · have t38 : a1.tmps[38]? = some (.bool true) := hI.get hR hr1 7 o7 (by kernel_rfl) (by decide) rfl V7.out
        have t1 := hR.fixed 1 (by kernel_rfl) rfl
        exact wpOp_val rfl (wanted_yes rfl rfl t38) (by rw [V11.out]; go_simp) ⟨_, rfl, hI.keep (Below.refl _ _) 11 o11⟩
      obtain rfl | hi1 : i = 12 ∨ 13 ≤ i := by omega
      · have t38 : a1.tmps[38]? = some (.bool true) := hI.get hR hr1 7 o7 (by kernel_rfl) (by decide) rfl V7.out
        have t41 : a1.tmps[41]? = some (.string k1) := hI.get hR hr1 10 o10 (by kernel_rfl) (by decide) rfl V10.out
        have t42 : a1.tmps[42]? = some (.string k2) := hI.get hR hr1 11 o11 (by kernel_rfl) (by decide) rfl V11.out
        exact wpOp_val rfl (wanted_yes rfl rfl t38) (by rw [V12.out]; go_simp) ⟨_, rfl, hI.keep (Below.refl _ _) 12 o12⟩
      obtain rfl | hi1 : i = 13 ∨ 14 ≤ i := by omega
      · have t38 : a1.tmps[38]? = some (.bool true) := hI.get hR hr1 7 o7 (by kernel_rfl) (by decide) rfl V7.out
        have t43 : a1.tmps[43]? = some (.bool false) := hI.get hR hr1 12 o12 (by kernel_rfl) (by decide) rfl V12.out
        exact wpOp_val rfl (wanted_yes rfl rfl t38) (by rw [V13.out]; go_simp) ⟨_, rfl, hI.keep (Below.refl _ _) 13 o13⟩
      obtain rfl | hi1 : i = 14 ∨ 15 ≤ i := by omega
      · have t44 : a1.tmps[44]? = some (.bool false) := hI.get hR hr1 13 o13 (by kernel_rfl) (by decide) rfl V13.out
        exact wpOp_skipped rfl (wanted_no rfl rfl t44) ⟨_, rfl, hI.keepV (Below.refl _ _) 14 o14 V14.out⟩
      obtain rfl | hi1 : i = 15 ∨ 16 ≤ i := by omega
      · have t44 : a1.tmps[44]? = some (.bool false) := hI.get hR hr1 13 o13 (by kernel_rfl) (by decide) rfl V13.out
        exact wpOp_skipped rfl (wanted_no rfl rfl t44) ⟨_, rfl, hI.keepV (Below.refl _ _) 15 o15 V15.out⟩
      obtain rfl | hi1 : i = 16 ∨ 17 ≤ i := by omega
      · have t44 : a1.tmps[44]? = some (.bool false) := hI.get hR hr1 13 o13 (by kernel_rfl) (by decide) rfl V13.out
        exact wpOp_skipped rfl (wanted_no rfl rfl t44) ⟨_, rfl, hI.keepV (Below.refl _ _) 16 o16 V16.out⟩
      obtain rfl | hi1 : i = 17 ∨ 18 ≤ i := by omega
      · have t38 : a1.tmps[38]? = some (.bool true) := hI.get hR hr1 7 o7 (by kernel_rfl) (by decide) rfl V7.out
        have t44 : a1.tmps[44]? = some (.bool false) := hI.get hR hr1 13 o13 (by kernel_rfl) (by decide) rfl V13.out
        have t47 : a1.tmps[47]? = some (undef) := hI.get hR hr1 16 o16 (by kernel_rfl) (by decide) rfl V16.out
        exact wpOp_val rfl (wanted_yes rfl rfl t38) (by rw [V17.out]; go_simp) ⟨_, rfl, hI.keep (Below.refl _ _) 17 o17⟩
      obtain rfl | hi1 : i = 18 ∨ 19 ≤ i := by omega
      · have t38 : a1.tmps[38]? = some (.bool true) := hI.get hR hr1 7 o7 (by kernel_rfl) (by decide) rfl V7.out
        have t40 : a1.tmps[40]? = some (.bool false) := hI.get hR hr1 9 o9 (by kernel_rfl) (by decide) rfl V9.out
        have t48 : a1.tmps[48]? = some (.bool false) := hI.get hR hr1 17 o17 (by kernel_rfl) (by decide) rfl V17.out
        exact wpOp_val rfl (wanted_yes rfl rfl t38) (by rw [V18.out]; go_simp) ⟨_, rfl, hI.keep (Below.refl _ _) 18 o18⟩
      obtain rfl | hi1 : i = 19 ∨ 20 ≤ i := by omega
      · have t38 : a1.tmps[38]? = some (.bool true) := hI.get hR hr1 7 o7 (by kernel_rfl) (by decide) rfl V7.out
        have t49 : a1.tmps[49]? = some (.bool true) := hI.get hR hr1 18 o18 (by kernel_rfl) (by decide) rfl V18.out
        exact wpOp_val rfl rfl (by rw [V19.out]; go_simp) ⟨_, rfl, hI.keep (Below.refl _ _) 19 o19⟩
      obtain rfl | hi1 : i = 20 ∨ 21 ≤ i := by omega
      · have t50 : a1.tmps[50]? = some (.bool true) := hI.get hR hr1 19 o19 (by kernel_rfl) (by decide) rfl V19.out
        exact wpOp_val rfl rfl (by rw [V20.out]; go_simp) ⟨_, rfl, hI.keep (Below.refl _ _) 20 o20⟩
      obtain rfl | hi1 : i = 21 ∨ 22 ≤ i := by omega
      · have t51 : a1.tmps[51]? = some (.bool true) := hI.get hR hr1 20 o20 (by kernel_rfl) (by decide) rfl V20.out
        have t9 := hR.fixed 9 (by kernel_rfl) rfl
        exact wpOp_val rfl (wanted_yes rfl rfl t51) (by rw [V21.out]; go_simp) ⟨_, rfl, hI.keep (Below.refl _ _) 21 o21⟩
      obtain rfl | hi1 : i = 22 ∨ 23 ≤ i := by omega
      · have t51 : a1.tmps[51]? = some (.bool true) := hI.get hR hr1 20 o20 (by kernel_rfl) (by decide) rfl V20.out
        have t52 : a1.tmps[52]? = some (.int .i64 (-1)) := hI.get hR hr1 21 o21 (by kernel_rfl) (by decide) rfl V21.out
        exact wpOp_val rfl (wanted_yes rfl rfl t51) (by rw [V22.out]; go_simp) ⟨_, rfl, hI.keep (Below.refl _ _) 22 o22⟩
      obtain rfl | hi1 : i = 23 ∨ 24 ≤ i := by omega
      · have t51 : a1.tmps[51]? = some (.bool true) := hI.get hR hr1 20 o20 (by kernel_rfl) (by decide) rfl V20.out
        have t0 := hR.fixed 0 (by kernel_rfl) rfl
        exact wpOp_val rfl (wanted_yes rfl rfl t51) (by rw [V23.out]; go_simp) ⟨_, rfl, hI.keep (Below.refl _ _) 23 o23⟩
      obtain rfl | hi1 : i = 24 ∨ 25 ≤ i := by omega
      · have t51 : a1.tmps[51]? = some (.bool true) := hI.get hR hr1 20 o20 (by kernel_rfl) (by decide) rfl V20.out
        have t6 := hR.fixed 6 (by kernel_rfl) rfl
        exact wpOp_mid rfl (wanted_yes rfl rfl t51) 40 (.tmp 6) rfl w.heap.size 0 (getD_is t6) #[.int .i64 s1, .int .i64 e1] _ (range_below hI.b RX.out) Try.underlying40 rfl HSW.out ⟨_, rfl, hI.keepV (Below.refl _ _) 24 o24 V24.out⟩
      obtain rfl | hi1 : i = 25 ∨ 26 ≤ i := by omega
      · have t51 : a1.tmps[51]? = some (.bool true) := hI.get hR hr1 20 o20 (by kernel_rfl) (by decide) rfl V20.out
        have t1 := hR.fixed 1 (by kernel_rfl) rfl
        exact wpOp_val rfl (wanted_yes rfl rfl t51) (by rw [V25.out]; go_simp) ⟨_, rfl, hI.keep (Below.refl _ _) 25 o25⟩
      obtain rfl | hi1 : i = 26 ∨ 27 ≤ i := by omega
      · have t51 : a1.tmps[51]? = some (.bool true) := hI.get hR hr1 20 o20 (by kernel_rfl) (by decide) rfl V20.out
        have t7 := hR.fixed 7 (by kernel_rfl) rfl
        exact wpOp_mid rfl (wanted_yes rfl rfl t51) 40 (.tmp 7) rfl (w.heap.size + 1) 0 (getD_is t7) #[.int .i64 s2, .int .i64 e2] _ (range_below hI.b RY.out) Try.underlying40 rfl HSW.out ⟨_, rfl, hI.keepV (Below.refl _ _) 26 o26 V26.out⟩
      obtain rfl | hi1 : i = 27 ∨ 28 ≤ i := by omega
      · have t51 : a1.tmps[51]? = some (.bool true) := hI.get hR hr1 20 o20 (by kernel_rfl) (by decide) rfl V20.out
        have t54 : a1.tmps[54]? = some (.string k1) := hI.get hR hr1 23 o23 (by kernel_rfl) (by decide) rfl V23.out
        have t55 : a1.tmps[55]? = some (.agg #[.int .i64 s1, .int .i64 e1]) := hI.get hR hr1 24 o24 (by kernel_rfl) (by decide) rfl V24.out
        have t56 : a1.tmps[56]? = some (.string k2) := hI.get hR hr1 25 o25 (by kernel_rfl) (by decide) rfl V25.out
        have t57 : a1.tmps[57]? = some (.agg #[.int .i64 s2, .int .i64 e2]) := hI.get hR hr1 26 o26 (by kernel_rfl) (by decide) rfl V26.out
        have hc1 := HBFB.out wq
        refine wpOp_calls (f := 25) (args := #[.string k1, .agg #[.int .i64 s1, .int .i64 e1], .string k2, .agg #[.int .i64 s2, .int .i64 e2]]) rfl (wanted_yes rfl rfl t51) (by go_simp) (hc1.mono ?_)
        rintro e wz ⟨rfl, b⟩
        exact ⟨_, rfl, _, rfl, hI.keepV b 27 o27 V27.out⟩
      obtain rfl | hi1 : i = 28 ∨ 29 ≤ i := by omega
      · have t51 : a1.tmps[51]? = some (.bool true) := hI.get hR hr1 20 o20 (by kernel_rfl) (by decide) rfl V20.out
        have t53 : a1.tmps[53]? = some (.bool true) := hI.get hR hr1 22 o22 (by kernel_rfl) (by decide) rfl V22.out
        have t58 : a1.tmps[58]? = some (.bool true) := hI.get hR hr1 27 o27 (by kernel_rfl) (by decide) rfl V27.out
        exact wpOp_val rfl (wanted_yes rfl rfl t51) (by rw [V28.out]; go_simp) ⟨_, rfl, hI.keep (Below.refl _ _) 28 o28⟩
      obtain rfl | hi1 : i = 29 ∨ 30 ≤ i := by omega
      · have t51 : a1.tmps[51]? = some (.bool true) := hI.get hR hr1 20 o20 (by kernel_rfl) (by decide) rfl V20.out
        have t59 : a1.tmps[59]? = some (.bool true) := hI.get hR hr1 28 o28 (by kernel_rfl) (by decide) rfl V28.out
        exact wpOp_val rfl rfl (by rw [V29.out]; go_simp) ⟨_, rfl, hI.keep (Below.refl _ _) 29 o29⟩
      obtain rfl | hi1 : i = 30 ∨ 31 ≤ i := by omega
      · have t60 : a1.tmps[60]? = some (.bool true) := hI.get hR hr1 29 o29 (by kernel_rfl) (by decide) rfl V29.out
        exact wpOp_val rfl rfl (by rw [V30.out]; go_simp) ⟨_, rfl, hI.keep (Below.refl _ _) 30 o30⟩
      obtain rfl | hi1 : i = 31 ∨ 32 ≤ i := by omega
      · have t61 : a1.tmps[61]? = some (.bool true) := hI.get hR hr1 30 o30 (by kernel_rfl) (by decide) rfl V30.out
        have t11 := hR.fixed 11 (by kernel_rfl) rfl
        exact wpOp_val rfl (wanted_yes rfl rfl t61) (by rw [V31.out]; go_simp) ⟨_, rfl, hI.keep (Below.refl _ _) 31 o31⟩
      obtain rfl | hi1 : i = 32 ∨ 33 ≤ i := by omega
      · have t61 : a1.tmps[61]? = some (.bool true) := hI.get hR hr1 30 o30 (by kernel_rfl) (by decide) rfl V30.out
        have t62 : a1.tmps[62]? = some (.slice (some ⟨g5, 0, none⟩) 2 2) := hI.get hR hr1 31 o31 (by kernel_rfl) (by decide) rfl V31.out
        exact wpOp_val rfl (wanted_yes rfl rfl t61) (by rw [V32.out]; go_simp) ⟨_, rfl, hI.keep (Below.refl _ _) 32 o32⟩
      obtain rfl | hi1 : i = 33 ∨ 34 ≤ i := by omega
      · have t61 : a1.tmps[61]? = some (.bool true) := hI.get hR hr1 30 o30 (by kernel_rfl) (by decide) rfl V30.out
        have t63 : a1.tmps[63]? = some (.pointer (some ⟨g5, 0, none⟩)) := hI.get hR hr1 32 o32 (by kernel_rfl) (by decide) rfl V32.out
        exact wpOp_val rfl (wanted_yes rfl rfl t61) (by rw [V33.out]; go_simp) ⟨_, rfl, hI.keep (Below.refl _ _) 33 o33⟩
      obtain rfl | hi1 : i = 34 ∨ 35 ≤ i := by omega
      · have t61 : a1.tmps[61]? = some (.bool true) := hI.get hR hr1 30 o30 (by kernel_rfl) (by decide) rfl V30.out
        have t64 : a1.tmps[64]? = some (.pointer (some ⟨g5, 0, none⟩)) := hI.get hR hr1 33 o33 (by kernel_rfl) (by decide) rfl V33.out
        have cc := cell_below hI.b KP.out
        exact wpOp_val rfl (wanted_yes rfl rfl t61) (by rw [V34.out]; go_simp) ⟨_, rfl, hI.keep (Below.refl _ _) 34 o34⟩
      obtain rfl | hi1 : i = 35 ∨ 36 ≤ i := by omega
      · have t61 : a1.tmps[61]? = some (.bool true) := hI.get hR hr1 30 o30 (by kernel_rfl) (by decide) rfl V30.out
        have t11 := hR.fixed 11 (by kernel_rfl) rfl
        exact wpOp_val rfl (wanted_yes rfl rfl t61) (by rw [V35.out]; go_simp) ⟨_, rfl, hI.keep (Below.refl _ _) 35 o35⟩
      obtain rfl | hi1 : i = 36 ∨ 37 ≤ i := by omega
      · have t61 : a1.tmps[61]? = some (.bool true) := hI.get hR hr1 30 o30 (by kernel_rfl) (by decide) rfl V30.out
        have t66 : a1.tmps[66]? = some (.slice (some ⟨g5, 0, none⟩) 2 2) := hI.get hR hr1 35 o35 (by kernel_rfl) (by decide) rfl V35.out
        exact wpOp_val rfl (wanted_yes rfl rfl t61) (by rw [V36.out]; go_simp) ⟨_, rfl, hI.keep (Below.refl _ _) 36 o36⟩
      obtain rfl | hi1 : i = 37 ∨ 38 ≤ i := by omega
      · have t61 : a1.tmps[61]? = some (.bool true) := hI.get hR hr1 30 o30 (by kernel_rfl) (by decide) rfl V30.out
        have t67 : a1.tmps[67]? = some (.pointer (some ⟨g5, 0, none⟩)) := hI.get hR hr1 36 o36 (by kernel_rfl) (by decide) rfl V36.out
        exact wpOp_val rfl (wanted_yes rfl rfl t61) (by rw [V37.out]; go_simp) ⟨_, rfl, hI.keep (Below.refl _ _) 37 o37⟩
      obtain rfl | hi1 : i = 38 ∨ 39 ≤ i := by omega
      · have t61 : a1.tmps[61]? = some (.bool true) := hI.get hR hr1 30 o30 (by kernel_rfl) (by decide) rfl V30.out
        have t68 : a1.tmps[68]? = some (.pointer (some ⟨g5, 1, none⟩)) := hI.get hR hr1 37 o37 (by kernel_rfl) (by decide) rfl V37.out
        exact wpOp_mid rfl (wanted_yes rfl rfl t61) 40 (.tmp 68) rfl g5 1 (getD_is t68) #[.int .i64 p.nm.s, .int .i64 p.nm.e] _ (range_below hI.b RP.out) Try.underlying40 rfl HSW.out ⟨_, rfl, hI.keepV (Below.refl _ _) 38 o38 V38.out⟩
      obtain rfl | hi1 : i = 39 ∨ 40 ≤ i := by omega
      · have t61 : a1.tmps[61]? = some (.bool true) := hI.get hR hr1 30 o30 (by kernel_rfl) (by decide) rfl V30.out
        have t11 := hR.fixed 11 (by kernel_rfl) rfl
        exact wpOp_val rfl (wanted_yes rfl rfl t61) (by rw [V39.out]; go_simp) ⟨_, rfl, hI.keep (Below.refl _ _) 39 o39⟩
      obtain rfl | hi1 : i = 40 ∨ 41 ≤ i := by omega
      · have t61 : a1.tmps[61]? = some (.bool true) := hI.get hR hr1 30 o30 (by kernel_rfl) (by decide) rfl V30.out
        have t70 : a1.tmps[70]? = some (.slice (some ⟨g5, 0, none⟩) 2 2) := hI.get hR hr1 39 o39 (by kernel_rfl) (by decide) rfl V39.out
        exact wpOp_val rfl (wanted_yes rfl rfl t61) (by rw [V40.out]; go_simp) ⟨_, rfl, hI.keep (Below.refl _ _) 40 o40⟩
      obtain rfl | hi1 : i = 41 ∨ 42 ≤ i := by omega
      · have t61 : a1.tmps[61]? = some (.bool true) := hI.get hR hr1 30 o30 (by kernel_rfl) (by decide) rfl V30.out
        have t71 : a1.tmps[71]? = some (.pointer (some ⟨g5, 46, none⟩)) := hI.get hR hr1 40 o40 (by kernel_rfl) (by decide) rfl V40.out
        exact wpOp_val rfl (wanted_yes rfl rfl t61) (by rw [V41.out]; go_simp) ⟨_, rfl, hI.keep (Below.refl _ _) 41 o41⟩
      obtain rfl | hi1 : i = 42 ∨ 43 ≤ i := by omega
      · have t61 : a1.tmps[61]? = some (.bool true) := hI.get hR hr1 30 o30 (by kernel_rfl) (by decide) rfl V30.out
        have t72 : a1.tmps[72]? = some (.pointer (some ⟨g5, 46, none⟩)) := hI.get hR hr1 41 o41 (by kernel_rfl) (by decide) rfl V41.out
        have cc := cell_below hI.b KQ.out
        exact wpOp_val rfl (wanted_yes rfl rfl t61) (by rw [V42.out]; go_simp) ⟨_, rfl, hI.keep (Below.refl _ _) 42 o42⟩
      obtain rfl | hi1 : i = 43 ∨ 44 ≤ i := by omega
      · have t61 : a1.tmps[61]? = some (.bool true) := hI.get hR hr1 30 o30 (by kernel_rfl) (by decide) rfl V30.out
        have t11 := hR.fixed 11 (by kernel_rfl) rfl
        exact wpOp_val rfl (wanted_yes rfl rfl t61) (by rw [V43.out]; go_simp) ⟨_, rfl, hI.keep (Below.refl _ _) 43 o43⟩
      obtain rfl | hi1 : i = 44 ∨ 45 ≤ i := by omega
      · have t61 : a1.tmps[61]? = some (.bool true) := hI.get hR hr1 30 o30 (by kernel_rfl) (by decide) rfl V30.out
        have t74 : a1.tmps[74]? = some (.slice (some ⟨g5, 0, none⟩) 2 2) := hI.get hR hr1 43 o43 (by kernel_rfl) (by decide) rfl V43.out
        exact wpOp_val rfl (wanted_yes rfl rfl t61) (by rw [V44.out]; go_simp) ⟨_, rfl, hI.keep (Below.refl _ _) 44 o44⟩
      obtain rfl | hi1 : i = 45 ∨ 46 ≤ i := by omega
      · have t61 : a1.tmps[61]? = some (.bool true) := hI.get hR hr1 30 o30 (by kernel_rfl) (by decide) rfl V30.out
        have t75 : a1.tmps[75]? = some (.pointer (some ⟨g5, 46, none⟩)) := hI.get hR hr1 44 o44 (by kernel_rfl) (by decide) rfl V44.out
        exact wpOp_val rfl (wanted_yes rfl rfl t61) (by rw [V45.out]; go_simp) ⟨_, rfl, hI.keep (Below.refl _ _) 45 o45⟩
      obtain rfl | hi1 : i = 46 ∨ 47 ≤ i := by omega
      · have t61 : a1.tmps[61]? = some (.bool true) := hI.get hR hr1 30 o30 (by kernel_rfl) (by decide) rfl V30.out
        have t76 : a1.tmps[76]? = some (.pointer (some ⟨g5, 47, none⟩)) := hI.get hR hr1 45 o45 (by kernel_rfl) (by decide) rfl V45.out
        exact wpOp_mid rfl (wanted_yes rfl rfl t61) 40 (.tmp 76) rfl g5 47 (getD_is t76) #[.int .i64 q.nm.s, .int .i64 q.nm.e] _ (range_below hI.b RQ.out) Try.underlying40 rfl HSW.out ⟨_, rfl, hI.keepV (Below.refl _ _) 46 o46 V46.out⟩
      obtain rfl | hi1 : i = 47 ∨ 48 ≤ i := by omega
      · have t61 : a1.tmps[61]? = some (.bool true) := hI.get hR hr1 30 o30 (by kernel_rfl) (by decide) rfl V30.out
        have t65 : a1.tmps[65]? = some (.string p.nm.key) := hI.get hR hr1 34 o34 (by kernel_rfl) (by decide) rfl V34.out
        have t69 : a1.tmps[69]? = some (.agg #[.int .i64 p.nm.s, .int .i64 p.nm.e]) := hI.get hR hr1 38 o38 (by kernel_rfl) (by decide) rfl V38.out
        have t73 : a1.tmps[73]? = some (.string q.nm.key) := hI.get hR hr1 42 o42 (by kernel_rfl) (by decide) rfl V42.out
        have t77 : a1.tmps[77]? = some (.agg #[.int .i64 q.nm.s, .int .i64 q.nm.e]) := hI.get hR hr1 46 o46 (by kernel_rfl) (by decide) rfl V46.out
        have hc1 := HOPB.out wq
        refine wpOp_calls (f := 18) (args := #[.string p.nm.key, .agg #[.int .i64 p.nm.s, .int .i64 p.nm.e], .string q.nm.key, .agg #[.int .i64 q.nm.s, .int .i64 q.nm.e]]) rfl (wanted_yes rfl rfl t61) (by go_simp) (hc1.mono ?_)
        rintro e wz ⟨rfl, b⟩
        exact ⟨_, rfl, _, rfl, hI.keepV b 47 o47 V47.out⟩
      obtain rfl | hi1 : i = 48 ∨ 49 ≤ i := by omega
      · have t61 : a1.tmps[61]? = some (.bool true) := hI.get hR hr1 30 o30 (by kernel_rfl) (by decide) rfl V30.out
        have t78 : a1.tmps[78]? = some (.int .i64 nn) := hI.get hR hr1 47 o47 (by kernel_rfl) (by decide) rfl V47.out
        exact wpOp_val rfl (wanted_yes rfl rfl t61) (by rw [V48.out]; go_simp) ⟨_, rfl, hI.keep (Below.refl _ _) 48 o48⟩
      obtain rfl | hi1 : i = 49 ∨ 50 ≤ i := by omega
      · have t61 : a1.tmps[61]? = some (.bool true) := hI.get hR hr1 30 o30 (by kernel_rfl) (by decide) rfl V30.out
        have t79 : a1.tmps[79]? = some (.bool true) := hI.get hR hr1 48 o48 (by kernel_rfl) (by decide) rfl V48.out
        exact wpOp_val rfl rfl (by rw [V49.out]; go_simp) ⟨_, rfl, hI.keep (Below.refl _ _) 49 o49⟩
      obtain rfl : i = 50 := by omega
      have t80 : a1.tmps[80]? = some (.bool true) := hI.get hR hr1 49 o49 (by kernel_rfl) (by decide) rfl V49.out
      exact wpOp_val rfl rfl (by rw [V50.out]; go_simp) ⟨_, rfl, hI.keep (Below.refl _ _) 50 o50⟩
    · intro listed vals wq FF hI hall hFF
      have hF2 : FF = ((((((((((((((((((((((((((((((((((((((((((((((((((Act.put _ (some 31) (vals 0)).put (some 32) (vals 1)).put (some 33) (vals 2)).put (some 34) (vals 3)).put (some 35) (vals 4)).put (some 36) (vals 5)).put (some 37) (vals 6)).put (some 38) (vals 7)).put (some 39) (vals 8)).put (some 40) (vals 9)).put (some 41) (vals 10)).put (some 42) (vals 11)).put (some 43) (vals 12)).put (some 44) (vals 13)).put (some 45) (vals 14)).put (some 46) (vals 15)).put (some 47) (vals 16)).put (some 48) (vals 17)).put (some 49) (vals 18)).put (some 50) (vals 19)).put (some 51) (vals 20)).put (some 52) (vals 21)).put (some 53) (vals 22)).put (some 54) (vals 23)).put (some 55) (vals 24)).put (some 56) (vals 25)).put (some 57) (vals 26)).put (some 58) (vals 27)).put (some 59) (vals 28)).put (some 60) (vals 29)).put (some 61) (vals 30)).put (some 62) (vals 31)).put (some 63) (vals 32)).put (some 64) (vals 33)).put (some 65) (vals 34)).put (some 66) (vals 35)).put (some 67) (vals 36)).put (some 68) (vals 37)).put (some 69) (vals 38)).put (some 70) (vals 39)).put (some 71) (vals 40)).put (some 72) (vals 41)).put (some 73) (vals 42)).put (some 74) (vals 43)).put (some 75) (vals 44)).put (some 76) (vals 45)).put (some 77) (vals 46)).put (some 78) (vals 47)).put (some 79) (vals 48)).put (some 80) (vals 49)).put (some 8) (vals 50) := hFF
      simp only [putAll] at hF2
      rw [hF2]
      have e50 := hI.val 50 o50 (hall 50 (by decide))
      rw [V50.out] at e50
      have bfin := hI.b
      clear hF2 hFF hI hall
      rw [e50]
      go_frame
      generalize vals 0 = x0, vals 1 = x1, vals 2 = x2, vals 3 = x3, vals 4 = x4, vals 5 = x5, vals 6 = x6, vals 7 = x7, vals 8 = x8, vals 9 = x9, vals 10 = x10, vals 11 = x11, vals 12 = x12, vals 13 = x13, vals 14 = x14, vals 15 = x15, vals 16 = x16, vals 17 = x17, vals 18 = x18, vals 19 = x19, vals 20 = x20, vals 21 = x21, vals 22 = x22, vals 23 = x23, vals 24 = x24, vals 25 = x25, vals 26 = x26, vals 27 = x27, vals 28 = x28, vals 29 = x29, vals 30 = x30, vals 31 = x31, vals 32 = x32, vals 33 = x33, vals 34 = x34, vals 35 = x35, vals 36 = x36, vals 37 = x37, vals 38 = x38, vals 39 = x39, vals 40 = x40, vals 41 = x41, vals 42 = x42, vals 43 = x43, vals 44 = x44, vals 45 = x45, vals 46 = x46, vals 47 = x47, vals 48 = x48, vals 49 = x49 at *
      go_wp2_with fail
      go_ret
      exact ⟨rfl, below_trans HB4D.out bfin⟩
  · as_aux_lemma =>
    (first | (go_region_held3 (fun w' => w'.cell? ⟨w.heap.size, 0, none⟩ = some (.int .i64 s1) ∧ w'.cell? ⟨w.heap.size, 1, none⟩ = some (.int .i64 e1) ∧ w'.cell? ⟨w.heap.size + 1, 0, none⟩ = some (.int .i64 s2) ∧ w'.cell? ⟨w.heap.size + 1, 1, none⟩ = some (.int .i64 e2) ∧ w'.cell? ⟨g5, 0, none⟩ = some (.string p.nm.key) ∧ w'.cell? ⟨g5, 1, none⟩ = some (.int .i64 p.nm.s) ∧ w'.cell? ⟨g5, 2, none⟩ = some (.int .i64 p.nm.e) ∧ w'.cell? ⟨g5, 46, none⟩ = some (.string q.nm.key) ∧ w'.cell? ⟨g5, 47, none⟩ = some (.int .i64 q.nm.s) ∧ w'.cell? ⟨g5, 48, none⟩ = some (.int .i64 q.nm.e))
      (first | exact ⟨A04, A14, B04, B14, P0, P1, P2, Q0, Q1, Q2⟩ | exact ⟨cell_below b5 A04, cell_below b5 A14, cell_below b5 B04, cell_below b5 B14, cell_below b5 P0, cell_below b5 P1, cell_below b5 P2, cell_below b5 Q0, cell_below b5 Q1, cell_below b5 Q2⟩ | exact ⟨cell_below b56 A04, cell_below b56 A14, cell_below b56 B04, cell_below b56 B14, cell_below b56 P0, cell_below b56 P1, cell_below b56 P2, cell_below b56 Q0, cell_below b56 Q1, cell_below b56 Q2⟩ | exact ⟨cell_below b57 A04, cell_below b57 A14, cell_below b57 B04, cell_below b57 B14, cell_below b57 P0, cell_below b57 P1, cell_below b57 P2, cell_below b57 Q0, cell_below b57 Q1, cell_below b57 Q2⟩)
      (first
        | (go_at_call 12; (with_reducible refine (HAW.out _).mono ?_); rintro en w5 ⟨rfl, b5⟩)
        | (go_at_call 25; (with_reducible refine (HBF.out _).mono ?_); rintro en w6 ⟨rfl, hg6⟩; have b56 := below_trans b5 hg6.below)
        | (go_at_call 18; (with_reducible refine (HOP.out _).mono ?_); rintro en w7 ⟨rfl, hg7⟩; have b57 := below_trans b56 hg7.below)
        | fail)) | fail)
    go_wp2_with fail
    go_ret
    exact ⟨rfl, below_trans HBD.out b57⟩
  · as_aux_lemma =>
    (first | (go_region_held3 (fun w' => w'.cell? ⟨w.heap.size, 0, none⟩ = some (.int .i64 s1) ∧ w'.cell? ⟨w.heap.size, 1, none⟩ = some (.int .i64 e1) ∧ w'.cell? ⟨w.heap.size + 1, 0, none⟩ = some (.int .i64 s2) ∧ w'.cell? ⟨w.heap.size + 1, 1, none⟩ = some (.int .i64 e2) ∧ w'.cell? ⟨g5, 0, none⟩ = some (.string p.nm.key) ∧ w'.cell? ⟨g5, 1, none⟩ = some (.int .i64 p.nm.s) ∧ w'.cell? ⟨g5, 2, none⟩ = some (.int .i64 p.nm.e) ∧ w'.cell? ⟨g5, 46, none⟩ = some (.string q.nm.key) ∧ w'.cell? ⟨g5, 47, none⟩ = some (.int .i64 q.nm.s) ∧ w'.cell? ⟨g5, 48, none⟩ = some (.int .i64 q.nm.e))
      (first | exact ⟨A04, A14, B04, B14, P0, P1, P2, Q0, Q1, Q2⟩ | exact ⟨cell_below b5 A04, cell_below b5 A14, cell_below b5 B04, cell_below b5 B14, cell_below b5 P0, cell_below b5 P1, cell_below b5 P2, cell_below b5 Q0, cell_below b5 Q1, cell_below b5 Q2⟩ | exact ⟨cell_below b56 A04, cell_below b56 A14, cell_below b56 B04, cell_below b56 B14, cell_below b56 P0, cell_below b56 P1, cell_below b56 P2, cell_below b56 Q0, cell_below b56 Q1, cell_below b56 Q2⟩ | exact ⟨cell_below b57 A04, cell_below b57 A14, cell_below b57 B04, cell_below b57 B14, cell_below b57 P0, cell_below b57 P1, cell_below b57 P2, cell_below b57 Q0, cell_below b57 Q1, cell_below b57 Q2⟩)
      (first
        | (go_at_call 12; (with_reducible refine (HAW.out _).mono ?_); rintro en w5 ⟨rfl, b5⟩)
        | (go_at_call 25; (with_reducible refine (HBF.out _).mono ?_); rintro en w6 ⟨rfl, hg6⟩; have b56 := below_trans b5 hg6.below)
        | (go_at_call 18; (with_reducible refine (HOP.out _).mono ?_); rintro en w7 ⟨rfl, hg7⟩; have b57 := below_trans b56 hg7.below)
        | fail)) | fail)
    go_wp2_with fail
    go_ret
    exact ⟨rfl, below_trans HBD.out b57⟩
end Go.Proofs.Ythplelglifnhoaa
