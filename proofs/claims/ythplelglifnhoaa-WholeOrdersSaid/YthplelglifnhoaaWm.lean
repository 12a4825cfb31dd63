import Derived.Test.YthplelglifnhoaaWj
import Derived.Deep.RegionHeld3
/-! Which of two keys and windows stands ahead: the statement, the same. -/
namespace Go.Proofs.Ythplelglifnhoaa
open Go.Shelf Go.RowKit Go.Lib Go.Sort
set_option linter.unusedVariables false
set_option linter.unusedSimpArgs false
attribute [-simp] Try.isAgg47 Try.sizeOf47 Try.typeInfo47 Try.type47
set_option maxRecDepth 100000 in
set_option maxHeartbeats 8000000 in
theorem orders_eq (x y : Nm) (nx ny : Int) (lt ke se ee : Bool) (hx : nmOrd x y = nx) (hy : nmOrd y x = ny) (hlt : nmLt x y = lt) (hke : (x.key.toList == y.key.toList) = ke) (hse : (x.s == y.s) = se) (hee : (x.e == y.e) = ee)
    (hxy : nx = 0 ∧ ny = 0 ∧ lt = false ∧ ke = true ∧ se = true ∧ ee = true) (w : World) :
    Calls Try.prog 9 #[.string x.key, .string y.key, .agg #[.int .i64 x.s, .int .i64 x.e], .agg #[.int .i64 y.s, .int .i64 y.e]] w fun en w' => en = .returned (.bool true) ∧ Below w.heap.size w w' := by
  have z47 : ∀ w, (sizeOf 47).run Try.prog w = .ok 46 w := run_sizeOf_info sizeGr
  have ho1 := fun w => order_any x y w
  have ho2 := fun w => order_any y x w
  have hbf := fun w => nmBefore_any x y w
  rw [hx] at ho1
  rw [hy] at ho2
  rw [hlt] at hbf
  have HO1 := Lib.hid ho1
  have HO2 := Lib.hid ho2
  have HBF := Lib.hid hbf
  have hbx := built_gr2 x.key x.s x.e
  have hby := built_gr2 y.key y.s y.e
  obtain ⟨gx, hgx⟩ : ∃ g : Gr, g = ⟨x, []⟩ := ⟨_, rfl⟩
  obtain ⟨gy, hgy⟩ : ∃ g : Gr, g = ⟨y, []⟩ := ⟨_, rfl⟩
  have hbx : Try.prog.built 47 [(0, .string x.key), (1, .agg #[.int .i64 x.s, .int .i64 x.e])] = some (grL gx).toArray := by rw [hgx]; exact hbx
  have hby : Try.prog.built 47 [(0, .string y.key), (1, .agg #[.int .i64 y.s, .int .i64 y.e])] = some (grL gy).toArray := by rw [hgy]; exact hby
  have HBX := Lib.hid hbx
  have HBY := Lib.hid hby
  have HX := Lib.hid hgx
  have HY := Lib.hid hgy
  clear ho1 ho2 hbf hx hy hlt hbx hby hgx hgy
  obtain ⟨k1, s1, e1⟩ := x
  obtain ⟨k2, s2, e2⟩ := y
  simp only at hke hse hee HBX HBY ⊢
  have hq1 := heap_alloc2_old w (.cells #[.int .i64 s1, .int .i64 e1] 40) (.cells #[.int .i64 s2, .int .i64 e2] 40)
  have hq2 := heap_alloc2_new w (.cells #[.int .i64 s1, .int .i64 e1] 40) (.cells #[.int .i64 s2, .int .i64 e2] 40)
  have a0 := (cell_of_row _ _ 0 _ _ _ hq1).trans (show (#[.int .i64 s1, .int .i64 e1] : Array Value)[0]? = some (.int .i64 s1) from rfl)
  have a1 := (cell_of_row _ _ 1 _ _ _ hq1).trans (show (#[.int .i64 s1, .int .i64 e1] : Array Value)[1]? = some (.int .i64 e1) from rfl)
  have b0 := (cell_of_row _ _ 0 _ _ _ hq2).trans (show (#[.int .i64 s2, .int .i64 e2] : Array Value)[0]? = some (.int .i64 s2) from rfl)
  have b1 := (cell_of_row _ _ 1 _ _ _ hq2).trans (show (#[.int .i64 s2, .int .i64 e2] : Array Value)[1]? = some (.int .i64 e2) from rfl)
  have hbw := below_alloc (below_alloc (Below.refl w.heap.size w) (.cells #[.int .i64 s1, .int .i64 e1] 40)) (.cells #[.int .i64 s2, .int .i64 e2] 40)
  have HBW := Lib.hid hbw
  clear hq1 hq2 hbw
  go_enter Try.func9, Try.ntmps9
  go_upto_region 3 with (first
    | (go_at_call 18; (with_reducible refine (HO1.out _).mono ?_); rintro en w1 ⟨rfl, hg1⟩; have a01 := cell_below hg1.below a0; have a11 := cell_below hg1.below a1; have b01 := cell_below hg1.below b0; have b11 := cell_below hg1.below b1; have HB1 := Lib.hid (below_trans HBW.out hg1.below); clear hg1)
    | (go_at_call 18; (with_reducible refine (HO2.out _).mono ?_); rintro en w2 ⟨rfl, hg2⟩; have a02 := cell_below hg2.below a01; have a12 := cell_below hg2.below a11; have b02 := cell_below hg2.below b01; have b12 := cell_below hg2.below b11; have HB2 := Lib.hid (below_trans HB1.out hg2.below); clear hg2))
  clear a0 a1 b0 b1 a01 a11 b01 b11 HB1 HBW HO2
  have ba := below_alloc (Below.refl w2.heap.size w2) (.cells (grL gx ++ grL gy).toArray 47)
  have a03 := cell_below ba a02
  have a13 := cell_below ba a12
  have b03 := cell_below ba b02
  have b13 := cell_below ba b12
  have HB3 := Lib.hid (below_trans HB2.out ba)
  have HO3 : Hid (OwnE (w2.alloc (.cells (grL gx ++ grL gy).toArray 47)) w2.heap.size 47 46 grL (.slice (some ⟨w2.heap.size, 0, none⟩) 2 2) [gx, gy]) := Lib.hid (OwnE.two encGr (heap_alloc_new w2 _) (Nat.le_refl _))
  have HST := Lib.hid (sort_gr _ _ _ _ HO3.out (show 2 ≤ 100000 by decide))
  have hlt0 := World.block_lt_of_cell? w2 _ b02
  have HLT : Hid (w.heap.size + 1 < w2.heap.size) := Lib.hid hlt0
  clear ba hlt0
  go_upto_region 5 with (first
    | (refine at_op (.build 47 #[(0, .tmp 22), (1, .tmp 23)]) ?_ rfl; refine run_builtK rfl 47 _ rfl (grL gx).toArray (by simp only [List.map_toArray, List.map_cons, List.map_nil, Act.eval]; exact HBX.out) ?_)
    | (refine at_op (.build 47 #[(0, .tmp 25), (1, .tmp 26)]) ?_ rfl; refine run_builtK rfl 47 _ rfl (grL gy).toArray (by simp only [List.map_toArray, List.map_cons, List.map_nil, Act.eval]; exact HBY.out) ?_)
    | (refine at_op (.buildSlice 37 2 #[(0, .tmp 24), (1, .tmp 27)]) ?_ rfl; refine wpList_buildTwo encGr (by decide) rfl w2 37 (.tmp 24) (.tmp 27) rfl (some 28) rfl w2.heap.size rfl rfl gx gy rfl rfl ?_)
    | (go_at_call 24; (with_reducible refine HST.out.mono ?_); rintro en w4 ⟨rfl, l4, hp4, hs4, ho4, hg4⟩; have HP4 := Lib.hid hp4; have HS4 := Lib.hid hs4; have HO4 := Lib.hid ho4; have HG4 := Lib.hid hg4; clear hp4 hs4 ho4 hg4))
  have hne1 : some w.heap.size ≠ (Value.slice (some ⟨w2.heap.size, 0, none⟩) 2 2).ownBlock := fun q => by
    have q2 : w.heap.size = w2.heap.size := by injection q
    have := HLT.out; omega
  have hne2 : some (w.heap.size + 1) ≠ (Value.slice (some ⟨w2.heap.size, 0, none⟩) 2 2).ownBlock := fun q => by
    have q2 : w.heap.size + 1 = w2.heap.size := by injection q
    have := HLT.out; omega
  have a04 := HG4.out.cell a03 hne1
  have a14 := HG4.out.cell a13 hne1
  have b04 := HG4.out.cell b03 hne2
  have b14 := HG4.out.cell b13 hne2
  have HB4 := Lib.hid (below_grown2 HB3.out HG4.out (fun q h => by have := (HO3.out.lt q h).1; have := HB2.out.size; omega))
  clear a02 a12 b02 b12 a03 a13 b03 b13 HB2 HB3 HST hne1 hne2 HBX HBY
  have hl4 : ∃ p q : Gr, l4 = [p, q] := by
    have := HP4.out.length_eq
    match l4, this with
    | [p, q], _ => exact ⟨p, q, rfl⟩
  obtain ⟨p, q, rfl⟩ := hl4
  have hpq := (List.pairwise_cons.1 HS4.out).1 q (by simp)
  have HLE := Lib.hid (ord_le hpq)
  have hopq := fun w => order_any p.nm q.nm w
  obtain ⟨r0, _⟩ := OwnE.row encGr HO4.out (i := 0) (x := p) rfl
  obtain ⟨r1, _⟩ := OwnE.row encGr HO4.out (i := 1) (x := q) rfl
  have p0 : w4.cell? ⟨w2.heap.size, 0, none⟩ = some (.string p.nm.key) := r0 0 _ rfl
  have p1 : w4.cell? ⟨w2.heap.size, 1, none⟩ = some (.int .i64 p.nm.s) := r0 1 _ rfl
  have p2 : w4.cell? ⟨w2.heap.size, 2, none⟩ = some (.int .i64 p.nm.e) := r0 2 _ rfl
  have q0 : w4.cell? ⟨w2.heap.size, 46, none⟩ = some (.string q.nm.key) := r1 0 _ rfl
  have q1 : w4.cell? ⟨w2.heap.size, 47, none⟩ = some (.int .i64 q.nm.s) := r1 1 _ rfl
  have q2 : w4.cell? ⟨w2.heap.size, 48, none⟩ = some (.int .i64 q.nm.e) := r1 2 _ rfl
  obtain ⟨nn, hnn⟩ : ∃ nn, nn = nmOrd p.nm q.nm := ⟨_, rfl⟩
  rw [← hnn] at hopq
  have hnl : nn ≤ 0 := by rw [hnn]; exact HLE.out
  have HOP := Lib.hid hopq
  clear hopq hnn HLE r0 r1 HO3 HO4 HG4 HP4 HS4 hpq
  generalize w2.heap.size = g5 at *
  have wm1 : IntKind.i64.wrap (-1) = -1 := by rw [IntKind.wrap_i64]; omega
  have wp1 : IntKind.i64.wrap 1 = 1 := by rw [IntKind.wrap_i64]; omega
  have wp0 : IntKind.i64.wrap 0 = 0 := by rw [IntKind.wrap_i64]; omega
  have haw := fun w => awake_any w
  have HAW := Lib.hid haw
  have hnd : decide (nn ≤ 0) = true := decide_eq_true hnl
  have A04 : w4.drew.cell? ⟨w.heap.size, 0, none⟩ = some (.int .i64 s1) := a04
  have A14 : w4.drew.cell? ⟨w.heap.size, 1, none⟩ = some (.int .i64 e1) := a14
  have B04 : w4.drew.cell? ⟨w.heap.size + 1, 0, none⟩ = some (.int .i64 s2) := b04
  have B14 : w4.drew.cell? ⟨w.heap.size + 1, 1, none⟩ = some (.int .i64 e2) := b14
  have P0 : w4.drew.cell? ⟨g5, 0, none⟩ = some (.string p.nm.key) := p0
  have P1 : w4.drew.cell? ⟨g5, 1, none⟩ = some (.int .i64 p.nm.s) := p1
  have P2 : w4.drew.cell? ⟨g5, 2, none⟩ = some (.int .i64 p.nm.e) := p2
  have Q0 : w4.drew.cell? ⟨g5, 46, none⟩ = some (.string q.nm.key) := q0
  have Q1 : w4.drew.cell? ⟨g5, 47, none⟩ = some (.int .i64 q.nm.s) := q1
  have Q2 : w4.drew.cell? ⟨g5, 48, none⟩ = some (.int .i64 q.nm.e) := q2
  have HBD : Hid (Below w.heap.size w w4.drew) := Lib.hid HB4.out.drew
  clear a04 a14 b04 b14 p0 p1 p2 q0 q1 q2 haw hnl HLT HB4 HO1 HX HY hbx hby
  obtain ⟨rfl, rfl, rfl, rfl, rfl, rfl⟩ := hxy
  all_goals as_aux_lemma =>
    (first | (go_region_held3 (fun w' => w'.cell? ⟨w.heap.size, 0, none⟩ = some (.int .i64 s1) ∧ w'.cell? ⟨w.heap.size, 1, none⟩ = some (.int .i64 e1) ∧ w'.cell? ⟨w.heap.size + 1, 0, none⟩ = some (.int .i64 s2) ∧ w'.cell? ⟨w.heap.size + 1, 1, none⟩ = some (.int .i64 e2) ∧ w'.cell? ⟨g5, 0, none⟩ = some (.string p.nm.key) ∧ w'.cell? ⟨g5, 1, none⟩ = some (.int .i64 p.nm.s) ∧ w'.cell? ⟨g5, 2, none⟩ = some (.int .i64 p.nm.e) ∧ w'.cell? ⟨g5, 46, none⟩ = some (.string q.nm.key) ∧ w'.cell? ⟨g5, 47, none⟩ = some (.int .i64 q.nm.s) ∧ w'.cell? ⟨g5, 48, none⟩ = some (.int .i64 q.nm.e))
      (first | exact ⟨A04, A14, B04, B14, P0, P1, P2, Q0, Q1, Q2⟩ | exact ⟨cell_below b5 A04, cell_below b5 A14, cell_below b5 B04, cell_below b5 B14, cell_below b5 P0, cell_below b5 P1, cell_below b5 P2, cell_below b5 Q0, cell_below b5 Q1, cell_below b5 Q2⟩ | exact ⟨cell_below b56 A04, cell_below b56 A14, cell_below b56 B04, cell_below b56 B14, cell_below b56 P0, cell_below b56 P1, cell_below b56 P2, cell_below b56 Q0, cell_below b56 Q1, cell_below b56 Q2⟩ | exact ⟨cell_below b57 A04, cell_below b57 A14, cell_below b57 B04, cell_below b57 B14, cell_below b57 P0, cell_below b57 P1, cell_below b57 P2, cell_below b57 Q0, cell_below b57 Q1, cell_below b57 Q2⟩)
      (first
        | (go_at_call 12; (with_reducible refine (HAW.out _).mono ?_); rintro en w5 ⟨rfl, b5⟩)
        | (go_at_call 25; (with_reducible refine (HBF.out _).mono ?_); rintro en w6 ⟨rfl, hg6⟩; have b56 := below_trans b5 hg6.below)
        | (go_at_call 18; (with_reducible refine (HOP.out _).mono ?_); rintro en w7 ⟨rfl, hg7⟩; have b57 := below_trans b56 hg7.below)
        | fail)) | fail)
    go_wp2_with fail
    go_ret
    exact ⟨rfl, below_trans HBD.out b57⟩
end Go.Proofs.Ythplelglifnhoaa
