import Derived.Test.YtgpfoamhcoipgaaDoorSm
import Derived.Test.YtgpfoamhcoipgaaDoorCo
import Derived.Deep.DeepCutAuto
import Derived.Deep.CutBlock
import Derived.Deep.RegionHeld3
/-! Tellings as bytes. -/
namespace Go.Proofs.YtgpfoamhcoipgaaDoor
open Go.RowKit
set_option linter.unusedVariables false
attribute [-simp] Tryd.isAgg38 Tryd.sizeOf38 Tryd.typeInfo38 Tryd.type38

def ovN (b : Bool) : Nat := if b = true then 1 else 0
def layVL (a : AV) : List Int := uintL a.n ++ uintL (canon a.x) ++ uintL (ovN a.ov) ++ uintL (canon a.lo) ++ uintL (canon a.hi)
/-- What a walk knows of bytes that are laid behind others. -/
structure LayW (base : Nat) (w : World) (v : Value) (xs : List Int) (wx : World) (p : Value) : Prop where
  own : Own wx base 5 .u8 p xs
  grown : w.grownBy wx v.ownBlock
  new : ∀ k, p.ownBlock = some k → v.ownBlock = some k ∨ w.heap.size ≤ k
theorem LayW.refl {base : Nat} {w : World} {v : Value} {xs : List Int} (h : Own w base 5 .u8 v xs) : LayW base w v xs w v := ⟨h, grown_refl _ _, fun k h => .inl h⟩
theorem LayW.drew {base : Nat} {w : World} {v : Value} {xs : List Int} {wx : World} {p : Value} (h : LayW base w v xs wx p) : LayW base w v xs wx.drew p := ⟨h.own, ⟨h.grown.os, h.grown.tape, h.grown.output, h.grown.size, h.grown.block⟩, h.new⟩
theorem LayW.below {base : Nat} {w : World} {v : Value} {xs : List Int} {wx wy : World} {p : Value} (h : LayW base w v xs wx p) (b : Below wx.heap.size wx wy) : LayW base w v xs wy p := ⟨h.own.below b, grown_trans h.grown (grown_of_below b none) (fun k e => by cases e), h.new⟩
theorem LayW.step {base : Nat} {w : World} {v : Value} {xs ys : List Int} {wx wy : World} {p q : Value} (h : LayW base w v xs wx p) (h2 : LayW base wx p ys wy q) : LayW base w v ys wy q :=
  ⟨h2.own, grown_trans h.grown h2.grown h.new, fun k e => by
    rcases h2.new k e with h3 | h3
    · exact h.new k h3
    · exact .inr (Nat.le_trans h.grown.size h3)⟩
/-- A cell of a row that the call made itself, ahead of all else. -/
theorem LayW.cell {base : Nat} {w w0 : World} {v : Value} {xs : List Int} {wx : World} {p : Value} (h : LayW base w v xs wx p) {g k : Nat} {u : Value} (hc : w.cell? ⟨g, k, none⟩ = some u) (hne : v.ownBlock ≠ some g) : wx.cell? ⟨g, k, none⟩ = some u :=
  h.grown.cell hc (fun e => hne e.symm)
theorem colUintW (base : Nat) (v : Value) (xs : List Int) (n : Nat) (w : World) (hb : base ≤ w.heap.size) (ho : Own w base 5 .u8 v xs) (hn : n < 18446744073709551616) (hl : xs.length ≤ 1000000) :
    Calls Tryd.prog 19 #[v, .int .u64 (n : Int)] w fun e w' => ∃ v', e = .returned v' ∧ LayW base w v (xs ++ uintL n) w' v' :=
  (colUint_any base v xs n w hb ho hn hl).mono fun e w' ⟨v', h1, h2, h3, h4⟩ => ⟨v', h1, h2, h3, h4⟩
set_option maxRecDepth 100000 in
set_option maxHeartbeats 8000000 in
theorem layValue_any (base : Nat) (v : Value) (xs : List Int) (a : AV) (w : World) (hb : base ≤ w.heap.size) (ho : Own w base 5 .u8 v xs) (hok : a.ok) (hl : xs.length ≤ 900000) :
    Calls Tryd.prog 22 #[v, .agg (avC a)] w fun e w' => ∃ v', e = .returned v' ∧ LayW base w v (xs ++ layVL a) w' v' := by
  have h1 := heap_alloc_new w (.cells (avC a) 38)
  obtain ⟨a0, a1, a2, a3, a4⟩ := avC_cells a
  have c0 := (cell_of_row _ _ 0 _ _ _ h1).trans a0
  have c1 := (cell_of_row _ _ 1 _ _ _ h1).trans a1
  have c2 := (cell_of_row _ _ 2 _ _ _ h1).trans a2
  have c3 := (cell_of_row _ _ 3 _ _ _ h1).trans a3
  have c4 := (cell_of_row _ _ 4 _ _ _ h1).trans a4
  have l0 : LayW base w v xs (w.alloc (.cells (avC a) 38)) v := (LayW.refl ho).below (below_alloc (Below.refl _ _) _)
  have hne : v.ownBlock ≠ some w.heap.size := fun e => by have := (ho.lt _ e).2; omega
  have hsz : (w.alloc (.cells (avC a) 38)).heap.size = w.heap.size + 1 := by simp
  have Hf : Hid (layVL a = uintL a.n ++ uintL (canon a.x) ++ uintL (ovN a.ov) ++ uintL (canon a.lo) ++ uintL (canon a.hi)) := Lib.hid rfl
  have e1 := (uintL_len a.n).2
  have e2 := (uintL_len (canon a.x)).2
  have e3 := (uintL_len (ovN a.ov)).2
  have e4 := (uintL_len (canon a.lo)).2
  have hu1 := fun p w2 (h : Own w2 base 5 .u8 p xs) (hb2 : base ≤ w2.heap.size) => colUintW base p xs a.n w2 hb2 h hok.n (by omega)
  have hu2 := fun p w2 (h : Own w2 base 5 .u8 p (xs ++ uintL a.n)) (hb2 : base ≤ w2.heap.size) => colUintW base p _ (canon a.x) w2 hb2 h (canon_lt hok.x) (by rw [List.length_append]; omega)
  have hu3 := fun p w2 (h : Own w2 base 5 .u8 p (xs ++ uintL a.n ++ uintL (canon a.x))) (hb2 : base ≤ w2.heap.size) => colUintW base p _ (ovN a.ov) w2 hb2 h (by unfold ovN; split <;> decide) (by rw [List.length_append, List.length_append]; omega)
  have hu4 := fun p w2 (h : Own w2 base 5 .u8 p (xs ++ uintL a.n ++ uintL (canon a.x) ++ uintL (ovN a.ov))) (hb2 : base ≤ w2.heap.size) => colUintW base p _ (canon a.lo) w2 hb2 h (canon_lt hok.lo) (by rw [List.length_append, List.length_append, List.length_append]; omega)
  have hu5 := fun p w2 (h : Own w2 base 5 .u8 p (xs ++ uintL a.n ++ uintL (canon a.x) ++ uintL (ovN a.ov) ++ uintL (canon a.lo))) (hb2 : base ≤ w2.heap.size) => colUintW base p _ (canon a.hi) w2 hb2 h (canon_lt hok.hi) (by rw [List.length_append, List.length_append, List.length_append, List.length_append]; omega)
  have hbx := fun w => realBits_any a.x w
  have hbl := fun w => realBits_any a.lo w
  have hbh := fun w => realBits_any a.hi w
  generalize avC a = A at *
  clear a0 a1 a2 a3 a4 e1 e2 e3 e4 hok hl h1
  generalize canon a.x = x at *
  generalize canon a.lo = lo at *
  generalize canon a.hi = hi at *
  go_enter Tryd.func22, Tryd.ntmps22
  go_upto_region 1 with fail
  have Hc0 := Lib.hid c0
  have Hc1 := Lib.hid c1
  have Hc2 := Lib.hid c2
  have Hc3 := Lib.hid c3
  have Hc4 := Lib.hid c4
  generalize w.alloc (.cells A 38) = w1 at *
  have hb1 : base ≤ w1.heap.size := Nat.le_trans hb l0.grown.size
  have l1 := (LayW.refl l0.own).drew
  have hb1d : base ≤ w1.drew.heap.size := hb1
  go_cut [0] (fun p wx => LayW base w1 v (xs ++ uintL a.n ++ uintL x) wx p ∧ wx.cell? ⟨w.heap.size, 2, none⟩ = some (.bool a.ov) ∧ wx.cell? ⟨w.heap.size, 3, none⟩ = some (.float .f64 a.lo) ∧ wx.cell? ⟨w.heap.size, 4, none⟩ = some (.float .f64 a.hi))
  case first =>
    clear hu3 hu4 hu5 hbl hbh c2 c3 c4
    go_region_held3 (fun w' => w'.cell? ⟨w.heap.size, 0, none⟩ = some (.int .u64 (a.n : Int)) ∧ w'.cell? ⟨w.heap.size, 1, none⟩ = some (.float .f64 a.x)) (first | exact ⟨Hc0.out, Hc1.out⟩ | exact ⟨k0, k1⟩ | exact ⟨j0, j1⟩)
      (first
        | (go_at_call 31; (with_reducible refine (hbx _).mono ?_); rintro e w3 ⟨rfl, rfl⟩)
        | (go_at_call 19; (with_reducible refine (hu1 _ _ l1.own hb1d).mono ?_); rintro e w4 ⟨v4, rfl, l4⟩; have hb4 := Nat.le_trans hb1d l4.grown.size; have k0 := l4.grown.cell (show w1.drew.cell? ⟨w.heap.size, 0, none⟩ = _ from Hc0.out) (fun e => hne e.symm); have k1 := l4.grown.cell (show w1.drew.cell? ⟨w.heap.size, 1, none⟩ = _ from Hc1.out) (fun e => hne e.symm))
        | (go_at_call 19; (with_reducible refine (hu2 _ _ l4.own hb4).mono ?_); rintro e w5 ⟨v5, rfl, l5⟩; have l6 := l4.step l5; have j0 := l6.grown.cell (show w1.drew.cell? ⟨w.heap.size, 0, none⟩ = _ from Hc0.out) (fun e => hne e.symm); have j1 := l6.grown.cell (show w1.drew.cell? ⟨w.heap.size, 1, none⟩ = _ from Hc1.out) (fun e => hne e.symm)))
    go_wp2_with fail
    go_meet
    exact ⟨l1.step l6, l6.grown.cell (show w1.drew.cell? ⟨w.heap.size, 2, none⟩ = _ from Hc2.out) (fun e => hne e.symm), l6.grown.cell (show w1.drew.cell? ⟨w.heap.size, 3, none⟩ = _ from Hc3.out) (fun e => hne e.symm), l6.grown.cell (show w1.drew.cell? ⟨w.heap.size, 4, none⟩ = _ from Hc4.out) (fun e => hne e.symm)⟩
  case rest =>
    obtain ⟨l6, k2, k3, k4⟩ := hcut
    have hp : u0.ownBlock ≠ some w.heap.size := fun e => by
      rcases l6.new _ e with h | h
      · exact hne h
      · omega
    have hb6 := Nat.le_trans hb1 l6.grown.size
    have Hk3 := Lib.hid k3
    have Hk4 := Lib.hid k4
    clear hu1 hu2 hbx Hc0 Hc1 Hc2 Hc3 Hc4 k3 k4 c0 c1 c2 c3 c4 l1 hb1d
    go_upto_if 15 with fail
    go_cut [5] (fun t wx => t = .int .u64 (ovN a.ov : Int) ∧ wc = wx)
    case first =>
      clear hu3 hu4 hu5 hbl hbh
      cases hov : a.ov
      all_goals
        rw [hov] at k2
        go_wp2_with fail
        go_meet
        exact ⟨by rw [hov]; rfl, rfl⟩
    case rest =>
      obtain ⟨rfl, rfl⟩ := hcut
      have l7 := (LayW.refl l6.own).drew
      have hb7 : base ≤ wc.drew.heap.size := hb6
      go_wp2_with fail
      go_cut [4] (fun p wx => LayW base wc u0 (xs ++ uintL a.n ++ uintL x ++ uintL (ovN a.ov) ++ uintL lo ++ uintL hi) wx p)
      case first =>
        go_region_held3 (fun w' => w'.cell? ⟨w.heap.size, 3, none⟩ = some (.float .f64 a.lo) ∧ w'.cell? ⟨w.heap.size, 4, none⟩ = some (.float .f64 a.hi)) (first | exact ⟨Hk3.out, Hk4.out⟩ | exact ⟨j30, j31⟩ | exact ⟨j40, j41⟩ | exact ⟨j50, j51⟩)
          (first
            | (go_at_call 31; (with_reducible refine (hbl _).mono ?_); rintro e w3 ⟨rfl, rfl⟩)
            | (go_at_call 31; (with_reducible refine (hbh _).mono ?_); rintro e w3 ⟨rfl, rfl⟩)
            | (go_at_call 19; (with_reducible refine (hu3 _ _ l7.own hb7).mono ?_); rintro e w8 ⟨v8, rfl, l8⟩; have hb8 := Nat.le_trans hb7 l8.grown.size; have j30 := l8.grown.cell (show wc.drew.cell? ⟨w.heap.size, 3, none⟩ = _ from Hk3.out) (fun e => hp e.symm); have j31 := l8.grown.cell (show wc.drew.cell? ⟨w.heap.size, 4, none⟩ = _ from Hk4.out) (fun e => hp e.symm))
            | (go_at_call 19; (with_reducible refine (hu4 _ _ l8.own hb8).mono ?_); rintro e w9 ⟨v9, rfl, l9⟩; have l89 := l8.step l9; have hb9 := Nat.le_trans hb8 l9.grown.size; have j40 := l89.grown.cell (show wc.drew.cell? ⟨w.heap.size, 3, none⟩ = _ from Hk3.out) (fun e => hp e.symm); have j41 := l89.grown.cell (show wc.drew.cell? ⟨w.heap.size, 4, none⟩ = _ from Hk4.out) (fun e => hp e.symm))
            | (go_at_call 19; (with_reducible refine (hu5 _ _ l9.own hb9).mono ?_); rintro e w10 ⟨v10, rfl, l10⟩; have l8A := l89.step l10; have j50 := l8A.grown.cell (show wc.drew.cell? ⟨w.heap.size, 3, none⟩ = _ from Hk3.out) (fun e => hp e.symm); have j51 := l8A.grown.cell (show wc.drew.cell? ⟨w.heap.size, 4, none⟩ = _ from Hk4.out) (fun e => hp e.symm)))
        all_goals
          go_wp2_with fail
          go_meet
          exact l7.step l8A
      case rest =>
        go_wp2_with fail
        go_ret
        refine ⟨_, rfl, ?_⟩
        have := (l0.step l6).step hcut
        rw [Hf.out]
        simp only [← List.append_assoc]
        exact this
end Go.Proofs.YtgpfoamhcoipgaaDoor
