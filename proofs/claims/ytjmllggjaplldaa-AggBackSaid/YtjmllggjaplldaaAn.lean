import Derived.Test.YtjmllggjaplldaaAm
import Derived.Test.YtjmllggjaplldaaJb
import Derived.Deep.MidRow
/-! States as bytes. -/
namespace Go.Proofs.Ytjmllggjaplldaa
open Go.RowKit
set_option linter.unusedVariables false
attribute [-simp] Try.isAgg30 Try.sizeOf30 Try.typeInfo30 Try.type30
attribute [-simp] Try.isAgg32 Try.sizeOf32 Try.typeInfo32 Try.type32

def layAS (a : AS) : List Int := uintL a.n ++ textL (bytesOf a.s) ++ uintL (canon a.lo) ++ uintL (canon a.hi)
theorem bytesOf_len (s : St) : (bytesOf s).length ≤ 281 := by
  have hn := trim_le (byt s.w) (restOf (sgOf s.w)) 280
  unfold bytesOf
  rw [List.length_cons, full_length]; omega
theorem textL_len (ys : List Int) : (textL ys).length ≤ ys.length + 10 := by
  unfold textL
  have := (uintL_len ys.length).2
  rw [List.length_append]; omega
theorem textL_bytes {ys : List Int} (h : Bytes8 ys) (hl : ys.length < 18446744073709551616) : Bytes8 (textL ys) := (uintL_bytes hl).append h
theorem layAS_bytes {a : AS} (h : a.ok) : Bytes8 (layAS a) :=
  (((uintL_bytes h.n).append (textL_bytes (bytesOf_bytes a.s) (by have := bytesOf_len a.s; omega))).append (uintL_bytes (canon_lt h.lo))).append (uintL_bytes (canon_lt h.hi))
theorem LayW.row {base : Nat} {w : World} {v : Value} {xs : List Int} {wx : World} {p : Value} (h : LayW base w v xs wx p) {g : Nat} {o : Obj} (hc : w.heap[g]? = some o) (hne : v.ownBlock ≠ some g) : wx.heap[g]? = some o :=
  (h.grown.block g (by
    rcases Nat.lt_or_ge g w.heap.size with h1 | h1
    · exact h1
    · rw [Array.getElem?_eq_none h1] at hc; cases hc) (fun e => hne e.symm)).trans hc
theorem colTextW (base : Nat) (v : Value) (xs ys : List Int) (w : World) (hb : base ≤ w.heap.size) (ho : Own w base 5 .u8 v xs) (h8 : Bytes8 ys) (hl : xs.length ≤ 900000) (hyl : ys.length ≤ 900000) :
    Calls Try.prog 51 #[v, .string (strOfNums ys)] w fun e w' => ∃ v', e = .returned v' ∧ LayW base w v (xs ++ textL ys) w' v' :=
  (colText_any base v xs ys w hb ho h8 hl hyl).mono fun e w' ⟨v', h1, h2, h3, h4⟩ => ⟨v', h1, h2, h3, h4⟩
set_option maxRecDepth 100000 in
set_option maxHeartbeats 8000000 in
theorem lay_any (base : Nat) (v : Value) (xs : List Int) (a : AS) (w : World) (hb : base ≤ w.heap.size) (ho : Own w base 5 .u8 v xs) (hok : a.ok) (hl : xs.length ≤ 800000) :
    Calls Try.prog 23 #[v, .agg (asC a)] w fun e w' => ∃ v', e = .returned v' ∧ LayW base w v (xs ++ layAS a) w' v' := by
  have Hs30 := Lib.hid size30
  obtain ⟨A, hA⟩ : ∃ A, A = asC a := ⟨_, rfl⟩
  have an : A[0]? = some (.int .u64 (a.n : Int)) := by rw [hA]; exact asC_n a
  have asum : ∀ j v, (sumC a.s).toList[j]? = some v → A[1 + j]? = some v := by rw [hA]; exact asC_sum a
  have alo : A[41]? = some (.float .f64 a.lo) := by rw [hA]; exact asC_lo a
  have ahi : A[42]? = some (.float .f64 a.hi) := by rw [hA]; exact asC_hi a
  rw [← hA]
  have h1 := heap_alloc_new w (.cells A 32)
  have c0 := (cell_of_row _ _ 0 _ _ _ h1).trans an
  have l0 : LayW base w v xs (w.alloc (.cells A 32)) v := (LayW.refl ho).below (below_alloc (Below.refl _ _) _)
  have hne : v.ownBlock ≠ some w.heap.size := fun e => by have := (ho.lt _ e).2; omega
  have hsz : (w.alloc (.cells A 32)).heap.size = w.heap.size + 1 := by simp
  have Hf : Hid (layAS a = uintL a.n ++ textL (bytesOf a.s) ++ uintL (canon a.lo) ++ uintL (canon a.hi)) := Lib.hid rfl
  have e1 := (uintL_len a.n).2
  have e2 := textL_len (bytesOf a.s)
  have e3 := (uintL_len (canon a.lo)).2
  have hbl8 := bytesOf_len a.s
  have hb8 := bytesOf_bytes a.s
  have hu1 := fun p w2 (h : Own w2 base 5 .u8 p xs) (hb2 : base ≤ w2.heap.size) => colUintW base p xs a.n w2 hb2 h hok.n (by omega)
  have hu2 := fun p w2 (h : Own w2 base 5 .u8 p (xs ++ uintL a.n)) (hb2 : base ≤ w2.heap.size) => colTextW base p _ (bytesOf a.s) w2 hb2 h hb8 (by rw [List.length_append]; omega) (by omega)
  have hu3 := fun p w2 (h : Own w2 base 5 .u8 p (xs ++ uintL a.n ++ textL (bytesOf a.s))) (hb2 : base ≤ w2.heap.size) => colUintW base p _ (canon a.lo) w2 hb2 h (canon_lt hok.lo) (by rw [List.length_append, List.length_append]; omega)
  have hu4 := fun p w2 (h : Own w2 base 5 .u8 p (xs ++ uintL a.n ++ textL (bytesOf a.s) ++ uintL (canon a.lo))) (hb2 : base ≤ w2.heap.size) => colUintW base p _ (canon a.hi) w2 hb2 h (canon_lt hok.hi) (by rw [List.length_append, List.length_append, List.length_append]; omega)
  have hby := fun w => bytes_any a.s w
  have hbl := fun w => realBits_any a.lo w
  have hbh := fun w => realBits_any a.hi w
  have hso := run_sizeOf_info (P := Try.prog) Hs30.out
  generalize hLL : bytesOf a.s = L at *
  clear e1 e2 e3 hok hl hA hbl8 an
  generalize canon a.lo = lo at *
  generalize canon a.hi = hi at *
  go_enter Try.func23, Try.ntmps23
  go_upto_region 1 with fail
  have H1 := Lib.hid h1
  clear h1
  generalize w.alloc (.cells A 32) = w1 at *
  have hb1 : base ≤ w1.heap.size := Nat.le_trans hb l0.grown.size
  go_upto_region 2 with (first
    | (go_at_call 46; (with_reducible refine (hu1 _ _ l0.own hb1).mono ?_); rintro e w2 ⟨v2, rfl, l2⟩; have hb2 := Nat.le_trans hb1 l2.grown.size; have H2 := Lib.hid (l2.row H1.out hne); have hne2 : v2.ownBlock ≠ some w.heap.size := fun e => by (rcases l2.new _ e with h | h; exact hne h; omega)))
  have hr2 := range_of H2.out 1 _ asum
  clear hu1 c0
  go_upto_region 3 with (first
    | (refine at_op (.load 30 (.tmp 10)) ?_ rfl; refine wpList_load_mid rfl 30 (.tmp 10) rfl w.heap.size 1 rfl (sumC a.s).toList _ hr2 Try.underlying30 rfl (by rw [Array.length_toList, sumC_size]; exact Hs30.out) ?_)
    | (go_at_call 52; (with_reducible refine (hby _).mono ?_); rintro e w3 ⟨v3, rfl, ho3, b3⟩; have l3 := (LayW.refl l2.own).below b3; have hb3 := Nat.le_trans hb2 l3.grown.size; obtain ⟨A9, c9, rfl, _, r9⟩ := ho3.form; have hcv := run_string_reads (P := Try.prog) w3 37 9 5 Try.underlying37 Try.underlying5 Try.underlying9 A9 c9 _ r9; clear ho3 r9)
    | (go_at_call 51; (with_reducible refine (hu2 _ _ l3.own hb3).mono ?_); rintro e w4 ⟨v4, rfl, l4⟩; have l34 := l3.step l4; have hb4 := Nat.le_trans hb3 l4.grown.size; have H4 := Lib.hid (l34.row H2.out hne2); have hne4 : v4.ownBlock ≠ some w.heap.size := fun e => by (rcases l34.new _ e with h | h; exact hne2 h; have := l2.grown.size; omega)))
  have Hk3 := Lib.hid ((cell_of_row _ _ 41 _ _ _ H4.out).trans alo)
  have Hk4 := Lib.hid ((cell_of_row _ _ 42 _ _ _ H4.out).trans ahi)
  have l7 := (LayW.refl l4.own).drew
  have hb7 : base ≤ w4.drew.heap.size := hb4
  clear hu2 hby hr2 hcv alo ahi asum hso
  go_cut [4] (fun p wx => LayW base w4 v4 (xs ++ uintL a.n ++ textL L ++ uintL lo ++ uintL hi) wx p)
  case first =>
    go_region_held3 (fun w' => w'.cell? ⟨w.heap.size, 41, none⟩ = some (.float .f64 a.lo) ∧ w'.cell? ⟨w.heap.size, 42, none⟩ = some (.float .f64 a.hi)) (first | exact ⟨Hk3.out, Hk4.out⟩ | exact ⟨j30, j31⟩ | exact ⟨j40, j41⟩)
      (first
        | (go_at_call 47; (with_reducible refine (hbl _).mono ?_); rintro e w3 ⟨rfl, rfl⟩)
        | (go_at_call 47; (with_reducible refine (hbh _).mono ?_); rintro e w3 ⟨rfl, rfl⟩)
        | (go_at_call 46; (with_reducible refine (hu3 _ _ l7.own hb7).mono ?_); rintro e w8 ⟨v8, rfl, l8⟩; have hb8 := Nat.le_trans hb7 l8.grown.size; have j30 := l8.grown.cell (show w4.drew.cell? ⟨w.heap.size, 41, none⟩ = _ from Hk3.out) (fun e => hne4 e.symm); have j31 := l8.grown.cell (show w4.drew.cell? ⟨w.heap.size, 42, none⟩ = _ from Hk4.out) (fun e => hne4 e.symm))
        | (go_at_call 46; (with_reducible refine (hu4 _ _ l8.own hb8).mono ?_); rintro e w9 ⟨v9, rfl, l9⟩; have l89 := l8.step l9; have j40 := l89.grown.cell (show w4.drew.cell? ⟨w.heap.size, 41, none⟩ = _ from Hk3.out) (fun e => hne4 e.symm); have j41 := l89.grown.cell (show w4.drew.cell? ⟨w.heap.size, 42, none⟩ = _ from Hk4.out) (fun e => hne4 e.symm)))
    all_goals
      go_wp2_with fail
      go_meet
      exact l7.step l89
  case rest =>
    go_wp2_with fail
    go_ret
    refine ⟨_, rfl, ?_⟩
    have := ((l0.step l2).step l34).step hcut
    rw [Hf.out]
    simp only [← List.append_assoc]
    exact this
theorem lay_new (a : AS) (w : World) (hok : a.ok) : Calls Try.prog 23 #[.slice none 0 0, .agg (asC a)] w fun e w' => ∃ v, e = .returned v ∧ Own w' w.heap.size 5 .u8 v (layAS a) ∧ Below w.heap.size w w' :=
  (lay_any w.heap.size (.slice none 0 0) [] a w (Nat.le_refl _) (Own.nil _ _ _ _) hok (by simp)).mono fun e w' ⟨v, h1, h2⟩ => ⟨v, h1, h2.own, below_of_grown h2.grown (fun k e => by cases e)⟩
end Go.Proofs.Ytjmllggjaplldaa
