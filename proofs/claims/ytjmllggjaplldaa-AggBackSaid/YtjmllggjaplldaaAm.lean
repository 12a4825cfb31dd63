import Derived.Test.YtjmllggjaplldaaAl
import Derived.Test.YtjmllggjaplldaaAj
import Derived.Test.YtjmllggjaplldaaDr
import Derived.OpenShut
import Derived.Laws.Cover2
/-! Tellings that are the same, and their bytes: the law. -/
namespace Go.Proofs.Ytjmllggjaplldaa
open Go.RowKit
set_option linter.unusedVariables false
attribute [-simp] Try.isAgg27 Try.sizeOf27 Try.typeInfo27 Try.type27

section
open Go.ChangeShapes Go.WideShapes Go.Deep
variable {H : Type} {enc : TypeId × Value → H} {P : Program} {W : World} {base : Nat} {spare : Nat → Bool} {held : Bool}
theorem trod_flt {fuel : Nat} {t : TypeId} {k : FloatKind} {cs : List Value} {x : DataW H × List MemPlace} (ht : P.underlying t = some (.float k)) (h : DataW.trod enc P W base spare held fuel t cs = some x) : ∃ b, cs = [.float k b] ∧ (Lit.float k b).wf = true := by
  cases fuel with
  | zero => simp [DataW.trod] at h
  | succ n =>
    unfold DataW.trod at h
    rw [ht] at h
    split at h <;> simp_all
theorem at_take {l : List Value} {i : Nat} {v : Value} (h : (l.drop i).take 1 = [v]) : l[i]? = some v := by
  have := congrArg (fun m => m[0]?) h
  simpa using this
set_option maxRecDepth 100000 in
/-- A telling's cells. -/
theorem agg_cells {fuel : Nat} {cs : List Value} {x : DataW H × List MemPlace} (h : DataW.trod enc Try.prog W base spare held fuel 27 cs = some x) : ∃ a : AV, a.ok ∧ cs = (avC a).toList := by
  obtain ⟨xs, n, rfl, hx, hl, hxl, hf⟩ := DataW.trod_struct Try.underlying27 h
  have hc : Try.prog.cellsOf 27 = 5 := by kernel_rfl
  have hl5 : cs.length = 5 := by rw [hl, hc]
  have g0 := hf 0 _ rfl
  have g1 := hf 1 _ rfl
  have g2 := hf 2 _ rfl
  have g3 := hf 3 _ rfl
  have g4 := hf 4 _ rfl
  have hxl5 : xs.length = 5 := hxl
  rw [List.getElem?_eq_getElem (by omega)] at g0 g1 g2 g3 g4
  obtain ⟨n0, e0, _, w0⟩ := DataW.trod_int Try.underlying24 g0
  obtain ⟨b1, e1, w1⟩ := trod_flt Try.underlying25 g1
  obtain ⟨b2, e2, _⟩ := DataW.trod_bool Try.underlying4 g2
  obtain ⟨b3, e3, w3⟩ := trod_flt Try.underlying25 g3
  obtain ⟨b4, e4, w4⟩ := trod_flt Try.underlying25 g4
  have c0 := at_take (l := cs) (i := 0) e0
  have c1 := at_take (l := cs) (i := 1) e1
  have c2 := at_take (l := cs) (i := 2) e2
  have c3 := at_take (l := cs) (i := 3) e3
  have c4 := at_take (l := cs) (i := 4) e4
  simp only [Lit.wf, IntKind.min, IntKind.max, IntKind.bits, IntKind.signed, decide_eq_true_eq, Bool.and_eq_true] at w0 w1 w3 w4
  have hb1 : b1 < 18446744073709551616 := w1
  have hb3 : b3 < 18446744073709551616 := w3
  have hb4 : b4 < 18446744073709551616 := w4
  have hn : 0 ≤ n0 ∧ n0 < 18446744073709551616 := by simp at w0; omega
  obtain ⟨m, rfl⟩ := Int.eq_ofNat_of_zero_le hn.1
  refine ⟨⟨m, b1, b2, b3, b4⟩, ⟨show m < 18446744073709551616 by omega, hb1, hb3, hb4⟩, ?_⟩
  apply List.ext_getElem?
  intro i
  match i with
  | 0 => exact c0
  | 1 => exact c1
  | 2 => exact c2
  | 3 => exact c3
  | 4 => exact c4
  | i + 5 => rw [List.getElem?_eq_none (by omega), List.getElem?_eq_none (by show 5 ≤ i + 5; omega)]
set_option maxRecDepth 100000 in
/-- A telling that came in. -/
theorem open_agg {v : Value} {d : DataW H} {ps : List MemPlace} {r : Reach} {b0 : Nat} (hv : Value.okWide Try.prog W r b0 27 v) (h : DataW.Trod enc Try.prog W base spare held 27 v d ps) : ∃ a : AV, a.ok ∧ v = .agg (avC a) := by
  obtain ⟨cs, rfl, hs⟩ := okWide_struct Try.underlying27 hv
  obtain ⟨fuel, hf⟩ := h
  obtain ⟨a, ha, e⟩ := agg_cells hf
  refine ⟨a, ha, ?_⟩
  have e2 : cs.toList = (avC a).toList := e
  rw [Array.toList_inj.1 e2]
end
/-! Numbers' bytes tell them, whatever comes behind. -/
theorem uintF_inj : ∀ (f g m n : Nat) (s t : List Int), m < 128 ^ (f + 1) → n < 128 ^ (g + 1) → uintF f m ++ s = uintF g n ++ t → m = n ∧ s = t := by
  intro f
  induction f with
  | zero =>
    intro g m n s t hm hn h
    have hm : m < 128 := by simpa using hm
    rw [uintF_small 0 m hm] at h
    by_cases h2 : n < 128
    · rw [uintF_small g n h2] at h
      injection h with h1 h3
      exact ⟨by omega, h3⟩
    · cases g with
      | zero => exact absurd (show n < 128 by simpa using hn) h2
      | succ g =>
        unfold uintF at h
        rw [if_neg h2] at h
        injection h with h1 h3
        omega
  | succ f ih =>
    intro g m n s t hm hn h
    by_cases h1 : m < 128
    · rw [uintF_small (f + 1) m h1] at h
      by_cases h2 : n < 128
      · rw [uintF_small g n h2] at h
        injection h with h1 h3
        exact ⟨by omega, h3⟩
      · cases g with
        | zero => exact absurd (show n < 128 by simpa using hn) h2
        | succ g =>
          unfold uintF at h
          rw [if_neg h2] at h
          injection h with h1 h3
          omega
    · unfold uintF at h
      rw [if_neg h1] at h
      have hm' : m / 128 < 128 ^ (f + 1) := by
        rw [Nat.pow_succ] at hm
        exact Nat.div_lt_of_lt_mul (by rw [Nat.mul_comm]; exact hm)
      cases g with
      | zero =>
        have hn : n < 128 := by simpa using hn
        injection h with h1 h3
        omega
      | succ g =>
        simp only at h
        by_cases h2 : n < 128
        · rw [if_pos h2] at h
          injection h with h1 h3
          omega
        · rw [if_neg h2] at h
          have hn' : n / 128 < 128 ^ (g + 1) := by
            rw [Nat.pow_succ] at hn
            exact Nat.div_lt_of_lt_mul (by rw [Nat.mul_comm]; exact hn)
          injection h with h1 h3
          obtain ⟨e1, e2⟩ := ih g (m / 128) (n / 128) s t hm' hn' h3
          exact ⟨by omega, e2⟩
theorem uintL_inj {m n : Nat} {s t : List Int} (hm : m < 18446744073709551616) (hn : n < 18446744073709551616) (h : uintL m ++ s = uintL n ++ t) : m = n ∧ s = t := uintF_inj 9 9 m n s t (uint_lt hm) (uint_lt hn) h
theorem layVL_bytes {a : AV} (h : a.ok) : Bytes8 (layVL a) := by
  unfold layVL
  exact ((((uintL_bytes h.n).append (uintL_bytes (canon_lt h.x))).append (uintL_bytes (by unfold ovN; split <;> decide))).append (uintL_bytes (canon_lt h.lo))).append (uintL_bytes (canon_lt h.hi))
theorem sameAV_bytes {a b : AV} (ha : a.ok) (hb : b.ok) : sameAV a b = decide (layVL a = layVL b) := by
  rw [Bool.eq_iff_iff, decide_eq_true_eq]
  unfold sameAV
  simp only [Bool.and_eq_true, decide_eq_true_eq]
  constructor
  · rintro ⟨h1, h2, h3, h4, h5⟩
    unfold layVL
    rw [h1, h2, h3, h4, h5]
  · intro h
    unfold layVL at h
    simp only [List.append_assoc] at h
    obtain ⟨h1, h⟩ := uintL_inj ha.n hb.n h
    obtain ⟨h2, h⟩ := uintL_inj (canon_lt ha.x) (canon_lt hb.x) h
    obtain ⟨h3, h⟩ := uintL_inj (by unfold ovN; split <;> decide) (by unfold ovN; split <;> decide) h
    obtain ⟨h4, h⟩ := uintL_inj (canon_lt ha.lo) (canon_lt hb.lo) h
    have h5 := uintL_inj (s := []) (t := []) (canon_lt ha.hi) (canon_lt hb.hi) (by rw [h])
    refine ⟨h1, h2, ?_, h4, h5.1⟩
    revert h3
    unfold ovN
    cases a.ov <;> cases b.ov <;> decide
theorem sameAV_self (a : AV) : sameAV a a = true := by unfold sameAV; simp
theorem str_same {xs ys : List Int} (hx : Bytes8 xs) (hy : Bytes8 ys) : ((strOfNums xs).toList == (strOfNums ys).toList) = decide (xs = ys) := by
  by_cases h : xs = ys
  · subst h; rw [str_eq, decide_eq_true rfl]
  · rw [str_ne hx hy h, decide_eq_false h]
/-- A telling's bytes, on their own. -/
theorem layValue_new (a : AV) (w : World) (hok : a.ok) : Calls Try.prog 21 #[.slice none 0 0, .agg (avC a)] w fun e w' => ∃ v, e = .returned v ∧ Own w' w.heap.size 5 .u8 v (layVL a) ∧ Below w.heap.size w w' :=
  (layValue_any w.heap.size (.slice none 0 0) [] a w (Nat.le_refl _) (Own.nil _ _ _ _) hok (by simp)).mono fun e w' ⟨v, h1, h2⟩ => ⟨v, h1, h2.own, below_of_grown h2.grown (fun k e => by cases e)⟩
set_option maxRecDepth 100000 in
set_option maxHeartbeats 8000000 in
theorem aggSameLaw_any (a b : AV) (w : World) (ha : a.ok) (hb : b.ok) : Calls Try.prog 5 #[.agg (avC a), .agg (avC b)] w fun e w' => e = .returned (.bool true) ∧ Below w.heap.size w w' := by
  have Hs := Lib.hid sizeAgg
  have aw := awake12_any
  have hab := fun w => aggSame_any a b w ha hb
  have haa := fun w => aggSame_any a a w ha ha
  rw [sameAV_self] at haa
  have hrab := fun w => refAggSame_any a b w ha hb
  have hla := fun w => layValue_new a w ha
  have hlb := fun w => layValue_new b w hb
  have hse0 : ((strOfNums (layVL a)).toList == (strOfNums (layVL b)).toList) = sameAV a b := by rw [sameAV_bytes ha hb]; exact str_same (layVL_bytes ha) (layVL_bytes hb)
  generalize sameAV a b = sm at *
  obtain ⟨sa, hsa⟩ : ∃ sa, sa = strOfNums (layVL a) := ⟨_, rfl⟩
  obtain ⟨sb, hsb⟩ : ∃ sb, sb = strOfNums (layVL b) := ⟨_, rfl⟩
  rw [← hsa, ← hsb] at hse0
  have Hse := Lib.hid hse0
  have Hsa := Lib.hid hsa
  have Hsb := Lib.hid hsb
  have hA : (avC a).size = 5 := rfl
  have hB : (avC b).size = 5 := rfl
  generalize layVL a = LA at *
  generalize layVL b = LB at *
  generalize avC a = A at *
  generalize avC b = B at *
  have h2 := heap_alloc2_old w (.cells A 27) (.cells B 27)
  have h3 := heap_alloc2_new w (.cells A 27) (.cells B 27)
  have hb2 := below_alloc (below_alloc (Below.refl w.heap.size w) (.cells A 27)) (.cells B 27)
  clear hse0 hsa hsb ha hb
  go_enter Try.func5, Try.ntmps5
  go_upto_region 1 with fail
  have K2 := Lib.hid h2
  have K3 := Lib.hid h3
  clear h2 h3
  generalize (w.alloc (.cells A 27)).alloc (.cells B 27) = w2 at *
  obtain ⟨CV, hCV⟩ : ∃ CV : Nat → Value, CV = fun j => match j with
    | 0 => .bool true
    | 1 => .bool true
    | 2 => .agg A
    | 3 => .agg B
    | 4 => .bool sm
    | 5 => .agg A
    | 7 => .string sa
    | 8 => .agg B
    | 10 => .string sb
    | 11 => .bool sm
    | 12 => .bool true
    | 13 => .bool true
    | 14 => .bool true
    | 15 => .agg A
    | 16 => .agg B
    | 17 => .bool sm
    | 18 => .agg A
    | 19 => .agg B
    | 20 => .bool sm
    | 21 => .bool true
    | 22 => .bool true
    | 23 => .bool true
    | 24 => .agg A
    | 25 => .agg A
    | 26 => .bool true
    | 27 => .bool true
    | 28 => .bool true
    | _ => undef := ⟨_, rfl⟩
  obtain ⟨isO, hO⟩ : ∃ isO : Nat → Bool, isO = fun j => match j with
    | 6 => true
    | 9 => true
    | _ => false := ⟨_, rfl⟩
  obtain ⟨BL, hBL⟩ : ∃ BL : Nat → List Int, BL = fun j => match j with
    | 6 => LA
    | 9 => LB
    | _ => [] := ⟨_, rfl⟩
  have v0 : CV 0 = .bool true := congrFun hCV 0
  have o0 : isO 0 = false := congrFun hO 0
  have v1 : CV 1 = .bool true := congrFun hCV 1
  have o1 : isO 1 = false := congrFun hO 1
  have v2 : CV 2 = .agg A := congrFun hCV 2
  have o2 : isO 2 = false := congrFun hO 2
  have v3 : CV 3 = .agg B := congrFun hCV 3
  have o3 : isO 3 = false := congrFun hO 3
  have v4 : CV 4 = .bool sm := congrFun hCV 4
  have o4 : isO 4 = false := congrFun hO 4
  have v5 : CV 5 = .agg A := congrFun hCV 5
  have o5 : isO 5 = false := congrFun hO 5
  have o6 : isO 6 = true := congrFun hO 6
  have l6 : BL 6 = LA := congrFun hBL 6
  have v7 : CV 7 = .string sa := congrFun hCV 7
  have o7 : isO 7 = false := congrFun hO 7
  have v8 : CV 8 = .agg B := congrFun hCV 8
  have o8 : isO 8 = false := congrFun hO 8
  have o9 : isO 9 = true := congrFun hO 9
  have l9 : BL 9 = LB := congrFun hBL 9
  have v10 : CV 10 = .string sb := congrFun hCV 10
  have o10 : isO 10 = false := congrFun hO 10
  have v11 : CV 11 = .bool sm := congrFun hCV 11
  have o11 : isO 11 = false := congrFun hO 11
  have v12 : CV 12 = .bool true := congrFun hCV 12
  have o12 : isO 12 = false := congrFun hO 12
  have v13 : CV 13 = .bool true := congrFun hCV 13
  have o13 : isO 13 = false := congrFun hO 13
  have v14 : CV 14 = .bool true := congrFun hCV 14
  have o14 : isO 14 = false := congrFun hO 14
  have v15 : CV 15 = .agg A := congrFun hCV 15
  have o15 : isO 15 = false := congrFun hO 15
  have v16 : CV 16 = .agg B := congrFun hCV 16
  have o16 : isO 16 = false := congrFun hO 16
  have v17 : CV 17 = .bool sm := congrFun hCV 17
  have o17 : isO 17 = false := congrFun hO 17
  have v18 : CV 18 = .agg A := congrFun hCV 18
  have o18 : isO 18 = false := congrFun hO 18
  have v19 : CV 19 = .agg B := congrFun hCV 19
  have o19 : isO 19 = false := congrFun hO 19
  have v20 : CV 20 = .bool sm := congrFun hCV 20
  have o20 : isO 20 = false := congrFun hO 20
  have v21 : CV 21 = .bool true := congrFun hCV 21
  have o21 : isO 21 = false := congrFun hO 21
  have v22 : CV 22 = .bool true := congrFun hCV 22
  have o22 : isO 22 = false := congrFun hO 22
  have v23 : CV 23 = .bool true := congrFun hCV 23
  have o23 : isO 23 = false := congrFun hO 23
  have v24 : CV 24 = .agg A := congrFun hCV 24
  have o24 : isO 24 = false := congrFun hO 24
  have v25 : CV 25 = .agg A := congrFun hCV 25
  have o25 : isO 25 = false := congrFun hO 25
  have v26 : CV 26 = .bool true := congrFun hCV 26
  have o26 : isO 26 = false := congrFun hO 26
  have v27 : CV 27 = .bool true := congrFun hCV 27
  have o27 : isO 27 = false := congrFun hO 27
  have v28 : CV 28 = .bool true := congrFun hCV 28
  have o28 : isO 28 = false := congrFun hO 28
  clear hCV hO hBL
  have V0 := Lib.hid v0
  have V1 := Lib.hid v1
  have V2 := Lib.hid v2
  have V3 := Lib.hid v3
  have V4 := Lib.hid v4
  have V5 := Lib.hid v5
  have LL6 := Lib.hid l6
  have V7 := Lib.hid v7
  have V8 := Lib.hid v8
  have LL9 := Lib.hid l9
  have V10 := Lib.hid v10
  have V11 := Lib.hid v11
  have V12 := Lib.hid v12
  have V13 := Lib.hid v13
  have V14 := Lib.hid v14
  have V15 := Lib.hid v15
  have V16 := Lib.hid v16
  have V17 := Lib.hid v17
  have V18 := Lib.hid v18
  have V19 := Lib.hid v19
  have V20 := Lib.hid v20
  have V21 := Lib.hid v21
  have V22 := Lib.hid v22
  have V23 := Lib.hid v23
  have V24 := Lib.hid v24
  have V25 := Lib.hid v25
  have V26 := Lib.hid v26
  have V27 := Lib.hid v27
  have V28 := Lib.hid v28
  clear v0 v1 v2 v3 v4 v5 l6 v7 v8 l9 v10 v11 v12 v13 v14 v15 v16 v17 v18 v19 v20 v21 v22 v23 v24 v25 v26 v27 v28
  refine region_run (RegI w2 isO BL CV) (by kernel_rfl) (by kernel_rfl) (by kernel_rfl) (by kernel_rfl) (RegI.start w2 29) ?_ ?_
  · intro listed vals a1 wq i hs hcl hI hR hi hu hr1
    replace hi : i < 29 := hi
    obtain rfl | hi1 : i = 0 ∨ 1 ≤ i := by omega
    · have hc1 := aw wq
      clear aw hab haa hrab hla hlb
      refine wpOp_calls (f := 10) (args := #[]) rfl rfl (by go_simp) (hc1.mono ?_)
      rintro e wz ⟨rfl, b⟩
      exact ⟨_, rfl, _, rfl, hI.keepV b 0 o0 V0.out⟩
    obtain rfl | hi1 : i = 1 ∨ 2 ≤ i := by omega
    · have t5 : a1.tmps[5]? = some (.bool true) := hI.get hR hr1 0 o0 (by kernel_rfl) (by decide) rfl V0.out
      clear aw hab haa hrab hla hlb
      exact wpOp_val rfl rfl (by rw [V1.out]; go_simp) ⟨_, rfl, hI.keep (Below.refl _ _) 1 o1⟩
    obtain rfl | hi1 : i = 2 ∨ 3 ≤ i := by omega
    · have t6 : a1.tmps[6]? = some (.bool true) := hI.get hR hr1 1 o1 (by kernel_rfl) (by decide) rfl V1.out
      have t2 := hR.fixed 2 (by kernel_rfl) rfl
      have kk := (hI.b.block _ (heap_lt K2.out)).trans K2.out
      exact wpOp_of_wp rfl (wanted_yes rfl rfl t6) (wp_load_row 27 (.tmp 2) rfl w.heap.size (getD_is t2) 27 A (0, 0) _ kk Try.underlying27 rfl (by rw [hA]; exact Hs.out) ⟨_, rfl, hI.keepV (Below.refl _ _) 2 o2 V2.out⟩)
    obtain rfl | hi1 : i = 3 ∨ 4 ≤ i := by omega
    · have t6 : a1.tmps[6]? = some (.bool true) := hI.get hR hr1 1 o1 (by kernel_rfl) (by decide) rfl V1.out
      have t3 := hR.fixed 3 (by kernel_rfl) rfl
      have kk := (hI.b.block _ (heap_lt K3.out)).trans K3.out
      exact wpOp_of_wp rfl (wanted_yes rfl rfl t6) (wp_load_row 27 (.tmp 3) rfl (w.heap.size + 1) (getD_is t3) 27 B (0, 0) _ kk Try.underlying27 rfl (by rw [hB]; exact Hs.out) ⟨_, rfl, hI.keepV (Below.refl _ _) 3 o3 V3.out⟩)
    obtain rfl | hi1 : i = 4 ∨ 5 ≤ i := by omega
    · have t6 : a1.tmps[6]? = some (.bool true) := hI.get hR hr1 1 o1 (by kernel_rfl) (by decide) rfl V1.out
      have t7 : a1.tmps[7]? = some (.agg A) := hI.get hR hr1 2 o2 (by kernel_rfl) (by decide) rfl V2.out
      have t8 : a1.tmps[8]? = some (.agg B) := hI.get hR hr1 3 o3 (by kernel_rfl) (by decide) rfl V3.out
      have hc1 := hab wq
      clear aw hab haa hrab hla hlb
      refine wpOp_calls (f := 20) (args := #[.agg A, .agg B]) rfl (wanted_yes rfl rfl t6) (by go_simp) (hc1.mono ?_)
      rintro e wz ⟨rfl, b⟩
      exact ⟨_, rfl, _, rfl, hI.keepV b 4 o4 V4.out⟩
    obtain rfl | hi1 : i = 5 ∨ 6 ≤ i := by omega
    · have t6 : a1.tmps[6]? = some (.bool true) := hI.get hR hr1 1 o1 (by kernel_rfl) (by decide) rfl V1.out
      have t2 := hR.fixed 2 (by kernel_rfl) rfl
      have kk := (hI.b.block _ (heap_lt K2.out)).trans K2.out
      exact wpOp_of_wp rfl (wanted_yes rfl rfl t6) (wp_load_row 27 (.tmp 2) rfl w.heap.size (getD_is t2) 27 A (0, 0) _ kk Try.underlying27 rfl (by rw [hA]; exact Hs.out) ⟨_, rfl, hI.keepV (Below.refl _ _) 5 o5 V5.out⟩)
    obtain rfl | hi1 : i = 6 ∨ 7 ≤ i := by omega
    · have t6 : a1.tmps[6]? = some (.bool true) := hI.get hR hr1 1 o1 (by kernel_rfl) (by decide) rfl V1.out
      have t10 : a1.tmps[10]? = some (.agg A) := hI.get hR hr1 5 o5 (by kernel_rfl) (by decide) rfl V5.out
      have hc1 := hla wq
      clear aw hab haa hrab hla hlb
      refine wpOp_calls (f := 21) (args := #[.slice none 0 0, .agg A]) rfl (wanted_yes rfl rfl t6) (by go_simp) (hc1.mono ?_)
      rintro e wz ⟨v, rfl, ho, b⟩
      exact ⟨_, rfl, _, rfl, hI.keepB b 6 o6 v (by rw [LL6.out]; exact ho)⟩
    obtain rfl | hi1 : i = 7 ∨ 8 ≤ i := by omega
    · have t6 : a1.tmps[6]? = some (.bool true) := hI.get hR hr1 1 o1 (by kernel_rfl) (by decide) rfl V1.out
      have tv : a1.tmps[11]? = some (vals 6) := hR.dep hr1 6 (by kernel_rfl) (by decide) rfl
      have ho := hI.own 6 o6 (dep_of hr1 (by kernel_rfl))
      rw [LL6.out] at ho
      obtain ⟨A9, c9, e9, _, r9⟩ := ho.form
      rw [e9] at tv
      have hcv := run_string_reads (P := Try.prog) wq 37 9 5 Try.underlying37 Try.underlying5 Try.underlying9 A9 c9 _ r9
      rw [← Hsa.out] at hcv
      generalize List.length (LA) = n9 at *
      clear e9 ho r9
      clear aw hab haa hrab hla hlb
      exact wpOp_val rfl (wanted_yes rfl rfl t6) (by rw [V7.out]; go_simp) ⟨_, rfl, hI.keep (Below.refl _ _) 7 o7⟩
    obtain rfl | hi1 : i = 8 ∨ 9 ≤ i := by omega
    · have t6 : a1.tmps[6]? = some (.bool true) := hI.get hR hr1 1 o1 (by kernel_rfl) (by decide) rfl V1.out
      have t3 := hR.fixed 3 (by kernel_rfl) rfl
      have kk := (hI.b.block _ (heap_lt K3.out)).trans K3.out
      exact wpOp_of_wp rfl (wanted_yes rfl rfl t6) (wp_load_row 27 (.tmp 3) rfl (w.heap.size + 1) (getD_is t3) 27 B (0, 0) _ kk Try.underlying27 rfl (by rw [hB]; exact Hs.out) ⟨_, rfl, hI.keepV (Below.refl _ _) 8 o8 V8.out⟩)
    obtain rfl | hi1 : i = 9 ∨ 10 ≤ i := by omega
    · have t6 : a1.tmps[6]? = some (.bool true) := hI.get hR hr1 1 o1 (by kernel_rfl) (by decide) rfl V1.out
      have t13 : a1.tmps[13]? = some (.agg B) := hI.get hR hr1 8 o8 (by kernel_rfl) (by decide) rfl V8.out
      have hc1 := hlb wq
      clear aw hab haa hrab hla hlb
      refine wpOp_calls (f := 21) (args := #[.slice none 0 0, .agg B]) rfl (wanted_yes rfl rfl t6) (by go_simp) (hc1.mono ?_)
      rintro e wz ⟨v, rfl, ho, b⟩
      exact ⟨_, rfl, _, rfl, hI.keepB b 9 o9 v (by rw [LL9.out]; exact ho)⟩
    obtain rfl | hi1 : i = 10 ∨ 11 ≤ i := by omega
    · have t6 : a1.tmps[6]? = some (.bool true) := hI.get hR hr1 1 o1 (by kernel_rfl) (by decide) rfl V1.out
      have tv : a1.tmps[14]? = some (vals 9) := hR.dep hr1 9 (by kernel_rfl) (by decide) rfl
      have ho := hI.own 9 o9 (dep_of hr1 (by kernel_rfl))
      rw [LL9.out] at ho
      obtain ⟨A9, c9, e9, _, r9⟩ := ho.form
      rw [e9] at tv
      have hcv := run_string_reads (P := Try.prog) wq 37 9 5 Try.underlying37 Try.underlying5 Try.underlying9 A9 c9 _ r9
      rw [← Hsb.out] at hcv
      generalize List.length (LB) = n9 at *
      clear e9 ho r9
      clear aw hab haa hrab hla hlb
      exact wpOp_val rfl (wanted_yes rfl rfl t6) (by rw [V10.out]; go_simp) ⟨_, rfl, hI.keep (Below.refl _ _) 10 o10⟩
    obtain rfl | hi1 : i = 11 ∨ 12 ≤ i := by omega
    · have t6 : a1.tmps[6]? = some (.bool true) := hI.get hR hr1 1 o1 (by kernel_rfl) (by decide) rfl V1.out
      have t12 : a1.tmps[12]? = some (.string sa) := hI.get hR hr1 7 o7 (by kernel_rfl) (by decide) rfl V7.out
      have t15 : a1.tmps[15]? = some (.string sb) := hI.get hR hr1 10 o10 (by kernel_rfl) (by decide) rfl V10.out
      have hse := Hse.out
      clear aw hab haa hrab hla hlb
      exact wpOp_val rfl (wanted_yes rfl rfl t6) (by rw [V11.out]; go_simp) ⟨_, rfl, hI.keep (Below.refl _ _) 11 o11⟩
    obtain rfl | hi1 : i = 12 ∨ 13 ≤ i := by omega
    · have t6 : a1.tmps[6]? = some (.bool true) := hI.get hR hr1 1 o1 (by kernel_rfl) (by decide) rfl V1.out
      have t9 : a1.tmps[9]? = some (.bool sm) := hI.get hR hr1 4 o4 (by kernel_rfl) (by decide) rfl V4.out
      have t16 : a1.tmps[16]? = some (.bool sm) := hI.get hR hr1 11 o11 (by kernel_rfl) (by decide) rfl V11.out
      clear aw hab haa hrab hla hlb
      exact wpOp_val rfl (wanted_yes rfl rfl t6) (by rw [V12.out]; go_simp) ⟨_, rfl, hI.keep (Below.refl _ _) 12 o12⟩
    obtain rfl | hi1 : i = 13 ∨ 14 ≤ i := by omega
    · have t6 : a1.tmps[6]? = some (.bool true) := hI.get hR hr1 1 o1 (by kernel_rfl) (by decide) rfl V1.out
      have t17 : a1.tmps[17]? = some (.bool true) := hI.get hR hr1 12 o12 (by kernel_rfl) (by decide) rfl V12.out
      clear aw hab haa hrab hla hlb
      exact wpOp_val rfl rfl (by rw [V13.out]; go_simp) ⟨_, rfl, hI.keep (Below.refl _ _) 13 o13⟩
    obtain rfl | hi1 : i = 14 ∨ 15 ≤ i := by omega
    · have t18 : a1.tmps[18]? = some (.bool true) := hI.get hR hr1 13 o13 (by kernel_rfl) (by decide) rfl V13.out
      clear aw hab haa hrab hla hlb
      exact wpOp_val rfl rfl (by rw [V14.out]; go_simp) ⟨_, rfl, hI.keep (Below.refl _ _) 14 o14⟩
    obtain rfl | hi1 : i = 15 ∨ 16 ≤ i := by omega
    · have t19 : a1.tmps[19]? = some (.bool true) := hI.get hR hr1 14 o14 (by kernel_rfl) (by decide) rfl V14.out
      have t2 := hR.fixed 2 (by kernel_rfl) rfl
      have kk := (hI.b.block _ (heap_lt K2.out)).trans K2.out
      exact wpOp_of_wp rfl (wanted_yes rfl rfl t19) (wp_load_row 27 (.tmp 2) rfl w.heap.size (getD_is t2) 27 A (0, 0) _ kk Try.underlying27 rfl (by rw [hA]; exact Hs.out) ⟨_, rfl, hI.keepV (Below.refl _ _) 15 o15 V15.out⟩)
    obtain rfl | hi1 : i = 16 ∨ 17 ≤ i := by omega
    · have t19 : a1.tmps[19]? = some (.bool true) := hI.get hR hr1 14 o14 (by kernel_rfl) (by decide) rfl V14.out
      have t3 := hR.fixed 3 (by kernel_rfl) rfl
      have kk := (hI.b.block _ (heap_lt K3.out)).trans K3.out
      exact wpOp_of_wp rfl (wanted_yes rfl rfl t19) (wp_load_row 27 (.tmp 3) rfl (w.heap.size + 1) (getD_is t3) 27 B (0, 0) _ kk Try.underlying27 rfl (by rw [hB]; exact Hs.out) ⟨_, rfl, hI.keepV (Below.refl _ _) 16 o16 V16.out⟩)
    obtain rfl | hi1 : i = 17 ∨ 18 ≤ i := by omega
    · have t19 : a1.tmps[19]? = some (.bool true) := hI.get hR hr1 14 o14 (by kernel_rfl) (by decide) rfl V14.out
      have t20 : a1.tmps[20]? = some (.agg A) := hI.get hR hr1 15 o15 (by kernel_rfl) (by decide) rfl V15.out
      have t21 : a1.tmps[21]? = some (.agg B) := hI.get hR hr1 16 o16 (by kernel_rfl) (by decide) rfl V16.out
      have hc1 := hab wq
      clear aw hab haa hrab hla hlb
      refine wpOp_calls (f := 20) (args := #[.agg A, .agg B]) rfl (wanted_yes rfl rfl t19) (by go_simp) (hc1.mono ?_)
      rintro e wz ⟨rfl, b⟩
      exact ⟨_, rfl, _, rfl, hI.keepV b 17 o17 V17.out⟩
    obtain rfl | hi1 : i = 18 ∨ 19 ≤ i := by omega
    · have t19 : a1.tmps[19]? = some (.bool true) := hI.get hR hr1 14 o14 (by kernel_rfl) (by decide) rfl V14.out
      have t2 := hR.fixed 2 (by kernel_rfl) rfl
      have kk := (hI.b.block _ (heap_lt K2.out)).trans K2.out
      exact wpOp_of_wp rfl (wanted_yes rfl rfl t19) (wp_load_row 27 (.tmp 2) rfl w.heap.size (getD_is t2) 27 A (0, 0) _ kk Try.underlying27 rfl (by rw [hA]; exact Hs.out) ⟨_, rfl, hI.keepV (Below.refl _ _) 18 o18 V18.out⟩)
    obtain rfl | hi1 : i = 19 ∨ 20 ≤ i := by omega
    · have t19 : a1.tmps[19]? = some (.bool true) := hI.get hR hr1 14 o14 (by kernel_rfl) (by decide) rfl V14.out
      have t3 := hR.fixed 3 (by kernel_rfl) rfl
      have kk := (hI.b.block _ (heap_lt K3.out)).trans K3.out
      exact wpOp_of_wp rfl (wanted_yes rfl rfl t19) (wp_load_row 27 (.tmp 3) rfl (w.heap.size + 1) (getD_is t3) 27 B (0, 0) _ kk Try.underlying27 rfl (by rw [hB]; exact Hs.out) ⟨_, rfl, hI.keepV (Below.refl _ _) 19 o19 V19.out⟩)
    obtain rfl | hi1 : i = 20 ∨ 21 ≤ i := by omega
    · have t19 : a1.tmps[19]? = some (.bool true) := hI.get hR hr1 14 o14 (by kernel_rfl) (by decide) rfl V14.out
      have t23 : a1.tmps[23]? = some (.agg A) := hI.get hR hr1 18 o18 (by kernel_rfl) (by decide) rfl V18.out
      have t24 : a1.tmps[24]? = some (.agg B) := hI.get hR hr1 19 o19 (by kernel_rfl) (by decide) rfl V19.out
      have hc1 := hrab wq
      clear aw hab haa hrab hla hlb
      refine wpOp_calls (f := 17) (args := #[.agg A, .agg B]) rfl (wanted_yes rfl rfl t19) (by go_simp) (hc1.mono ?_)
      rintro e wz ⟨rfl, b⟩
      exact ⟨_, rfl, _, rfl, hI.keepV b 20 o20 V20.out⟩
    obtain rfl | hi1 : i = 21 ∨ 22 ≤ i := by omega
    · have t19 : a1.tmps[19]? = some (.bool true) := hI.get hR hr1 14 o14 (by kernel_rfl) (by decide) rfl V14.out
      have t22 : a1.tmps[22]? = some (.bool sm) := hI.get hR hr1 17 o17 (by kernel_rfl) (by decide) rfl V17.out
      have t25 : a1.tmps[25]? = some (.bool sm) := hI.get hR hr1 20 o20 (by kernel_rfl) (by decide) rfl V20.out
      clear aw hab haa hrab hla hlb
      exact wpOp_val rfl (wanted_yes rfl rfl t19) (by rw [V21.out]; go_simp) ⟨_, rfl, hI.keep (Below.refl _ _) 21 o21⟩
    obtain rfl | hi1 : i = 22 ∨ 23 ≤ i := by omega
    · have t19 : a1.tmps[19]? = some (.bool true) := hI.get hR hr1 14 o14 (by kernel_rfl) (by decide) rfl V14.out
      have t26 : a1.tmps[26]? = some (.bool true) := hI.get hR hr1 21 o21 (by kernel_rfl) (by decide) rfl V21.out
      clear aw hab haa hrab hla hlb
      exact wpOp_val rfl rfl (by rw [V22.out]; go_simp) ⟨_, rfl, hI.keep (Below.refl _ _) 22 o22⟩
    obtain rfl | hi1 : i = 23 ∨ 24 ≤ i := by omega
    · have t27 : a1.tmps[27]? = some (.bool true) := hI.get hR hr1 22 o22 (by kernel_rfl) (by decide) rfl V22.out
      clear aw hab haa hrab hla hlb
      exact wpOp_val rfl rfl (by rw [V23.out]; go_simp) ⟨_, rfl, hI.keep (Below.refl _ _) 23 o23⟩
    obtain rfl | hi1 : i = 24 ∨ 25 ≤ i := by omega
    · have t28 : a1.tmps[28]? = some (.bool true) := hI.get hR hr1 23 o23 (by kernel_rfl) (by decide) rfl V23.out
      have t2 := hR.fixed 2 (by kernel_rfl) rfl
      have kk := (hI.b.block _ (heap_lt K2.out)).trans K2.out
      exact wpOp_of_wp rfl (wanted_yes rfl rfl t28) (wp_load_row 27 (.tmp 2) rfl w.heap.size (getD_is t2) 27 A (0, 0) _ kk Try.underlying27 rfl (by rw [hA]; exact Hs.out) ⟨_, rfl, hI.keepV (Below.refl _ _) 24 o24 V24.out⟩)
    obtain rfl | hi1 : i = 25 ∨ 26 ≤ i := by omega
    · have t28 : a1.tmps[28]? = some (.bool true) := hI.get hR hr1 23 o23 (by kernel_rfl) (by decide) rfl V23.out
      have t2 := hR.fixed 2 (by kernel_rfl) rfl
      have kk := (hI.b.block _ (heap_lt K2.out)).trans K2.out
      exact wpOp_of_wp rfl (wanted_yes rfl rfl t28) (wp_load_row 27 (.tmp 2) rfl w.heap.size (getD_is t2) 27 A (0, 0) _ kk Try.underlying27 rfl (by rw [hA]; exact Hs.out) ⟨_, rfl, hI.keepV (Below.refl _ _) 25 o25 V25.out⟩)
    obtain rfl | hi1 : i = 26 ∨ 27 ≤ i := by omega
    · have t28 : a1.tmps[28]? = some (.bool true) := hI.get hR hr1 23 o23 (by kernel_rfl) (by decide) rfl V23.out
      have t29 : a1.tmps[29]? = some (.agg A) := hI.get hR hr1 24 o24 (by kernel_rfl) (by decide) rfl V24.out
      have t30 : a1.tmps[30]? = some (.agg A) := hI.get hR hr1 25 o25 (by kernel_rfl) (by decide) rfl V25.out
      have hc1 := haa wq
      clear aw hab haa hrab hla hlb
      refine wpOp_calls (f := 20) (args := #[.agg A, .agg A]) rfl (wanted_yes rfl rfl t28) (by go_simp) (hc1.mono ?_)
      rintro e wz ⟨rfl, b⟩
      exact ⟨_, rfl, _, rfl, hI.keepV b 26 o26 V26.out⟩
    obtain rfl | hi1 : i = 27 ∨ 28 ≤ i := by omega
    · have t28 : a1.tmps[28]? = some (.bool true) := hI.get hR hr1 23 o23 (by kernel_rfl) (by decide) rfl V23.out
      have t31 : a1.tmps[31]? = some (.bool true) := hI.get hR hr1 26 o26 (by kernel_rfl) (by decide) rfl V26.out
      clear aw hab haa hrab hla hlb
      exact wpOp_val rfl rfl (by rw [V27.out]; go_simp) ⟨_, rfl, hI.keep (Below.refl _ _) 27 o27⟩
    obtain rfl : i = 28 := by omega
    have t32 : a1.tmps[32]? = some (.bool true) := hI.get hR hr1 27 o27 (by kernel_rfl) (by decide) rfl V27.out
    clear aw hab haa hrab hla hlb
    exact wpOp_val rfl rfl (by rw [V28.out]; go_simp) ⟨_, rfl, hI.keep (Below.refl _ _) 28 o28⟩
  · intro listed vals wq FF hI hall hFF
    have hF2 : FF = ((((((((((((((((((((((((((((Act.put _ (some 5) (vals 0)).put (some 6) (vals 1)).put (some 7) (vals 2)).put (some 8) (vals 3)).put (some 9) (vals 4)).put (some 10) (vals 5)).put (some 11) (vals 6)).put (some 12) (vals 7)).put (some 13) (vals 8)).put (some 14) (vals 9)).put (some 15) (vals 10)).put (some 16) (vals 11)).put (some 17) (vals 12)).put (some 18) (vals 13)).put (some 19) (vals 14)).put (some 20) (vals 15)).put (some 21) (vals 16)).put (some 22) (vals 17)).put (some 23) (vals 18)).put (some 24) (vals 19)).put (some 25) (vals 20)).put (some 26) (vals 21)).put (some 27) (vals 22)).put (some 28) (vals 23)).put (some 29) (vals 24)).put (some 30) (vals 25)).put (some 31) (vals 26)).put (some 32) (vals 27)).put (some 4) (vals 28) := hFF
    simp only [putAll] at hF2
    rw [hF2]
    have e28 := hI.val 28 o28 (hall 28 (by decide))
    rw [V28.out] at e28
    have bfin := hI.b
    clear hF2 hFF hI hall
    rw [e28]
    go_frame
    go_wp2_with fail
    go_ret
    exact ⟨rfl, below_trans hb2 bfin⟩
set_option maxRecDepth 100000 in
theorem aggSameLaw_walk {H : Type} {enc : TypeId × Value → H} (W : World) {base : Nat} {sp : Nat → Bool} {hd : Bool} {r : Reach} {b0 : Nat} {v0 v1 : Value} {d0 d1 : DataW H} {p0 p1 : List MemPlace} {ts : List TypeId} {ds : List (DataW H)}
    (k0 : Value.okWide Try.prog W r b0 27 v0) (h0 : DataW.Trod enc Try.prog W base sp hd 27 v0 d0 p0) (hz0 : (DataW.weightsEach Try.prog ts ds).all (· ≤ reachBytes) = true)
    (k1 : Value.okWide Try.prog W r b0 27 v1) (h1 : DataW.Trod enc Try.prog W base sp hd 27 v1 d1 p1) (hz1 : (DataW.weightsEach Try.prog ts ds).all (· ≤ reachBytes) = true) :
    Calls Try.prog 5 #[v0, v1] W fun e w' => e = .returned (.bool true) ∧ Below W.heap.size W w' := by
  obtain ⟨a, ha, rfl⟩ := open_agg k0 h0
  obtain ⟨b, hb, rfl⟩ := open_agg k1 h1
  exact aggSameLaw_any a b W ha hb
end Go.Proofs.Ytjmllggjaplldaa
