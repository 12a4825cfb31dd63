import Derived.Test.YtgpfoamhcoipgaaLg
import Derived.Test.YtgpfoamhcoipgaaLw
import Derived.Deep.DeepCutAuto
import Derived.Deep.QuietTactic
/-! Exact sums: rows that lie at the head of a block; the words of a finite number. -/
namespace Go.Proofs.Ytgpfoamhcoipgaa
open Go.RowKit
set_option linter.unusedVariables false

/-- A row with a list written over it from o on. -/
def setMany (C : Array Value) (o : Nat) : List Value → Array Value
  | [] => C
  | v :: r => setMany (C.setIfInBounds o v) (o + 1) r
theorem setMany_size (L : List Value) : ∀ (C : Array Value) (o : Nat), (setMany C o L).size = C.size := by
  induction L with
  | nil => intro C o; rfl
  | cons v r ih => intro C o; rw [setMany, ih, Array.size_setIfInBounds]
theorem setMany_at (L : List Value) : ∀ (C : Array Value) (o i : Nat), o + L.length ≤ C.size → (setMany C o L)[i]? = if o ≤ i ∧ i < o + L.length then L[i - o]? else C[i]? := by
  induction L with
  | nil => intro C o i _; rw [if_neg (fun h => by have := h.1; have := h.2; rw [List.length_nil] at this; omega)]; rfl
  | cons v r ih =>
    intro C o i h
    rw [List.length_cons] at h
    rw [setMany, ih _ _ _ (by rw [Array.size_setIfInBounds]; omega), List.length_cons]
    by_cases h1 : o + 1 ≤ i ∧ i < o + 1 + r.length
    · rw [if_pos h1, if_pos (by omega)]
      obtain ⟨j, hj⟩ : ∃ j, i - o = j + 1 := ⟨i - o - 1, by omega⟩
      rw [hj, List.getElem?_cons_succ, show i - (o + 1) = j by omega]
    · rw [if_neg h1]
      by_cases h2 : i = o
      · subst h2
        rw [if_pos (by omega), Nat.sub_self, List.getElem?_cons_zero, Array.getElem?_setIfInBounds_self_of_lt (by omega)]
      · rw [if_neg (by omega), Array.getElem?_setIfInBounds_ne (by omega)]
theorem setCells_eq_setRow (L : List Value) : ∀ (w : World) (g o : Nat) (C : Array Value) (t : TypeId) (fr : Nat × Nat), w.heap[g]? = some (.cells C t fr) → L ≠ [] → w.setCells g o L = w.setRow g (setMany C o L) := by
  induction L with
  | nil => intro w g o C t fr _ h; exact absurd rfl h
  | cons v r ih =>
    intro w g o C t fr h _
    rw [World.setCells, setMany]
    by_cases hr : r = []
    · subst hr
      exact setCell_eq_setRow h v
    · rw [setCell_eq_setRow h, ih _ g (o + 1) _ t fr (setRow_heap _ _ _ _ _ _ h) hr, setRow_setRow]
section
variable {P : Program} {ops : Array Oper} {rest : List Oper} {o : Oper} {a : Act} {Q : Exit → Act → World → Prop}
end
end Go.Proofs.Ytgpfoamhcoipgaa
/-! A change as it is drawn: whatever it is, it is one. -/
namespace Go.Proofs.Ytgpfoamhcoipgaa
open Go.RowKit Go.Sort Go.ChangeMaps
set_option linter.unusedVariables false
attribute [-simp] Try.isAgg36 Try.sizeOf36 Try.typeInfo36 Try.type36
attribute [-simp] Try.isAgg34 Try.sizeOf34 Try.typeInfo34 Try.type34
attribute [-simp] Try.isAgg38 Try.sizeOf38 Try.typeInfo38 Try.type38
attribute [-simp] Try.isAgg40 Try.sizeOf40 Try.typeInfo40 Try.type40

/-- A change as it is drawn. -/
structure Dr where
  put : Bool
  key : Nat
  w : Nat
  near : Nat
  a : AV
structure Dr.ok (a : Dr) : Prop where
  key : a.key < 256
  w : a.w < 256
  near : a.near < 256
  a : a.a.ok
def drL (a : Dr) : List Value := [.bool a.put, .int .u8 (a.key : Int), .int .u8 (a.w : Int), .int .u8 (a.near : Int), .int .u64 (a.a.n : Int), .float .f64 a.a.x, .bool a.a.ov, .float .f64 a.a.lo, .float .f64 a.a.hi]
def drA (a : Dr) : Array Value := (drL a).toArray
set_option maxRecDepth 100000 in
theorem built_win (s e : Int) : Try.prog.built 31 [(0, .int .i64 s), (1, .int .i64 e)] = some #[.int .i64 s, .int .i64 e] := by
  rw [built_of 31 Try.t31 #[.int .i64 0, .int .i64 0] _ [(0, 1), (1, 1)] (by kernel_rfl) (by kernel_rfl) Try.underlying31 (by kernel_rfl)]
  rfl
theorem wrap_i64 (n : Int) (h1 : -9223372036854775808 ≤ n) (h2 : n ≤ 9223372036854775807) : IntKind.i64.wrap n = n := by
  simp [IntKind.wrap, IntKind.bits, IntKind.signed]
  omega
/-- The change that a drawn one begins as. -/
def ch0 (put : Bool) (p : Pn) : Ch := ⟨put, 0, p⟩
theorem layC (z : Array Value) (hz : z.size = 10) (r : Value) (h1 : z[1]? = some r) (b : Value) (C : Array Value) (hC : C.size = 8) (i : Nat) :
    (lay C (lay #[b] z 0) 2)[i]? = (#[b, r] ++ C)[i]? := by
  have s1 : (lay #[b] z 0).size = 10 := by rw [lay_size _ _ _ (by rw [hz]; exact of_decide_eq_true rfl), hz]
  rw [lay_at _ _ _ _ (by rw [s1, hC]; decide), lay_at _ _ _ _ (by rw [hz]; exact of_decide_eq_true rfl), hC]
  have e2 : (#[b] : Array Value).size = 1 := rfl
  have e3 : (#[b, r] : Array Value).size = 2 := rfl
  rw [e2, Array.getElem?_append, e3]
  by_cases h2 : i < 2
  · rw [if_neg (show ¬(2 ≤ i ∧ i < 2 + 8) by omega), if_pos h2]
    obtain rfl | rfl : i = 0 ∨ i = 1 := by omega
    · rfl
    · rw [if_neg (by omega), h1]; rfl
  · rw [if_neg h2]
    by_cases h10 : i < 10
    · rw [if_pos (show 2 ≤ i ∧ i < 2 + 8 by omega)]
    · rw [if_neg (show ¬(2 ≤ i ∧ i < 2 + 8) by omega), if_neg (show ¬(0 ≤ i ∧ i < 0 + 1) by omega), Array.getElem?_eq_none (by rw [hz]; omega), Array.getElem?_eq_none (by rw [hC]; omega)]
set_option maxRecDepth 100000 in
theorem built_ch1 (b : Bool) (C : Array Value) (hC : C.size = 8) : Try.prog.built 38 [(0, .bool b), (2, .agg C)] = some (#[.bool b, .int .u64 0] ++ C) := by
  rw [built_of 38 Try.t38 (chA ⟨false, 0, default⟩) _ [(0, 1), (1, 1), (2, 8)] (by kernel_rfl) (by kernel_rfl) Try.underlying38 (by kernel_rfl)]
  have hz : (chA ⟨false, 0, default⟩).size = 10 := rfl
  have h1 : (chA ⟨false, 0, default⟩)[1]? = some (.int .u64 0) := rfl
  generalize chA ⟨false, 0, default⟩ = z at *
  have s1 : (lay #[.bool b] z 0).size = 10 := by rw [lay_size _ _ _ (by rw [hz]; exact of_decide_eq_true rfl), hz]
  rw [fill_step _ _ _ _ _ 0 1 rfl rfl (by rw [hz]; exact of_decide_eq_true rfl), fill_step _ _ _ (.agg C) _ 2 8 rfl hC (by show 2 + C.size ≤ (lay #[.bool b] z 0).size; rw [s1, hC]; decide), Instr.fill]
  congr 1
  exact Array.ext_getElem? (layC z hz _ h1 _ C hC)
theorem built_ch (b : Bool) (p : Pn) : Try.prog.built 38 [(0, .bool b), (2, .agg (paneL p).toArray)] = some (chA ⟨b, 0, p⟩) := (built_ch1 b (paneL p).toArray rfl).trans rfl
theorem chA_n (c : Ch) (n : Nat) : (chA c).setIfInBounds 5 (.int .u64 (n : Int)) = chA ⟨c.put, c.rev, ⟨c.p.nm, ⟨n, c.p.a.x, c.p.a.ov, c.p.a.lo, c.p.a.hi⟩⟩⟩ := rfl
theorem wpList_store_in {P : Program} {ops : Array Oper} {rest : List Oper} {o : Oper} {a : Go.Act} {Q : Exit → Go.Act → World → Prop} (hgd : o.guard = none) (w : World) (ty : TypeId) (x y : Operand) (ho : o.op = .store ty x y) (g k : Nat) (D : Array Value) (hx : a.eval x = .pointer (some ⟨g, k, none⟩)) (hy : a.eval y = .agg D) (C : Array Value) (t : TypeId)
    (hg : w.heap[g]? = some (.cells C t (0, 0))) (hDC : k + D.size ≤ C.size) (h0 : 0 < D.size) (hi : (P.info? ty).map (·.size) = some D.size) (h1 : D.all (·.oneCell') = true)
    (h : wpList P ops Q rest (a.put o.dst undef) (w.setRow g (setMany C k D.toList))) : wpList P ops Q (o :: rest) a w := by
  refine wpList_store_mid hgd ty x y ho g k D hx hy (fun j hj => ⟨?_, frozen_of_row hg _⟩) hi h1 ?_
  · rw [cell_of_row _ _ _ _ _ _ hg, Array.getElem?_eq_getElem (by omega)]; rfl
  · rw [setCells_eq_setRow _ _ _ _ _ _ _ hg (by
      intro e
      have := congrArg List.length e
      rw [Array.length_toList] at this
      have h2 : D.size = 0 := this
      omega)]
    exact h
set_option maxRecDepth 100000 in
set_option maxHeartbeats 8000000 in
theorem change_any (a : Dr) (ha : a.ok) (A : Option Addr) (cap : Nat) (L : List Ch) (w : World) (hr : RowsAt w chL A L) (hL : ∀ c ∈ L, c.ok) (hl : L.length ≤ 1000) :
    Calls Try.prog 8 #[.agg (drA a), .slice A L.length cap] w fun e w' => ∃ c : Ch, c.ok ∧ e = .returned (.agg (chA c)) ∧ Below w.heap.size w w' := by
  have hA := ha.a
  have hk1 := ha.key
  have hw1 := ha.w
  have zc := zeroCh
  have Hc := Lib.hid sizeCh
  have g9 : ∀ w, (isAgg 40).run Try.prog w = .ok true w := fun w => by rw [Try.isAgg40]
  have z9 : ∀ w, (sizeOf 40).run Try.prog w = .ok 9 w := run_sizeOf_info (by kernel_rfl)
  have z1 : ∀ w, (sizeOf 38).run Try.prog w = .ok 10 w := run_sizeOf_info sizeCh
  have z2 : ∀ w, (sizeOf 36).run Try.prog w = .ok 8 w := run_sizeOf_info sizePane
  have z4 : ∀ w, (sizeOf 34).run Try.prog w = .ok 5 w := run_sizeOf_info sizeAgg
  have h1 : (((w.alloc (.cells (drA a) 40)).alloc (.cells (chA ⟨false, 0, default⟩) 38)).alloc (.cells #[.string ⟨#[97]⟩, .string ⟨#[98]⟩] 9)).heap[w.heap.size]? = some (.cells (drA a) 40 (0, 0)) :=
    ((below_alloc (Below.refl _ ((w.alloc (.cells (drA a) 40)).alloc (.cells (chA ⟨false, 0, default⟩) 38))) (.cells #[.string ⟨#[97]⟩, .string ⟨#[98]⟩] 9)).block w.heap.size (by simp; omega)).trans (heap_alloc2_old w _ _)
  have h2 : (((w.alloc (.cells (drA a) 40)).alloc (.cells (chA ⟨false, 0, default⟩) 38)).alloc (.cells #[.string ⟨#[97]⟩, .string ⟨#[98]⟩] 9)).heap[w.heap.size + 1]? = some (.cells (chA ⟨false, 0, default⟩) 38 (0, 0)) :=
    ((below_alloc (Below.refl _ ((w.alloc (.cells (drA a) 40)).alloc (.cells (chA ⟨false, 0, default⟩) 38))) (.cells #[.string ⟨#[97]⟩, .string ⟨#[98]⟩] 9)).block (w.heap.size + 1) (by simp)).trans (heap_alloc2_new w _ _)
  have h3 : (((w.alloc (.cells (drA a) 40)).alloc (.cells (chA ⟨false, 0, default⟩) 38)).alloc (.cells #[.string ⟨#[97]⟩, .string ⟨#[98]⟩] 9)).heap[w.heap.size + 2]? = some (.cells #[.string ⟨#[97]⟩, .string ⟨#[98]⟩] 9 (0, 0)) := by
    have := heap_alloc2_new (w.alloc (.cells (drA a) 40)) (.cells (chA ⟨false, 0, default⟩) 38) (.cells #[.string ⟨#[97]⟩, .string ⟨#[98]⟩] 9)
    simpa using this
  have b3 := below_alloc (below_alloc (below_alloc (Below.refl w.heap.size w) (.cells (drA a) 40)) (.cells (chA ⟨false, 0, default⟩) 38)) (.cells #[.string ⟨#[97]⟩, .string ⟨#[98]⟩] 9)
  go_enter Try.func8, Try.ntmps8
  go_upto_region 2 with (refine at_op (.alloc 38) ?_ rfl; refine wpList_alloc_row rfl _ 38 rfl (some 4) rfl (w.heap.size + 1) (by simp) _ zc ?_)
  generalize ((w.alloc (.cells (drA a) 40)).alloc (.cells (chA ⟨false, 0, default⟩) 38)).alloc (.cells #[.string ⟨#[97]⟩, .string ⟨#[98]⟩] 9) = w3 at *
  have KA0 := Lib.hid ((cell_of_row _ _ 0 _ _ _ h1).trans (show (drA a)[0]? = some (.bool a.put) from rfl))
  have KA1 := Lib.hid ((cell_of_row _ _ 1 _ _ _ h1).trans (show (drA a)[1]? = some (.int .u8 (a.key : Int)) from rfl))
  have KA2 := Lib.hid ((cell_of_row _ _ 2 _ _ _ h1).trans (show (drA a)[2]? = some (.int .u8 (a.w : Int)) from rfl))
  have r4 := World.rangeAt_of_block h1 4 5
  rw [show ((drA a).extract 4 (4 + 5)).toList = (avC a.a).toList from rfl] at r4
  have KA4 := Lib.hid r4
  obtain ⟨k2, hk2⟩ : ∃ k2, k2 = a.key % 2 := ⟨_, rfl⟩
  obtain ⟨w3n, hw3⟩ : ∃ w3n, w3n = a.w % 3 := ⟨_, rfl⟩
  have hk2l : k2 < 2 := by omega
  have hw3l : w3n < 3 := by omega
  obtain ⟨ks, hks⟩ : ∃ ks, (#[.string ⟨#[97]⟩, .string ⟨#[98]⟩] : Array Value)[k2]? = some (.string ks) := by
    obtain h | h : k2 = 0 ∨ k2 = 1 := by omega
    · subst h; exact ⟨_, rfl⟩
    · subst h; exact ⟨_, rfl⟩
  have KS := Lib.hid ((cell_of_row _ _ k2 _ _ _ h3).trans hks)
  have HK2 : Hid ((a.key : Int).tmod 2 = (k2 : Int)) := Lib.hid (by rw [Int.tmod_eq_emod_of_nonneg (by omega)]; omega)
  have HW3 : Hid ((a.w : Int).tmod 3 = (w3n : Int)) := Lib.hid (by rw [Int.tmod_eq_emod_of_nonneg (by omega)]; omega)
  obtain ⟨P, hP⟩ : ∃ P : Pn, P = ⟨⟨ks, (w3n : Int), (w3n : Int) + 5⟩, a.a⟩ := ⟨_, rfl⟩
  obtain ⟨C0, hC0⟩ : ∃ C0 : Ch, C0 = ⟨a.put, 0, P⟩ := ⟨_, rfl⟩
  have hbp := built_pane ⟨ks, (w3n : Int), (w3n : Int) + 5⟩ a.a
  rw [← hP] at hbp
  have hbc := built_ch a.put P
  rw [← hC0] at hbc
  have hbw := built_win (w3n : Int) ((w3n : Int) + 5)
  have HBP := Lib.hid hbp
  have HBC := Lib.hid hbc
  have HBW := Lib.hid hbw
  have HC0 := Lib.hid hC0
  have HP := Lib.hid hP
  have H1 := Lib.hid h1
  have H2 := Lib.hid h2
  have HB3 := Lib.hid b3
  clear hk2 hw3 hks h1 h2 h3 b3 r4 hbp hbc hbw hC0 hP
  obtain ⟨CV, hCV⟩ : ∃ CV : Nat → Value, CV = fun j => match j with
    | 0 => .pointer (some ⟨w.heap.size, 0, none⟩)
    | 1 => .bool a.put
    | 2 => .slice (some ⟨w.heap.size + 2, 0, none⟩) 2 2
    | 3 => .pointer (some ⟨w.heap.size, 1, none⟩)
    | 4 => .int .u8 (a.key : Int)
    | 5 => .int .u8 (k2 : Int)
    | 6 => .pointer (some ⟨w.heap.size + 2, k2, none⟩)
    | 7 => .string ks
    | 8 => .pointer (some ⟨w.heap.size, 2, none⟩)
    | 9 => .int .u8 (a.w : Int)
    | 10 => .int .u8 (w3n : Int)
    | 11 => .int .i64 (w3n : Int)
    | 12 => .pointer (some ⟨w.heap.size, 2, none⟩)
    | 13 => .int .u8 (a.w : Int)
    | 14 => .int .u8 (w3n : Int)
    | 15 => .int .i64 (w3n : Int)
    | 16 => .int .i64 ((w3n : Int) + 5)
    | 17 => .agg #[.int .i64 (w3n : Int), .int .i64 ((w3n : Int) + 5)]
    | 18 => .pointer (some ⟨w.heap.size, 4, none⟩)
    | 19 => .agg (avC a.a)
    | 20 => .agg (paneL P).toArray
    | 21 => .agg (chA C0)
    | 22 => undef
    | 23 => undef
    | _ => undef := ⟨_, rfl⟩
  have v0 : CV 0 = .pointer (some ⟨w.heap.size, 0, none⟩) := congrFun hCV 0
  have o0 : 0 ≠ 22 ∧ 0 ≠ 22 + 1 := by decide
  have v1 : CV 1 = .bool a.put := congrFun hCV 1
  have o1 : 1 ≠ 22 ∧ 1 ≠ 22 + 1 := by decide
  have v2 : CV 2 = .slice (some ⟨w.heap.size + 2, 0, none⟩) 2 2 := congrFun hCV 2
  have o2 : 2 ≠ 22 ∧ 2 ≠ 22 + 1 := by decide
  have v3 : CV 3 = .pointer (some ⟨w.heap.size, 1, none⟩) := congrFun hCV 3
  have o3 : 3 ≠ 22 ∧ 3 ≠ 22 + 1 := by decide
  have v4 : CV 4 = .int .u8 (a.key : Int) := congrFun hCV 4
  have o4 : 4 ≠ 22 ∧ 4 ≠ 22 + 1 := by decide
  have v5 : CV 5 = .int .u8 (k2 : Int) := congrFun hCV 5
  have o5 : 5 ≠ 22 ∧ 5 ≠ 22 + 1 := by decide
  have v6 : CV 6 = .pointer (some ⟨w.heap.size + 2, k2, none⟩) := congrFun hCV 6
  have o6 : 6 ≠ 22 ∧ 6 ≠ 22 + 1 := by decide
  have v7 : CV 7 = .string ks := congrFun hCV 7
  have o7 : 7 ≠ 22 ∧ 7 ≠ 22 + 1 := by decide
  have v8 : CV 8 = .pointer (some ⟨w.heap.size, 2, none⟩) := congrFun hCV 8
  have o8 : 8 ≠ 22 ∧ 8 ≠ 22 + 1 := by decide
  have v9 : CV 9 = .int .u8 (a.w : Int) := congrFun hCV 9
  have o9 : 9 ≠ 22 ∧ 9 ≠ 22 + 1 := by decide
  have v10 : CV 10 = .int .u8 (w3n : Int) := congrFun hCV 10
  have o10 : 10 ≠ 22 ∧ 10 ≠ 22 + 1 := by decide
  have v11 : CV 11 = .int .i64 (w3n : Int) := congrFun hCV 11
  have o11 : 11 ≠ 22 ∧ 11 ≠ 22 + 1 := by decide
  have v12 : CV 12 = .pointer (some ⟨w.heap.size, 2, none⟩) := congrFun hCV 12
  have o12 : 12 ≠ 22 ∧ 12 ≠ 22 + 1 := by decide
  have v13 : CV 13 = .int .u8 (a.w : Int) := congrFun hCV 13
  have o13 : 13 ≠ 22 ∧ 13 ≠ 22 + 1 := by decide
  have v14 : CV 14 = .int .u8 (w3n : Int) := congrFun hCV 14
  have o14 : 14 ≠ 22 ∧ 14 ≠ 22 + 1 := by decide
  have v15 : CV 15 = .int .i64 (w3n : Int) := congrFun hCV 15
  have o15 : 15 ≠ 22 ∧ 15 ≠ 22 + 1 := by decide
  have v16 : CV 16 = .int .i64 ((w3n : Int) + 5) := congrFun hCV 16
  have o16 : 16 ≠ 22 ∧ 16 ≠ 22 + 1 := by decide
  have v17 : CV 17 = .agg #[.int .i64 (w3n : Int), .int .i64 ((w3n : Int) + 5)] := congrFun hCV 17
  have o17 : 17 ≠ 22 ∧ 17 ≠ 22 + 1 := by decide
  have v18 : CV 18 = .pointer (some ⟨w.heap.size, 4, none⟩) := congrFun hCV 18
  have o18 : 18 ≠ 22 ∧ 18 ≠ 22 + 1 := by decide
  have v19 : CV 19 = .agg (avC a.a) := congrFun hCV 19
  have o19 : 19 ≠ 22 ∧ 19 ≠ 22 + 1 := by decide
  have v20 : CV 20 = .agg (paneL P).toArray := congrFun hCV 20
  have o20 : 20 ≠ 22 ∧ 20 ≠ 22 + 1 := by decide
  have v21 : CV 21 = .agg (chA C0) := congrFun hCV 21
  have o21 : 21 ≠ 22 ∧ 21 ≠ 22 + 1 := by decide
  have v22 : CV 22 = undef := congrFun hCV 22
  have v23 : CV 23 = undef := congrFun hCV 23
  clear hCV
  have V0 := Lib.hid v0
  have V1 := Lib.hid v1
  have V2 := Lib.hid v2
  have V3 := Lib.hid v3
  have V4 := Lib.hid v4
  have V5 := Lib.hid v5
  have V6 := Lib.hid v6
  have V7 := Lib.hid v7
  have V8 := Lib.hid v8
  have V9 := Lib.hid v9
  have V10 := Lib.hid v10
  have V11 := Lib.hid v11
  have V12 := Lib.hid v12
  have V13 := Lib.hid v13
  have V14 := Lib.hid v14
  have V15 := Lib.hid v15
  have V16 := Lib.hid v16
  have V17 := Lib.hid v17
  have V18 := Lib.hid v18
  have V19 := Lib.hid v19
  have V20 := Lib.hid v20
  have V21 := Lib.hid v21
  have V22 := Lib.hid v22
  have V23 := Lib.hid v23
  clear v0 v1 v2 v3 v4 v5 v6 v7 v8 v9 v10 v11 v12 v13 v14 v15 v16 v17 v18 v19 v20 v21 v22 v23
  refine region_run (RegA w3 22 (chA ⟨false, 0, default⟩) (chA C0) 38 CV) (by kernel_rfl) (by kernel_rfl) (by kernel_rfl) (by kernel_rfl) (RegA.start w3 24) ?_ ?_
  · intro listed vals a1 wq i hs hcl hI hR hi hu hr1
    replace hi : i < 24 := hi
    replace hs : listed.size = 24 := hs
    obtain rfl | hi1 : i = 0 ∨ 1 ≤ i := by omega
    · have t2 := hR.fixed 2 (by kernel_rfl) rfl
      exact wpOp_val rfl rfl (by rw [V0.out]; go_simp) ⟨_, rfl, hI.keep (Below.refl _ _) 0 o0⟩
    obtain rfl | hi1 : i = 1 ∨ 2 ≤ i := by omega
    · have t9 : a1.tmps[9]? = some (.pointer (some ⟨w.heap.size, 0, none⟩)) := hI.get hR hr1 0 o0 (by kernel_rfl) (by decide) rfl V0.out
      have cc := cell_below hI.b KA0.out
      exact wpOp_val rfl rfl (by rw [V1.out]; go_simp) ⟨_, rfl, hI.keep (Below.refl _ _) 1 o1⟩
    obtain rfl | hi1 : i = 2 ∨ 3 ≤ i := by omega
    · have t5 := hR.fixed 5 (by kernel_rfl) rfl
      exact wpOp_val rfl rfl (by rw [V2.out]; go_simp) ⟨_, rfl, hI.keep (Below.refl _ _) 2 o2⟩
    obtain rfl | hi1 : i = 3 ∨ 4 ≤ i := by omega
    · have t2 := hR.fixed 2 (by kernel_rfl) rfl
      exact wpOp_val rfl rfl (by rw [V3.out]; go_simp) ⟨_, rfl, hI.keep (Below.refl _ _) 3 o3⟩
    obtain rfl | hi1 : i = 4 ∨ 5 ≤ i := by omega
    · have t12 : a1.tmps[12]? = some (.pointer (some ⟨w.heap.size, 1, none⟩)) := hI.get hR hr1 3 o3 (by kernel_rfl) (by decide) rfl V3.out
      have cc := cell_below hI.b KA1.out
      exact wpOp_val rfl rfl (by rw [V4.out]; go_simp) ⟨_, rfl, hI.keep (Below.refl _ _) 4 o4⟩
    obtain rfl | hi1 : i = 5 ∨ 6 ≤ i := by omega
    · have t13 : a1.tmps[13]? = some (.int .u8 (a.key : Int)) := hI.get hR hr1 4 o4 (by kernel_rfl) (by decide) rfl V4.out
      exact wpOp_val rfl rfl (by rw [V5.out]; go_simp; exact HK2.out) ⟨_, rfl, hI.keep (Below.refl _ _) 5 o5⟩
    obtain rfl | hi1 : i = 6 ∨ 7 ≤ i := by omega
    · have t11 : a1.tmps[11]? = some (.slice (some ⟨w.heap.size + 2, 0, none⟩) 2 2) := hI.get hR hr1 2 o2 (by kernel_rfl) (by decide) rfl V2.out
      have t14 : a1.tmps[14]? = some (.int .u8 (k2 : Int)) := hI.get hR hr1 5 o5 (by kernel_rfl) (by decide) rfl V5.out
      exact wpOp_val rfl rfl (by rw [V6.out]; go_simp; intro h9; omega) ⟨_, rfl, hI.keep (Below.refl _ _) 6 o6⟩
    obtain rfl | hi1 : i = 7 ∨ 8 ≤ i := by omega
    · have t15 : a1.tmps[15]? = some (.pointer (some ⟨w.heap.size + 2, k2, none⟩)) := hI.get hR hr1 6 o6 (by kernel_rfl) (by decide) rfl V6.out
      have cc := cell_below hI.b KS.out
      exact wpOp_val rfl rfl (by rw [V7.out]; go_simp) ⟨_, rfl, hI.keep (Below.refl _ _) 7 o7⟩
    obtain rfl | hi1 : i = 8 ∨ 9 ≤ i := by omega
    · have t2 := hR.fixed 2 (by kernel_rfl) rfl
      exact wpOp_val rfl rfl (by rw [V8.out]; go_simp) ⟨_, rfl, hI.keep (Below.refl _ _) 8 o8⟩
    obtain rfl | hi1 : i = 9 ∨ 10 ≤ i := by omega
    · have t17 : a1.tmps[17]? = some (.pointer (some ⟨w.heap.size, 2, none⟩)) := hI.get hR hr1 8 o8 (by kernel_rfl) (by decide) rfl V8.out
      have cc := cell_below hI.b KA2.out
      exact wpOp_val rfl rfl (by rw [V9.out]; go_simp) ⟨_, rfl, hI.keep (Below.refl _ _) 9 o9⟩
    obtain rfl | hi1 : i = 10 ∨ 11 ≤ i := by omega
    · have t18 : a1.tmps[18]? = some (.int .u8 (a.w : Int)) := hI.get hR hr1 9 o9 (by kernel_rfl) (by decide) rfl V9.out
      exact wpOp_val rfl rfl (by rw [V10.out]; go_simp; exact HW3.out) ⟨_, rfl, hI.keep (Below.refl _ _) 10 o10⟩
    obtain rfl | hi1 : i = 11 ∨ 12 ≤ i := by omega
    · have t19 : a1.tmps[19]? = some (.int .u8 (w3n : Int)) := hI.get hR hr1 10 o10 (by kernel_rfl) (by decide) rfl V10.out
      exact wpOp_val rfl rfl (by rw [V11.out]; go_simp; exact wrap_i64 _ (by omega) (by omega)) ⟨_, rfl, hI.keep (Below.refl _ _) 11 o11⟩
    obtain rfl | hi1 : i = 12 ∨ 13 ≤ i := by omega
    · have t2 := hR.fixed 2 (by kernel_rfl) rfl
      exact wpOp_val rfl rfl (by rw [V12.out]; go_simp) ⟨_, rfl, hI.keep (Below.refl _ _) 12 o12⟩
    obtain rfl | hi1 : i = 13 ∨ 14 ≤ i := by omega
    · have t21 : a1.tmps[21]? = some (.pointer (some ⟨w.heap.size, 2, none⟩)) := hI.get hR hr1 12 o12 (by kernel_rfl) (by decide) rfl V12.out
      have cc := cell_below hI.b KA2.out
      exact wpOp_val rfl rfl (by rw [V13.out]; go_simp) ⟨_, rfl, hI.keep (Below.refl _ _) 13 o13⟩
    obtain rfl | hi1 : i = 14 ∨ 15 ≤ i := by omega
    · have t22 : a1.tmps[22]? = some (.int .u8 (a.w : Int)) := hI.get hR hr1 13 o13 (by kernel_rfl) (by decide) rfl V13.out
      exact wpOp_val rfl rfl (by rw [V14.out]; go_simp; exact HW3.out) ⟨_, rfl, hI.keep (Below.refl _ _) 14 o14⟩
    obtain rfl | hi1 : i = 15 ∨ 16 ≤ i := by omega
    · have t23 : a1.tmps[23]? = some (.int .u8 (w3n : Int)) := hI.get hR hr1 14 o14 (by kernel_rfl) (by decide) rfl V14.out
      exact wpOp_val rfl rfl (by rw [V15.out]; go_simp; exact wrap_i64 _ (by omega) (by omega)) ⟨_, rfl, hI.keep (Below.refl _ _) 15 o15⟩
    obtain rfl | hi1 : i = 16 ∨ 17 ≤ i := by omega
    · have t24 : a1.tmps[24]? = some (.int .i64 (w3n : Int)) := hI.get hR hr1 15 o15 (by kernel_rfl) (by decide) rfl V15.out
      exact wpOp_val rfl rfl (by rw [V16.out]; go_simp; exact wrap_i64 _ (by omega) (by omega)) ⟨_, rfl, hI.keep (Below.refl _ _) 16 o16⟩
    obtain rfl | hi1 : i = 17 ∨ 18 ≤ i := by omega
    · have t20 : a1.tmps[20]? = some (.int .i64 (w3n : Int)) := hI.get hR hr1 11 o11 (by kernel_rfl) (by decide) rfl V11.out
      have t25 : a1.tmps[25]? = some (.int .i64 ((w3n : Int) + 5)) := hI.get hR hr1 16 o16 (by kernel_rfl) (by decide) rfl V16.out
      have hbd := HBW.out
      refine wpOp_build rfl rfl 31 _ rfl (#[.int .i64 (w3n : Int), .int .i64 ((w3n : Int) + 5)]) ?_ ⟨_, rfl, hI.keepV (Below.refl _ _) 17 o17 V17.out⟩
      simp only [List.map_toArray, List.map_cons, List.map_nil, Act.eval, getD_is t20, getD_is t25]; exact hbd
    obtain rfl | hi1 : i = 18 ∨ 19 ≤ i := by omega
    · have t2 := hR.fixed 2 (by kernel_rfl) rfl
      exact wpOp_val rfl rfl (by rw [V18.out]; go_simp) ⟨_, rfl, hI.keep (Below.refl _ _) 18 o18⟩
    obtain rfl | hi1 : i = 19 ∨ 20 ≤ i := by omega
    · have t27 : a1.tmps[27]? = some (.pointer (some ⟨w.heap.size, 4, none⟩)) := hI.get hR hr1 18 o18 (by kernel_rfl) (by decide) rfl V18.out
      exact wpOp_mid rfl rfl 34 (.tmp 27) rfl w.heap.size 4 (getD_is t27) (avC a.a) _ (range_below hI.b KA4.out) Try.underlying34 rfl (by exact sizeAgg) ⟨_, rfl, hI.keepV (Below.refl _ _) 19 o19 V19.out⟩
    obtain rfl | hi1 : i = 20 ∨ 21 ≤ i := by omega
    · have t16 : a1.tmps[16]? = some (.string ks) := hI.get hR hr1 7 o7 (by kernel_rfl) (by decide) rfl V7.out
      have t26 : a1.tmps[26]? = some (.agg #[.int .i64 (w3n : Int), .int .i64 ((w3n : Int) + 5)]) := hI.get hR hr1 17 o17 (by kernel_rfl) (by decide) rfl V17.out
      have t28 : a1.tmps[28]? = some (.agg (avC a.a)) := hI.get hR hr1 19 o19 (by kernel_rfl) (by decide) rfl V19.out
      have hbd := HBP.out
      refine wpOp_build rfl rfl 36 _ rfl ((paneL P).toArray) ?_ ⟨_, rfl, hI.keepV (Below.refl _ _) 20 o20 V20.out⟩
      simp only [List.map_toArray, List.map_cons, List.map_nil, Act.eval, getD_is t16, getD_is t26, getD_is t28]; exact hbd
    obtain rfl | hi1 : i = 21 ∨ 22 ≤ i := by omega
    · have t10 : a1.tmps[10]? = some (.bool a.put) := hI.get hR hr1 1 o1 (by kernel_rfl) (by decide) rfl V1.out
      have t29 : a1.tmps[29]? = some (.agg (paneL P).toArray) := hI.get hR hr1 20 o20 (by kernel_rfl) (by decide) rfl V20.out
      have hbd := HBC.out
      refine wpOp_build rfl rfl 38 _ rfl ((chA C0)) ?_ ⟨_, rfl, hI.keepV (Below.refl _ _) 21 o21 V21.out⟩
      simp only [List.map_toArray, List.map_cons, List.map_nil, Act.eval, getD_is t10, getD_is t29]; exact hbd
    obtain rfl | hi1 : i = 22 ∨ 23 ≤ i := by omega
    · have hn := unlisted (n := 23) hcl hu (by kernel_rfl)
      exact wpOp_alloc rfl rfl 38 rfl _ zeroCh ⟨_, rfl, hI.alloc (by omega) hn⟩
    obtain rfl : i = 23 := by omega
    have t30 : a1.tmps[30]? = some (.agg (chA C0)) := hI.get hR hr1 21 o21 (by kernel_rfl) (by decide) rfl V21.out
    obtain ⟨g6, e6, hg6, hh⟩ := hI.al (dep_of hr1 (by kernel_rfl))
    have t6 : a1.tmps[6]? = some (vals 22) := hR.dep hr1 22 (by kernel_rfl) (by decide) rfl
    rw [e6] at t6
    exact wpOp_of_wp rfl rfl (wp_store_row 38 (.tmp 6) (.tmp 30) rfl g6 (chA C0) (getD_is t6) (getD_is t30) 38 _ hh sizeCh (by split <;> rfl) (chA_one _) ⟨undef, rfl, hI.store (by omega) hg6 e6 hh⟩)
  · intro listed vals wq FF hI hall hFF
    obtain ⟨g6, e6, hg6, hh6⟩ := hI.al (hall 22 (by decide))
    rw [if_pos (hall 23 (by decide))] at hh6
    have hF2 : FF = (((((((((((((((((((((((Act.put _ (some 9) (vals 0)).put (some 10) (vals 1)).put (some 11) (vals 2)).put (some 12) (vals 3)).put (some 13) (vals 4)).put (some 14) (vals 5)).put (some 15) (vals 6)).put (some 16) (vals 7)).put (some 17) (vals 8)).put (some 18) (vals 9)).put (some 19) (vals 10)).put (some 20) (vals 11)).put (some 21) (vals 12)).put (some 22) (vals 13)).put (some 23) (vals 14)).put (some 24) (vals 15)).put (some 25) (vals 16)).put (some 26) (vals 17)).put (some 27) (vals 18)).put (some 28) (vals 19)).put (some 29) (vals 20)).put (some 30) (vals 21)).put (some 6) (vals 22)).put none (vals 23) := hFF
    simp only [putAll] at hF2
    rw [hF2]
    have bfin := hI.b
    clear hF2 hFF hI hall
    rw [e6]
    go_frame
    have B2 := below_trans HB3.out bfin
    have h1 := (bfin.block _ (heap_lt H1.out)).trans H1.out
    have h2 := (bfin.block _ (heap_lt H2.out)).trans H2.out
    have hgw : w.heap.size + 1 < g6 := Nat.lt_of_lt_of_le (heap_lt H2.out) hg6
    have hC0ok : C0.ok := by rw [HC0.out]; exact ⟨show 0 < 18446744073709551616 by decide, by show P.a.ok; rw [HP.out]; exact hA⟩
    clear hg6 bfin HB3 H1 H2 KA0 KA1 KA2 KA4 KS HK2 HW3 HBP HBC HBW HC0 HP e6
    generalize vals 0 = x0
    generalize vals 1 = x1
    generalize vals 2 = x2
    generalize vals 3 = x3
    generalize vals 4 = x4
    generalize vals 5 = x5
    generalize vals 6 = x6
    generalize vals 7 = x7
    generalize vals 8 = x8
    generalize vals 9 = x9
    generalize vals 10 = x10
    generalize vals 11 = x11
    generalize vals 12 = x12
    generalize vals 13 = x13
    generalize vals 14 = x14
    generalize vals 15 = x15
    generalize vals 16 = x16
    generalize vals 17 = x17
    generalize vals 18 = x18
    generalize vals 19 = x19
    generalize vals 20 = x20
    generalize vals 21 = x21
    generalize vals 23 = x23
    go_wp2_with fail
    go_loopw [7] (fun i wr => ∃ (j : Nat) (c : Ch), i = .int .i64 (j : Nat) ∧ j ≤ L.length ∧ c.ok ∧ wr.heap[g6]? = some (.cells (chA c) 38 (0, 0)) ∧ wr.heap[w.heap.size]? = some (.cells (drA a) 40 (0, 0)) ∧ wr.heap[w.heap.size + 1]? = some (.cells (chA ⟨false, 0, default⟩) 38 (0, 0)) ∧ Below w.heap.size w wr) (fun i _ => L.length - (intOf i).toNat)
    case atStart => exact ⟨0, C0, rfl, Nat.zero_le _, hC0ok, hh6, h1, h2, B2⟩
    case round =>
      clear hC0ok hh6 h1 h2 B2
      obtain ⟨j, c, rfl, hj, hco, hG, h1, h2, hb⟩ := hrel
      have hgl := heap_lt hG
      by_cases hlt : j < L.length
      · obtain ⟨d, hd⟩ : ∃ d, L[j]? = some d := ⟨_, List.getElem?_eq_getElem hlt⟩
        obtain ⟨g, off, rfl, hrow0⟩ := RowsAt.row encCh hr hd
        have hrow : wr.rangeAt g (off + j * 10) (chL d) := range_below hb hrow0
        have hgw2 : g < w.heap.size := cell_lt (a := ⟨g, off + j * 10 + 0, none⟩) (hrow0 0 _ rfl)
        have hji : (j : Int) < (L.length : Int) := by omega
        have hdo := hL d (List.mem_of_getElem? hd)
        have e0 : wr.cell? ⟨g, off + j * 10, none⟩ = some (.bool d.put) := hrow 0 _ rfl
        have e1 : wr.cell? ⟨g, off + j * 10 + 1, none⟩ = some (.int .u64 (d.rev : Int)) := hrow 1 _ rfl
        have e2 : wr.cell? ⟨g, off + j * 10 + 2, none⟩ = some (.string d.p.nm.key) := hrow 2 _ rfl
        have e3 : wr.cell? ⟨g, off + j * 10 + 3, none⟩ = some (.int .i64 d.p.nm.s) := hrow 3 _ rfl
        have e4 : wr.cell? ⟨g, off + j * 10 + 4, none⟩ = some (.int .i64 d.p.nm.e) := hrow 4 _ rfl
        have r5 : wr.rangeAt g (off + j * 10 + 5) (avC d.p.a).toList := range_sub hrow 5 5 rfl
        have k2 := (cell_of_row _ _ 2 _ _ _ hG).trans (show (chA c)[2]? = some (.string c.p.nm.key) from rfl)
        have k3 := (cell_of_row _ _ 3 _ _ _ hG).trans (show (chA c)[3]? = some (.int .i64 c.p.nm.s) from rfl)
        have k4 := (cell_of_row _ _ 4 _ _ _ hG).trans (show (chA c)[4]? = some (.int .i64 c.p.nm.e) from rfl)
        have HG := Lib.hid hG
        have H1 := Lib.hid h1
        have H2 := Lib.hid h2
        have HB := Lib.hid hb
        have R5 := Lib.hid r5
        have E0 := Lib.hid e0
        have E1 := Lib.hid e1
        clear hrow hrow0 hd hG h1 h2 hb r5 e0 e1 hr hL
        go_wp2_with fail
        go_cut [58] (fun b wx => ∃ (bb : Bool) (n : Nat), b = .bool bb ∧ wx = wr.drewN n)
        case first =>
          rcases nm_cases d.p.nm c.p.nm with ⟨hk, hne⟩ | ⟨hk, hs, hne⟩ | ⟨hk, hs, hee, hne⟩ | ⟨hk, hs, hee, hne⟩
          all_goals
            clear hne
            go_quiet (fail)
            go_wp2_with fail
            go_meet
            exact ⟨_, _, rfl, rfl⟩
        case rest =>
        obtain ⟨bb, nq, rfl, rfl⟩ := hcut
        have HG6 : Hid ((wr.drewN nq).heap[g6]? = some (.cells (chA c) 38 (0, 0))) := Lib.hid HG.out
        have H16 : Hid ((wr.drewN nq).heap[w.heap.size]? = some (.cells (drA a) 40 (0, 0))) := Lib.hid H1.out
        have H26 : Hid ((wr.drewN nq).heap[w.heap.size + 1]? = some (.cells (chA ⟨false, 0, default⟩) 38 (0, 0))) := Lib.hid H2.out
        have HB6 := Lib.hid (below_drewN HB.out nq)
        have R56 : Hid ((wr.drewN nq).rangeAt g (off + j * 10 + 5) (avC d.p.a).toList) := Lib.hid R5.out
        have E06 : Hid ((wr.drewN nq).cell? ⟨g, off + j * 10, none⟩ = some (.bool d.put)) := Lib.hid E0.out
        have e16 : (wr.drewN nq).cell? ⟨g, off + j * 10 + 1, none⟩ = some (.int .u64 (d.rev : Int)) := E1.out
        have hgl6 : g6 < (wr.drewN nq).heap.size := hgl
        clear e2 e3 e4 k2 k3 k4 HG H1 H2 HB R5 E0 E1 hgl
        generalize wr.drewN nq = w6 at *
        cases bb
        · go_wp2_with fail
          exact ⟨⟨j + 1, c, by go_num, hlt, hco, HG6.out, H16.out, H26.out, HB6.out⟩, by simp [intOf]; omega⟩
        · have hne1 : g ≠ g6 := by omega
          have k1 := (cell_of_row _ _ 1 _ _ _ HG6.out).trans (show (chA c)[1]? = some (.int .u64 (c.rev : Int)) from rfl)
          have fz := frozen_of_row HG6.out 1
          go_upto_region 8 with fail
          have G7 : Hid ((w6.setCell ⟨g6, 1, none⟩ (.int .u64 (d.rev : Int))).heap[g6]? = some (.cells (chA ⟨c.put, d.rev, c.p⟩) 38 (0, 0))) := Lib.hid (heap_setCell_at (k := 1) HG6.out _)
          have B7 := Lib.hid (HB6.out.setCell (p := ⟨g6, 1, none⟩) (show w.heap.size ≤ g6 by omega) (.int .u64 (d.rev : Int)))
          have e07 : (w6.setCell ⟨g6, 1, none⟩ (.int .u64 (d.rev : Int))).cell? ⟨g, off + j * 10, none⟩ = some (.bool d.put) := (cell_of_eq (Below.heap_setCell w6 ⟨g6, 1, none⟩ _ g hne1) _).trans E06.out
          have R57 : Hid ((w6.setCell ⟨g6, 1, none⟩ (.int .u64 (d.rev : Int))).rangeAt g (off + j * 10 + 5) (avC d.p.a).toList) := Lib.hid (fun i v hv => (cell_of_eq (Below.heap_setCell w6 ⟨g6, 1, none⟩ _ g hne1) _).trans (R56.out i v hv))
          have H17 := Lib.hid ((Below.heap_setCell w6 ⟨g6, 1, none⟩ (.int .u64 (d.rev : Int)) w.heap.size (show w.heap.size ≠ g6 by omega)).trans H16.out)
          have H27 := Lib.hid ((Below.heap_setCell w6 ⟨g6, 1, none⟩ (.int .u64 (d.rev : Int)) (w.heap.size + 1) (show w.heap.size + 1 ≠ g6 by omega)).trans H26.out)
          clear k1 fz e16 E06 R56 H16 H26 HB6 HG6 hgl6
          generalize w6.setCell ⟨g6, 1, none⟩ (.int .u64 (d.rev : Int)) = w7 at *
          have hro := hdo.rev
          have hda := hdo.a
          cases hp : d.put
          · rw [hp] at e07
            have k1 := (cell_of_row _ _ 1 _ _ _ G7.out).trans (show (chA ⟨c.put, d.rev, c.p⟩)[1]? = some (.int .u64 (d.rev : Int)) from rfl)
            have fz := frozen_of_row G7.out 1
            go_wp2_with fail
            have hwr : IntKind.u64.wrap ((d.rev : Int) + 1) = (((d.rev + 1) % 18446744073709551616 : Nat) : Int) := by simp [IntKind.wrap, IntKind.bits, IntKind.signed]
            rw [hwr]
            exact ⟨⟨j + 1, ⟨c.put, (d.rev + 1) % 18446744073709551616, c.p⟩, by go_num, hlt, ⟨Nat.mod_lt _ (by decide), hco.a⟩, heap_setCell_at (k := 1) G7.out _, (Below.heap_setCell w7 ⟨g6, 1, none⟩ _ w.heap.size (show w.heap.size ≠ g6 by omega)).trans H17.out, (Below.heap_setCell w7 ⟨g6, 1, none⟩ _ (w.heap.size + 1) (show w.heap.size + 1 ≠ g6 by omega)).trans H27.out, B7.out.setCell (p := ⟨g6, 1, none⟩) (show w.heap.size ≤ g6 by omega) _⟩, by simp [intOf]; omega⟩
          · rw [hp] at e07
            have a0 := (cell_of_row _ _ 0 _ _ _ H17.out).trans (show (drA a)[0]? = some (.bool a.put) from rfl)
            cases hq : a.put
            · rw [hq] at a0
              go_wp2_with (first
                | (refine at_op (.load 34 (.tmp 82)) ?_ rfl; refine wpList_load_mid rfl 34 (.tmp 82) rfl g (off + j * 10 + 5) rfl _ _ R57.out Try.underlying34 rfl (by exact sizeAgg) ?_; rw [Array.toArray_toList])
                | (refine at_op (.store 34 (.tmp 85) (.tmp 83)) ?_ rfl; refine wpList_store_in rfl w7 34 (.tmp 85) (.tmp 83) rfl g6 5 (avC d.p.a) rfl rfl _ _ G7.out (of_decide_eq_true rfl) (of_decide_eq_true rfl) (by exact sizeAgg) (avC_one _) ?_))
              exact ⟨⟨j + 1, ⟨c.put, d.rev, ⟨c.p.nm, d.p.a⟩⟩, by go_num, hlt, ⟨hro, hda⟩, setRow_heap _ _ _ _ _ _ G7.out, (setRow_other w7 g6 w.heap.size _ (by omega)).trans H17.out, (setRow_other w7 g6 (w.heap.size + 1) _ (by omega)).trans H27.out, below_setRow B7.out (show w.heap.size ≤ g6 by omega) _⟩, by simp [intOf]; omega⟩
            · rw [hq] at a0
              go_wp2_with fail
              exact ⟨⟨j + 1, ⟨c.put, d.rev, c.p⟩, by go_num, hlt, ⟨hro, hco.a⟩, G7.out, H17.out, H27.out, B7.out⟩, by simp [intOf]; omega⟩
      · obtain rfl : j = L.length := by omega
        have HG := Lib.hid hG
        have H1 := Lib.hid h1
        have H2 := Lib.hid h2
        have HB := Lib.hid hb
        clear hG h1 h2 hb hr hL
        obtain ⟨m, hm⟩ : ∃ m, m = a.near % 16 := ⟨_, rfl⟩
        have hnl := ha.near
        have HM : Hid ((a.near : Int) % 16 = (m : Int)) := Lib.hid (by omega)
        have hml : m < 16 := by omega
        clear hm hnl
        have hco1 := hco.rev
        have hco2 := hco.a
        have hco3 := hco.a.n
        have a3 := (cell_of_row _ _ 3 _ _ _ H1.out).trans (show (drA a)[3]? = some (.int .u8 (a.near : Int)) from rfl)
        go_upto_block 2 with fail
        rw [HM.out]
        go_cut [] (fun wx => ∃ c' : Ch, c'.ok ∧ wx.heap[g6]? = some (.cells (chA c') 38 (0, 0)) ∧ wx.heap[w.heap.size + 1]? = some (.cells (chA ⟨false, 0, default⟩) 38 (0, 0)) ∧ Below w.heap.size w wx)
        case first =>
          have k1 := (cell_of_row _ _ 1 _ _ _ HG.out).trans (show (chA c)[1]? = some (.int .u64 (c.rev : Int)) from rfl)
          have k5 := (cell_of_row _ _ 5 _ _ _ HG.out).trans (show (chA c)[5]? = some (.int .u64 (c.p.a.n : Int)) from rfl)
          have f1 := frozen_of_row HG.out 1
          have f5 := frozen_of_row HG.out 5
          have q1 : IntKind.u64.wrap ((c.rev : Int) + 1) = (((c.rev + 1) % 18446744073709551616 : Nat) : Int) := by simp [IntKind.wrap, IntKind.bits, IntKind.signed]
          have q2 : IntKind.u64.wrap ((c.p.a.n : Int) + 1) = (((c.p.a.n + 1) % 18446744073709551616 : Nat) : Int) := by simp [IntKind.wrap, IntKind.bits, IntKind.signed]
          have q3 : IntKind.u64.wrap ((c.rev : Int) - 1) = (((c.rev + 18446744073709551615) % 18446744073709551616 : Nat) : Int) := by simp [IntKind.wrap, IntKind.bits, IntKind.signed]; omega
          have Q1 := Lib.hid q1
          have Q2 := Lib.hid q2
          have Q3 := Lib.hid q3
          clear q1 q2 q3
          by_cases m13 : m = 13
          · subst m13
            go_wp2_with fail
            go_meet
            rw [Q1.out]
            exact ⟨⟨c.put, (c.rev + 1) % 18446744073709551616, c.p⟩, ⟨Nat.mod_lt _ (by decide), hco2⟩, heap_setCell_at (k := 1) HG.out _, (Below.heap_setCell wr ⟨g6, 1, none⟩ _ (w.heap.size + 1) (show w.heap.size + 1 ≠ g6 by omega)).trans H2.out, HB.out.setCell (p := ⟨g6, 1, none⟩) (show w.heap.size ≤ g6 by omega) _⟩
          · by_cases m14 : m = 14
            · subst m14
              go_wp2_with fail
              go_meet
              rw [Q2.out]
              have hN : (c.p.a.n + 1) % 18446744073709551616 < 18446744073709551616 := Nat.mod_lt _ (by decide)
              generalize (c.p.a.n + 1) % 18446744073709551616 = N1 at *
              exact ⟨⟨c.put, c.rev, ⟨c.p.nm, ⟨N1, c.p.a.x, c.p.a.ov, c.p.a.lo, c.p.a.hi⟩⟩⟩, ⟨hco1, ⟨hN, hco2.x, hco2.lo, hco2.hi⟩⟩, by have q := heap_setCell_at (k := 5) HG.out (.int .u64 (N1 : Int)); rw [chA_n] at q; exact q, (Below.heap_setCell wr ⟨g6, 5, none⟩ _ (w.heap.size + 1) (show w.heap.size + 1 ≠ g6 by omega)).trans H2.out, HB.out.setCell (p := ⟨g6, 5, none⟩) (show w.heap.size ≤ g6 by omega) _⟩
            · by_cases m15 : m = 15
              · subst m15
                go_wp2_with fail
                go_meet
                rw [Q3.out]
                have hN : (c.rev + 18446744073709551615) % 18446744073709551616 < 18446744073709551616 := Nat.mod_lt _ (by decide)
                generalize (c.rev + 18446744073709551615) % 18446744073709551616 = N1 at *
                exact ⟨⟨c.put, N1, c.p⟩, ⟨hN, hco2⟩, heap_setCell_at (k := 1) HG.out _, (Below.heap_setCell wr ⟨g6, 1, none⟩ _ (w.heap.size + 1) (show w.heap.size + 1 ≠ g6 by omega)).trans H2.out, HB.out.setCell (p := ⟨g6, 1, none⟩) (show w.heap.size ≤ g6 by omega) _⟩
              · have b13 : ((m : Int) == 13) = false := by simp; omega
                have b14 : ((m : Int) == 14) = false := by simp; omega
                have b15 : ((m : Int) == 15) = false := by simp; omega
                clear m13 m14 m15
                go_wp2_with fail
                go_meet
                exact ⟨c, hco, HG.out, H2.out, HB.out⟩
        case rest =>
        obtain ⟨c', hc', hG, h2, hb⟩ := hcut
        have G9 := Lib.hid hG
        have H29 := Lib.hid h2
        have HB9 := Lib.hid hb
        clear hG h2 hb HG H1 H2 HB a3
        go_wp2_with (first
          | (refine at_op (.load 38 (.tmp 6)) ?_ rfl; refine wpList_load_row rfl 38 (.tmp 6) rfl g6 rfl 38 (chA c') (0, 0) _ G9.out Try.underlying38 rfl Hc.out ?_)
          | (refine at_op (.store 38 (.tmp 4) (.tmp 111)) ?_ rfl; refine wpList_store_row rfl 38 (.tmp 4) (.tmp 111) rfl (w.heap.size + 1) (chA c') rfl rfl 38 _ H29.out Hc.out rfl (chA_one _) ?_))
        exact bodyPost_ret (results_cell_row rfl _ _ (w.heap.size + 1) 38 _ (0, 0) _ rfl (setRow_heap _ _ _ _ _ _ H29.out) Try.underlying38 rfl Hc.out) rfl ⟨c', hc', rfl, below_setRow HB9.out (by omega) _⟩
end Go.Proofs.Ytgpfoamhcoipgaa
