import Derived.Test.YtejkilgpcbdepaaExL
import Derived.Test.YtejkilgpcbdepaaExInf
import Derived.ChangeKeysEq
import Derived.Laws.StructEq
/-! Exact sums: what is the same. -/
namespace Go.Proofs.Ytejkilgpcbdepaa
open Go.RowKit
set_option linter.unusedVariables false

theorem items_self (d : Nat) (xs : Array Value) (w : World) : ∀ is : List Nat, (∀ j ∈ is, ∃ x : Int, xs[j]? = some (.int .u64 x)) → (Op.eqItems (d + 1) 27 1 xs xs is).run Try.prog w = .ok true w := by
  intro is
  induction is with
  | nil => intro _; simp [Op.eqItems]
  | cons j is ih =>
    intro h
    obtain ⟨x, hx⟩ := h j (by simp)
    have hlt : j < xs.size := by
      rcases Nat.lt_or_ge j xs.size with g | g
      · exact g
      · rw [Array.getElem?_eq_none g] at hx; cases hx
    have hv := at_of hlt hx
    have ih' := ih (fun k hk => h k (List.mem_cons_of_mem _ hk))
    have he := run_equalIn_int (P := Try.prog) (w := w) d 27 .u64 .u64 x x Try.underlying27
    simp [Op.eqItems, part, go_sem, hlt, hv, Try.isAgg27, Sem.run_bind, Result.andThen, he, ih']
theorem info_u64 : Try.prog.info? 27 = some Try.t27 := by kernel_rfl
theorem array_self (C : Array Value) (h : ∀ j, j < 35 → ∃ x : Int, C[j]? = some (.int .u64 x)) (w : World) : (binOp .eql 28 (.agg C) (.agg C)).run Try.prog w = .ok (.bool true) w := by
  rw [run_eql_struct, show (10000 : Nat) = 9998 + 1 + 1 from rfl, run_equalIn_array w (9998 + 1) C C Try.underlying28 info_u64]
  have e : Try.prog.cellsOf 27 = 1 := by kernel_rfl
  rw [e, items_self 9998 C w _ (fun j hj => h j (List.mem_range.1 hj))]
  rfl
theorem equal_self (C : Array Value) (h : ∀ j, j < 35 → ∃ x : Int, C[j]? = some (.int .u64 x)) (w : World) : (Op.equalIn 10000 28 (.agg C) (.agg C)).run Try.prog w = .ok true w := by
  rw [show (10000 : Nat) = 9998 + 1 + 1 from rfl, run_equalIn_array w (9998 + 1) C C Try.underlying28 info_u64]
  have e : Try.prog.cellsOf 27 = 1 := by kernel_rfl
  rw [e, items_self 9998 C w _ (fun j hj => h j (List.mem_range.1 hj))]
attribute [-simp] Try.isAgg28
attribute [-simp] Try.isAgg30 Try.sizeOf30 Try.typeInfo30 Try.type30

set_option maxHeartbeats 4000000 in
theorem same_walk (C D : Array Value) (hC : C.size = 40) (a b c d e : Bool) (hD : D.size = 35) (hfr : ∀ i, i < D.size → C[i]? = D[i]?) (hDi : ∀ j, j < 35 → ∃ x : Int, D[j]? = some (.int .u64 x))
    (c35 : C[35]? = some (.bool a)) (c36 : C[36]? = some (.bool b)) (c37 : C[37]? = some (.bool c)) (c38 : C[38]? = some (.bool d)) (c39 : C[39]? = some (.bool e)) (w : World) :
    Calls Try.prog 22 #[.agg C, .agg C] w fun e w' => e = .returned (.bool true) ∧ Below w.heap.size w w' := by
  have H8 := Lib.hid size28
  have h35 := at_of (by omega) c35
  have h36 := at_of (by omega) c36
  have h37 := at_of (by omega) c37
  have h38 := at_of (by omega) c38
  have h39 := at_of (by omega) c39
  have he := equal_self D hDi
  have hg : ∀ (x y : Operand) w, (eqGuard .eql 28 x y (.agg D) (.agg D)).run Try.prog w = .ok () w := fun x y w => run_eqGuard_agg _ _ _ _ _ _ _ (by kernel_rfl)
  have Hfr := Lib.hid hfr
  have HD := Lib.hid hD
  have hb2 : ∀ (o1 o2 : Obj), Below w.heap.size w ((w.alloc o1).alloc o2) := fun o1 o2 => below_alloc (below_alloc (Below.refl _ _) _) _
  clear c35 c36 c37 c38 c39 hfr hDi hD
  go_enter Try.func22, Try.ntmps22
  go_wp2_with (first
    | (refine at_op (.load 28 (.tmp 5)) ?_ rfl; refine wpList_load_front rfl _ 28 (.tmp 5) rfl w.heap.size rfl C D 30 (0, 0) _ (heap_alloc2_old w _ _) Hfr.out Try.underlying28 rfl (by rw [HD.out]; exact H8.out) ?_)
    | (refine at_op (.load 28 (.tmp 7)) ?_ rfl; refine wpList_load_front rfl _ 28 (.tmp 7) rfl (w.heap.size + 1) rfl C D 30 (0, 0) _ (heap_alloc2_new w _ _) Hfr.out Try.underlying28 rfl (by rw [HD.out]; exact H8.out) ?_))
  go_ret
  exact ⟨ret_b (by simp), hb2 _ _⟩
theorem same_any (s t : St) (h : sumC s = sumC t) (w : World) : Calls Try.prog 22 #[.agg (sumC s), .agg (sumC t)] w fun e w' => e = .returned (.bool true) ∧ Below w.heap.size w w' := by
  rw [← h]
  exact same_walk (sumC s) (ws s.w) (sumC_size s) s.nan s.pos s.neg s.any s.other (ws_size _) (fun i hi => by rw [ws_size] at hi; rw [sumC_w _ i hi, ws_at _ _ hi]) (fun j hj => ⟨_, ws_at _ j hj⟩) (sumC_f s 0) (sumC_f s 1) (sumC_f s 2) (sumC_f s 3) (sumC_f s 4) w

theorem add_naught (s : St) : addSt s 0 = { s with any := true, other := true } := by
  unfold addSt
  rw [if_neg (by decide), if_pos (by decide)]
  have : negB 0 = false := by decide
  simp [this]
theorem ws_round (W N : Nat) (h : 2240 ≤ N) : ws (W + 2 ^ N) = ws W := by
  rw [← ws_mod (W + 2 ^ N) N h, Nat.add_mod_right, ws_mod W N h]
theorem val_le_pow (r N : Nat) (hr : r < 9218868437227405312) (hN : 2240 ≤ N) : val r ≤ 2 ^ N := by
  rw [val_mag]
  have : upOf r ≤ 2045 := by unfold upOf; omega
  exact fin_le (magOf r) (upOf r) N (mag_lt r) (by omega)
theorem sumC_eq (s t : St) (h : ws s.w = ws t.w) (h1 : s.nan = t.nan) (h2 : s.pos = t.pos) (h3 : s.neg = t.neg) (h4 : s.any = t.any) (h5 : s.other = t.other) : sumC s = sumC t := by
  unfold sumC
  rw [h, h1, h2, h3, h4, h5]
theorem cancel_sum (W v N : Nat) (ng : Bool) (hv : v ≤ N) : W + (if ng = true then N - v else v) + (if (!ng) = true then N - v else v) = W + N := by
  cases ng
  · simp only [Bool.false_eq_true, if_false, Bool.not_false, if_true]; omega
  · simp only [if_true, Bool.not_true, Bool.false_eq_true, if_false]; omega
theorem addSt_fin (s : St) (x : Nat) (hn : nanB x = false) (hi : infB x = false) : addSt s x = if rung x = 0 then { s with any := true, other := s.other || !negB x } else { s with w := s.w + (if negB x = true then 2 ^ 2240 - val (rung x) else val (rung x)), any := true, other := true } := by
  unfold addSt
  rw [if_neg (by rw [hn, hi]; simp)]
theorem cancel_eq (s : St) (x : Nat) (hx : x < 18446744073709551616) (hn : nanB x = false) (hi : infB x = false) : sumC (addSt (addSt (addSt s x) (Op.negFloat .f64 x)) 0) = sumC (addSt s 0) := by
  have hneg := neg_any x hx
  have hr0 : rung x = x % 9223372036854775808 := rfl
  have hn' := of_decide_eq_false hn
  have hi' := of_decide_eq_false hi
  obtain ⟨y, hy⟩ : ∃ y, Op.negFloat .f64 x = y := ⟨_, rfl⟩
  rw [hy] at hneg ⊢
  have hyl : y < 18446744073709551616 := by rw [hneg]; split <;> omega
  have hm : y % 9223372036854775808 = x % 9223372036854775808 := by rw [hneg]; split <;> omega
  have hn2 : nanB y = false := by unfold nanB at hn ⊢; rw [hm]; exact hn
  have hi2 : infB y = false := by unfold infB at hi ⊢; rw [hm]; exact hi
  have hr2 : rung y = rung x := hm
  have hs2 : negB y = !negB x := by
    rw [negB_eq hx, negB_eq hyl, Bool.eq_iff_iff]
    simp only [decide_eq_true_eq, Bool.not_eq_true', decide_eq_false_iff_not]
    rw [hneg]; split <;> omega
  rw [add_naught, add_naught]
  rw [addSt_fin s x hn hi, addSt_fin _ y hn2 hi2, hr2, hs2]
  by_cases h0 : rung x = 0
  · rw [if_pos h0, if_pos h0]
  · rw [if_neg h0, if_neg h0]
    refine sumC_eq _ _ ?_ rfl rfl rfl rfl rfl
    show ws (s.w + (if negB x = true then 2 ^ 2240 - val (rung x) else val (rung x)) + (if (!negB x) = true then 2 ^ 2240 - val (rung x) else val (rung x))) = ws s.w
    rw [cancel_sum s.w (val (rung x)) _ (negB x) (val_le_pow _ 2240 (by rw [hr0]; omega) (by decide))]
    exact ws_round s.w 2240 (by decide)

set_option maxHeartbeats 8000000 in
theorem cancels_any (A : Option Addr) (cap : Nat) (xs : List Nat) (x : Nat) (w : World) (hr : FReads w A xs) (h64 : Words64 xs) (hx : x < 18446744073709551616) (hxl : xs.length ≤ 9223372036854775807) :
    Calls Try.prog 6 #[.slice A xs.length cap, .float .f64 x] w fun e w' => e = .returned (.bool true) ∧ Below w.heap.size w w' := by
  have Hs := Lib.hid size30
  have aw := awake_any
  have n1 := fun w => isNaN_any x w
  have n2 := fun w => isInf_any x w hx
  have hcan := fun (h1 : nanB x = false) (h2 : infB x = false) => cancel_eq (sumOf xs) x hx h1 h2
  by_cases hsp : 30 < xs.length ∨ nanB x = true ∨ infB x = true
  · generalize nanB x = p at *
    generalize infB x = q at *
    clear hcan
    by_cases h30 : 30 < xs.length
    all_goals
      cases p <;> cases q
      all_goals
        first
          | (exfalso; rcases hsp with h | h | h; exact h30 h; all_goals (cases h; done))
          | (clear hsp
             go_enter Try.func6, Try.ntmps6
             go_wp2_with (first
               | (go_at_call 13; (with_reducible refine (aw _).mono ?_); rintro e w1 ⟨rfl, b1⟩)
               | (go_at_call 14; (with_reducible refine (n1 _).mono ?_); rintro e w5 ⟨rfl, rfl⟩)
               | (go_at_call 15; (with_reducible refine (n2 _).mono ?_); rintro e w5 ⟨rfl, rfl⟩))
             go_ret
             exact ⟨rfl, below_trans (by assumption) b1⟩)
  · have h30 : ¬ 30 < xs.length := fun h => hsp (.inl h)
    have hn : nanB x = false := by cases h : nanB x; rfl; exact absurd (.inr (.inl h)) hsp
    have hi : infB x = false := by cases h : infB x; rfl; exact absurd (.inr (.inr h)) hsp
    have hc := hcan hn hi
    have hof := fun w1 (b : Below w.heap.size w w1) => of_list A cap xs w1 (hr.below b) h64 (by omega)
    obtain ⟨y, hy⟩ : ∃ y, Op.negFloat .f64 x = y := ⟨_, rfl⟩
    have hyl : y < 18446744073709551616 := by rw [← hy, neg_any x hx]; split <;> omega
    have hng : ∀ w, (Op.unary .neg (.float .f64 x)).run Try.prog w = .ok (.float .f64 y) w := fun w => by rw [← hy]; rfl
    rw [hy] at hc
    rw [hn] at n1
    rw [hi] at n2
    generalize sumOf xs = S at *
    have aA := fun w => add_any S 0 w (by decide)
    have aB := fun w => add_any S x w hx
    have aC := fun w => add_any (addSt S x) y w hyl
    have aD := fun w => add_any (addSt (addSt S x) y) 0 w (by decide)
    have hs := fun w => same_any (addSt S 0) (addSt (addSt (addSt S x) y) 0) hc.symm w
    generalize addSt (addSt (addSt S x) y) 0 = S3 at *
    generalize addSt (addSt S x) y = S2 at *
    generalize addSt S x = S1 at *
    generalize addSt S 0 = SA at *
    obtain ⟨Z, hZ, zz⟩ : ∃ Z : Array Value, Z.size = 40 ∧ ∀ w, (zeroValue 30).run Try.prog w = .ok (.agg Z) w := ⟨_, sumC_size _, zero30⟩
    clear hcan hc hsp hn hi hy h64 hr
    go_enter Try.func6, Try.ntmps6
    go_wp2_with (first
      | (go_at_call 13; (with_reducible refine (aw _).mono ?_); rintro e w1 ⟨rfl, b1⟩)
      | (go_at_call 14; (with_reducible refine (n1 _).mono ?_); rintro e w0 ⟨rfl, rfl⟩)
      | (go_at_call 15; (with_reducible refine (n2 _).mono ?_); rintro e w0 ⟨rfl, rfl⟩)
      | (go_at_call 16; (first | ((with_reducible refine (hof _ bb5).mono ?_); rintro e w5 ⟨rfl, b5⟩) | ((with_reducible refine (hof _ b1).mono ?_); rintro e w2 ⟨rfl, b2⟩)))
      | (go_at_call 20; (first | ((with_reducible refine (aA _).mono ?_); rintro e w3 ⟨rfl, b3⟩) | ((with_reducible refine (aB _).mono ?_); rintro e w6 ⟨rfl, b6⟩) | ((with_reducible refine (aC _).mono ?_); rintro e w7 ⟨rfl, b7⟩) | ((with_reducible refine (aD _).mono ?_); rintro e w8 ⟨rfl, b8⟩)))
      | (refine at_op (.alloc 30) ?_ rfl; first | (refine wpList_alloc_row rfl _ 30 rfl (some 6) rfl w8.heap.size rfl Z zz ?_) | (refine wpList_alloc_row rfl _ 30 rfl (some 5) rfl w3.heap.size rfl Z zz ?_))
      | (refine at_op (.store 30 (.tmp 5) (.tmp 25)) ?_ rfl; refine wpList_store_row rfl 30 (.tmp 5) (.tmp 25) rfl w3.heap.size (sumC SA) rfl rfl 30 Z (heap_alloc_new w3 _) (by rw [sumC_size]; exact Hs.out) (by rw [hZ, sumC_size]) (sumC_one _) ?_; rw [World.setRow_alloc_new]; have hg5 := Lib.hid (heap_alloc_new w3 (.cells (sumC SA) 30)); have bb5 := below_alloc (below_trans (below_trans b1 b2) b3) (.cells (sumC SA) 30); generalize w3.heap.size = g5 at *; generalize w3.alloc (.cells (sumC SA) 30) = w4 at *)
      | (refine at_op (.store 30 (.tmp 6) (.tmp 33)) ?_ rfl; refine wpList_store_row rfl 30 (.tmp 6) (.tmp 33) rfl w8.heap.size (sumC S3) rfl rfl 30 Z (heap_alloc_new w8 _) (by rw [sumC_size]; exact Hs.out) (by rw [hZ, sumC_size]) (sumC_one _) ?_; rw [World.setRow_alloc_new]; have hg6 := Lib.hid (heap_alloc_new w8 (.cells (sumC S3) 30)); have b58 := below_alloc (below_trans (below_trans (below_trans b5 b6) b7) b8) (.cells (sumC S3) 30); have hg5' := Lib.hid ((b58.block g5 (heap_lt hg5.out)).trans hg5.out); have bb8 := below_trans bb5 b58)
      | (refine at_op0 (.load 30 (.tmp 5)) ?_ rfl rfl; refine wpList_load_row rfl 30 (.tmp 5) rfl g5 rfl 30 _ (0, 0) _ hg5'.out Try.underlying30 rfl (by rw [sumC_size]; exact Hs.out) ?_)
      | (refine at_op0 (.load 30 (.tmp 6)) ?_ rfl rfl; refine wpList_load_row rfl 30 (.tmp 6) rfl w8.heap.size rfl 30 _ (0, 0) _ hg6.out Try.underlying30 rfl (by rw [sumC_size]; exact Hs.out) ?_)
      | (go_at_call 22; (with_reducible refine (hs _).mono ?_); rintro e w9 ⟨rfl, b9⟩))
    go_ret
    exact ⟨rfl, below_trans bb8 b9⟩
theorem cancels_walk (W : World) (A : Option Addr) (cap : Nat) (xs : List Nat) (hc : xs.length ≤ cap) (hl : cap ≤ maxLen) (hr : FReads W A xs) (hw : Words64 xs) (a1 : Nat) (wa1 : (Lit.float .f64 a1).wf = true) :
    Calls Try.prog 6 #[.slice A xs.length cap, .float .f64 a1] W fun e w' => e = .returned (.bool true) ∧ Below W.heap.size W w' := by
  unfold maxLen at hl
  exact cancels_any A cap xs a1 W hr hw (of_decide_eq_true wa1) (by omega)
end Go.Proofs.Ytejkilgpcbdepaa
