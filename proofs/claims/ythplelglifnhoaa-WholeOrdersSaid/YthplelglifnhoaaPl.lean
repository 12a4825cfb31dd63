import Derived.Test.YthplelglifnhoaaVl
import Derived.Test.YthplelglifnhoaaRl
import Derived.ChangeKeysEq
import Derived.Laws.StructEq
import Derived.Test.YthplelglifnhoaaWd
/-! Exact sums: noughts. -/
namespace Go.Proofs.Ythplelglifnhoaa
open Go.RowKit
set_option linter.unusedVariables false

attribute [-simp] Try.isAgg43 Try.sizeOf43 Try.typeInfo43 Try.type43

/-- Noughts with a sign. -/
def zs (k : Nat) : St := ⟨0, false, false, false, decide (0 < k), false⟩
theorem zs_step (k : Nat) : addSt (zs k) 9223372036854775808 = zs (k + 1) := by
  unfold addSt
  rw [if_neg (by decide), if_pos (by decide)]
  unfold zs
  have : negB 9223372036854775808 = true := by decide
  simp [this]
theorem zs_plain (k : Nat) : addSt (zs k) 0 = ⟨0, false, false, false, true, true⟩ := by
  unfold addSt
  rw [if_neg (by decide), if_pos (by decide)]
  unfold zs
  have : negB 0 = false := by decide
  simp [this]
theorem val_zero_of (a o : Bool) : valSt ⟨0, false, false, false, a, o⟩ = (if (a && !o) = true then 9223372036854775808 else 0, false) := by
  unfold valSt valOf
  have h : absOf 0 = 0 := by
    have h' : ¬ sgOf 0 = true := by unfold sgOf; rw [wdn_nil]; decide
    unfold absOf
    rw [if_neg h']
    generalize 2 ^ 2240 = M
    exact Nat.zero_mod M
  simp only [h]
  rfl

end Go.Proofs.Ythplelglifnhoaa
/-! Exact sums: what is no finite number. -/
namespace Go.Proofs.Ythplelglifnhoaa
open Go.RowKit
set_option linter.unusedVariables false
attribute [-simp] Try.isAgg43 Try.sizeOf43 Try.typeInfo43 Try.type43

theorem sum_flags (xs : List Nat) (h : ∀ i, i < xs.length → nanB (fd xs i) = false ∧ infB (fd xs i) = false) : ∀ k, k ≤ xs.length → (sumOf (xs.take k)).nan = false ∧ (sumOf (xs.take k)).pos = false ∧ (sumOf (xs.take k)).neg = false := by
  intro k
  induction k with
  | zero => intro _; exact ⟨rfl, rfl, rfl⟩
  | succ k ih =>
    intro hk
    obtain ⟨h1, h2, h3⟩ := ih (by omega)
    obtain ⟨n1, n2⟩ := h k (by omega)
    rw [sumOf_snoc xs k (by omega)]
    unfold addSt
    rw [if_neg (by rw [n1, n2]; simp)]
    split <;> exact ⟨h1, h2, h3⟩
/-- A sum of finite numbers, and one that is none. -/
def endSt (s : St) (a b c : Bool) : St := { s with nan := a, pos := b, neg := c, any := true, other := true }
theorem end_nan (s : St) : addSt s 9221120237041090561 = endSt s true s.pos s.neg := by
  unfold addSt
  rw [if_pos (.inl (by decide))]
  have h1 : nanB 9221120237041090561 = true := by decide
  have h2 : infP 9221120237041090561 = false := by decide
  have h3 : infM 9221120237041090561 = false := by decide
  simp [h1, h2, h3, endSt]
theorem end_pos (s : St) : addSt s 9218868437227405312 = endSt s s.nan true s.neg := by
  unfold addSt
  rw [if_pos (.inr (by decide))]
  have h1 : nanB 9218868437227405312 = false := by decide
  have h2 : infP 9218868437227405312 = true := by decide
  have h3 : infM 9218868437227405312 = false := by decide
  simp [h1, h2, h3, endSt]
theorem end_neg (s : St) : addSt s 18442240474082181120 = endSt s s.nan s.pos true := by
  unfold addSt
  rw [if_pos (.inr (by decide))]
  have h1 : nanB 18442240474082181120 = false := by decide
  have h2 : infP 18442240474082181120 = false := by decide
  have h3 : infM 18442240474082181120 = true := by decide
  simp [h1, h2, h3, endSt]
theorem end_end (s : St) (a b c a' b' c' : Bool) : endSt (endSt s a b c) a' b' c' = endSt s a' b' c' := rfl
theorem end_val (s : St) (a b c : Bool) (h : (a || b || c) = true) : valSt (endSt s a b c) = (specVal a b c, false) := by
  unfold valSt
  exact if_pos h

end Go.Proofs.Ythplelglifnhoaa
/-! Exact sums: what is the same. -/
namespace Go.Proofs.Ythplelglifnhoaa
open Go.RowKit
set_option linter.unusedVariables false

theorem items_self (d : Nat) (xs : Array Value) (w : World) : ∀ is : List Nat, (∀ j ∈ is, ∃ x : Int, xs[j]? = some (.int .u64 x)) → (Op.eqItems (d + 1) 26 1 xs xs is).run Try.prog w = .ok true w := by
  intro is
  induction is with
  | nil => intro _; simp [Op.eqItems]
  | cons j is ih =>
    intro h
    obtain ⟨x, hx⟩ := h j (by simp)
    have hlt : j < xs.size := by
      rcases Nat.lt_or_ge j xs.size with g | g
      · exact g
      · rw [Array.getElem?_eq_none g] at hx; cases hx
    have hv := at_of hlt hx
    have ih' := ih (fun k hk => h k (List.mem_cons_of_mem _ hk))
    have he := run_equalIn_int (P := Try.prog) (w := w) d 26 .u64 .u64 x x Try.underlying26
    simp [Op.eqItems, part, go_sem, hlt, hv, Try.isAgg26, Sem.run_bind, Result.andThen, he, ih']
set_option maxRecDepth 100000 in
theorem info_u64 : Try.prog.info? 26 = some Try.t26 := by kernel_rfl
set_option maxRecDepth 100000 in
theorem array_self (C : Array Value) (h : ∀ j, j < 35 → ∃ x : Int, C[j]? = some (.int .u64 x)) (w : World) : (binOp .eql 41 (.agg C) (.agg C)).run Try.prog w = .ok (.bool true) w := by
  rw [run_eql_struct, show (10000 : Nat) = 9998 + 1 + 1 from rfl, run_equalIn_array w (9998 + 1) C C Try.underlying41 info_u64]
  have e : Try.prog.cellsOf 26 = 1 := by kernel_rfl
  rw [e, items_self 9998 C w _ (fun j hj => h j (List.mem_range.1 hj))]
  rfl
set_option maxRecDepth 100000 in
theorem equal_self (C : Array Value) (h : ∀ j, j < 35 → ∃ x : Int, C[j]? = some (.int .u64 x)) (w : World) : (Op.equalIn 10000 41 (.agg C) (.agg C)).run Try.prog w = .ok true w := by
  rw [show (10000 : Nat) = 9998 + 1 + 1 from rfl, run_equalIn_array w (9998 + 1) C C Try.underlying41 info_u64]
  have e : Try.prog.cellsOf 26 = 1 := by kernel_rfl
  rw [e, items_self 9998 C w _ (fun j hj => h j (List.mem_range.1 hj))]
attribute [-simp] Try.isAgg41
attribute [-simp] Try.isAgg43 Try.sizeOf43 Try.typeInfo43 Try.type43

theorem add_naught (s : St) : addSt s 0 = { s with any := true, other := true } := by
  unfold addSt
  rw [if_neg (by decide), if_pos (by decide)]
  have : negB 0 = false := by decide
  simp [this]
theorem ws_round (W N : Nat) (h : 2240 ≤ N) : ws (W + 2 ^ N) = ws W := by
  rw [← ws_mod (W + 2 ^ N) N h, Nat.add_mod_right, ws_mod W N h]
theorem val_le_pow (r N : Nat) (hr : r < 9218868437227405312) (hN : 2240 ≤ N) : val r ≤ 2 ^ N := by
  rw [val_mag]
  have : upOf r ≤ 2045 := by unfold upOf; omega
  exact fin_le (magOf r) (upOf r) N (mag_lt r) (by omega)
theorem sumC_eq (s t : St) (h : ws s.w = ws t.w) (h1 : s.nan = t.nan) (h2 : s.pos = t.pos) (h3 : s.neg = t.neg) (h4 : s.any = t.any) (h5 : s.other = t.other) : sumC s = sumC t := by
  unfold sumC
  rw [h, h1, h2, h3, h4, h5]
theorem cancel_sum (W v N : Nat) (ng : Bool) (hv : v ≤ N) : W + (if ng = true then N - v else v) + (if (!ng) = true then N - v else v) = W + N := by
  cases ng
  · simp only [Bool.false_eq_true, if_false, Bool.not_false, if_true]; omega
  · simp only [if_true, Bool.not_true, Bool.false_eq_true, if_false]; omega
theorem addSt_fin (s : St) (x : Nat) (hn : nanB x = false) (hi : infB x = false) : addSt s x = if rung x = 0 then { s with any := true, other := s.other || !negB x } else { s with w := s.w + (if negB x = true then 2 ^ 2240 - val (rung x) else val (rung x)), any := true, other := true } := by
  unfold addSt
  rw [if_neg (by rw [hn, hi]; simp)]
theorem cancel_eq (s : St) (x : Nat) (hx : x < 18446744073709551616) (hn : nanB x = false) (hi : infB x = false) : sumC (addSt (addSt (addSt s x) (Op.negFloat .f64 x)) 0) = sumC (addSt s 0) := by
  have hneg := neg_any x hx
  have hr0 : rung x = x % 9223372036854775808 := rfl
  have hn' := of_decide_eq_false hn
  have hi' := of_decide_eq_false hi
  obtain ⟨y, hy⟩ : ∃ y, Op.negFloat .f64 x = y := ⟨_, rfl⟩
  rw [hy] at hneg ⊢
  have hyl : y < 18446744073709551616 := by rw [hneg]; split <;> omega
  have hm : y % 9223372036854775808 = x % 9223372036854775808 := by rw [hneg]; split <;> omega
  have hn2 : nanB y = false := by unfold nanB at hn ⊢; rw [hm]; exact hn
  have hi2 : infB y = false := by unfold infB at hi ⊢; rw [hm]; exact hi
  have hr2 : rung y = rung x := hm
  have hs2 : negB y = !negB x := by
    rw [negB_eq hx, negB_eq hyl, Bool.eq_iff_iff]
    simp only [decide_eq_true_eq, Bool.not_eq_true', decide_eq_false_iff_not]
    rw [hneg]; split <;> omega
  rw [add_naught, add_naught]
  rw [addSt_fin s x hn hi, addSt_fin _ y hn2 hi2, hr2, hs2]
  by_cases h0 : rung x = 0
  · rw [if_pos h0, if_pos h0]
  · rw [if_neg h0, if_neg h0]
    refine sumC_eq _ _ ?_ rfl rfl rfl rfl rfl
    show ws (s.w + (if negB x = true then 2 ^ 2240 - val (rung x) else val (rung x)) + (if (!negB x) = true then 2 ^ 2240 - val (rung x) else val (rung x))) = ws s.w
    rw [cancel_sum s.w (val (rung x)) _ (negB x) (val_le_pow _ 2240 (by rw [hr0]; omega) (by decide))]
    exact ws_round s.w 2240 (by decide)

end Go.Proofs.Ythplelglifnhoaa
/-! Exact sums: a whole number in words, its sign taken off. -/
namespace Go.Proofs.Ythplelglifnhoaa
open Go.RowKit
set_option linter.unusedVariables false
open Ieee

theorem top_word (W N i : Nat) (hN : N = 64 * i + 64) : wdn W i = W % 2 ^ N / 2 ^ (64 * i) := by
  rw [← wdn_mod W i N (by omega)]
  exact Nat.mod_eq_of_lt (top_lt _ i N (Nat.mod_lt _ (Nat.two_pow_pos _)) hN)
theorem sg_iff (W N M i : Nat) (hi : i = 34) (hN : N = 64 * i + 64) (hM : M = 64 * i + 63) : sgOf W = decide (2 ^ M ≤ W % 2 ^ N) := by
  unfold sgOf
  rw [← hi, top_word W N i hN]
  have hp := Nat.two_pow_pos (64 * i)
  have e : 2 ^ M = 9223372036854775808 * 2 ^ (64 * i) := by
    rw [hM, Nat.pow_add, Nat.mul_comm]
  rw [e]
  have : (9223372036854775808 ≤ W % 2 ^ N / 2 ^ (64 * i)) = (9223372036854775808 * 2 ^ (64 * i) ≤ W % 2 ^ N) := by
    apply propext
    exact Nat.le_div_iff_mul_le hp
  simp only [this]
/-- What a whole number's words tell of it. -/
theorem words_tell (W N M i : Nat) (T : Int) (hi : i = 34) (hN : N = 64 * i + 64) (hM : M = 64 * i + 63) (hA : absOf W = if sgOf W = true then 2 ^ N - W % 2 ^ N else W % 2 ^ N) (h : (W : Int) % ((2 ^ N : Nat) : Int) = T % ((2 ^ N : Nat) : Int)) (h1 : T.natAbs < 2 ^ M) : sgOf W = decide (T < 0) ∧ absOf W = T.natAbs := by
  have hs := sg_iff W N M i hi hN hM
  have e2 : 2 ^ N = 2 * 2 ^ M := by rw [hN, hM, ← Nat.pow_succ']
  have hp := Nat.two_pow_pos M
  have hlt := Nat.mod_lt W (Nat.two_pow_pos N)
  have h' : ((W % 2 ^ N : Nat) : Int) = T % ((2 ^ N : Nat) : Int) := by rw [Int.natCast_emod]; exact h
  clear h
  generalize W % 2 ^ N = R at *
  generalize 2 ^ N = K at *
  generalize 2 ^ M = Q at *
  rw [hA, hs]
  by_cases hT : T < 0
  · have hm : T % (K : Int) = T + (K : Int) := by
      have h3 : (T + (K : Int)) % (K : Int) = T + (K : Int) := Int.emod_eq_of_lt (by omega) (by omega)
      rw [Int.add_emod_right] at h3
      exact h3
    have hR : (R : Int) = T + (K : Int) := by rw [h', hm]
    rw [decide_eq_true (show Q ≤ R by omega), decide_eq_true hT]
    refine ⟨rfl, ?_⟩
    rw [if_pos rfl]; omega
  · have hR : (R : Int) = T := by rw [h']; exact Int.emod_eq_of_lt (by omega) (by omega)
    rw [decide_eq_false (show ¬ Q ≤ R by omega), decide_eq_false hT]
    refine ⟨rfl, ?_⟩
    rw [if_neg (by decide)]; omega
end Go.Proofs.Ythplelglifnhoaa
/-! Exact sums: of two numbers the sum is what the machine's addition says. -/
namespace Go.Proofs.Ythplelglifnhoaa
open Go.RowKit
set_option linter.unusedVariables false
open Ieee

theorem signed_scale (ng : Bool) (m u b : Nat) (h : b ≤ u) : signed ng m (u - b) * ((2 ^ b : Nat) : Int) = if ng = true then -((m * 2 ^ u : Nat) : Int) else ((m * 2 ^ u : Nat) : Int) := by
  unfold signed
  have e : ((m <<< (u - b) : Nat) : Int) * ((2 ^ b : Nat) : Int) = ((m * 2 ^ u : Nat) : Int) := by
    rw [← Int.natCast_mul, Nat.shiftLeft_eq, Nat.mul_assoc, ← Nat.pow_add, show u - b + b = u by omega]
  cases ng
  · simp only [Bool.false_eq_true, if_false]; exact e
  · simp only [if_true]; rw [Int.neg_mul, e]
/-- What the machine's addition says of two finite numbers. -/
theorem add_word (x y : Nat) (hx : rung x < 9218868437227405312) (hy : rung y < 9218868437227405312) :
    double.add x y = some (if sval x + sval y = 0 then double.word (negB x && negB y) 0 else double.nearest (decide (sval x + sval y < 0)) (sval x + sval y).natAbs (-1074)) := by
  unfold Format.add
  rw [read_mag hx, read_mag hy]
  simp only [Datum.sum, Option.map_some, Format.write]
  congr 1
  have hb : min (-1074 + (upOf (rung x) : Int)) (-1074 + (upOf (rung y) : Int)) = -1074 + ((min (upOf (rung x)) (upOf (rung y)) : Nat) : Int) := by omega
  rw [hb]
  obtain ⟨b, hbd⟩ : ∃ b, b = min (upOf (rung x)) (upOf (rung y)) := ⟨_, rfl⟩
  rw [← hbd]
  have i1 : ((-1074 : Int) + (upOf (rung x) : Int) - (-1074 + (b : Int))).toNat = upOf (rung x) - b := by omega
  have i2 : ((-1074 : Int) + (upOf (rung y) : Int) - (-1074 + (b : Int))).toNat = upOf (rung y) - b := by omega
  rw [i1, i2]
  have s1 := signed_scale (negB x) (magOf (rung x)) (upOf (rung x)) b (by omega)
  have s2 := signed_scale (negB y) (magOf (rung y)) (upOf (rung y)) b (by omega)
  rw [← val_mag] at s1 s2
  have hT : (signed (negB x) (magOf (rung x)) (upOf (rung x) - b) + signed (negB y) (magOf (rung y)) (upOf (rung y) - b)) * ((2 ^ b : Nat) : Int) = sval x + sval y := by
    rw [Int.add_mul, s1, s2]; rfl
  generalize signed (negB x) (magOf (rung x)) (upOf (rung x) - b) + signed (negB y) (magOf (rung y)) (upOf (rung y) - b) = t at *
  have hp : (0 : Int) < ((2 ^ b : Nat) : Int) := by have := Nat.two_pow_pos b; omega
  rw [← hT]
  by_cases h0 : t = 0
  · subst h0
    rw [Int.zero_mul, if_pos rfl, if_pos rfl]
    unfold Format.nearest
    rfl
  · have hne : t * ((2 ^ b : Nat) : Int) ≠ 0 := Int.mul_ne_zero h0 (by omega)
    rw [if_neg hne, if_neg h0, Int.natAbs_mul, Int.natAbs_natCast, near_scale _ _ _ (by omega)]
    congr 1
    rw [Bool.eq_iff_iff]
    simp only [decide_eq_true_eq]
    constructor
    · intro h; exact Int.mul_neg_of_neg_of_pos h hp
    · intro h
      by_cases g : t < 0
      · exact g
      · have := Int.mul_nonneg (Int.not_lt.1 g) (Int.le_of_lt hp); omega

/-- What a finite number adds to the words. -/
def addW (x N : Nat) : Nat := if rung x = 0 then 0 else if negB x = true then 2 ^ N - val (rung x) else val (rung x)
theorem addW_mod (x N : Nat) (hx : rung x < 9218868437227405312) (hN : 2240 ≤ N) : ∃ z : Int, (addW x N : Int) = sval x + z * ((2 ^ N : Nat) : Int) := by
  have hv := val_le_pow (rung x) N hx hN
  unfold addW sval
  by_cases h0 : rung x = 0
  · rw [if_pos h0, h0, val_zero]
    exact ⟨0, by cases negB x <;> simp⟩
  · rw [if_neg h0]
    generalize val (rung x) = v at *
    generalize 2 ^ N = K at *
    cases negB x
    · exact ⟨0, by simp⟩
    · exact ⟨1, by simp; omega⟩
theorem addSt_finN (s : St) (x N : Nat) (hN : N = 2240) (hn : nanB x = false) (hi : infB x = false) : addSt s x = if rung x = 0 then { s with any := true, other := s.other || !negB x } else { s with w := s.w + (if negB x = true then 2 ^ N - val (rung x) else val (rung x)), any := true, other := true } := by
  rw [hN]; exact addSt_fin s x hn hi
theorem addSt_w (s : St) (x N : Nat) (hN : N = 2240) (hn : nanB x = false) (hi : infB x = false) : addSt s x = { s with w := s.w + addW x N, any := true, other := s.other || (!decide (rung x = 0) || !negB x) } := by
  rw [addSt_finN s x N hN hn hi]
  clear hN
  unfold addW
  generalize 2 ^ N = K
  by_cases h0 : rung x = 0
  · rw [if_pos h0, if_pos h0, decide_eq_true h0]; simp
  · rw [if_neg h0, if_neg h0, decide_eq_false h0]; simp
theorem zero_sign (x y : Nat) (h0 : sval x + sval y = 0) : (true && !((!decide (rung x = 0) || !negB x) || (!decide (rung y = 0) || !negB y))) = (negB x && negB y) := by
  have px : rung x ≠ 0 → 0 < val (rung x) := fun h => val_pos (by omega)
  have py : rung y ≠ 0 → 0 < val (rung y) := fun h => val_pos (by omega)
  have qx : rung x = 0 → val (rung x) = 0 := fun h => by rw [h]; exact val_zero
  have qy : rung y = 0 → val (rung y) = 0 := fun h => by rw [h]; exact val_zero
  unfold sval at h0
  generalize val (rung x) = a at *
  generalize val (rung y) = b at *
  by_cases zx : rung x = 0
  · have ha := qx zx
    by_cases zy : rung y = 0
    · rw [decide_eq_true zx, decide_eq_true zy]
      cases negB x <;> cases negB y <;> rfl
    · have hb := py zy
      rw [ha] at h0
      exfalso
      cases h1 : negB x <;> cases h2 : negB y <;> rw [h1, h2] at h0 <;> simp at h0 <;> omega
  · have ha := px zx
    rw [decide_eq_false zx]
    cases h1 : negB x <;> cases h2 : negB y <;> rw [h1, h2] at h0 <;> simp at h0 ⊢ <;> omega
theorem valOf_zero (sg ot : Bool) : valOf sg 0 true ot = (if (true && !ot) = true then 9223372036854775808 else 0, false) := rfl
theorem fin_rung {x : Nat} (hx : x < 18446744073709551616) (hn : nanB x = false) (hi : infB x = false) : rung x < 9218868437227405312 := by
  have h1 := of_decide_eq_false hn
  have h2 := of_decide_eq_false hi
  have hr0 : rung x = x % 9223372036854775808 := rfl
  omega
theorem val_lt_pow (r M : Nat) (hr : r < 9218868437227405312) (hM : 2239 ≤ M) : 2 * val r < 2 ^ M := by
  rw [val_mag]
  have h1 : upOf r ≤ 2045 := by unfold upOf; omega
  have h2 := fin_le (magOf r) (upOf r) (M - 2) (mag_lt r) (by omega)
  have h3 : 2 ^ M = 4 * 2 ^ (M - 2) := by rw [show (4 : Nat) = 2 ^ 2 from rfl, ← Nat.pow_add]; congr 1; omega
  have := Nat.two_pow_pos (M - 2)
  omega
theorem sval_abs (x : Nat) : (sval x).natAbs = val (rung x) := by unfold sval; cases negB x <;> simp
theorem word_eq' (sg : Bool) (r : Nat) : double.word sg r = (if sg = true then 9223372036854775808 else 0) + r := by
  have h : double.signWeight = 9223372036854775808 := by decide
  unfold Format.word
  rw [h]
  cases sg <;> simp
/-- Of two finite numbers the sum tells what the machine's addition says. -/
theorem two_val (x y N M : Nat) (hN : N = 64 * 34 + 64) (hM : M = 64 * 34 + 63) (hx : x < 18446744073709551616) (hy : y < 18446744073709551616) (nx : nanB x = false) (ny : nanB y = false) (ix : infB x = false) (iy : infB y = false)
    (hA : ∀ W, absOf W = if sgOf W = true then 2 ^ N - W % 2 ^ N else W % 2 ^ N) :
    ∃ r, double.add x y = some r ∧ r < 18446744073709551616 ∧ valSt (sumOf [x, y]) = (r, infB r) := by
  have rx := fin_rung hx nx ix
  have ry := fin_rung hy ny iy
  obtain ⟨z1, e1⟩ := addW_mod x N rx (by omega)
  obtain ⟨z2, e2⟩ := addW_mod y N ry (by omega)
  have hS : sumOf [x, y] = { w := addW x N + addW y N, nan := false, pos := false, neg := false, any := true, other := (!decide (rung x = 0) || !negB x) || (!decide (rung y = 0) || !negB y) } := by
    show addSt (addSt noSt x) y = _
    rw [addSt_w noSt x N (by omega) nx ix, addSt_w _ y N (by omega) ny iy]
    simp [noSt]
  have hmod : ((addW x N + addW y N : Nat) : Int) % ((2 ^ N : Nat) : Int) = (sval x + sval y) % ((2 ^ N : Nat) : Int) := by
    rw [Int.natCast_add, e1, e2]
    rw [show sval x + z1 * ((2 ^ N : Nat) : Int) + (sval y + z2 * ((2 ^ N : Nat) : Int)) = sval x + sval y + (z1 + z2) * ((2 ^ N : Nat) : Int) by rw [Int.add_mul]; omega]
    exact Int.add_mul_emod_self_right _ _ _
  have hab : (sval x + sval y).natAbs < 2 ^ M := by
    have a1 := val_lt_pow (rung x) M rx (by omega)
    have a2 := val_lt_pow (rung y) M ry (by omega)
    have a3 := sval_abs x
    have a4 := sval_abs y
    omega
  obtain ⟨t1, t2⟩ := words_tell (addW x N + addW y N) N M 34 (sval x + sval y) rfl hN hM (hA _) hmod hab
  rw [add_word x y rx ry]
  refine ⟨_, rfl, ?_⟩
  have hv : valSt (sumOf [x, y]) = valOf (decide (sval x + sval y < 0)) (sval x + sval y).natAbs true ((!decide (rung x = 0) || !negB x) || (!decide (rung y = 0) || !negB y)) := by
    rw [hS]; unfold valSt
    rw [if_neg (by simp)]
    simp only [t1, t2]
  rw [hv]
  by_cases h0 : sval x + sval y = 0
  · rw [if_pos h0, h0, word_eq']
    have hb := zero_sign x y h0
    rw [show (0 : Int).natAbs = 0 from rfl, valOf_zero, hb]
    cases negB x <;> cases negB y <;> exact ⟨by decide, by decide⟩
  · have hne : (sval x + sval y).natAbs ≠ 0 := by omega
    rw [if_neg h0, near_rung _ _ hne, word_eq']
    generalize (sval x + sval y).natAbs = A at *
    generalize decide (sval x + sval y < 0) = sg
    unfold valOf
    rw [if_neg hne]
    by_cases hs : A < 9007199254740992
    · have hr : rungOf A = A := by unfold rungOf; rw [if_pos hs]
      rw [if_pos hs, hr, Nat.min_eq_left (by omega)]
      refine ⟨by cases sg <;> simp <;> omega, ?_⟩
      rw [show infB ((if sg = true then 9223372036854775808 else 0) + A) = false by unfold infB; cases sg <;> simp <;> omega]
    · rw [if_neg hs]
      by_cases hi : 2047 * 4503599627370496 ≤ rungOf A
      · rw [if_pos hi, Nat.min_eq_right (by omega)]
        cases sg <;> exact ⟨by decide, by decide⟩
      · rw [if_neg hi, Nat.min_eq_left (by omega)]
        refine ⟨by cases sg <;> simp <;> omega, ?_⟩
        rw [show infB ((if sg = true then 9223372036854775808 else 0) + rungOf A) = false by unfold infB; cases sg <;> simp <;> omega]
end Go.Proofs.Ythplelglifnhoaa
/-! Exact sums: the value is the nearest number: the plain law. -/
namespace Go.Proofs.Ythplelglifnhoaa
set_option linter.unusedVariables false

theorem val_low {A : Nat} (h : A < 9007199254740992) : val A = A := by
  unfold val
  by_cases h0 : A / 4503599627370496 = 0
  · rw [if_pos h0]; omega
  · rw [if_neg h0, show A / 4503599627370496 - 1 = 0 by omega, Nat.pow_zero]; omega
theorem val_rung (q s : Nat) (h1 : 4503599627370496 ≤ q) (h2 : q ≤ 9007199254740992) : val (s * 4503599627370496 + q) = q * 2 ^ s := by
  unfold val
  rw [if_neg (by omega)]
  by_cases h : q = 9007199254740992
  · subst h
    rw [show (s * 4503599627370496 + 9007199254740992) / 4503599627370496 - 1 = s + 1 by omega, show (s * 4503599627370496 + 9007199254740992) % 4503599627370496 = 0 by omega, Nat.pow_succ]
    generalize 2 ^ s = P
    omega
  · rw [show (s * 4503599627370496 + q) / 4503599627370496 - 1 = s by omega, show 4503599627370496 + (s * 4503599627370496 + q) % 4503599627370496 = q by omega]
/-- The number that is told lies nearest: it is not past the middle between its neighbours and it. -/
theorem near_core (A : Nat) : 2 * A ≤ val (rungOf A) + val (rungOf A + 1) ∧ (0 < rungOf A → val (rungOf A - 1) + val (rungOf A) ≤ 2 * A) := by
  have hup := val_step (rungOf A)
  by_cases hs : A < 9007199254740992
  · have hr : rungOf A = A := by unfold rungOf; rw [if_pos hs]
    rw [hr] at hup ⊢
    rw [val_low hs] at hup ⊢
    refine ⟨by omega, fun h0 => ?_⟩
    rw [val_low (by omega : A - 1 < 9007199254740992)]; omega
  · have h0 : A ≠ 0 := by omega
    have h53 : 53 ≤ A.log2 := (Nat.le_log2 h0).2 (by omega)
    have hr : rungOf A = (A.log2 - 52) * 4503599627370496 + (A / 2 ^ (A.log2 - 52) + (upB A (A.log2 - 52)).toNat) := by unfold rungOf; rw [if_neg hs]
    have hub := up_cut A (A.log2 - 52) (by omega)
    have hlo : 2 ^ A.log2 ≤ A := Nat.log2_self_le h0
    have hhi : A < 2 ^ (A.log2 + 1) := Nat.lt_log2_self
    obtain ⟨s, hsd⟩ : ∃ s, s = A.log2 - 52 := ⟨_, rfl⟩
    have e1 : 2 ^ A.log2 = 4503599627370496 * 2 ^ s := by rw [show (4503599627370496 : Nat) = 2 ^ 52 from rfl, ← Nat.pow_add]; congr 1; omega
    have e2 : 2 ^ (A.log2 + 1) = 9007199254740992 * 2 ^ s := by rw [show (9007199254740992 : Nat) = 2 ^ 53 from rfl, ← Nat.pow_add]; congr 1; omega
    rw [← hsd] at hr hub
    rw [e1] at hlo
    rw [e2] at hhi
    have hp := Nat.two_pow_pos s
    have hq1 : 4503599627370496 ≤ A / 2 ^ s := (Nat.le_div_iff_mul_le hp).2 hlo
    have hq2 : A / 2 ^ s < 9007199254740992 := (Nat.div_lt_iff_lt_mul hp).2 hhi
    have ht := Nat.mod_lt A hp
    have hA : A / 2 ^ s * 2 ^ s + A % 2 ^ s = A := by rw [Nat.mul_comm]; exact Nat.div_add_mod A (2 ^ s)
    have v0 := val_rung (A / 2 ^ s) s hq1 (by omega)
    have v1 := val_rung (A / 2 ^ s + 1) s (by omega) (by omega)
    rw [Nat.add_mul, Nat.one_mul] at v1
    generalize A / 2 ^ s = q at *
    generalize A % 2 ^ s = t at *
    generalize hu : upB A s = u at *
    rw [hr] at hup ⊢
    generalize s * 4503599627370496 = K at *
    generalize 2 ^ s = P at *
    generalize q * P = QP at *
    clear hr hlo hhi e1 e2 hu hs h0 h53
    cases u
    · have hub := hub.symm
      simp only [Bool.or_eq_false_iff, decide_eq_false_iff_not] at hub
      obtain ⟨hub, -⟩ := hub
      have ed : K + (q + false.toNat) = K + q := by rw [Bool.toNat_false, Nat.add_zero]
      rw [ed] at hup ⊢
      rw [show K + q + 1 = K + (q + 1) by omega, v0, v1]
      refine ⟨by omega, fun h => ?_⟩
      have hd : val (K + q - 1) < val (K + q) := val_lt (by omega)
      rw [v0] at hd
      omega
    · have hub := hub.symm
      have hub2 : P ≤ 2 * t := by
        simp only [Bool.or_eq_true, Bool.and_eq_true, decide_eq_true_eq] at hub
        omega
      have ed : K + (q + true.toNat) = K + (q + 1) := by rw [Bool.toNat_true]
      rw [ed] at hup ⊢
      rw [show K + (q + 1) - 1 = K + q by omega]
      rw [v1] at hup ⊢
      rw [v0]
      exact ⟨by omega, fun _ => by omega⟩
theorem val_mono {r s : Nat} (h : r ≤ s) : val r ≤ val s := by
  by_cases e : r = s
  · subst e; exact Nat.le_refl _
  · exact Nat.le_of_lt (val_lt (by omega))
theorem rung_mono {A B : Nat} (h : A ≤ B) : rungOf A ≤ rungOf B := by
  by_cases hc : rungOf A ≤ rungOf B
  · exact hc
  · obtain ⟨-, a⟩ := near_core A
    obtain ⟨b, -⟩ := near_core B
    have a := a (by omega)
    have m1 : val (rungOf B) ≤ val (rungOf A - 1) := val_mono (by omega)
    have m2 : val (rungOf B + 1) ≤ val (rungOf A) := val_mono (by omega)
    have : A = B := by omega
    subst this
    omega
theorem rung_zero {A : Nat} (h : rungOf A = 0) : A = 0 := by
  by_cases hs : A < 9007199254740992
  · have hr : rungOf A = A := by unfold rungOf; rw [if_pos hs]
    omega
  · obtain ⟨a, -⟩ := near_core A
    rw [h] at a
    rw [show val 0 = 0 by decide, show val (0 + 1) = 1 by decide] at a
    omega
/-- The next number, of noughts too. -/
def nextX (x : Nat) (up : Bool) : Nat := if x % 9223372036854775808 = 0 then (if up = true then 1 else 9223372036854775809) else if decide (9223372036854775808 ≤ x) = up then x - 1 else x + 1
theorem nextX_lt (x : Nat) (up : Bool) (hx : x < 18446744073709551616) (hf : x % 9223372036854775808 < 9218868437227405312) : nextX x up < 18446744073709551616 ∧ rung (nextX x up) ≤ 9218868437227405312 := by
  unfold nextX rung
  constructor
  · repeat' split
    all_goals omega
  · repeat' split
    all_goals omega
/-- No next number lies nearer. -/
theorem near_next (T : Int) (x : Nat) (up : Bool) (hx : x < 18446744073709551616) (hr : rung x = rungOf T.natAbs) (hs : T ≠ 0 → negB x = decide (T < 0)) (hf : rung x < 9218868437227405312) :
    (T - sval x).natAbs ≤ (T - sval (nextX x up)).natAbs := by
  by_cases h0 : rung x = 0
  · have : T = 0 := by have := rung_zero (hr.symm.trans h0); omega
    subst this
    have : sval x = 0 := by unfold sval; rw [h0, show val 0 = 0 by decide]; cases negB x <;> rfl
    rw [this]; simp
  · have hT : T ≠ 0 := by
      intro h; subst h
      rw [show (0 : Int).natAbs = 0 from rfl, show rungOf 0 = 0 by decide] at hr
      exact h0 hr
    have hs := hs hT
    obtain ⟨n1, n2⟩ := near_core T.natAbs
    rw [← hr] at n1 n2
    have n2 := n2 (by omega)
    have m1 := val_step (rung x)
    have m2 : val (rung x - 1) < val (rung x) := val_lt (by omega)
    have hnb := negB_eq hx
    have hrx : rung x = x % 9223372036854775808 := rfl
    have hb : ∀ y, y < 18446744073709551616 → negB y = decide (9223372036854775808 ≤ y) := fun y hy => negB_eq hy
    unfold nextX
    rw [if_neg (by omega)]
    by_cases hn : 9223372036854775808 ≤ x
    · rw [decide_eq_true hn] at hnb ⊢
      have hTn : T < 0 := by rw [hnb] at hs; exact of_decide_eq_true hs.symm
      have sx : sval x = -(val (rung x) : Int) := by unfold sval; rw [hnb]; rfl
      cases up
      · have sy : sval (x + 1) = -(val (rung x + 1) : Int) := by
          unfold sval; rw [hb _ (by omega), decide_eq_true (by omega), show rung (x + 1) = rung x + 1 by unfold rung at *; omega]; rfl
        rw [if_neg (by simp), sx, sy]; omega
      · have sy : sval (x - 1) = -(val (rung x - 1) : Int) := by
          unfold sval; rw [hb _ (by omega), decide_eq_true (by omega), show rung (x - 1) = rung x - 1 by unfold rung at *; omega]; rfl
        rw [if_pos rfl, sx, sy]; omega
    · rw [decide_eq_false hn] at hnb ⊢
      have hTn : ¬ T < 0 := by rw [hnb] at hs; exact of_decide_eq_false hs.symm
      have sx : sval x = (val (rung x) : Int) := by unfold sval; rw [hnb]; rfl
      cases up
      · have sy : sval (x - 1) = (val (rung x - 1) : Int) := by
          unfold sval; rw [hb _ (by omega), decide_eq_false (by omega), show rung (x - 1) = rung x - 1 by unfold rung at *; omega]; rfl
        rw [if_pos rfl, sx, sy]; omega
      · have sy : sval (x + 1) = (val (rung x + 1) : Int) := by
          unfold sval; rw [hb _ (by omega), decide_eq_false (by omega), show rung (x + 1) = rung x + 1 by unfold rung at *; omega]; rfl
        rw [if_neg (by simp), sx, sy]; omega
/-- The whole number that is summed: of what is finite. -/
def fsv (x : Nat) : Int := if (nanB x || infB x) = true then 0 else sval x
def totF (xs : List Nat) : Nat → Int
  | 0 => 0
  | k + 1 => totF xs k + fsv (fd xs k)
theorem val_le_exp (r E : Nat) (hr : r < 9218868437227405312) (hE : 2100 ≤ E) : val r ≤ 2 ^ E := by
  rw [val_mag]
  have h1 : upOf r ≤ 2045 := by unfold upOf; omega
  exact fin_le (magOf r) (upOf r) E (mag_lt r) (by omega)
theorem addSt_some (s : St) (x : Nat) (h : (nanB x || infB x) = true) : (addSt s x).w = s.w := by
  unfold addSt
  rw [if_pos (by simpa using h)]
theorem sum_tot (xs : List Nat) (N E : Nat) (hN : N = 2240) (hE : 2100 ≤ E) (h64 : Words64 xs) : ∀ k, k ≤ xs.length → (∃ z : Int, ((sumOf (xs.take k)).w : Int) = totF xs k + z * ((2 ^ N : Nat) : Int)) ∧ (totF xs k).natAbs ≤ k * 2 ^ E := by
  intro k
  induction k with
  | zero => intro _; exact ⟨⟨0, by simp [sumOf, noSt, totF]⟩, by simp [totF]⟩
  | succ k ih =>
    intro hk
    obtain ⟨⟨z, hz⟩, hb⟩ := ih (by omega)
    rw [sumOf_snoc xs k (by omega)]
    have hx := h64 k (by omega)
    show (∃ z : Int, _ = totF xs k + fsv (fd xs k) + _) ∧ (totF xs k + fsv (fd xs k)).natAbs ≤ _
    generalize fd xs k = x at *
    rw [Nat.add_mul, Nat.one_mul]
    by_cases hs : (nanB x || infB x) = true
    · rw [addSt_some _ x hs]
      unfold fsv; rw [if_pos hs, Int.add_zero]
      exact ⟨⟨z, hz⟩, Nat.le_trans hb (Nat.le_add_right _ _)⟩
    · obtain ⟨hn, hi⟩ := Bool.or_eq_false_iff.1 (Bool.eq_false_iff.2 hs)
      have hr := fin_rung hx hn hi
      obtain ⟨z1, e1⟩ := addW_mod x N hr (Nat.le_of_eq hN.symm)
      rw [addSt_w _ x N hN hn hi]
      unfold fsv; rw [if_neg hs]
      have ha := sval_abs x
      have hv := val_le_exp (rung x) E hr hE
      refine ⟨⟨z + z1, ?_⟩, by clear hz e1 hN; omega⟩
      show (((sumOf (xs.take k)).w + addW x N : Nat) : Int) = _
      rw [Int.natCast_add, hz, e1, Int.add_mul]; omega
/-- What a sum tells that has only finite numbers, its sign taken off. -/
theorem valOf_low (sg : Bool) (A : Nat) (an ot : Bool) : (valOf sg A an ot).1 % 9223372036854775808 = min (rungOf A) 9218868437227405312 ∧ (valOf sg A an ot).1 < 18446744073709551616 := by
  unfold valOf
  by_cases h0 : A = 0
  · subst h0
    rw [if_pos rfl, show rungOf 0 = 0 by decide]
    cases an <;> cases ot <;> decide
  · rw [if_neg h0]
    by_cases hs : A < 9007199254740992
    · have hr : rungOf A = A := by unfold rungOf; rw [if_pos hs]
      rw [if_pos hs, hr]
      cases sg <;> simp <;> omega
    · rw [if_neg hs]
      by_cases hi : 2047 * 4503599627370496 ≤ rungOf A
      · rw [if_pos hi]
        cases sg <;> simp <;> omega
      · rw [if_neg hi]
        cases sg <;> simp <;> omega
theorem valOf_sign (sg : Bool) (A : Nat) (an ot : Bool) (h0 : A ≠ 0) : negB (valOf sg A an ot).1 = sg := by
  obtain ⟨-, h2⟩ := valOf_low sg A an ot
  rw [negB_eq h2]
  unfold valOf
  rw [if_neg h0]
  by_cases hs : A < 9007199254740992
  · rw [if_pos hs]
    cases sg <;> simp <;> omega
  · rw [if_neg hs]
    by_cases hi : 2047 * 4503599627370496 ≤ rungOf A
    · rw [if_pos hi]
      cases sg <;> simp
    · rw [if_neg hi]
      cases sg <;> simp <;> omega
end Go.Proofs.Ythplelglifnhoaa
