import Derived.Test.YthplelglifnhoaaAd
import Derived.Test.YthplelglifnhoaaWd
import Derived.BigFrame
/-! Exact sums: the walk of get and below. -/
namespace Go.Proofs.Ythplelglifnhoaa
open Go.RowKit
set_option linter.unusedVariables false

set_option maxRecDepth 100000 in
set_option maxHeartbeats 2000000 in
theorem get_two (C : Array Value) (hsz : C.size = 35) (s q r : Nat) (x0 x1 : Nat) (w : World) (hqi : (s : Int) / 64 = (q : Int)) (hri : (s : Int) % 64 = (r : Int)) (hr : r < 64) (hs : s < 2240) (h1 : q + 1 < 35)
    (c0 : C[q]? = some (.int .u64 (x0 : Nat))) (c1 : C[q + 1]? = some (.int .u64 (x1 : Nat))) :
    Calls Try.prog 64 #[.agg C, .int .i64 s] w fun e w' => e = .returned (.int .u64 (bits .and .u64 (bits .or .u64 ((x0 : Int) / 2 ^ r) (IntKind.u64.wrap ((x1 : Int) * 2 ^ (64 - r)))) 9007199254740991)) ∧ Below w.heap.size w w' := by
  have hb1 : ∀ (o1 : Obj), Below w.heap.size w (w.alloc o1) := fun o1 => below_alloc (Below.refl _ _) _
  have h0v := at_of (by omega) c0
  have h1v := at_of (by omega) c1
  have hq : q < 35 := by omega
  clear c0 c1
  go_enter Try.func64, Try.ntmps64
  go_wp2
  go_ret
  exact ⟨rfl, hb1 _⟩

set_option maxRecDepth 100000 in
set_option maxHeartbeats 2000000 in
theorem get_one (C : Array Value) (hsz : C.size = 35) (s q r : Nat) (x0 : Nat) (w : World) (hqi : (s : Int) / 64 = (q : Int)) (hri : (s : Int) % 64 = (r : Int)) (hr : r < 64) (hs : s < 2240) (h1 : q = 34)
    (c0 : C[q]? = some (.int .u64 (x0 : Nat))) :
    Calls Try.prog 64 #[.agg C, .int .i64 s] w fun e w' => e = .returned (.int .u64 (bits .and .u64 ((x0 : Int) / 2 ^ r) 9007199254740991)) ∧ Below w.heap.size w w' := by
  have hb1 : ∀ (o1 : Obj), Below w.heap.size w (w.alloc o1) := fun o1 => below_alloc (Below.refl _ _) _
  have h0v := at_of (by omega) c0
  subst h1
  clear c0
  go_enter Try.func64, Try.ntmps64
  go_wp2
  go_ret
  exact ⟨rfl, hb1 _⟩

theorem top_lt (A q N : Nat) (h : A < 2 ^ N) (hN : N = 64 * q + 64) : A / 2 ^ (64 * q) < 18446744073709551616 := by
  subst hN
  rw [Nat.pow_add] at h
  rw [Nat.div_lt_iff_lt_mul (Nat.two_pow_pos _), Nat.mul_comm]
  exact h
theorem get_any (A s : Nat) (w : World) (hs : s < 2240) (hA : A < 2 ^ 2240) :
    Calls Try.prog 64 #[.agg (ws A), .int .i64 s] w fun e w' => e = .returned (.int .u64 ((A / 2 ^ s % 9007199254740992 : Nat) : Int)) ∧ Below w.heap.size w w' := by
  obtain ⟨q, hq⟩ : ∃ q, q = s / 64 := ⟨_, rfl⟩
  obtain ⟨r, hr⟩ : ∃ r, r = s % 64 := ⟨_, rfl⟩
  have hqi : (s : Int) / 64 = (q : Int) := by omega
  have hri : (s : Int) % 64 = (r : Int) := by omega
  have hr64 : r < 64 := by omega
  have hs0 : s = 64 * q + r := by omega
  have hw : wdn A q = A / 2 ^ (64 * q) % 18446744073709551616 := rfl
  by_cases h1 : q + 1 < 35
  · have := get_two (ws A) (ws_size A) s q r (wdn A q) (wdn A (q + 1)) w hqi hri hr64 hs h1 (ws_at A q (by omega)) (ws_at A (q + 1) h1)
    rw [get_val (wdn A q) (wdn A (q + 1)) r hr64 (wdn_lt A q), wdn_next, hw, get_bits _ r hr64, ← div_words, ← hs0] at this
    exact this
  · have h34 : q = 34 := by omega
    have := get_one (ws A) (ws_size A) s q r (wdn A q) w hqi hri hr64 hs h34 (ws_at A q (by omega))
    have hlt := top_lt A q 2240 hA (by omega)
    rw [get_val0 (wdn A q) r hr64 (wdn_lt A q), hw, Nat.mod_eq_of_lt hlt, ← div_words, ← hs0] at this
    exact this

set_option maxRecDepth 100000 in
set_option maxHeartbeats 2000000 in
theorem below_walk (C : Array Value) (hsz : C.size = 35) (A s q r : Nat) (w : World) (hqi : (s : Int) / 64 = (q : Int)) (hri : (s : Int) % 64 = (r : Int)) (hr : r < 64) (hs : s < 2240) (hq : q < 35) (hs0 : s = 64 * q + r)
    (hC : ∀ i (h : i < 35), C[i]'(by omega) = .int .u64 (wdn A i : Nat)) :
    Calls Try.prog 65 #[.agg C, .int .i64 s] w fun e w' => e = .returned (.bool (decide (A % 2 ^ s ≠ 0))) ∧ Below w.heap.size w w' := by
  have hb1 : ∀ (o1 : Obj), Below w.heap.size w (w.alloc o1) := fun o1 => below_alloc (Below.refl _ _) _
  have HC := Lib.hid hC
  have Hfin := Lib.hid (fun (h : A % 2 ^ (64 * q) = 0) => show decide (A % 2 ^ s ≠ 0) = (decide (wdn A q * 2 ^ (64 - r) % 18446744073709551616 ≠ 0) && decide (0 < r)) by
    rw [hs0]
    have := mod_words A q r h
    simp only [this]
    exact below_mod _ r hr)
  have Hearly := Lib.hid (fun k (hk : k < q) (h0 : A % 2 ^ (64 * k) = 0) (h : wdn A k ≠ 0) => show decide (A % 2 ^ s ≠ 0) = true by
    refine decide_eq_true (fun e => h ?_)
    rw [← mod_word_step A k h0]
    have e2 : 2 ^ s = 2 ^ (64 * (k + 1)) * 2 ^ (s - 64 * (k + 1)) := by rw [← Nat.pow_add]; congr 1; omega
    rw [e2] at e
    have := Nat.mod_mul_right_mod A (2 ^ (64 * (k + 1))) (2 ^ (s - 64 * (k + 1)))
    rw [e, Nat.zero_mod] at this
    exact this.symm)
  have Hstep := Lib.hid (fun k (h0 : A % 2 ^ (64 * k) = 0) (h : wdn A k = 0) => show A % 2 ^ (64 * (k + 1)) = 0 by rw [mod_word_step A k h0]; exact h)
  clear hC hs0
  generalize decide (A % 2 ^ s ≠ 0) = R at *
  go_enter Try.func65, Try.ntmps65
  go_wp2
  go_loop [8] (fun i => ∃ k : Nat, k ≤ q ∧ i = .int .i64 k ∧ A % 2 ^ (64 * k) = 0) (fun i => q - (intOf i).toNat)
  case atStart => exact ⟨0, Nat.zero_le _, rfl, by simp [Nat.mod_one]⟩
  case round =>
    obtain ⟨k, hk, rfl, h0⟩ := hrel
    have H0 := Lib.hid h0
    clear h0
    by_cases hlt : k < q
    · have hk35 : k < 35 := by omega
      have hc := HC.out k hk35
      have Hne := Lib.hid (fun h => Hearly.out k hlt H0.out h)
      have Hst := Lib.hid (fun h => Hstep.out k H0.out h)
      generalize wdn A k = x at *
      by_cases hx : x = 0
      · subst hx
        go_wp2
        exact ⟨⟨k + 1, by omega, by go_num, Hst.out rfl⟩, by simp [intOf]; omega⟩
      · have hx1 : ((x : Int) != 0) = true := by simp; omega
        go_wp2
        go_ret
        exact ⟨ret_b (Hne.out hx).symm, hb1 _⟩
    · obtain rfl : k = q := by omega
      have hc := HC.out k hq
      have Hf := Lib.hid (Hfin.out H0.out)
      generalize wdn A k = x at *
      by_cases hr0 : 0 < r
      · have hwr : IntKind.u64.wrap ((x : Int) * 2 ^ (64 - r)) = ((x * 2 ^ (64 - r) % 18446744073709551616 : Nat) : Int) := by rw [IntKind.wrap_u64]; simp
        obtain ⟨N, hN⟩ : ∃ N, x * 2 ^ (64 - r) % 18446744073709551616 = N := ⟨_, rfl⟩
        rw [hN] at hwr
        have Hf2 : Hid (R = (decide (N ≠ 0) && decide (0 < r))) := by rw [← hN]; exact Hf
        have hr1 : (0 : Int) < (r : Int) := by omega
        clear hN Hf Hfin
        by_cases hN0 : N = 0
        · subst hN0
          go_wp2
          all_goals
            go_ret
            exact ⟨ret_b (by rw [Hf2.out]; simp), hb1 _⟩
        · have hN1 : ((N : Int) != 0) = true := by simp; omega
          go_wp2
          all_goals
            go_ret
            exact ⟨ret_b (by rw [Hf2.out]; simp [hN0, hr0]), hb1 _⟩
      · obtain rfl : r = 0 := by omega
        have hR : R = false := by rw [Hf.out]; simp
        subst hR
        have hwr0 : IntKind.u64.wrap ((x : Int) * 18446744073709551616) = 0 := by rw [IntKind.wrap_u64]; omega
        clear Hf Hfin Hearly
        go_wp2
        all_goals
          go_ret
          exact ⟨rfl, hb1 _⟩
theorem below_any (A s : Nat) (w : World) (hs : s < 2240) :
    Calls Try.prog 65 #[.agg (ws A), .int .i64 s] w fun e w' => e = .returned (.bool (decide (A % 2 ^ s ≠ 0))) ∧ Below w.heap.size w w' :=
  below_walk (ws A) (ws_size A) A s (s / 64) (s % 64) w (by omega) (by omega) (by omega) hs (by omega) (by omega) fun i h => at_of _ (ws_at A i h)
end Go.Proofs.Ythplelglifnhoaa
/-! Exact sums: the walk of Value where something was no finite number. -/
namespace Go.Proofs.Ythplelglifnhoaa
open Go.RowKit
set_option linter.unusedVariables false
attribute [-simp] Try.isAgg41
attribute [-simp] Try.isAgg43 Try.sizeOf43 Try.typeInfo43 Try.type43

set_option maxRecDepth 100000 in
theorem nan_any (w : World) : Calls Try.prog 58 #[] w fun e w' => e = .returned (.float .f64 9221120237041090561) ∧ w = w' := by
  have hf := run_frombits
  go_enter Try.func58, Try.ntmps58
  go_wp2
  go_ret
  exact ⟨rfl, rfl⟩
set_option maxRecDepth 100000 in
theorem infP_any (w : World) (i : Int) (h : 0 ≤ i) : Calls Try.prog 59 #[.int .i64 i] w fun e w' => e = .returned (.float .f64 9218868437227405312) ∧ w = w' := by
  have hf := run_frombits
  go_enter Try.func59, Try.ntmps59
  go_wp2
  go_ret
  exact ⟨rfl, rfl⟩
set_option maxRecDepth 100000 in
theorem infM_any (w : World) (i : Int) (h : i < 0) : Calls Try.prog 59 #[.int .i64 i] w fun e w' => e = .returned (.float .f64 18442240474082181120) ∧ w = w' := by
  have hf := run_frombits
  go_enter Try.func59, Try.ntmps59
  go_wp2
  go_ret
  exact ⟨rfl, rfl⟩

/-- What a sum with what is no finite number tells. -/
def specVal (a b c : Bool) : Nat := if a || (b && c) then 9221120237041090561 else if b then 9218868437227405312 else 18442240474082181120
set_option maxRecDepth 100000 in
set_option maxHeartbeats 4000000 in
theorem value_special (C : Array Value) (hC : C.size = 40) (a b c : Bool) (c35 : C[35]? = some (.bool a)) (c36 : C[36]? = some (.bool b)) (c37 : C[37]? = some (.bool c)) (w : World) (h : (a || b || c) = true) :
    Calls Try.prog 43 #[.agg C] w fun e w' => e = .returned (.tuple #[.float .f64 (specVal a b c), .bool false]) ∧ Below w.heap.size w w' := by
  have hb1 : ∀ (o1 : Obj), Below w.heap.size w (w.alloc o1) := fun o1 => below_alloc (Below.refl _ _) _
  have h35 := at_of (by omega) c35
  have h36 := at_of (by omega) c36
  have h37 := at_of (by omega) c37
  have hn := nan_any
  have hp := fun w => infP_any w 1 (by omega)
  have hm := fun w => infM_any w (-1) (by omega)
  clear c35 c36 c37
  cases a <;> cases b <;> cases c
  · cases h
  all_goals
    clear h
    go_enter Try.func43, Try.ntmps43
    go_wp2_with (first
      | (go_at_call 58; (with_reducible refine (hn _).mono ?_); rintro e w1 ⟨rfl, rfl⟩)
      | (go_at_call 59; (first | ((with_reducible refine (hp _).mono ?_); rintro e w1 ⟨rfl, rfl⟩) | ((with_reducible refine (hm _).mono ?_); rintro e w1 ⟨rfl, rfl⟩))))
    go_ret2
    exact ⟨rfl, hb1 _⟩
end Go.Proofs.Ythplelglifnhoaa
/-! Exact sums: the walk of Value. -/
namespace Go.Proofs.Ythplelglifnhoaa
open Go.RowKit
set_option linter.unusedVariables false
section
variable {P : Program} {o : Oper} {a : Act} {K : Act → World → Prop} {Q : Exit → Act → World → Prop}
/-- Held back. -/
structure Hold (p : Prop) : Prop where
  out : p
theorem stop_hold {ops : Array Oper} {rest : List Oper} {Q : Exit → Act → World → Prop} {w : World} (d : Option Tmp) (hd : o.dst = d) (h : Hold (wpList P ops Q (o :: rest) a w)) : wpList P ops Q (o :: rest) a w := h.out
theorem at_op0 {ops : Array Oper} {rest : List Oper} {Q : Exit → Act → World → Prop} {w : World} (op : Op) (h : wpList P ops Q (o :: rest) a w) (ho : o.op = op) (hg : o.guard = none) : wpList P ops Q (o :: rest) a w := h
theorem at_opG {ops : Array Oper} {rest : List Oper} {Q : Exit → Act → World → Prop} {w : World} (op : Op) (gd : Option (Nat × Bool)) (h : wpList P ops Q (o :: rest) a w) (ho : o.op = op) (hg : o.guard = gd) : wpList P ops Q (o :: rest) a w := h
theorem wpList_load_rowG {ops : Array Oper} {rest : List Oper} {Q : Exit → Act → World → Prop} {w : World} (hw : Region.wanted o (yielded ops a.tmps) = true) (ty : TypeId) (x : Operand) (ho : o.op = .load ty x)
    (g : Nat) (hx : a.eval x = .pointer (some ⟨g, 0, none⟩)) (t : TypeId) (cs : Array Value) (fr : Nat × Nat) (d : TypeDesc) (hg : w.heap[g]? = some (.cells cs t fr))
    (hu : P.underlying ty = some d) (hd : (match d with | .struct _ | .array _ _ => true | _ => false) = true) (hi : (P.info? ty).map (·.size) = some cs.size)
    (h : wpList P ops Q rest (a.put o.dst (.agg cs)) w) : wpList P ops Q (o :: rest) a w :=
  BigFrame.wpList_want hw fun K hK => wp_load_row ty x ho g hx t cs fr d hg hu hd hi (hK _ _ h)
theorem at_opw {w : World} (op : Op) (h : o.wp P a w K Q) (ho : o.op = op) : o.wp P a w K Q := h
end
theorem run_index35 (C : Array Value) (hsz : C.size = 35) (k : Nat) (hk : k < 35) (x : Int) (h : C[k]? = some (.int .u64 x)) (w : World) :
    (Instr.index 41 (.agg C) (.int .i64 (k : Int))).run Try.prog w = .ok (.int .u64 x) w := by
  have h1 : (0 : Int) ≤ (k : Int) ∧ (k : Int) < ((35 : Nat) : Int) := by omega
  have hv := at_of (by omega) h
  simp [Instr.index, run_underlying Try.underlying41, asIntOf, go_sem, part, hk, hv, hsz, Try.sizeOf26, Try.isAgg26, Sem.run_bind, Result.andThen]

theorem or_low (g x : Nat) (hg : g = 0 ∨ g = 9223372036854775808) (hx : x < 9223372036854775808) : g ||| x = g + x := by
  rcases hg with rfl | rfl
  · simp
  · exact (Nat.two_pow_add_eq_or_of_lt (i := 63) (b := x) (by omega) 1).symm
theorem pack_any (g e f : Nat) (hg : g = 0 ∨ g = 9223372036854775808) (he : e ≤ 2046) (hf : f < 18446744073709551616) : (bits .or .u64 (bits .or .u64 (g : Int) ((e : Int) * 4503599627370496)) (bits .and .u64 (f : Int) 4503599627370495)).toNat = g + (e * 4503599627370496 + f % 4503599627370496) := by
  have e1 : (e : Int) * 4503599627370496 = ((e * 4503599627370496 : Nat) : Int) := by omega
  have hm : f % 4503599627370496 < 4503599627370496 := by omega
  rw [and_52 f hf, e1, or64 g _ (by omega) (by omega), or_low g _ hg (by omega)]
  have e2 : (g + e * 4503599627370496) ||| f % 4503599627370496 = g + e * 4503599627370496 + f % 4503599627370496 := by
    have : g + e * 4503599627370496 = 2 ^ 52 * (g / 4503599627370496 + e) := by omega
    rw [this, ← Nat.two_pow_add_eq_or_of_lt (i := 52) (by omega)]
  rw [or64 _ _ (by omega) (by omega), e2]
  omega
theorem pack_false (sN m : Nat) (mi : Int) (hmi : (m : Int) = mi) (h1 : 4503599627370496 ≤ m) (h2 : m < 9007199254740992) (hs : sN + 1 ≤ 2046) :
    (bits .or .u64 (bits .or .u64 0 (((sN : Int) + 1) * 4503599627370496)) (bits .and .u64 mi 4503599627370495)).toNat = sN * 4503599627370496 + m := by
  have := pack_any 0 (sN + 1) m (.inl rfl) hs (by omega)
  rw [← hmi, show ((sN : Int) + 1) = ((sN + 1 : Nat) : Int) by omega]
  refine this.trans ?_
  omega
theorem pack_true (sN m : Nat) (mi : Int) (hmi : (m : Int) = mi) (h1 : 4503599627370496 ≤ m) (h2 : m < 9007199254740992) (hs : sN + 1 ≤ 2046) :
    (bits .or .u64 (bits .or .u64 9223372036854775808 (((sN : Int) + 1) * 4503599627370496)) (bits .and .u64 mi 4503599627370495)).toNat = 9223372036854775808 + (sN * 4503599627370496 + m) := by
  have := pack_any 9223372036854775808 (sN + 1) m (.inr rfl) hs (by omega)
  rw [← hmi, show ((sN : Int) + 1) = ((sN + 1 : Nat) : Int) by omega]
  refine this.trans ?_
  omega
theorem packV_false (sN m : Nat) (h1 : m + 1 = 9007199254740992) (hs : sN + 2 ≤ 2046) :
    (bits .or .u64 (bits .or .u64 0 (((sN : Int) + 1 + 1) * 4503599627370496)) (bits .and .u64 4503599627370496 4503599627370495)).toNat = sN * 4503599627370496 + (m + 1) := by
  have := pack_any 0 (sN + 2) 4503599627370496 (.inl rfl) hs (by omega)
  rw [show ((sN : Int) + 1 + 1) = ((sN + 2 : Nat) : Int) by omega]
  refine this.trans ?_
  omega
theorem packW_false (sN m : Nat) (mi : Int) (hq : mi + 1 = 9007199254740992) (h1 : m + 1 = 9007199254740992) (hs : sN + 2 ≤ 2046) :
    (bits .or .u64 (bits .or .u64 0 (((sN : Int) + 1 + 1) * 4503599627370496)) (bits .and .u64 ((mi + 1) / 2) 4503599627370495)).toNat = sN * 4503599627370496 + (m + 1) := by
  rw [show (mi + 1) / 2 = 4503599627370496 by omega]
  exact packV_false sN m h1 hs
theorem packV_true (sN m : Nat) (h1 : m + 1 = 9007199254740992) (hs : sN + 2 ≤ 2046) :
    (bits .or .u64 (bits .or .u64 9223372036854775808 (((sN : Int) + 1 + 1) * 4503599627370496)) (bits .and .u64 4503599627370496 4503599627370495)).toNat = 9223372036854775808 + (sN * 4503599627370496 + (m + 1)) := by
  have := pack_any 9223372036854775808 (sN + 2) 4503599627370496 (.inr rfl) hs (by omega)
  rw [show ((sN : Int) + 1 + 1) = ((sN + 2 : Nat) : Int) by omega]
  refine this.trans ?_
  omega
theorem packW_true (sN m : Nat) (mi : Int) (hq : mi + 1 = 9007199254740992) (h1 : m + 1 = 9007199254740992) (hs : sN + 2 ≤ 2046) :
    (bits .or .u64 (bits .or .u64 9223372036854775808 (((sN : Int) + 1 + 1) * 4503599627370496)) (bits .and .u64 ((mi + 1) / 2) 4503599627370495)).toNat = 9223372036854775808 + (sN * 4503599627370496 + (m + 1)) := by
  rw [show (mi + 1) / 2 = 4503599627370496 by omega]
  exact packV_true sN m h1 hs
end Go.Proofs.Ythplelglifnhoaa
/-! Exact sums: the walk of Value, of no sign. -/
namespace Go.Proofs.Ythplelglifnhoaa
open Go.RowKit
set_option linter.unusedVariables false
attribute [-simp] Try.isAgg41
attribute [-simp] Try.isAgg43 Try.sizeOf43 Try.typeInfo43 Try.type43
set_option maxHeartbeats 16000000 in
set_option maxRecDepth 100000 in
theorem value_plus (C E D : Array Value) (hC : C.size = 40) (A x34 : Nat) (ng : Bool) (an ot : Bool) (R : Nat) (ov : Bool) (w : World) (hNG : ng = false)
    (c35 : C[35]? = some (.bool false)) (c36 : C[36]? = some (.bool false)) (c37 : C[37]? = some (.bool false)) (c38 : C[38]? = some (.bool an)) (c39 : C[39]? = some (.bool ot))
    (hE : E.size = 35) (hE1 : E.all (·.oneCell') = true) (hfr : ∀ i, i < E.size → C[i]? = E[i]?) (e34 : E[34]? = some (.int .u64 (x34 : Nat))) (hx34 : x34 < 18446744073709551616) (hng : decide (9223372036854775808 ≤ x34) = ng)
    (hD : D.size = 35) (hD1 : D.all (·.oneCell') = true) (hDi : ∀ i, i < 35 → D[i]? = some (.int .u64 (wdn A i : Nat)))
    (hA : ng = false → E = D) (hmin : ng = true → ∀ w, Calls Try.prog 60 #[.agg E] w fun e w' => e = .returned (.agg D) ∧ Below w.heap.size w w')
    (hget : ∀ (s : Nat) w, s < 2240 → Calls Try.prog 64 #[.agg D, .int .i64 s] w fun e w' => e = .returned (.int .u64 ((A / 2 ^ s % 9007199254740992 : Nat) : Int)) ∧ Below w.heap.size w w')
    (hbel : ∀ (s : Nat) w, s < 2240 → Calls Try.prog 65 #[.agg D, .int .i64 s] w fun e w' => e = .returned (.bool (decide (A % 2 ^ s ≠ 0))) ∧ Below w.heap.size w w')
    (htop : topI A 35 = if A = 0 then -1 else (A.log2 : Int)) (hlog : A.log2 < 2240)
    (hcp : ∀ w, Calls Try.prog 62 #[.float .f64 0, .float .f64 13830554455654793216] w fun e w' => e = .returned (.float .f64 9223372036854775808) ∧ w = w')
    (hR0 : A = 0 → R = (if (an && !ot) = true then 9223372036854775808 else 0) ∧ ov = false)
    (hR1 : A ≠ 0 → A < 9007199254740992 → R = (if ng = true then 9223372036854775808 else 0) + A ∧ ov = false)
    (hR2 : 9007199254740992 ≤ A → (2047 * 4503599627370496 ≤ rungOf A → R = (if ng = true then 18442240474082181120 else 9218868437227405312) ∧ ov = true) ∧ (rungOf A < 2047 * 4503599627370496 → R = (if ng = true then 9223372036854775808 else 0) + rungOf A ∧ ov = false)) :
    Calls Try.prog 43 #[.agg C] w fun e w' => e = .returned (.tuple #[.float .f64 R, .bool ov]) ∧ Below w.heap.size w w' := by
  have H8 := Lib.hid size28
  have h35 := at_of (by omega) c35
  have h36 := at_of (by omega) c36
  have h37 := at_of (by omega) c37
  have Hfr := Lib.hid hfr
  have Hc38 := Lib.hid c38
  have Hc39 := Lib.hid c39
  have HE := Lib.hid hE
  have HD := Lib.hid hD
  have HDi := Lib.hid hDi
  have Hget := Lib.hid hget
  have Hbel := Lib.hid hbel
  have Htop := Lib.hid htop
  have Hcp := Lib.hid hcp
  have HR0 := Lib.hid hR0
  have HR1 := Lib.hid hR1
  have HR2 := Lib.hid hR2
  have hsg : ((x34 : Int) / 9223372036854775808 == 1) = ng := by
    rw [← hng, Bool.eq_iff_iff]
    simp only [beq_iff_eq, decide_eq_true_eq]
    omega
  obtain ⟨Y, hY, zy⟩ : ∃ Y : Array Value, Y.size = 35 ∧ ∀ w, (zeroValue 41).run Try.prog w = .ok (.agg Y) w := ⟨_, ws_size _, zero28⟩
  have hd34 := fun (w6 : World) (h : w6.heap[w.heap.size + 1]? = some (.cells E 41 (0, 0))) => (cell_of_row w6 _ 34 _ _ _ h).trans e34
  clear c35 c36 c37 c38 c39 hfr hng hget hbel htop hcp hR0 hR1 hR2 hDi e34 hE
  cases hNG
  have hEA := hA rfl
  subst hEA
  clear hA hmin
  go_enter Try.func43, Try.ntmps43
  go_wp2_with (first
      | (refine at_op (.load 41 (.tmp 32)) ?_ rfl; refine wpList_load_front rfl _ 41 (.tmp 32) rfl w.heap.size rfl C E 43 (0, 0) _ (heap_alloc_new w _) Hfr.out Try.underlying41 rfl (by rw [HE.out]; exact H8.out) ?_)
      | (refine at_op (.alloc 41) ?_ rfl; refine wpList_alloc_row rfl _ 41 rfl (some 4) rfl (w.heap.size + 1) (by simp) Y zy ?_)
      | (refine at_op (.store 41 (.tmp 4) (.tmp 33)) ?_ rfl; refine wpList_store_row rfl 41 (.tmp 4) (.tmp 33) rfl (w.heap.size + 1) E rfl rfl 41 Y (heap_alloc2_new w _ _) (by rw [HE.out]; exact H8.out) (by rw [hY, HE.out]) hE1 ?_; have j0h := Lib.hid ((setRow_other ((w.alloc (.cells C 43)).alloc (.cells Y 41)) (w.heap.size + 1) w.heap.size E (by omega)).trans (heap_alloc2_old w _ _)); have j1h := Lib.hid (setRow_heap _ _ _ E _ _ (heap_alloc2_new w (.cells C 43) (.cells Y 41))); have bb := below_setRow (below_alloc (below_alloc (Below.refl w.heap.size w) (.cells C 43)) (.cells Y 41)) (show w.heap.size ≤ w.heap.size + 1 by omega) E; generalize ((w.alloc (.cells C 43)).alloc (.cells Y 41)).setRow (w.heap.size + 1) E = w6 at *; have hc34 := hd34 w6 j1h.out)
      | (refine at_op0 (.load 41 (.tmp 4)) ?_ rfl rfl; refine wpList_load_row rfl 41 (.tmp 4) rfl (w.heap.size + 1) rfl 41 _ (0, 0) _ j1h.out Try.underlying41 rfl (by first | (rw [HE.out]; exact H8.out) | (rw [HD.out]; exact H8.out)) ?_))
  clear hd34 hsg hx34
  go_loop [6, 41] (fun t i => ∃ k : Nat, k ≤ 35 ∧ i = .int .i64 k ∧ t = .int .i64 (topI A k)) (fun _ i => 35 - (intOf i).toNat)
  case atStart => exact ⟨0, by omega, rfl, by rw [topI_zero]⟩
  case round =>
    obtain ⟨k, hk, rfl, rfl⟩ := hrel
    by_cases hlt : k < 35
    · have hidx := run_index35 E HD.out k hlt _ (HDi.out k hlt)
      have Hsame := Lib.hid (topI_same A k)
      have Hstep := Lib.hid (topI_step A k)
      have hxl := wdn_lt A k
      generalize wdn A k = x at *
      by_cases hx0 : x = 0
      · have hx1 : ((x : Int) != 0) = false := by simp; omega
        go_wp2_with fail
        exact ⟨⟨k + 1, by omega, by go_num, by rw [Hsame.out hx0]⟩, by simp [intOf]; omega⟩
      · have hx1 : ((x : Int) != 0) = true := by simp; omega
        have hbl := Lib.bitLen_le x 64 (Nat.le_refl _) hxl
        go_wp2_with (go_at_call 61; (with_reducible refine (len64_any _ _ (by omega) (by omega)).mono ?_); rintro e w7 ⟨rfl, rfl⟩)
        exact ⟨⟨k + 1, by omega, by go_num, by rw [Hstep.out hx0]⟩, by simp [intOf]; omega⟩
    · obtain rfl : k = 35 := by omega
      have h1 := Htop.out
      rw [h1]
      clear h1 Htop
      by_cases hA0 : A = 0
      · obtain ⟨hR, rfl⟩ := HR0.out hA0
        have hcp := Hcp.out
        have d38 := (cell_of_row w6 _ 38 _ _ _ j0h.out).trans Hc38.out
        have d39 := (cell_of_row w6 _ 39 _ _ _ j0h.out).trans Hc39.out
        rw [if_pos hA0]
        clear HR0 HR1 HR2
        cases an <;> cases ot
        all_goals
          simp at hR
          subst hR
          go_wp2_with (go_at_call 62; (with_reducible refine (hcp _).mono ?_); rintro e w7 ⟨rfl, rfl⟩)
          all_goals first
            | (exfalso; omega)
            | (go_ret2; exact ⟨rfl, bb⟩)
      · rw [if_neg hA0]
        have hA0' := Nat.pos_of_ne_zero hA0
        by_cases hsm : A < 9007199254740992
        · obtain ⟨hR, rfl⟩ := HR1.out hA0 hsm
          have hl52 : (A.log2 : Int) ≤ 52 := by
            have := (Nat.log2_lt hA0 (k := 53)).2 hsm
            omega
          have hl0 : (0 : Int) ≤ (A.log2 : Int) := by omega
          have hw0 : wdn A 0 = A := by unfold wdn; simp; omega
          have d0 := (cell_of_row w6 _ 0 _ _ _ j1h.out).trans (HDi.out 0 (by omega))
          rw [hw0] at d0
          have hf := run_frombits
          have hor0 : bits .or .u64 0 (A : Int) = (A : Int) := by
            have := or64 0 A (by omega) (by omega)
            rw [Nat.zero_or] at this
            exact this
          have hor1 : bits .or .u64 9223372036854775808 (A : Int) = ((9223372036854775808 + A : Nat) : Int) := by
            have := or64 9223372036854775808 A (by omega) (by omega)
            rw [show (9223372036854775808 : Nat) ||| A = 9223372036854775808 + A from (Nat.two_pow_add_eq_or_of_lt (i := 63) (b := A) (by omega) 1).symm] at this
            exact this
          clear HR0 HR1 HR2 hA0 hw0
          generalize A.log2 = L at *
          simp at hR
          subst hR
          go_wp2_with fail
          all_goals first
            | (exfalso; omega)
            | (go_ret2; exact ⟨rfl, bb⟩)
        · have h53 : 9007199254740992 ≤ A := by omega
          have hrr := HR2.out h53
          have hL53 : 53 ≤ A.log2 := (Nat.le_log2 hA0).2 h53
          have hne53 : ¬ A < 9007199254740992 := hsm
          have hrg : rungOf A = (A.log2 - 52) * 4503599627370496 + (A / 2 ^ (A.log2 - 52) + (upB A (A.log2 - 52)).toNat) := by unfold rungOf; rw [if_neg hsm]
          obtain ⟨sN, hsN⟩ : ∃ sN, sN = A.log2 - 52 := ⟨_, rfl⟩
          have hm0 : A / 2 ^ sN < 9007199254740992 ∧ 4503599627370496 ≤ A / 2 ^ sN := by
            have h1 := Nat.log2_self_le hA0
            have h2 : A < 2 ^ (A.log2 + 1) := Nat.lt_log2_self
            have hp := Nat.two_pow_pos sN
            constructor
            · rw [Nat.div_lt_iff_lt_mul hp, show (9007199254740992 : Nat) = 2 ^ 53 from rfl, ← Nat.pow_add, show 53 + sN = A.log2 + 1 by omega]
              exact h2
            · rw [Nat.le_div_iff_mul_le hp, show (4503599627370496 : Nat) = 2 ^ 52 from rfl, ← Nat.pow_add, show 52 + sN = A.log2 by omega]
              exact h1
          rw [← hsN] at hrg
          have g1 := fun w => Hget.out sN w (by omega)
          have g2 := fun w => Hget.out (sN - 1) w (by omega)
          have b1 := fun w => Hbel.out (sN - 1) w (by omega)
          unfold upB at hrg
          rw [Nat.mod_eq_of_lt hm0.1] at g1
          have hsl1 : 1 ≤ sN := by omega
          have hsl2 : sN ≤ 2187 := by omega
          have e1 : (A.log2 : Int) - 52 = (sN : Int) := by omega
          have e2 : (sN : Int) - 1 = ((sN - 1 : Nat) : Int) := by omega
          have hl52 : ¬ (A.log2 : Int) ≤ 52 := by omega
          have hl0 : (0 : Int) ≤ (A.log2 : Int) := by omega
          have a1 : bits .and .u64 ((A / 2 ^ (sN - 1) % 9007199254740992 : Nat) : Int) 1 = ((A / 2 ^ (sN - 1) % 2 : Nat) : Int) := by
            have h3 : A / 2 ^ (sN - 1) % 9007199254740992 < 9007199254740992 := Nat.mod_lt _ (by omega)
            have := and64 (A / 2 ^ (sN - 1) % 9007199254740992) 1 (by omega) (by omega)
            rw [show ((1 : Nat) : Int) = 1 from rfl] at this
            rw [this, Nat.and_one_is_mod]
            congr 1; omega
          have a2 : bits .and .u64 ((A / 2 ^ sN : Nat) : Int) 1 = ((A / 2 ^ sN % 2 : Nat) : Int) := by
            have := and64 (A / 2 ^ sN) 1 (by omega) (by omega)
            rw [show ((1 : Nat) : Int) = 1 from rfl] at this
            rw [this, Nat.and_one_is_mod]
          have hf := run_frombits
          have hip := infP_any
          have him := infM_any
          have Hrr := Lib.hid hrr
          clear HR0 HR1 HR2 hrr hA0 hsN hsm hne53 Hget Hbel
          generalize hld : decide (A % 2 ^ (sN - 1) ≠ 0) = bl at *
          have hmod : A / 2 ^ (sN - 1) % 2 = 0 ∨ A / 2 ^ (sN - 1) % 2 = 1 := by omega
          have hmod2 : A / 2 ^ sN % 2 = 0 ∨ A / 2 ^ sN % 2 = 1 := by omega
          generalize A / 2 ^ (sN - 1) % 2 = hf1 at *
          generalize A / 2 ^ sN % 2 = od at *
          generalize A / 2 ^ (sN - 1) % 9007199254740992 = gv at *
          generalize A / 2 ^ sN = m at *
          generalize rungOf A = rg at *
          generalize A.log2 = L at *
          have Hm0 := Lib.hid hm0
          clear hld hL53 h53 hA0'
          have HrgN := Lib.hid (fun (h : rg = sN * 4503599627370496 + m) => show (2046 < sN + 1 → R = (if false = true then 18442240474082181120 else 9218868437227405312) ∧ ov = true) ∧ (¬ 2046 < sN + 1 → R = (if false = true then 9223372036854775808 else 0) + rg ∧ ov = false) from
            ⟨fun h => Hrr.out.1 (by omega), fun h => Hrr.out.2 (by omega)⟩)
          have HrgU := Lib.hid (fun (h : rg = sN * 4503599627370496 + (m + 1)) (h1 : m + 1 ≠ 9007199254740992) => show (2046 < sN + 1 → R = (if false = true then 18442240474082181120 else 9218868437227405312) ∧ ov = true) ∧ (¬ 2046 < sN + 1 → R = (if false = true then 9223372036854775808 else 0) + rg ∧ ov = false) from
            ⟨fun h => Hrr.out.1 (by omega), fun h => Hrr.out.2 (by omega)⟩)
          have HrgV := Lib.hid (fun (h : rg = sN * 4503599627370496 + (m + 1)) (h1 : m + 1 = 9007199254740992) => show (2046 < sN + 2 → R = (if false = true then 18442240474082181120 else 9218868437227405312) ∧ ov = true) ∧ (¬ 2046 < sN + 2 → R = (if false = true then 9223372036854775808 else 0) + rg ∧ ov = false) from
            ⟨fun h => Hrr.out.1 (by omega), fun h => Hrr.out.2 (by omega)⟩)
          have Hrg := Lib.hid hrg
          obtain ⟨mi, hmi⟩ : ∃ mi : Int, ((m : Nat) : Int) = mi := ⟨_, rfl⟩
          rw [hmi] at g1 a2
          have Hmi := Lib.hid hmi
          have hmb1 : 4503599627370496 ≤ mi := by omega
          have hmb2 : mi ≤ 9007199254740991 := by omega
          clear hm0 hrg Hrr hmi
          rcases hmod with rfl | rfl
          · skip
            have lf := HrgN.out (by rw [Hrg.out]; simp)
            clear HrgN HrgU HrgV
            by_cases hov : 2046 < sN + 1
            · obtain ⟨hR, rfl⟩ := lf.1 hov
              simp at hR
              subst hR
              clear lf
              go_wp2_with (first
                | (refine at_op0 (.load 41 (.tmp 4)) ?_ rfl rfl; refine wpList_load_row rfl 41 (.tmp 4) rfl (w.heap.size + 1) rfl 41 _ (0, 0) _ j1h.out Try.underlying41 rfl (by rw [HD.out]; exact H8.out) ?_)
                | (refine at_opG (.load 41 (.tmp 4)) (some (6, false)) ?_ rfl rfl; refine wpList_load_rowG rfl 41 (.tmp 4) rfl (w.heap.size + 1) rfl 41 _ (0, 0) _ j1h.out Try.underlying41 rfl (by rw [HD.out]; exact H8.out) ?_)
                | (go_at_call 64; (first | (with_reducible refine (g1 _).mono ?_) | (with_reducible refine (g2 _).mono ?_)); rintro e w8 ⟨rfl, b8⟩; have j1h := Lib.hid ((b8.block _ (heap_lt j1h.out)).trans j1h.out); have bb := below_trans bb b8; clear b8)
                | (go_at_call 65; (with_reducible refine (b1 _).mono ?_); rintro e w8 ⟨rfl, b8⟩; have j1h := Lib.hid ((b8.block _ (heap_lt j1h.out)).trans j1h.out); have bb := below_trans bb b8; clear b8)
                | (go_at_call 59; (first | (with_reducible refine (hip _ _ (by omega)).mono ?_) | (with_reducible refine (him _ _ (by omega)).mono ?_)); rintro e w9 ⟨rfl, rfl⟩))
              all_goals first
                | (exfalso; omega)
                | (go_ret2; exact ⟨rfl, bb⟩)
            · obtain ⟨hR, rfl⟩ := lf.2 hov
              have HR := Lib.hid hR
              clear lf hR
              go_wp2_with (first
                | (refine at_op0 (.load 41 (.tmp 4)) ?_ rfl rfl; refine wpList_load_row rfl 41 (.tmp 4) rfl (w.heap.size + 1) rfl 41 _ (0, 0) _ j1h.out Try.underlying41 rfl (by rw [HD.out]; exact H8.out) ?_)
                | (refine at_opG (.load 41 (.tmp 4)) (some (6, false)) ?_ rfl rfl; refine wpList_load_rowG rfl 41 (.tmp 4) rfl (w.heap.size + 1) rfl 41 _ (0, 0) _ j1h.out Try.underlying41 rfl (by rw [HD.out]; exact H8.out) ?_)
                | (go_at_call 64; (first | (with_reducible refine (g1 _).mono ?_) | (with_reducible refine (g2 _).mono ?_)); rintro e w8 ⟨rfl, b8⟩; have j1h := Lib.hid ((b8.block _ (heap_lt j1h.out)).trans j1h.out); have bb := below_trans bb b8; clear b8)
                | (go_at_call 65; (with_reducible refine (b1 _).mono ?_); rintro e w8 ⟨rfl, b8⟩; have j1h := Lib.hid ((b8.block _ (heap_lt j1h.out)).trans j1h.out); have bb := below_trans bb b8; clear b8)
                | (go_at_call 59; (first | (with_reducible refine (hip _ _ (by omega)).mono ?_) | (with_reducible refine (him _ _ (by omega)).mono ?_)); rintro e w9 ⟨rfl, rfl⟩))
              all_goals first
                | (exfalso; omega)
                | (go_ret2; refine ⟨congrArg (fun r => Ending.returned (.tuple #[.float .f64 r, .bool false])) ?_, bb⟩; rw [HR.out, Hrg.out]; exact (pack_false sN m mi Hmi.out Hm0.out.2 Hm0.out.1 (by omega)).trans (by simp))
          · rcases hmod2 with rfl | rfl
            · cases bl
              · skip
                have lf := HrgN.out (by rw [Hrg.out]; simp)
                clear HrgN HrgU HrgV
                by_cases hov : 2046 < sN + 1
                · obtain ⟨hR, rfl⟩ := lf.1 hov
                  simp at hR
                  subst hR
                  clear lf
                  go_wp2_with (first
                | (refine at_op0 (.load 41 (.tmp 4)) ?_ rfl rfl; refine wpList_load_row rfl 41 (.tmp 4) rfl (w.heap.size + 1) rfl 41 _ (0, 0) _ j1h.out Try.underlying41 rfl (by rw [HD.out]; exact H8.out) ?_)
                | (refine at_opG (.load 41 (.tmp 4)) (some (6, false)) ?_ rfl rfl; refine wpList_load_rowG rfl 41 (.tmp 4) rfl (w.heap.size + 1) rfl 41 _ (0, 0) _ j1h.out Try.underlying41 rfl (by rw [HD.out]; exact H8.out) ?_)
                | (go_at_call 64; (first | (with_reducible refine (g1 _).mono ?_) | (with_reducible refine (g2 _).mono ?_)); rintro e w8 ⟨rfl, b8⟩; have j1h := Lib.hid ((b8.block _ (heap_lt j1h.out)).trans j1h.out); have bb := below_trans bb b8; clear b8)
                | (go_at_call 65; (with_reducible refine (b1 _).mono ?_); rintro e w8 ⟨rfl, b8⟩; have j1h := Lib.hid ((b8.block _ (heap_lt j1h.out)).trans j1h.out); have bb := below_trans bb b8; clear b8)
                | (go_at_call 59; (first | (with_reducible refine (hip _ _ (by omega)).mono ?_) | (with_reducible refine (him _ _ (by omega)).mono ?_)); rintro e w9 ⟨rfl, rfl⟩))
                  all_goals first
                    | (exfalso; omega)
                    | (go_ret2; exact ⟨rfl, bb⟩)
                · obtain ⟨hR, rfl⟩ := lf.2 hov
                  have HR := Lib.hid hR
                  clear lf hR
                  go_wp2_with (first
                | (refine at_op0 (.load 41 (.tmp 4)) ?_ rfl rfl; refine wpList_load_row rfl 41 (.tmp 4) rfl (w.heap.size + 1) rfl 41 _ (0, 0) _ j1h.out Try.underlying41 rfl (by rw [HD.out]; exact H8.out) ?_)
                | (refine at_opG (.load 41 (.tmp 4)) (some (6, false)) ?_ rfl rfl; refine wpList_load_rowG rfl 41 (.tmp 4) rfl (w.heap.size + 1) rfl 41 _ (0, 0) _ j1h.out Try.underlying41 rfl (by rw [HD.out]; exact H8.out) ?_)
                | (go_at_call 64; (first | (with_reducible refine (g1 _).mono ?_) | (with_reducible refine (g2 _).mono ?_)); rintro e w8 ⟨rfl, b8⟩; have j1h := Lib.hid ((b8.block _ (heap_lt j1h.out)).trans j1h.out); have bb := below_trans bb b8; clear b8)
                | (go_at_call 65; (with_reducible refine (b1 _).mono ?_); rintro e w8 ⟨rfl, b8⟩; have j1h := Lib.hid ((b8.block _ (heap_lt j1h.out)).trans j1h.out); have bb := below_trans bb b8; clear b8)
                | (go_at_call 59; (first | (with_reducible refine (hip _ _ (by omega)).mono ?_) | (with_reducible refine (him _ _ (by omega)).mono ?_)); rintro e w9 ⟨rfl, rfl⟩))
                  all_goals first
                    | (exfalso; omega)
                    | (go_ret2; refine ⟨congrArg (fun r => Ending.returned (.tuple #[.float .f64 r, .bool false])) ?_, bb⟩; rw [HR.out, Hrg.out]; exact (pack_false sN m mi Hmi.out Hm0.out.2 Hm0.out.1 (by omega)).trans (by simp))
              · skip
                have hsum := Hrg.out
                simp at hsum
                have Hsum := Lib.hid hsum
                clear hsum
                go_wp2_with (first
                | (refine at_op0 (.load 41 (.tmp 4)) ?_ rfl rfl; refine wpList_load_row rfl 41 (.tmp 4) rfl (w.heap.size + 1) rfl 41 _ (0, 0) _ j1h.out Try.underlying41 rfl (by rw [HD.out]; exact H8.out) ?_)
                | (refine at_opG (.load 41 (.tmp 4)) (some (6, false)) ?_ rfl rfl; refine wpList_load_rowG rfl 41 (.tmp 4) rfl (w.heap.size + 1) rfl 41 _ (0, 0) _ j1h.out Try.underlying41 rfl (by rw [HD.out]; exact H8.out) ?_)
                | (go_at_call 64; (first | (with_reducible refine (g1 _).mono ?_) | (with_reducible refine (g2 _).mono ?_)); rintro e w8 ⟨rfl, b8⟩; have j1h := Lib.hid ((b8.block _ (heap_lt j1h.out)).trans j1h.out); have bb := below_trans bb b8; clear b8)
                | (go_at_call 65; (with_reducible refine (b1 _).mono ?_); rintro e w8 ⟨rfl, b8⟩; have j1h := Lib.hid ((b8.block _ (heap_lt j1h.out)).trans j1h.out); have bb := below_trans bb b8; clear b8)
                | (go_at_call 59; (first | (with_reducible refine (hip _ _ (by omega)).mono ?_) | (with_reducible refine (him _ _ (by omega)).mono ?_)); rintro e w9 ⟨rfl, rfl⟩))
                all_goals first
                  | (exfalso; omega)
                  | (have hq : mi + 1 = 9007199254740992 := by simpa using ‹(mi + 1 == 9007199254740992) = true›
                     have hm1 : m + 1 = 9007199254740992 := by have := Hmi.out; omega
                     have lf := HrgV.out Hsum.out hm1
                     first
                       | (obtain ⟨hR, rfl⟩ := lf.1 (by omega); simp at hR; subst hR; go_ret2; exact ⟨rfl, bb⟩)
                       | (obtain ⟨hR, rfl⟩ := lf.2 (by omega); go_ret2; refine ⟨congrArg (fun r => Ending.returned (.tuple #[.float .f64 r, .bool false])) ?_, bb⟩; rw [hR, Hsum.out]; exact (packW_false sN m mi hq hm1 (by omega)).trans (by simp)))
                  | (have hq : mi + 1 ≠ 9007199254740992 := by simpa using ‹(mi + 1 == 9007199254740992) = false›
                     have hm1 : m + 1 ≠ 9007199254740992 := by have := Hmi.out; omega
                     have lf := HrgU.out Hsum.out hm1
                     have hm2 := Hm0.out
                     have hm3 := Hmi.out
                     first
                       | (obtain ⟨hR, rfl⟩ := lf.1 (by omega); simp at hR; subst hR; go_ret2; exact ⟨rfl, bb⟩)
                       | (obtain ⟨hR, rfl⟩ := lf.2 (by omega); go_ret2; refine ⟨congrArg (fun r => Ending.returned (.tuple #[.float .f64 r, .bool false])) ?_, bb⟩; rw [hR, Hsum.out]; exact (pack_false sN (m + 1) (mi + 1) (by omega) (by omega) (by omega) (by omega)).trans (by simp)))
            · skip
              have hsum := Hrg.out
              simp at hsum
              have Hsum := Lib.hid hsum
              clear hsum
              go_wp2_with (first
                | (refine at_op0 (.load 41 (.tmp 4)) ?_ rfl rfl; refine wpList_load_row rfl 41 (.tmp 4) rfl (w.heap.size + 1) rfl 41 _ (0, 0) _ j1h.out Try.underlying41 rfl (by rw [HD.out]; exact H8.out) ?_)
                | (refine at_opG (.load 41 (.tmp 4)) (some (6, false)) ?_ rfl rfl; refine wpList_load_rowG rfl 41 (.tmp 4) rfl (w.heap.size + 1) rfl 41 _ (0, 0) _ j1h.out Try.underlying41 rfl (by rw [HD.out]; exact H8.out) ?_)
                | (go_at_call 64; (first | (with_reducible refine (g1 _).mono ?_) | (with_reducible refine (g2 _).mono ?_)); rintro e w8 ⟨rfl, b8⟩; have j1h := Lib.hid ((b8.block _ (heap_lt j1h.out)).trans j1h.out); have bb := below_trans bb b8; clear b8)
                | (go_at_call 65; (with_reducible refine (b1 _).mono ?_); rintro e w8 ⟨rfl, b8⟩; have j1h := Lib.hid ((b8.block _ (heap_lt j1h.out)).trans j1h.out); have bb := below_trans bb b8; clear b8)
                | (go_at_call 59; (first | (with_reducible refine (hip _ _ (by omega)).mono ?_) | (with_reducible refine (him _ _ (by omega)).mono ?_)); rintro e w9 ⟨rfl, rfl⟩))
              all_goals first
                | (exfalso; omega)
                | (have hq : mi + 1 = 9007199254740992 := by simpa using ‹(mi + 1 == 9007199254740992) = true›
                   have hm1 : m + 1 = 9007199254740992 := by have := Hmi.out; omega
                   have lf := HrgV.out Hsum.out hm1
                   first
                     | (obtain ⟨hR, rfl⟩ := lf.1 (by omega); simp at hR; subst hR; go_ret2; exact ⟨rfl, bb⟩)
                     | (obtain ⟨hR, rfl⟩ := lf.2 (by omega); go_ret2; refine ⟨congrArg (fun r => Ending.returned (.tuple #[.float .f64 r, .bool false])) ?_, bb⟩; rw [hR, Hsum.out]; exact (packW_false sN m mi hq hm1 (by omega)).trans (by simp)))
                | (have hq : mi + 1 ≠ 9007199254740992 := by simpa using ‹(mi + 1 == 9007199254740992) = false›
                   have hm1 : m + 1 ≠ 9007199254740992 := by have := Hmi.out; omega
                   have lf := HrgU.out Hsum.out hm1
                   have hm2 := Hm0.out
                   have hm3 := Hmi.out
                   first
                     | (obtain ⟨hR, rfl⟩ := lf.1 (by omega); simp at hR; subst hR; go_ret2; exact ⟨rfl, bb⟩)
                     | (obtain ⟨hR, rfl⟩ := lf.2 (by omega); go_ret2; refine ⟨congrArg (fun r => Ending.returned (.tuple #[.float .f64 r, .bool false])) ?_, bb⟩; rw [hR, Hsum.out]; exact (pack_false sN (m + 1) (mi + 1) (by omega) (by omega) (by omega) (by omega)).trans (by simp)))
end Go.Proofs.Ythplelglifnhoaa
/-! Exact sums: the walk of Value, with a sign. -/
namespace Go.Proofs.Ythplelglifnhoaa
open Go.RowKit
set_option linter.unusedVariables false
attribute [-simp] Try.isAgg41
attribute [-simp] Try.isAgg43 Try.sizeOf43 Try.typeInfo43 Try.type43
set_option maxHeartbeats 16000000 in
set_option maxRecDepth 100000 in
theorem value_minus (C E D : Array Value) (hC : C.size = 40) (A x34 : Nat) (ng : Bool) (an ot : Bool) (R : Nat) (ov : Bool) (w : World) (hNG : ng = true)
    (c35 : C[35]? = some (.bool false)) (c36 : C[36]? = some (.bool false)) (c37 : C[37]? = some (.bool false)) (c38 : C[38]? = some (.bool an)) (c39 : C[39]? = some (.bool ot))
    (hE : E.size = 35) (hE1 : E.all (·.oneCell') = true) (hfr : ∀ i, i < E.size → C[i]? = E[i]?) (e34 : E[34]? = some (.int .u64 (x34 : Nat))) (hx34 : x34 < 18446744073709551616) (hng : decide (9223372036854775808 ≤ x34) = ng)
    (hD : D.size = 35) (hD1 : D.all (·.oneCell') = true) (hDi : ∀ i, i < 35 → D[i]? = some (.int .u64 (wdn A i : Nat)))
    (hA : ng = false → E = D) (hmin : ng = true → ∀ w, Calls Try.prog 60 #[.agg E] w fun e w' => e = .returned (.agg D) ∧ Below w.heap.size w w')
    (hget : ∀ (s : Nat) w, s < 2240 → Calls Try.prog 64 #[.agg D, .int .i64 s] w fun e w' => e = .returned (.int .u64 ((A / 2 ^ s % 9007199254740992 : Nat) : Int)) ∧ Below w.heap.size w w')
    (hbel : ∀ (s : Nat) w, s < 2240 → Calls Try.prog 65 #[.agg D, .int .i64 s] w fun e w' => e = .returned (.bool (decide (A % 2 ^ s ≠ 0))) ∧ Below w.heap.size w w')
    (htop : topI A 35 = if A = 0 then -1 else (A.log2 : Int)) (hlog : A.log2 < 2240)
    (hcp : ∀ w, Calls Try.prog 62 #[.float .f64 0, .float .f64 13830554455654793216] w fun e w' => e = .returned (.float .f64 9223372036854775808) ∧ w = w')
    (hR0 : A = 0 → R = (if (an && !ot) = true then 9223372036854775808 else 0) ∧ ov = false)
    (hR1 : A ≠ 0 → A < 9007199254740992 → R = (if ng = true then 9223372036854775808 else 0) + A ∧ ov = false)
    (hR2 : 9007199254740992 ≤ A → (2047 * 4503599627370496 ≤ rungOf A → R = (if ng = true then 18442240474082181120 else 9218868437227405312) ∧ ov = true) ∧ (rungOf A < 2047 * 4503599627370496 → R = (if ng = true then 9223372036854775808 else 0) + rungOf A ∧ ov = false)) :
    Calls Try.prog 43 #[.agg C] w fun e w' => e = .returned (.tuple #[.float .f64 R, .bool ov]) ∧ Below w.heap.size w w' := by
  have H8 := Lib.hid size28
  have h35 := at_of (by omega) c35
  have h36 := at_of (by omega) c36
  have h37 := at_of (by omega) c37
  have Hfr := Lib.hid hfr
  have Hc38 := Lib.hid c38
  have Hc39 := Lib.hid c39
  have HE := Lib.hid hE
  have HD := Lib.hid hD
  have HDi := Lib.hid hDi
  have Hget := Lib.hid hget
  have Hbel := Lib.hid hbel
  have Htop := Lib.hid htop
  have Hcp := Lib.hid hcp
  have HR0 := Lib.hid hR0
  have HR1 := Lib.hid hR1
  have HR2 := Lib.hid hR2
  have hsg : ((x34 : Int) / 9223372036854775808 == 1) = ng := by
    rw [← hng, Bool.eq_iff_iff]
    simp only [beq_iff_eq, decide_eq_true_eq]
    omega
  obtain ⟨Y, hY, zy⟩ : ∃ Y : Array Value, Y.size = 35 ∧ ∀ w, (zeroValue 41).run Try.prog w = .ok (.agg Y) w := ⟨_, ws_size _, zero28⟩
  have hd34 := fun (w6 : World) (h : w6.heap[w.heap.size + 1]? = some (.cells E 41 (0, 0))) => (cell_of_row w6 _ 34 _ _ _ h).trans e34
  clear c35 c36 c37 c38 c39 hfr hng hget hbel htop hcp hR0 hR1 hR2 hDi e34 hE
  cases hNG
  have hmin := hmin rfl
  clear hA
  go_enter Try.func43, Try.ntmps43
  go_wp2_with (first
      | (refine at_op (.load 41 (.tmp 32)) ?_ rfl; refine wpList_load_front rfl _ 41 (.tmp 32) rfl w.heap.size rfl C E 43 (0, 0) _ (heap_alloc_new w _) Hfr.out Try.underlying41 rfl (by rw [HE.out]; exact H8.out) ?_)
      | (refine at_op (.alloc 41) ?_ rfl; refine wpList_alloc_row rfl _ 41 rfl (some 4) rfl (w.heap.size + 1) (by simp) Y zy ?_)
      | (refine at_op (.store 41 (.tmp 4) (.tmp 33)) ?_ rfl; refine wpList_store_row rfl 41 (.tmp 4) (.tmp 33) rfl (w.heap.size + 1) E rfl rfl 41 Y (heap_alloc2_new w _ _) (by rw [HE.out]; exact H8.out) (by rw [hY, HE.out]) hE1 ?_; have j0h := Lib.hid ((setRow_other ((w.alloc (.cells C 43)).alloc (.cells Y 41)) (w.heap.size + 1) w.heap.size E (by omega)).trans (heap_alloc2_old w _ _)); have j1h := Lib.hid (setRow_heap _ _ _ E _ _ (heap_alloc2_new w (.cells C 43) (.cells Y 41))); have bb := below_setRow (below_alloc (below_alloc (Below.refl w.heap.size w) (.cells C 43)) (.cells Y 41)) (show w.heap.size ≤ w.heap.size + 1 by omega) E; generalize ((w.alloc (.cells C 43)).alloc (.cells Y 41)).setRow (w.heap.size + 1) E = w6 at *; have hc34 := hd34 w6 j1h.out)
      | (go_at_call 60; (with_reducible refine (hmin _).mono ?_); rintro e w7 ⟨rfl, b7⟩; have k0h := Lib.hid ((b7.block _ (heap_lt j0h.out)).trans j0h.out); have k1h := Lib.hid ((b7.block _ (heap_lt j1h.out)).trans j1h.out); have bb7 := below_trans bb b7; clear j0h j1h bb b7 hc34)
      | (refine at_op (.store 41 (.tmp 4) (.tmp 39)) ?_ rfl; refine wpList_store_row rfl 41 (.tmp 4) (.tmp 39) rfl (w.heap.size + 1) D rfl rfl 41 E k1h.out (by rw [HD.out]; exact H8.out) (by rw [HE.out, HD.out]) hD1 ?_; have j0h := Lib.hid ((setRow_other w7 (w.heap.size + 1) w.heap.size D (by omega)).trans k0h.out); have j1h := Lib.hid (setRow_heap _ _ _ D _ _ k1h.out); have bb := below_setRow bb7 (show w.heap.size ≤ w.heap.size + 1 by omega) D; generalize w7.setRow (w.heap.size + 1) D = w6 at *)
      | (refine at_op0 (.load 41 (.tmp 4)) ?_ rfl rfl; refine wpList_load_row rfl 41 (.tmp 4) rfl (w.heap.size + 1) rfl 41 _ (0, 0) _ j1h.out Try.underlying41 rfl (by first | (rw [HE.out]; exact H8.out) | (rw [HD.out]; exact H8.out)) ?_))
  clear hd34 hsg hx34
  go_loop [6, 41] (fun t i => ∃ k : Nat, k ≤ 35 ∧ i = .int .i64 k ∧ t = .int .i64 (topI A k)) (fun _ i => 35 - (intOf i).toNat)
  case atStart => exact ⟨0, by omega, rfl, by rw [topI_zero]⟩
  case round =>
    obtain ⟨k, hk, rfl, rfl⟩ := hrel
    by_cases hlt : k < 35
    · have hidx := run_index35 D HD.out k hlt _ (HDi.out k hlt)
      have Hsame := Lib.hid (topI_same A k)
      have Hstep := Lib.hid (topI_step A k)
      have hxl := wdn_lt A k
      generalize wdn A k = x at *
      by_cases hx0 : x = 0
      · have hx1 : ((x : Int) != 0) = false := by simp; omega
        go_wp2_with fail
        exact ⟨⟨k + 1, by omega, by go_num, by rw [Hsame.out hx0]⟩, by simp [intOf]; omega⟩
      · have hx1 : ((x : Int) != 0) = true := by simp; omega
        have hbl := Lib.bitLen_le x 64 (Nat.le_refl _) hxl
        go_wp2_with (go_at_call 61; (with_reducible refine (len64_any _ _ (by omega) (by omega)).mono ?_); rintro e w7 ⟨rfl, rfl⟩)
        exact ⟨⟨k + 1, by omega, by go_num, by rw [Hstep.out hx0]⟩, by simp [intOf]; omega⟩
    · obtain rfl : k = 35 := by omega
      have h1 := Htop.out
      rw [h1]
      clear h1 Htop
      by_cases hA0 : A = 0
      · obtain ⟨hR, rfl⟩ := HR0.out hA0
        have hcp := Hcp.out
        have d38 := (cell_of_row w6 _ 38 _ _ _ j0h.out).trans Hc38.out
        have d39 := (cell_of_row w6 _ 39 _ _ _ j0h.out).trans Hc39.out
        rw [if_pos hA0]
        clear HR0 HR1 HR2
        cases an <;> cases ot
        all_goals
          simp at hR
          subst hR
          go_wp2_with (go_at_call 62; (with_reducible refine (hcp _).mono ?_); rintro e w7 ⟨rfl, rfl⟩)
          all_goals first
            | (exfalso; omega)
            | (go_ret2; exact ⟨rfl, bb⟩)
      · rw [if_neg hA0]
        have hA0' := Nat.pos_of_ne_zero hA0
        by_cases hsm : A < 9007199254740992
        · obtain ⟨hR, rfl⟩ := HR1.out hA0 hsm
          have hl52 : (A.log2 : Int) ≤ 52 := by
            have := (Nat.log2_lt hA0 (k := 53)).2 hsm
            omega
          have hl0 : (0 : Int) ≤ (A.log2 : Int) := by omega
          have hw0 : wdn A 0 = A := by unfold wdn; simp; omega
          have d0 := (cell_of_row w6 _ 0 _ _ _ j1h.out).trans (HDi.out 0 (by omega))
          rw [hw0] at d0
          have hf := run_frombits
          have hor0 : bits .or .u64 0 (A : Int) = (A : Int) := by
            have := or64 0 A (by omega) (by omega)
            rw [Nat.zero_or] at this
            exact this
          have hor1 : bits .or .u64 9223372036854775808 (A : Int) = ((9223372036854775808 + A : Nat) : Int) := by
            have := or64 9223372036854775808 A (by omega) (by omega)
            rw [show (9223372036854775808 : Nat) ||| A = 9223372036854775808 + A from (Nat.two_pow_add_eq_or_of_lt (i := 63) (b := A) (by omega) 1).symm] at this
            exact this
          clear HR0 HR1 HR2 hA0 hw0
          generalize A.log2 = L at *
          simp at hR
          subst hR
          go_wp2_with fail
          all_goals first
            | (exfalso; omega)
            | (go_ret2; exact ⟨rfl, bb⟩)
        · have h53 : 9007199254740992 ≤ A := by omega
          have hrr := HR2.out h53
          have hL53 : 53 ≤ A.log2 := (Nat.le_log2 hA0).2 h53
          have hne53 : ¬ A < 9007199254740992 := hsm
          have hrg : rungOf A = (A.log2 - 52) * 4503599627370496 + (A / 2 ^ (A.log2 - 52) + (upB A (A.log2 - 52)).toNat) := by unfold rungOf; rw [if_neg hsm]
          obtain ⟨sN, hsN⟩ : ∃ sN, sN = A.log2 - 52 := ⟨_, rfl⟩
          have hm0 : A / 2 ^ sN < 9007199254740992 ∧ 4503599627370496 ≤ A / 2 ^ sN := by
            have h1 := Nat.log2_self_le hA0
            have h2 : A < 2 ^ (A.log2 + 1) := Nat.lt_log2_self
            have hp := Nat.two_pow_pos sN
            constructor
            · rw [Nat.div_lt_iff_lt_mul hp, show (9007199254740992 : Nat) = 2 ^ 53 from rfl, ← Nat.pow_add, show 53 + sN = A.log2 + 1 by omega]
              exact h2
            · rw [Nat.le_div_iff_mul_le hp, show (4503599627370496 : Nat) = 2 ^ 52 from rfl, ← Nat.pow_add, show 52 + sN = A.log2 by omega]
              exact h1
          rw [← hsN] at hrg
          have g1 := fun w => Hget.out sN w (by omega)
          have g2 := fun w => Hget.out (sN - 1) w (by omega)
          have b1 := fun w => Hbel.out (sN - 1) w (by omega)
          unfold upB at hrg
          rw [Nat.mod_eq_of_lt hm0.1] at g1
          have hsl1 : 1 ≤ sN := by omega
          have hsl2 : sN ≤ 2187 := by omega
          have e1 : (A.log2 : Int) - 52 = (sN : Int) := by omega
          have e2 : (sN : Int) - 1 = ((sN - 1 : Nat) : Int) := by omega
          have hl52 : ¬ (A.log2 : Int) ≤ 52 := by omega
          have hl0 : (0 : Int) ≤ (A.log2 : Int) := by omega
          have a1 : bits .and .u64 ((A / 2 ^ (sN - 1) % 9007199254740992 : Nat) : Int) 1 = ((A / 2 ^ (sN - 1) % 2 : Nat) : Int) := by
            have h3 : A / 2 ^ (sN - 1) % 9007199254740992 < 9007199254740992 := Nat.mod_lt _ (by omega)
            have := and64 (A / 2 ^ (sN - 1) % 9007199254740992) 1 (by omega) (by omega)
            rw [show ((1 : Nat) : Int) = 1 from rfl] at this
            rw [this, Nat.and_one_is_mod]
            congr 1; omega
          have a2 : bits .and .u64 ((A / 2 ^ sN : Nat) : Int) 1 = ((A / 2 ^ sN % 2 : Nat) : Int) := by
            have := and64 (A / 2 ^ sN) 1 (by omega) (by omega)
            rw [show ((1 : Nat) : Int) = 1 from rfl] at this
            rw [this, Nat.and_one_is_mod]
          have hf := run_frombits
          have hip := infP_any
          have him := infM_any
          have Hrr := Lib.hid hrr
          clear HR0 HR1 HR2 hrr hA0 hsN hsm hne53 Hget Hbel
          generalize hld : decide (A % 2 ^ (sN - 1) ≠ 0) = bl at *
          have hmod : A / 2 ^ (sN - 1) % 2 = 0 ∨ A / 2 ^ (sN - 1) % 2 = 1 := by omega
          have hmod2 : A / 2 ^ sN % 2 = 0 ∨ A / 2 ^ sN % 2 = 1 := by omega
          generalize A / 2 ^ (sN - 1) % 2 = hf1 at *
          generalize A / 2 ^ sN % 2 = od at *
          generalize A / 2 ^ (sN - 1) % 9007199254740992 = gv at *
          generalize A / 2 ^ sN = m at *
          generalize rungOf A = rg at *
          generalize A.log2 = L at *
          have Hm0 := Lib.hid hm0
          clear hld hL53 h53 hA0'
          have HrgN := Lib.hid (fun (h : rg = sN * 4503599627370496 + m) => show (2046 < sN + 1 → R = (if true = true then 18442240474082181120 else 9218868437227405312) ∧ ov = true) ∧ (¬ 2046 < sN + 1 → R = (if true = true then 9223372036854775808 else 0) + rg ∧ ov = false) from
            ⟨fun h => Hrr.out.1 (by omega), fun h => Hrr.out.2 (by omega)⟩)
          have HrgU := Lib.hid (fun (h : rg = sN * 4503599627370496 + (m + 1)) (h1 : m + 1 ≠ 9007199254740992) => show (2046 < sN + 1 → R = (if true = true then 18442240474082181120 else 9218868437227405312) ∧ ov = true) ∧ (¬ 2046 < sN + 1 → R = (if true = true then 9223372036854775808 else 0) + rg ∧ ov = false) from
            ⟨fun h => Hrr.out.1 (by omega), fun h => Hrr.out.2 (by omega)⟩)
          have HrgV := Lib.hid (fun (h : rg = sN * 4503599627370496 + (m + 1)) (h1 : m + 1 = 9007199254740992) => show (2046 < sN + 2 → R = (if true = true then 18442240474082181120 else 9218868437227405312) ∧ ov = true) ∧ (¬ 2046 < sN + 2 → R = (if true = true then 9223372036854775808 else 0) + rg ∧ ov = false) from
            ⟨fun h => Hrr.out.1 (by omega), fun h => Hrr.out.2 (by omega)⟩)
          have Hrg := Lib.hid hrg
          obtain ⟨mi, hmi⟩ : ∃ mi : Int, ((m : Nat) : Int) = mi := ⟨_, rfl⟩
          rw [hmi] at g1 a2
          have Hmi := Lib.hid hmi
          have hmb1 : 4503599627370496 ≤ mi := by omega
          have hmb2 : mi ≤ 9007199254740991 := by omega
          clear hm0 hrg Hrr hmi
          rcases hmod with rfl | rfl
          · skip
            have lf := HrgN.out (by rw [Hrg.out]; simp)
            clear HrgN HrgU HrgV
            by_cases hov : 2046 < sN + 1
            · obtain ⟨hR, rfl⟩ := lf.1 hov
              simp at hR
              subst hR
              clear lf
              go_wp2_with (first
                | (refine at_op0 (.load 41 (.tmp 4)) ?_ rfl rfl; refine wpList_load_row rfl 41 (.tmp 4) rfl (w.heap.size + 1) rfl 41 _ (0, 0) _ j1h.out Try.underlying41 rfl (by rw [HD.out]; exact H8.out) ?_)
                | (refine at_opG (.load 41 (.tmp 4)) (some (6, false)) ?_ rfl rfl; refine wpList_load_rowG rfl 41 (.tmp 4) rfl (w.heap.size + 1) rfl 41 _ (0, 0) _ j1h.out Try.underlying41 rfl (by rw [HD.out]; exact H8.out) ?_)
                | (go_at_call 64; (first | (with_reducible refine (g1 _).mono ?_) | (with_reducible refine (g2 _).mono ?_)); rintro e w8 ⟨rfl, b8⟩; have j1h := Lib.hid ((b8.block _ (heap_lt j1h.out)).trans j1h.out); have bb := below_trans bb b8; clear b8)
                | (go_at_call 65; (with_reducible refine (b1 _).mono ?_); rintro e w8 ⟨rfl, b8⟩; have j1h := Lib.hid ((b8.block _ (heap_lt j1h.out)).trans j1h.out); have bb := below_trans bb b8; clear b8)
                | (go_at_call 59; (first | (with_reducible refine (hip _ _ (by omega)).mono ?_) | (with_reducible refine (him _ _ (by omega)).mono ?_)); rintro e w9 ⟨rfl, rfl⟩))
              all_goals first
                | (exfalso; omega)
                | (go_ret2; exact ⟨rfl, bb⟩)
            · obtain ⟨hR, rfl⟩ := lf.2 hov
              have HR := Lib.hid hR
              clear lf hR
              go_wp2_with (first
                | (refine at_op0 (.load 41 (.tmp 4)) ?_ rfl rfl; refine wpList_load_row rfl 41 (.tmp 4) rfl (w.heap.size + 1) rfl 41 _ (0, 0) _ j1h.out Try.underlying41 rfl (by rw [HD.out]; exact H8.out) ?_)
                | (refine at_opG (.load 41 (.tmp 4)) (some (6, false)) ?_ rfl rfl; refine wpList_load_rowG rfl 41 (.tmp 4) rfl (w.heap.size + 1) rfl 41 _ (0, 0) _ j1h.out Try.underlying41 rfl (by rw [HD.out]; exact H8.out) ?_)
                | (go_at_call 64; (first | (with_reducible refine (g1 _).mono ?_) | (with_reducible refine (g2 _).mono ?_)); rintro e w8 ⟨rfl, b8⟩; have j1h := Lib.hid ((b8.block _ (heap_lt j1h.out)).trans j1h.out); have bb := below_trans bb b8; clear b8)
                | (go_at_call 65; (with_reducible refine (b1 _).mono ?_); rintro e w8 ⟨rfl, b8⟩; have j1h := Lib.hid ((b8.block _ (heap_lt j1h.out)).trans j1h.out); have bb := below_trans bb b8; clear b8)
                | (go_at_call 59; (first | (with_reducible refine (hip _ _ (by omega)).mono ?_) | (with_reducible refine (him _ _ (by omega)).mono ?_)); rintro e w9 ⟨rfl, rfl⟩))
              all_goals first
                | (exfalso; omega)
                | (go_ret2; refine ⟨congrArg (fun r => Ending.returned (.tuple #[.float .f64 r, .bool false])) ?_, bb⟩; rw [HR.out, Hrg.out]; exact (pack_true sN m mi Hmi.out Hm0.out.2 Hm0.out.1 (by omega)).trans (by simp))
          · rcases hmod2 with rfl | rfl
            · cases bl
              · skip
                have lf := HrgN.out (by rw [Hrg.out]; simp)
                clear HrgN HrgU HrgV
                by_cases hov : 2046 < sN + 1
                · obtain ⟨hR, rfl⟩ := lf.1 hov
                  simp at hR
                  subst hR
                  clear lf
                  go_wp2_with (first
                | (refine at_op0 (.load 41 (.tmp 4)) ?_ rfl rfl; refine wpList_load_row rfl 41 (.tmp 4) rfl (w.heap.size + 1) rfl 41 _ (0, 0) _ j1h.out Try.underlying41 rfl (by rw [HD.out]; exact H8.out) ?_)
                | (refine at_opG (.load 41 (.tmp 4)) (some (6, false)) ?_ rfl rfl; refine wpList_load_rowG rfl 41 (.tmp 4) rfl (w.heap.size + 1) rfl 41 _ (0, 0) _ j1h.out Try.underlying41 rfl (by rw [HD.out]; exact H8.out) ?_)
                | (go_at_call 64; (first | (with_reducible refine (g1 _).mono ?_) | (with_reducible refine (g2 _).mono ?_)); rintro e w8 ⟨rfl, b8⟩; have j1h := Lib.hid ((b8.block _ (heap_lt j1h.out)).trans j1h.out); have bb := below_trans bb b8; clear b8)
                | (go_at_call 65; (with_reducible refine (b1 _).mono ?_); rintro e w8 ⟨rfl, b8⟩; have j1h := Lib.hid ((b8.block _ (heap_lt j1h.out)).trans j1h.out); have bb := below_trans bb b8; clear b8)
                | (go_at_call 59; (first | (with_reducible refine (hip _ _ (by omega)).mono ?_) | (with_reducible refine (him _ _ (by omega)).mono ?_)); rintro e w9 ⟨rfl, rfl⟩))
                  all_goals first
                    | (exfalso; omega)
                    | (go_ret2; exact ⟨rfl, bb⟩)
                · obtain ⟨hR, rfl⟩ := lf.2 hov
                  have HR := Lib.hid hR
                  clear lf hR
                  go_wp2_with (first
                | (refine at_op0 (.load 41 (.tmp 4)) ?_ rfl rfl; refine wpList_load_row rfl 41 (.tmp 4) rfl (w.heap.size + 1) rfl 41 _ (0, 0) _ j1h.out Try.underlying41 rfl (by rw [HD.out]; exact H8.out) ?_)
                | (refine at_opG (.load 41 (.tmp 4)) (some (6, false)) ?_ rfl rfl; refine wpList_load_rowG rfl 41 (.tmp 4) rfl (w.heap.size + 1) rfl 41 _ (0, 0) _ j1h.out Try.underlying41 rfl (by rw [HD.out]; exact H8.out) ?_)
                | (go_at_call 64; (first | (with_reducible refine (g1 _).mono ?_) | (with_reducible refine (g2 _).mono ?_)); rintro e w8 ⟨rfl, b8⟩; have j1h := Lib.hid ((b8.block _ (heap_lt j1h.out)).trans j1h.out); have bb := below_trans bb b8; clear b8)
                | (go_at_call 65; (with_reducible refine (b1 _).mono ?_); rintro e w8 ⟨rfl, b8⟩; have j1h := Lib.hid ((b8.block _ (heap_lt j1h.out)).trans j1h.out); have bb := below_trans bb b8; clear b8)
                | (go_at_call 59; (first | (with_reducible refine (hip _ _ (by omega)).mono ?_) | (with_reducible refine (him _ _ (by omega)).mono ?_)); rintro e w9 ⟨rfl, rfl⟩))
                  all_goals first
                    | (exfalso; omega)
                    | (go_ret2; refine ⟨congrArg (fun r => Ending.returned (.tuple #[.float .f64 r, .bool false])) ?_, bb⟩; rw [HR.out, Hrg.out]; exact (pack_true sN m mi Hmi.out Hm0.out.2 Hm0.out.1 (by omega)).trans (by simp))
              · skip
                have hsum := Hrg.out
                simp at hsum
                have Hsum := Lib.hid hsum
                clear hsum
                go_wp2_with (first
                | (refine at_op0 (.load 41 (.tmp 4)) ?_ rfl rfl; refine wpList_load_row rfl 41 (.tmp 4) rfl (w.heap.size + 1) rfl 41 _ (0, 0) _ j1h.out Try.underlying41 rfl (by rw [HD.out]; exact H8.out) ?_)
                | (refine at_opG (.load 41 (.tmp 4)) (some (6, false)) ?_ rfl rfl; refine wpList_load_rowG rfl 41 (.tmp 4) rfl (w.heap.size + 1) rfl 41 _ (0, 0) _ j1h.out Try.underlying41 rfl (by rw [HD.out]; exact H8.out) ?_)
                | (go_at_call 64; (first | (with_reducible refine (g1 _).mono ?_) | (with_reducible refine (g2 _).mono ?_)); rintro e w8 ⟨rfl, b8⟩; have j1h := Lib.hid ((b8.block _ (heap_lt j1h.out)).trans j1h.out); have bb := below_trans bb b8; clear b8)
                | (go_at_call 65; (with_reducible refine (b1 _).mono ?_); rintro e w8 ⟨rfl, b8⟩; have j1h := Lib.hid ((b8.block _ (heap_lt j1h.out)).trans j1h.out); have bb := below_trans bb b8; clear b8)
                | (go_at_call 59; (first | (with_reducible refine (hip _ _ (by omega)).mono ?_) | (with_reducible refine (him _ _ (by omega)).mono ?_)); rintro e w9 ⟨rfl, rfl⟩))
                all_goals first
                  | (exfalso; omega)
                  | (have hq : mi + 1 = 9007199254740992 := by simpa using ‹(mi + 1 == 9007199254740992) = true›
                     have hm1 : m + 1 = 9007199254740992 := by have := Hmi.out; omega
                     have lf := HrgV.out Hsum.out hm1
                     first
                       | (obtain ⟨hR, rfl⟩ := lf.1 (by omega); simp at hR; subst hR; go_ret2; exact ⟨rfl, bb⟩)
                       | (obtain ⟨hR, rfl⟩ := lf.2 (by omega); go_ret2; refine ⟨congrArg (fun r => Ending.returned (.tuple #[.float .f64 r, .bool false])) ?_, bb⟩; rw [hR, Hsum.out]; exact (packW_true sN m mi hq hm1 (by omega)).trans (by simp)))
                  | (have hq : mi + 1 ≠ 9007199254740992 := by simpa using ‹(mi + 1 == 9007199254740992) = false›
                     have hm1 : m + 1 ≠ 9007199254740992 := by have := Hmi.out; omega
                     have lf := HrgU.out Hsum.out hm1
                     have hm2 := Hm0.out
                     have hm3 := Hmi.out
                     first
                       | (obtain ⟨hR, rfl⟩ := lf.1 (by omega); simp at hR; subst hR; go_ret2; exact ⟨rfl, bb⟩)
                       | (obtain ⟨hR, rfl⟩ := lf.2 (by omega); go_ret2; refine ⟨congrArg (fun r => Ending.returned (.tuple #[.float .f64 r, .bool false])) ?_, bb⟩; rw [hR, Hsum.out]; exact (pack_true sN (m + 1) (mi + 1) (by omega) (by omega) (by omega) (by omega)).trans (by simp)))
            · skip
              have hsum := Hrg.out
              simp at hsum
              have Hsum := Lib.hid hsum
              clear hsum
              go_wp2_with (first
                | (refine at_op0 (.load 41 (.tmp 4)) ?_ rfl rfl; refine wpList_load_row rfl 41 (.tmp 4) rfl (w.heap.size + 1) rfl 41 _ (0, 0) _ j1h.out Try.underlying41 rfl (by rw [HD.out]; exact H8.out) ?_)
                | (refine at_opG (.load 41 (.tmp 4)) (some (6, false)) ?_ rfl rfl; refine wpList_load_rowG rfl 41 (.tmp 4) rfl (w.heap.size + 1) rfl 41 _ (0, 0) _ j1h.out Try.underlying41 rfl (by rw [HD.out]; exact H8.out) ?_)
                | (go_at_call 64; (first | (with_reducible refine (g1 _).mono ?_) | (with_reducible refine (g2 _).mono ?_)); rintro e w8 ⟨rfl, b8⟩; have j1h := Lib.hid ((b8.block _ (heap_lt j1h.out)).trans j1h.out); have bb := below_trans bb b8; clear b8)
                | (go_at_call 65; (with_reducible refine (b1 _).mono ?_); rintro e w8 ⟨rfl, b8⟩; have j1h := Lib.hid ((b8.block _ (heap_lt j1h.out)).trans j1h.out); have bb := below_trans bb b8; clear b8)
                | (go_at_call 59; (first | (with_reducible refine (hip _ _ (by omega)).mono ?_) | (with_reducible refine (him _ _ (by omega)).mono ?_)); rintro e w9 ⟨rfl, rfl⟩))
              all_goals first
                | (exfalso; omega)
                | (have hq : mi + 1 = 9007199254740992 := by simpa using ‹(mi + 1 == 9007199254740992) = true›
                   have hm1 : m + 1 = 9007199254740992 := by have := Hmi.out; omega
                   have lf := HrgV.out Hsum.out hm1
                   first
                     | (obtain ⟨hR, rfl⟩ := lf.1 (by omega); simp at hR; subst hR; go_ret2; exact ⟨rfl, bb⟩)
                     | (obtain ⟨hR, rfl⟩ := lf.2 (by omega); go_ret2; refine ⟨congrArg (fun r => Ending.returned (.tuple #[.float .f64 r, .bool false])) ?_, bb⟩; rw [hR, Hsum.out]; exact (packW_true sN m mi hq hm1 (by omega)).trans (by simp)))
                | (have hq : mi + 1 ≠ 9007199254740992 := by simpa using ‹(mi + 1 == 9007199254740992) = false›
                   have hm1 : m + 1 ≠ 9007199254740992 := by have := Hmi.out; omega
                   have lf := HrgU.out Hsum.out hm1
                   have hm2 := Hm0.out
                   have hm3 := Hmi.out
                   first
                     | (obtain ⟨hR, rfl⟩ := lf.1 (by omega); simp at hR; subst hR; go_ret2; exact ⟨rfl, bb⟩)
                     | (obtain ⟨hR, rfl⟩ := lf.2 (by omega); go_ret2; refine ⟨congrArg (fun r => Ending.returned (.tuple #[.float .f64 r, .bool false])) ?_, bb⟩; rw [hR, Hsum.out]; exact (pack_true sN (m + 1) (mi + 1) (by omega) (by omega) (by omega) (by omega)).trans (by simp)))
end Go.Proofs.Ythplelglifnhoaa
/-! Exact sums: what Value tells. -/
namespace Go.Proofs.Ythplelglifnhoaa
open Go.RowKit
set_option linter.unusedVariables false

set_option maxRecDepth 100000 in
theorem copysign_any (w : World) : Calls Try.prog 62 #[.float .f64 0, .float .f64 13830554455654793216] w fun e w' => e = .returned (.float .f64 9223372036854775808) ∧ w = w' := by
  have hf := run_frombits
  have hg := run_bits
  have b1 : bits .andNot .u64 0 9223372036854775808 = 0 := by decide
  have b2 : bits .and .u64 13830554455654793216 9223372036854775808 = 9223372036854775808 := by decide
  have b3 : bits .or .u64 0 9223372036854775808 = 9223372036854775808 := by decide
  go_enter Try.func62, Try.ntmps62
  go_wp2
  go_ret
  exact ⟨rfl, rfl⟩

/-- The sign of a sum's whole number; the number without it. -/
def sgOf (W : Nat) : Bool := decide (9223372036854775808 ≤ wdn W 34)
def absOf (W : Nat) : Nat := if sgOf W = true then 2 ^ 2240 - W % 2 ^ 2240 else W % 2 ^ 2240
/-- What a sum tells. -/
def valOf (sg : Bool) (A : Nat) (an ot : Bool) : Nat × Bool :=
  if A = 0 then (if (an && !ot) = true then 9223372036854775808 else 0, false)
  else if A < 9007199254740992 then ((if sg = true then 9223372036854775808 else 0) + A, false)
  else if 2047 * 4503599627370496 ≤ rungOf A then (if sg = true then 18442240474082181120 else 9218868437227405312, true)
  else ((if sg = true then 9223372036854775808 else 0) + rungOf A, false)
def valSt (s : St) : Nat × Bool :=
  if (s.nan || s.pos || s.neg) = true then (specVal s.nan s.pos s.neg, false) else valOf (sgOf s.w) (absOf s.w) s.any s.other
theorem wdn_nil (i : Nat) : wdn 0 i = 0 := by unfold wdn; rw [Nat.zero_div]
theorem mod_le (W N : Nat) : W % 2 ^ N ≤ 2 ^ N := Nat.le_of_lt (Nat.mod_lt _ (Nat.two_pow_pos _))
theorem log_lt (A N : Nat) (hA : A < 2 ^ N) (hN : 0 < N) : A.log2 < N := by
  by_cases h : A = 0
  · subst h; simpa using hN
  · exact (Nat.log2_lt h).2 hA
theorem abs_lt (W N M : Nat) (hM : M = 2 ^ N) (sg : Bool) (h0 : sg = true → 0 < W % M) : (if sg = true then M - W % M else W % M) < 2 ^ N := by
  have hp := Nat.two_pow_pos N
  have := Nat.mod_lt W (show M > 0 by omega)
  subst hM
  split
  · have := h0 ‹_›; omega
  · exact this
theorem value_any (s : St) (w : World) : Calls Try.prog 43 #[.agg (sumC s)] w fun e w' => e = .returned (.tuple #[.float .f64 (valSt s).1, .bool (valSt s).2]) ∧ Below w.heap.size w w' := by
  by_cases hsp : (s.nan || s.pos || s.neg) = true
  · have := value_special (sumC s) (sumC_size s) s.nan s.pos s.neg (sumC_f s 0) (sumC_f s 1) (sumC_f s 2) w hsp
    unfold valSt
    rw [if_pos hsp]
    exact this
  · have hn : s.nan = false ∧ s.pos = false ∧ s.neg = false := by
      cases h1 : s.nan <;> cases h2 : s.pos <;> cases h3 : s.neg <;> simp_all
    have hv : valSt s = valOf (sgOf s.w) (absOf s.w) s.any s.other := by unfold valSt; rw [if_neg hsp]
    rw [hv]
    obtain ⟨hn1, hn2, hn3⟩ := hn
    have c35 := sumC_f s 0
    have c36 := sumC_f s 1
    have c37 := sumC_f s 2
    rw [hn1] at c35
    rw [hn2] at c36
    rw [hn3] at c37
    have h34 : wdn (s.w % 2 ^ 2240) 34 = wdn s.w 34 := wdn_mod s.w 34 2240 (by omega)
    have hws : ws (s.w % 2 ^ 2240) = ws s.w := ws_mod s.w 2240 (by omega)
    have habs : absOf s.w < 2 ^ 2240 := by
      unfold absOf
      refine abs_lt s.w 2240 _ rfl _ (fun h => ?_)
      have h2 := of_decide_eq_true h
      rw [← h34] at h2
      rcases Nat.eq_zero_or_pos (s.w % 2 ^ 2240) with h0 | h0
      · rw [h0, wdn_nil] at h2
        exact absurd h2 (by decide)
      · exact h0
    have R0 : absOf s.w = 0 → (valOf (sgOf s.w) (absOf s.w) s.any s.other).1 = (if (s.any && !s.other) = true then 9223372036854775808 else 0) ∧ (valOf (sgOf s.w) (absOf s.w) s.any s.other).2 = false := fun h => by
      unfold valOf; rw [if_pos h]; exact ⟨rfl, rfl⟩
    have R1 : absOf s.w ≠ 0 → absOf s.w < 9007199254740992 → (valOf (sgOf s.w) (absOf s.w) s.any s.other).1 = (if sgOf s.w = true then 9223372036854775808 else 0) + absOf s.w ∧ (valOf (sgOf s.w) (absOf s.w) s.any s.other).2 = false := fun h h' => by
      unfold valOf; rw [if_neg h, if_pos h']; exact ⟨rfl, rfl⟩
    have R2 : 9007199254740992 ≤ absOf s.w → (2047 * 4503599627370496 ≤ rungOf (absOf s.w) → (valOf (sgOf s.w) (absOf s.w) s.any s.other).1 = (if sgOf s.w = true then 18442240474082181120 else 9218868437227405312) ∧ (valOf (sgOf s.w) (absOf s.w) s.any s.other).2 = true) ∧ (rungOf (absOf s.w) < 2047 * 4503599627370496 → (valOf (sgOf s.w) (absOf s.w) s.any s.other).1 = (if sgOf s.w = true then 9223372036854775808 else 0) + rungOf (absOf s.w) ∧ (valOf (sgOf s.w) (absOf s.w) s.any s.other).2 = false) := fun h => by
      have h0 : ¬ absOf s.w = 0 := fun e => by rw [e] at h; exact absurd h (by decide)
      unfold valOf
      rw [if_neg h0, if_neg (Nat.not_lt.2 h)]
      exact ⟨fun h2 => by rw [if_pos h2]; exact ⟨rfl, rfl⟩, fun h2 => by rw [if_neg (Nat.not_le.2 h2)]; exact ⟨rfl, rfl⟩⟩
    have htop := topI_all (absOf s.w) 2240 habs 35 rfl
    have hlog := log_lt (absOf s.w) 2240 habs (by decide)
    have hget := fun (k : Nat) w (h : k < 2240) => get_any (absOf s.w) k w h habs
    have hbel := fun (k : Nat) w (h : k < 2240) => below_any (absOf s.w) k w h
    have hfr : ∀ i, i < (ws s.w).size → (sumC s)[i]? = (ws s.w)[i]? := fun i hi => by rw [ws_size] at hi; rw [sumC_w _ i hi, ws_at _ _ hi]
    cases hsg : sgOf s.w with
    | false =>
      have hA : absOf s.w = s.w % 2 ^ 2240 := by unfold absOf; rw [hsg]; rfl
      have hED : ws s.w = ws (absOf s.w) := by rw [hA, hws]
      rw [hsg] at R0 R1 R2
      exact value_plus (sumC s) (ws s.w) (ws (absOf s.w)) (sumC_size s) (absOf s.w) (wdn s.w 34) false s.any s.other _ _ w rfl c35 c36 c37 (sumC_f s 3) (sumC_f s 4) (ws_size _) (ws_one _) hfr (ws_at _ 34 (by decide)) (wdn_lt _ _) hsg (ws_size _) (ws_one _) (fun i h => ws_at _ i h) (fun _ => hED) (fun h => by cases h) hget hbel htop hlog copysign_any R0 R1 R2
    | true =>
      have hA : absOf s.w = 2 ^ 2240 - s.w % 2 ^ 2240 := by unfold absOf; rw [hsg]; rfl
      have hmin : ∀ w, Calls Try.prog 60 #[.agg (ws s.w)] w fun e w' => e = .returned (.agg (ws (absOf s.w))) ∧ Below w.heap.size w w' := fun w => by
        rw [hA, ← hws]
        exact minus_any _ w (mod_le _ 2240)
      rw [hsg] at R0 R1 R2
      exact value_minus (sumC s) (ws s.w) (ws (absOf s.w)) (sumC_size s) (absOf s.w) (wdn s.w 34) true s.any s.other _ _ w rfl c35 c36 c37 (sumC_f s 3) (sumC_f s 4) (ws_size _) (ws_one _) hfr (ws_at _ 34 (by decide)) (wdn_lt _ _) hsg (ws_size _) (ws_one _) (fun i h => ws_at _ i h) (fun h => by cases h) (fun _ => hmin) hget hbel htop hlog copysign_any R0 R1 R2
end Go.Proofs.Ythplelglifnhoaa
