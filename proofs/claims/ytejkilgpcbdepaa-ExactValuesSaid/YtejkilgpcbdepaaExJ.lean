import Derived.Test.YtejkilgpcbdepaaExI0
import Derived.Test.YtejkilgpcbdepaaExI1
/-! Exact sums: what Value tells. -/
namespace Go.Proofs.Ytejkilgpcbdepaa
open Go.RowKit
set_option linter.unusedVariables false

theorem copysign_any (w : World) : Calls Try.prog 23 #[.float .f64 0, .float .f64 13830554455654793216] w fun e w' => e = .returned (.float .f64 9223372036854775808) ∧ w = w' := by
  have hf := run_frombits
  have hg := run_bits
  have b1 : bits .andNot .u64 0 9223372036854775808 = 0 := by decide
  have b2 : bits .and .u64 13830554455654793216 9223372036854775808 = 9223372036854775808 := by decide
  have b3 : bits .or .u64 0 9223372036854775808 = 9223372036854775808 := by decide
  go_enter Try.func23, Try.ntmps23
  go_wp2
  go_ret
  exact ⟨rfl, rfl⟩

/-- The sign of a sum's whole number; the number without it. -/
def sgOf (W : Nat) : Bool := decide (9223372036854775808 ≤ wdn W 34)
def absOf (W : Nat) : Nat := if sgOf W = true then 2 ^ 2240 - W % 2 ^ 2240 else W % 2 ^ 2240
/-- What a sum tells. -/
def valOf (sg : Bool) (A : Nat) (an ot : Bool) : Nat × Bool :=
  if A = 0 then (if (an && !ot) = true then 9223372036854775808 else 0, false)
  else if A < 9007199254740992 then ((if sg = true then 9223372036854775808 else 0) + A, false)
  else if 2047 * 4503599627370496 ≤ rungOf A then (if sg = true then 18442240474082181120 else 9218868437227405312, true)
  else ((if sg = true then 9223372036854775808 else 0) + rungOf A, false)
def valSt (s : St) : Nat × Bool :=
  if (s.nan || s.pos || s.neg) = true then (specVal s.nan s.pos s.neg, false) else valOf (sgOf s.w) (absOf s.w) s.any s.other
theorem wdn_nil (i : Nat) : wdn 0 i = 0 := by unfold wdn; rw [Nat.zero_div]
theorem mod_le (W N : Nat) : W % 2 ^ N ≤ 2 ^ N := Nat.le_of_lt (Nat.mod_lt _ (Nat.two_pow_pos _))
theorem log_lt (A N : Nat) (hA : A < 2 ^ N) (hN : 0 < N) : A.log2 < N := by
  by_cases h : A = 0
  · subst h; simpa using hN
  · exact (Nat.log2_lt h).2 hA
theorem abs_lt (W N M : Nat) (hM : M = 2 ^ N) (sg : Bool) (h0 : sg = true → 0 < W % M) : (if sg = true then M - W % M else W % M) < 2 ^ N := by
  have hp := Nat.two_pow_pos N
  have := Nat.mod_lt W (show M > 0 by omega)
  subst hM
  split
  · have := h0 ‹_›; omega
  · exact this
theorem value_any (s : St) (w : World) : Calls Try.prog 17 #[.agg (sumC s)] w fun e w' => e = .returned (.tuple #[.float .f64 (valSt s).1, .bool (valSt s).2]) ∧ Below w.heap.size w w' := by
  by_cases hsp : (s.nan || s.pos || s.neg) = true
  · have := value_special (sumC s) (sumC_size s) s.nan s.pos s.neg (sumC_f s 0) (sumC_f s 1) (sumC_f s 2) w hsp
    unfold valSt
    rw [if_pos hsp]
    exact this
  · have hn : s.nan = false ∧ s.pos = false ∧ s.neg = false := by
      cases h1 : s.nan <;> cases h2 : s.pos <;> cases h3 : s.neg <;> simp_all
    have hv : valSt s = valOf (sgOf s.w) (absOf s.w) s.any s.other := by unfold valSt; rw [if_neg hsp]
    rw [hv]
    obtain ⟨hn1, hn2, hn3⟩ := hn
    have c35 := sumC_f s 0
    have c36 := sumC_f s 1
    have c37 := sumC_f s 2
    rw [hn1] at c35
    rw [hn2] at c36
    rw [hn3] at c37
    have h34 : wdn (s.w % 2 ^ 2240) 34 = wdn s.w 34 := wdn_mod s.w 34 2240 (by omega)
    have hws : ws (s.w % 2 ^ 2240) = ws s.w := ws_mod s.w 2240 (by omega)
    have habs : absOf s.w < 2 ^ 2240 := by
      unfold absOf
      refine abs_lt s.w 2240 _ rfl _ (fun h => ?_)
      have h2 := of_decide_eq_true h
      rw [← h34] at h2
      rcases Nat.eq_zero_or_pos (s.w % 2 ^ 2240) with h0 | h0
      · rw [h0, wdn_nil] at h2
        exact absurd h2 (by decide)
      · exact h0
    have R0 : absOf s.w = 0 → (valOf (sgOf s.w) (absOf s.w) s.any s.other).1 = (if (s.any && !s.other) = true then 9223372036854775808 else 0) ∧ (valOf (sgOf s.w) (absOf s.w) s.any s.other).2 = false := fun h => by
      unfold valOf; rw [if_pos h]; exact ⟨rfl, rfl⟩
    have R1 : absOf s.w ≠ 0 → absOf s.w < 9007199254740992 → (valOf (sgOf s.w) (absOf s.w) s.any s.other).1 = (if sgOf s.w = true then 9223372036854775808 else 0) + absOf s.w ∧ (valOf (sgOf s.w) (absOf s.w) s.any s.other).2 = false := fun h h' => by
      unfold valOf; rw [if_neg h, if_pos h']; exact ⟨rfl, rfl⟩
    have R2 : 9007199254740992 ≤ absOf s.w → (2047 * 4503599627370496 ≤ rungOf (absOf s.w) → (valOf (sgOf s.w) (absOf s.w) s.any s.other).1 = (if sgOf s.w = true then 18442240474082181120 else 9218868437227405312) ∧ (valOf (sgOf s.w) (absOf s.w) s.any s.other).2 = true) ∧ (rungOf (absOf s.w) < 2047 * 4503599627370496 → (valOf (sgOf s.w) (absOf s.w) s.any s.other).1 = (if sgOf s.w = true then 9223372036854775808 else 0) + rungOf (absOf s.w) ∧ (valOf (sgOf s.w) (absOf s.w) s.any s.other).2 = false) := fun h => by
      have h0 : ¬ absOf s.w = 0 := fun e => by rw [e] at h; exact absurd h (by decide)
      unfold valOf
      rw [if_neg h0, if_neg (Nat.not_lt.2 h)]
      exact ⟨fun h2 => by rw [if_pos h2]; exact ⟨rfl, rfl⟩, fun h2 => by rw [if_neg (Nat.not_le.2 h2)]; exact ⟨rfl, rfl⟩⟩
    have htop := topI_all (absOf s.w) 2240 habs 35 rfl
    have hlog := log_lt (absOf s.w) 2240 habs (by decide)
    have hget := fun (k : Nat) w (h : k < 2240) => get_any (absOf s.w) k w h habs
    have hbel := fun (k : Nat) w (h : k < 2240) => below_any (absOf s.w) k w h
    have hfr : ∀ i, i < (ws s.w).size → (sumC s)[i]? = (ws s.w)[i]? := fun i hi => by rw [ws_size] at hi; rw [sumC_w _ i hi, ws_at _ _ hi]
    cases hsg : sgOf s.w with
    | false =>
      have hA : absOf s.w = s.w % 2 ^ 2240 := by unfold absOf; rw [hsg]; rfl
      have hED : ws s.w = ws (absOf s.w) := by rw [hA, hws]
      rw [hsg] at R0 R1 R2
      exact value_plus (sumC s) (ws s.w) (ws (absOf s.w)) (sumC_size s) (absOf s.w) (wdn s.w 34) false s.any s.other _ _ w rfl c35 c36 c37 (sumC_f s 3) (sumC_f s 4) (ws_size _) (ws_one _) hfr (ws_at _ 34 (by decide)) (wdn_lt _ _) hsg (ws_size _) (ws_one _) (fun i h => ws_at _ i h) (fun _ => hED) (fun h => by cases h) hget hbel htop hlog copysign_any R0 R1 R2
    | true =>
      have hA : absOf s.w = 2 ^ 2240 - s.w % 2 ^ 2240 := by unfold absOf; rw [hsg]; rfl
      have hmin : ∀ w, Calls Try.prog 35 #[.agg (ws s.w)] w fun e w' => e = .returned (.agg (ws (absOf s.w))) ∧ Below w.heap.size w w' := fun w => by
        rw [hA, ← hws]
        exact minus_any _ w (mod_le _ 2240)
      rw [hsg] at R0 R1 R2
      exact value_minus (sumC s) (ws s.w) (ws (absOf s.w)) (sumC_size s) (absOf s.w) (wdn s.w 34) true s.any s.other _ _ w rfl c35 c36 c37 (sumC_f s 3) (sumC_f s 4) (ws_size _) (ws_one _) hfr (ws_at _ 34 (by decide)) (wdn_lt _ _) hsg (ws_size _) (ws_one _) (fun i h => ws_at _ i h) (fun h => by cases h) (fun _ => hmin) hget hbel htop hlog copysign_any R0 R1 R2
end Go.Proofs.Ytejkilgpcbdepaa
