import Derived.Test.YtejkilgpcbdepaaExRf
/-! Exact sums: a sum as bytes, and back: the plain law. -/
namespace Go.Proofs.Ytejkilgpcbdepaa
open Go.RowKit
set_option linter.unusedVariables false

theorem trim_spec (f : Nat → Int) (r : Int) : ∀ m, (∀ i, trim f r m ≤ i → i < m → f i = r) ∧ (trim f r m < m → (trim f r m = 0 → r = 0) ∧ (0 < trim f r m → f (trim f r m - 1) / 128 = r / 128)) := by
  intro m
  induction m with
  | zero => exact ⟨fun i _ h => absurd h (by omega), fun h => absurd h (by omega)⟩
  | succ m ih =>
    obtain ⟨ih1, ih2⟩ := ih
    by_cases hc : f m = r ∧ ((m = 0 ∧ r = 0) ∨ (0 < m ∧ f (m - 1) / 128 = r / 128))
    · have e : trim f r (m + 1) = trim f r m := by rw [trim]; exact if_pos hc
      rw [e]
      refine ⟨fun i h1 h2 => ?_, fun h => ?_⟩
      · by_cases e2 : i = m
        · subst e2; exact hc.1
        · exact ih1 i h1 (by omega)
      · have hle := trim_le f r m
        by_cases h3 : trim f r m < m
        · exact ih2 h3
        · have h4 : trim f r m = m := by omega
          rw [h4]
          rcases hc.2 with h5 | h5
          · exact ⟨fun _ => h5.2, fun h6 => absurd h6 (by omega)⟩
          · exact ⟨fun h6 => absurd h5.1 (by omega), fun _ => h5.2⟩
    · have e : trim f r (m + 1) = m + 1 := by rw [trim]; exact if_neg hc
      rw [e]
      exact ⟨fun i h1 h2 => absurd h1 (by omega), fun h => absurd h (by omega)⟩
theorem lowW_mod (W : Nat) (f : Nat → Nat) (hf : ∀ i, i < 280 → f i = W / 2 ^ (8 * i) % 256) : ∀ i, i ≤ 280 → lowW f i = W % 2 ^ (8 * i) := by
  intro i
  induction i with
  | zero => intro _; simp [lowW, Nat.mod_one]
  | succ i ih =>
    intro h
    rw [lowW, ih (by omega), hf i (by omega), show 8 * (i + 1) = 8 * i + 8 by omega, Nat.pow_add, Nat.mod_mul, Nat.mul_comm (W / 2 ^ (8 * i) % 256), show (2 : Nat) ^ 8 = 256 from rfl]
theorem lowW_ws (W N : Nat) (f : Nat → Nat) (hN : N = 8 * 280) (hf : ∀ i, i < 280 → f i = W / 2 ^ (8 * i) % 256) : ws (lowW f 280) = ws W := by
  rw [lowW_mod W f hf 280 (Nat.le_refl _), ← hN]
  exact ws_mod W N (by omega)
theorem mark_back (A : Nat → Bool) (k : Nat) (hk : k < 5) : markR (fbyte A 5) k = A k := by
  have h : ∀ a b c d e : Bool, ∀ j, j < 5 → decide (0 < bits .and .u8 ((a.toNat : Int) + 2 * b.toNat + 4 * c.toNat + 8 * d.toNat + 16 * e.toNat) (pw j)) = (match j with | 0 => a | 1 => b | 2 => c | 3 => d | _ => e) := by
    intro a b c d e j hj
    match j, hj with
    | 0, _ => cases a <;> cases b <;> cases c <;> cases d <;> cases e <;> decide
    | 1, _ => cases a <;> cases b <;> cases c <;> cases d <;> cases e <;> decide
    | 2, _ => cases a <;> cases b <;> cases c <;> cases d <;> cases e <;> decide
    | 3, _ => cases a <;> cases b <;> cases c <;> cases d <;> cases e <;> decide
    | 4, _ => cases a <;> cases b <;> cases c <;> cases d <;> cases e <;> decide
  unfold markR
  rw [fbyte_eq, h _ _ _ _ _ k hk]
  match k, hk with
  | 0, _ => rfl
  | 1, _ => rfl
  | 2, _ => rfl
  | 3, _ => rfl
  | 4, _ => rfl
theorem byt_sign (W : Nat) (sg : Bool) : ∀ (n : Nat), (byt W n / 128 = restOf sg / 128) → (128 ≤ byt W n ↔ sg = true) := by
  intro n h
  have := byt_range W n
  cases sg
  · rw [show restOf false / 128 = 0 by decide] at h
    constructor
    · intro h2; omega
    · intro h2; cases h2
  · rw [show restOf true / 128 = 1 by decide] at h
    constructor
    · intro _; rfl
    · intro _; omega
/-- The bytes that are read from a sum's bytes are the sum's. -/
theorem rdB_back (s : St) (i : Nat) (hi : i < 280) : rdB (bytesOf s) i = s.w / 2 ^ (8 * i) % 256 := by
  have hn := trim_le (byt s.w) (restOf (sgOf s.w)) 280
  obtain ⟨t1, t2⟩ := trim_spec (byt s.w) (restOf (sgOf s.w)) 280
  have hl : (bytesOf s).length - 1 = trim (byt s.w) (restOf (sgOf s.w)) 280 := by
    unfold bytesOf
    rw [List.length_cons, full_length]; omega
  have hrd : ∀ k, k < trim (byt s.w) (restOf (sgOf s.w)) 280 → rd (bytesOf s) (1 + k) = byt s.w k := fun k hk => by
    unfold bytesOf
    rw [show rd (fbyte (fl s) 5 :: full s.w (trim (byt s.w) (restOf (sgOf s.w)) 280)) (1 + k) = rd (full s.w (trim (byt s.w) (restOf (sgOf s.w)) 280)) k by
      simp [rd, Nat.add_comm 1 k], rd_full _ _ _ hk]
  have hb : ∀ k, (byt s.w k).toNat = s.w / 2 ^ (8 * k) % 256 := fun k => by unfold byt; exact Int.toNat_natCast _
  have hsg := byt_sign s.w (sgOf s.w)
  generalize hN : trim (byt s.w) (restOf (sgOf s.w)) 280 = n at *
  unfold rdB
  rw [hl]
  by_cases h : i < n
  · rw [if_pos h, hrd i h, hb i]
  · rw [if_neg h]
    obtain ⟨t3, t4⟩ := t2 (by omega)
    have e := t1 i (by omega) hi
    rw [← hb i, e]
    by_cases h0 : n = 0
    · have r0 := t3 h0
      rw [if_neg (by omega), r0]; rfl
    · have h1 := hsg _ (t4 (by omega))
      have h2 := hrd (n - 1) (by omega)
      rw [show 1 + (n - 1) = n by omega] at h2
      rw [h2]
      by_cases hs : sgOf s.w = true
      · rw [if_pos ⟨by omega, h1.2 hs⟩, hs]; rfl
      · have hs2 : sgOf s.w = false := by simpa using hs
        rw [if_neg (fun h3 => hs (h1.1 h3.2)), hs2]; rfl
theorem sum_back (s : St) : sumC (rdSt (bytesOf s)) = sumC s := by
  have hw : ws (lowW (rdB (bytesOf s)) 280) = ws s.w := lowW_ws s.w 2240 _ rfl (fun i hi => rdB_back s i hi)
  have hF : rd (bytesOf s) 0 = fbyte (fl s) 5 := rfl
  have hm : ∀ k, k < 5 → markR (rd (bytesOf s) 0) k = fl s k := fun k hk => by rw [hF]; exact mark_back (fl s) k hk
  exact sumC_eq _ _ hw (hm 0 (by decide)) (hm 1 (by decide)) (hm 2 (by decide)) (hm 3 (by decide)) (hm 4 (by decide))
/-- A sum's bytes hang on what lies in its cells alone. -/
theorem bytes_congr (s t : St) (h : sumC s = sumC t) : bytesOf s = bytesOf t := by
  have hat : ∀ i : Nat, (sumC s)[i]? = (sumC t)[i]? := fun i => by rw [h]
  have hw : ∀ i, i < 35 → wdn s.w i = wdn t.w i := fun i hi => by
    have := hat i
    rw [sumC_w _ i hi, sumC_w _ i hi] at this
    unfold wdv at this
    simp only [Option.some.injEq, Value.int.injEq, true_and] at this
    omega
  have hfl : ∀ k, k < 5 → fl s k = fl t k := fun k hk => by
    have := hat (35 + k)
    have e1 := sumC_fl s.w (fl s) k hk
    have e2 := sumC_fl t.w (fl t) k hk
    have e3 : (sumC s)[35 + k]? = some (.bool (fl s k)) := e1
    have e4 : (sumC t)[35 + k]? = some (.bool (fl t k)) := e2
    rw [e3, e4] at this
    simpa using this
  have hb : ∀ i, i < 280 → byt s.w i = byt t.w i := fun i hi => by
    have e : i = 8 * (i / 8) + i % 8 := by omega
    rw [e, ← byt_word s.w (i / 8) (i % 8) (by omega), ← byt_word t.w (i / 8) (i % 8) (by omega), hw (i / 8) (by omega)]
  have hsg : sgOf s.w = sgOf t.w := by unfold sgOf; rw [hw 34 (by decide)]
  have htr : ∀ r m, m ≤ 280 → trim (byt s.w) r m = trim (byt t.w) r m := fun r m => by
    induction m with
    | zero => intro _; rfl
    | succ m ih =>
      intro hm
      rw [trim, trim, ih (by omega), hb m (by omega), hb (m - 1) (by omega)]
  have hfull : ∀ m, m ≤ 280 → full s.w m = full t.w m := fun m => by
    induction m with
    | zero => intro _; rfl
    | succ m ih => intro hm; rw [full, full, ih (by omega), hb m (by omega)]
  have hfb : fbyte (fl s) 5 = fbyte (fl t) 5 := by
    rw [fbyte_eq, fbyte_eq, hfl 0 (by decide), hfl 1 (by decide), hfl 2 (by decide), hfl 3 (by decide), hfl 4 (by decide)]
  unfold bytesOf
  rw [hfb, hsg, htr _ 280 (Nat.le_refl _), hfull _ (trim_le _ _ 280)]
/-- A sum's bytes, read, are the sum. -/
theorem read_back (s : St) : readR (bytesOf s) = (rdSt (bytesOf s), 0) := by
  have hn := trim_le (byt s.w) (restOf (sgOf s.w)) 280
  have hl : (bytesOf s).length = 1 + trim (byt s.w) (restOf (sgOf s.w)) 280 := by
    unfold bytesOf
    rw [List.length_cons, full_length]; omega
  have hF : rd (bytesOf s) 0 = fbyte (fl s) 5 := rfl
  have hr := fbyte_range (fl s)
  unfold readR
  rw [if_neg (by rw [hl, hF]; omega), if_pos (bytes_congr _ _ (sum_back s))]
end Go.Proofs.Ytejkilgpcbdepaa
