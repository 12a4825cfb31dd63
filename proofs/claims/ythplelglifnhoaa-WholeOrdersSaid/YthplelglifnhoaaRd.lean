import Derived.Test.YthplelglifnhoaaJb
import Derived.Lib.BitFns
import Derived.Test.YthplelglifnhoaaDr
import Derived.Laws.CopyOwn
import Derived.Great.BuildSlice
import Derived.Deep.DeepCutAuto
import Derived.Deep.CutBlock
import Derived.Test.YthplelglifnhoaaPl
/-! Exact sums: a sum read from bytes, said plainly. -/
namespace Go.Proofs.Ythplelglifnhoaa
open Go.RowKit
set_option linter.unusedVariables false

/-- The whole number of some bytes, the lowest first. -/
def lowW (f : Nat → Nat) : Nat → Nat
  | 0 => 0
  | i + 1 => lowW f i + f i * 2 ^ (8 * i)
theorem lowW_lt (f : Nat → Nat) (hf : ∀ i, f i < 256) : ∀ i, lowW f i < 2 ^ (8 * i) := by
  intro i
  induction i with
  | zero => simp [lowW]
  | succ i ih =>
    rw [lowW, show 8 * (i + 1) = 8 + 8 * i by omega, Nat.pow_add]
    have := hf i
    have h1 : f i * 2 ^ (8 * i) ≤ 255 * 2 ^ (8 * i) := Nat.mul_le_mul_right _ (by omega)
    omega
theorem wdn_add_hi (L m k i : Nat) (h : 64 * (i + 1) ≤ k) : wdn (L + m * 2 ^ k) i = wdn L i := by
  unfold wdn
  have e : m * 2 ^ k = 2 ^ (64 * i) * (18446744073709551616 * (m * 2 ^ (k - 64 * (i + 1)))) := by
    have : 2 ^ k = 2 ^ (64 * i) * (18446744073709551616 * 2 ^ (k - 64 * (i + 1))) := by
      rw [show (18446744073709551616 : Nat) = 2 ^ 64 from rfl, ← Nat.pow_add, ← Nat.pow_add]; congr 1; omega
    rw [this]
    generalize 2 ^ (64 * i) = a
    generalize 2 ^ (k - 64 * (i + 1)) = b
    rw [← Nat.mul_assoc, ← Nat.mul_assoc, ← Nat.mul_assoc, Nat.mul_comm m a, Nat.mul_assoc a m, Nat.mul_comm m, ← Nat.mul_assoc a, Nat.mul_assoc]
  rw [e, Nat.add_mul_div_left _ _ (Nat.two_pow_pos _), Nat.add_mul_mod_self_left]
theorem or_join64 (i : Nat) (x y : Int) (hx0 : 0 ≤ x) (hx : x < 2 ^ i) (hy0 : 0 ≤ y) (hy : y % 2 ^ i = 0) (hx1 : x < 18446744073709551616) (hy1 : y < 18446744073709551616) : bits .or .u64 x y = x + y := by
  have h : bits .or .u64 y x = y + x := bits_join .u64 64 (by decide) (fun n h0 h1 => by rw [IntKind.wrap_u64]; omega) i y x hy0 hy hy1 hx0 hx hx1
  have hc : bits .or .u64 x y = bits .or .u64 y x := by simp only [bits, BitVec.or_comm]
  rw [hc, h]; omega
/-- One more byte laid into the words. -/
theorem ws_step (f : Nat → Nat) (hf : ∀ i, f i < 256) (i : Nat) (hi : i < 280) :
    (ws (lowW f i)).setIfInBounds (i / 8) (.int .u64 (bits .or .u64 ((wdn (lowW f i) (i / 8) : Nat) : Int) (IntKind.u64.wrap ((f i : Int) * 2 ^ (8 * (i % 8)))))) = ws (lowW f (i + 1)) := by
  have hL := lowW_lt f hf i
  have hb := hf i
  have hk : i = 8 * (i / 8) + i % 8 := by omega
  have hj : i % 8 < 8 := Nat.mod_lt _ (by decide)
  have hk35 : i / 8 < 35 := by omega
  show _ = ws (lowW f i + f i * 2 ^ (8 * i))
  generalize lowW f i = L at *
  generalize f i = b at *
  generalize i / 8 = k at *
  generalize i % 8 = j at *
  subst hk
  have hp : 2 ^ (8 * (8 * k + j)) = 2 ^ (64 * k) * 2 ^ (8 * j) := by rw [← Nat.pow_add]; congr 1; omega
  have hPk := Nat.two_pow_pos (64 * k)
  have hq : L / 2 ^ (64 * k) < 2 ^ (8 * j) := (Nat.div_lt_iff_lt_mul hPk).2 (by rw [Nat.mul_comm, ← hp]; exact hL)
  have hj56 : 2 ^ (8 * j) ≤ 2 ^ 56 := Nat.pow_le_pow_right (by decide) (by omega)
  have hbj : b * 2 ^ (8 * j) ≤ 255 * 2 ^ 56 := Nat.mul_le_mul (by omega) hj56
  have hdw : wdn L k = L / 2 ^ (64 * k) := Nat.mod_eq_of_lt (by omega)
  have hnew : wdn (L + b * 2 ^ (8 * (8 * k + j))) k = L / 2 ^ (64 * k) + b * 2 ^ (8 * j) := by
    unfold wdn
    rw [hp, show b * (2 ^ (64 * k) * 2 ^ (8 * j)) = 2 ^ (64 * k) * (b * 2 ^ (8 * j)) by rw [← Nat.mul_assoc, Nat.mul_comm b, Nat.mul_assoc], Nat.add_mul_div_left _ _ hPk]
    exact Nat.mod_eq_of_lt (by omega)
  have hval : bits .or .u64 ((wdn L k : Nat) : Int) (IntKind.u64.wrap ((b : Int) * 2 ^ (8 * j))) = ((L / 2 ^ (64 * k) + b * 2 ^ (8 * j) : Nat) : Int) := by
    have hw : IntKind.u64.wrap ((b : Int) * 2 ^ (8 * j)) = ((b * 2 ^ (8 * j) : Nat) : Int) := by
      rw [IntKind.wrap_u64, show ((b : Int) * 2 ^ (8 * j)) = ((b * 2 ^ (8 * j) : Nat) : Int) by simp]
      omega
    rw [hw, hdw, or_join64 (8 * j) _ _ (by omega) (by
      have : ((L / 2 ^ (64 * k) : Nat) : Int) < ((2 ^ (8 * j) : Nat) : Int) := by omega
      simpa using this) (by omega) (by
      simp) (by omega) (by omega)]
    omega
  rw [hval]
  apply Array.ext_getElem?
  intro m
  by_cases hm : m < 35
  · rw [ws_at _ m hm]
    by_cases e : k = m
    · subst e
      rw [Array.getElem?_setIfInBounds_self_of_lt (by rw [ws_size]; omega)]
      unfold wdv
      rw [hnew]
    · rw [Array.getElem?_setIfInBounds_ne e, ws_at _ m hm]
      unfold wdv
      rcases Nat.lt_or_ge m k with h | h
      · rw [wdn_add_hi L b _ m (by omega)]
      · have hlt : L + b * 2 ^ (8 * (8 * k + j)) < 2 ^ (64 * m) := by
          have h1 : b * 2 ^ (8 * (8 * k + j)) ≤ 255 * 2 ^ (8 * (8 * k + j)) := Nat.mul_le_mul_right _ (by omega)
          have h2 : 2 ^ (8 * (8 * k + j) + 8) ≤ 2 ^ (64 * m) := Nat.pow_le_pow_right (by decide) (by omega)
          rw [Nat.pow_add] at h2
          omega
        have z : ∀ X, X < 2 ^ (64 * m) → wdn X m = 0 := fun X hX => by unfold wdn; rw [Nat.div_eq_of_lt hX]
        rw [z _ hlt, z L (by omega)]
  · rw [Array.getElem?_eq_none (by rw [Array.size_setIfInBounds, ws_size]; omega), Array.getElem?_eq_none (by rw [ws_size]; omega)]
/-- The bytes that are read: those behind the first, then what tells the sign. -/
def rdB (p : List Int) (i : Nat) : Nat :=
  if i < p.length - 1 then (rd p (1 + i)).toNat else if 0 < p.length - 1 ∧ 128 ≤ rd p (p.length - 1) then 255 else 0
theorem rdB_lt (p : List Int) (h : Bytes8 p) (i : Nat) : rdB p i < 256 := by
  unfold rdB
  split
  · have := h (1 + i) (by omega); omega
  · split <;> omega
def markR (f : Int) (k : Nat) : Bool := decide (0 < bits .and .u8 f (pw k))
/-- The sum that some bytes tell, before it is asked whether it has just these. -/
def rdSt (p : List Int) : St := mkSt (lowW (rdB p) 280) (markR (rd p 0))
/-- What is read. -/
def readR (p : List Int) : St × Int :=
  if p.length < 1 ∨ 281 < p.length ∨ 31 < rd p 0 then (noSt, 3) else if bytesOf (rdSt p) = p then (rdSt p, 0) else (noSt, 3)
end Go.Proofs.Ythplelglifnhoaa
/-! Exact sums: a sum read from bytes: the walk. -/
namespace Go.Proofs.Ythplelglifnhoaa
open Go.RowKit
set_option linter.unusedVariables false
attribute [-simp] Try.isAgg41
attribute [-simp] Try.isAgg43 Try.sizeOf43 Try.typeInfo43 Try.type43
/-- The 280 bytes. -/
def bsC (f : Nat → Nat) : Array Value := (Array.range 280).map fun i => .int .u8 (f i : Int)
theorem bsC_size (f : Nat → Nat) : (bsC f).size = 280 := by simp [bsC]
theorem bsC_at (f : Nat → Nat) (i : Nat) (h : i < 280) : (bsC f)[i]? = some (.int .u8 (f i : Int)) := by simp [bsC, h]
theorem bsC_one (f : Nat → Nat) : (bsC f).all (·.oneCell') = true := by
  rw [Array.all_eq_true_iff_forall_mem]
  intro x hx
  unfold bsC at hx
  obtain ⟨i, _, rfl⟩ := Array.mem_map.1 hx
  rfl
theorem bsC_set (f : Nat → Nat) (i v : Nat) (h : i < 280) : (bsC f).setIfInBounds i (.int .u8 (v : Int)) = bsC (fun k => if k = i then v else f k) := by
  apply Array.ext_getElem?
  intro k
  by_cases hk : k < 280
  · rw [bsC_at _ k hk]
    by_cases e : k = i
    · subst e; rw [Array.getElem?_setIfInBounds_self_of_lt (by rw [bsC_size]; omega), if_pos rfl]
    · rw [Array.getElem?_setIfInBounds_ne (Ne.symm e), bsC_at _ k hk, if_neg e]
  · rw [Array.getElem?_eq_none (by rw [Array.size_setIfInBounds, bsC_size]; omega), Array.getElem?_eq_none (by rw [bsC_size]; omega)]
/-- The bytes behind the copy, and while the sign is told. -/
def f0 (p : List Int) (i : Nat) (k : Nat) : Nat := if k < p.length - 1 then (rd p (1 + k)).toNat else if k < i then 255 else 0
theorem bs_splice (p : List Int) (h8 : Bytes8 p) (h1 : 1 ≤ p.length) (h2 : p.length ≤ 281) : (splice (bsC fun _ => 0).toList 0 ((p.drop 1).map (Value.int .u8))).toArray = bsC (f0 p 0) := by
  have hl : ((p.drop 1).map (Value.int .u8)).length = p.length - 1 := by rw [List.length_map, List.length_drop]
  have hz : (bsC fun _ => 0).toList.length = 280 := by rw [Array.length_toList, bsC_size]
  apply Array.ext_getElem?
  intro k
  unfold splice
  rw [List.getElem?_toArray, List.take_zero, List.nil_append, Nat.zero_add, hl]
  by_cases hk : k < 280
  · rw [bsC_at _ k hk]
    unfold f0
    by_cases hn : k < p.length - 1
    · rw [List.getElem?_append_left (by rw [hl]; exact hn), if_pos hn, List.getElem?_map, List.getElem?_drop, List.getElem?_eq_getElem (by omega), ← rd_eq p (1 + k) (by omega)]
      have := h8 (1 + k) (by omega)
      show some (Value.int .u8 (rd p (1 + k))) = some (Value.int .u8 ((rd p (1 + k)).toNat : Int))
      rw [Int.toNat_of_nonneg this.1]
    · rw [List.getElem?_append_right (by rw [hl]; omega), hl, if_neg hn, if_neg (by omega), List.getElem?_drop, Array.getElem?_toList, show p.length - 1 + (k - (p.length - 1)) = k by omega, bsC_at _ k hk]
  · rw [List.getElem?_eq_none (by rw [List.length_append, hl, List.length_drop, hz]; omega), Array.getElem?_eq_none (by rw [bsC_size]; omega)]
theorem sumC_word (L L' : Nat) (A : Nat → Bool) (k : Nat) (hk : k < 35) (v : Value) (h : (ws L).setIfInBounds k v = ws L') : (sumC (mkSt L A)).setIfInBounds k v = sumC (mkSt L' A) := by
  apply Array.ext_getElem?
  intro m
  by_cases hm : m < 35
  · have h2 : ((ws L).setIfInBounds k v)[m]? = (ws L')[m]? := by rw [h]
    rw [ws_at _ m hm] at h2
    rw [sumC_w _ m hm]
    show _ = some (wdv L' m)
    rw [← h2]
    by_cases e : k = m
    · subst e
      rw [Array.getElem?_setIfInBounds_self_of_lt (by rw [sumC_size]; omega), Array.getElem?_setIfInBounds_self_of_lt (by rw [ws_size]; omega)]
    · rw [Array.getElem?_setIfInBounds_ne e, Array.getElem?_setIfInBounds_ne e, sumC_w _ m hm, ws_at _ m hm]; rfl
  · obtain ⟨q, rfl⟩ : ∃ q, m = 35 + q := ⟨m - 35, by omega⟩
    rw [Array.getElem?_setIfInBounds_ne (by omega), sumC_f, sumC_f]; rfl
theorem bsC_congr {f g : Nat → Nat} (h : ∀ k, k < 280 → f k = g k) : bsC f = bsC g := by
  apply Array.ext_getElem?
  intro k
  by_cases hk : k < 280
  · rw [bsC_at _ k hk, bsC_at _ k hk, h k hk]
  · rw [Array.getElem?_eq_none (by rw [bsC_size]; omega), Array.getElem?_eq_none (by rw [bsC_size]; omega)]
theorem f0_start (p : List Int) (N : Nat) (hN : p.length - 1 = N) : bsC (f0 p 0) = bsC (f0 p N) := bsC_congr fun k _ => by
  unfold f0
  rw [hN]
  by_cases h : k < N
  · rw [if_pos h, if_pos h]
  · rw [if_neg h, if_neg h, if_neg (by omega), if_neg (by omega)]
theorem f0_step (p : List Int) (N i : Nat) (hN : p.length - 1 = N) (hi : N ≤ i) (h : i < 280) : (bsC (f0 p i)).setIfInBounds i (.int .u8 255) = bsC (f0 p (i + 1)) := by
  rw [show (255 : Int) = ((255 : Nat) : Int) from rfl, bsC_set _ i 255 h]
  refine bsC_congr fun k _ => ?_
  unfold f0
  rw [hN]
  by_cases e : k = i
  · rw [if_pos e, if_neg (by omega), if_pos (by omega)]
  · rw [if_neg e]
    by_cases h2 : k < N
    · rw [if_pos h2, if_pos h2]
    · rw [if_neg h2, if_neg h2]
      by_cases h3 : k < i
      · rw [if_pos h3, if_pos (by omega)]
      · rw [if_neg h3, if_neg (by omega)]
theorem f0_end (p : List Int) (N i : Nat) (hN : p.length - 1 = N) (hi : N ≤ i) (hneg : N < i → 0 < N ∧ 128 ≤ rd p N) (h : (0 < N ∧ 128 ≤ rd p N) → i = 280) : bsC (f0 p i) = bsC (rdB p) := bsC_congr fun k hk => by
  unfold f0 rdB
  rw [hN]
  by_cases h2 : k < N
  · rw [if_pos h2, if_pos h2]
  · rw [if_neg h2, if_neg h2]
    by_cases h3 : 0 < N ∧ 128 ≤ rd p N
    · rw [if_pos h3, if_pos (by have := h h3; omega)]
    · rw [if_neg h3, if_neg (by
        intro h4
        exact h3 (hneg (by omega)))]
end Go.Proofs.Ythplelglifnhoaa
/-! Exact sums: any bytes as a sum: the walk of the law. -/
namespace Go.Proofs.Ythplelglifnhoaa
open Go.RowKit
set_option linter.unusedVariables false
attribute [-simp] Try.isAgg43 Try.sizeOf43 Try.typeInfo43 Try.type43

section
variable {P : Program} {o : Oper} {a : Act} {ops : Array Oper} {rest : List Oper} {Q : Exit → Act → World → Prop} {w : World}
theorem wpList_buildG (hw : Region.wanted o (yielded ops a.tmps) = true) (t : TypeId) (parts : Array (Nat × Operand)) (ho : o.op = .build t parts) (cells : Array Value) (hf : P.built t (parts.map fun (i, x) => (i, a.eval x)).toList = some cells)
    (h : wpList P ops Q rest (a.put o.dst (.agg cells)) w) : wpList P ops Q (o :: rest) a w :=
  BigFrame.wpList_want hw fun K hK => wp_build t parts ho (by rw [hf]; rfl) (hK _ _ (by rw [hf]; exact h))
end
theorem readR_cases (p : List Int) : (∃ S, readR p = (S, 0) ∧ bytesOf S = p) ∨ readR p = (noSt, 3) := by
  unfold readR
  split
  · exact .inr rfl
  · split
    · rename_i h; exact .inl ⟨_, rfl, h⟩
    · exact .inr rfl
end Go.Proofs.Ythplelglifnhoaa
/-! Exact sums: a sum as bytes, and back: the plain law. -/
namespace Go.Proofs.Ythplelglifnhoaa
open Go.RowKit
set_option linter.unusedVariables false

theorem trim_spec (f : Nat → Int) (r : Int) : ∀ m, (∀ i, trim f r m ≤ i → i < m → f i = r) ∧ (trim f r m < m → (trim f r m = 0 → r = 0) ∧ (0 < trim f r m → f (trim f r m - 1) / 128 = r / 128)) := by
  intro m
  induction m with
  | zero => exact ⟨fun i _ h => absurd h (by omega), fun h => absurd h (by omega)⟩
  | succ m ih =>
    obtain ⟨ih1, ih2⟩ := ih
    by_cases hc : f m = r ∧ ((m = 0 ∧ r = 0) ∨ (0 < m ∧ f (m - 1) / 128 = r / 128))
    · have e : trim f r (m + 1) = trim f r m := by rw [trim]; exact if_pos hc
      rw [e]
      refine ⟨fun i h1 h2 => ?_, fun h => ?_⟩
      · by_cases e2 : i = m
        · subst e2; exact hc.1
        · exact ih1 i h1 (by omega)
      · have hle := trim_le f r m
        by_cases h3 : trim f r m < m
        · exact ih2 h3
        · have h4 : trim f r m = m := by omega
          rw [h4]
          rcases hc.2 with h5 | h5
          · exact ⟨fun _ => h5.2, fun h6 => absurd h6 (by omega)⟩
          · exact ⟨fun h6 => absurd h5.1 (by omega), fun _ => h5.2⟩
    · have e : trim f r (m + 1) = m + 1 := by rw [trim]; exact if_neg hc
      rw [e]
      exact ⟨fun i h1 h2 => absurd h1 (by omega), fun h => absurd h (by omega)⟩
theorem lowW_mod (W : Nat) (f : Nat → Nat) (hf : ∀ i, i < 280 → f i = W / 2 ^ (8 * i) % 256) : ∀ i, i ≤ 280 → lowW f i = W % 2 ^ (8 * i) := by
  intro i
  induction i with
  | zero => intro _; simp [lowW, Nat.mod_one]
  | succ i ih =>
    intro h
    rw [lowW, ih (by omega), hf i (by omega), show 8 * (i + 1) = 8 * i + 8 by omega, Nat.pow_add, Nat.mod_mul, Nat.mul_comm (W / 2 ^ (8 * i) % 256), show (2 : Nat) ^ 8 = 256 from rfl]
theorem lowW_ws (W N : Nat) (f : Nat → Nat) (hN : N = 8 * 280) (hf : ∀ i, i < 280 → f i = W / 2 ^ (8 * i) % 256) : ws (lowW f 280) = ws W := by
  rw [lowW_mod W f hf 280 (Nat.le_refl _), ← hN]
  exact ws_mod W N (by omega)
theorem mark_back (A : Nat → Bool) (k : Nat) (hk : k < 5) : markR (fbyte A 5) k = A k := by
  have h : ∀ a b c d e : Bool, ∀ j, j < 5 → decide (0 < bits .and .u8 ((a.toNat : Int) + 2 * b.toNat + 4 * c.toNat + 8 * d.toNat + 16 * e.toNat) (pw j)) = (match j with | 0 => a | 1 => b | 2 => c | 3 => d | _ => e) := by
    intro a b c d e j hj
    match j, hj with
    | 0, _ => cases a <;> cases b <;> cases c <;> cases d <;> cases e <;> decide
    | 1, _ => cases a <;> cases b <;> cases c <;> cases d <;> cases e <;> decide
    | 2, _ => cases a <;> cases b <;> cases c <;> cases d <;> cases e <;> decide
    | 3, _ => cases a <;> cases b <;> cases c <;> cases d <;> cases e <;> decide
    | 4, _ => cases a <;> cases b <;> cases c <;> cases d <;> cases e <;> decide
  unfold markR
  rw [fbyte_eq, h _ _ _ _ _ k hk]
  match k, hk with
  | 0, _ => rfl
  | 1, _ => rfl
  | 2, _ => rfl
  | 3, _ => rfl
  | 4, _ => rfl
theorem byt_sign (W : Nat) (sg : Bool) : ∀ (n : Nat), (byt W n / 128 = restOf sg / 128) → (128 ≤ byt W n ↔ sg = true) := by
  intro n h
  have := byt_range W n
  cases sg
  · rw [show restOf false / 128 = 0 by decide] at h
    constructor
    · intro h2; omega
    · intro h2; cases h2
  · rw [show restOf true / 128 = 1 by decide] at h
    constructor
    · intro _; rfl
    · intro _; omega
/-- The bytes that are read from a sum's bytes are the sum's. -/
theorem rdB_back (s : St) (i : Nat) (hi : i < 280) : rdB (bytesOf s) i = s.w / 2 ^ (8 * i) % 256 := by
  have hn := trim_le (byt s.w) (restOf (sgOf s.w)) 280
  obtain ⟨t1, t2⟩ := trim_spec (byt s.w) (restOf (sgOf s.w)) 280
  have hl : (bytesOf s).length - 1 = trim (byt s.w) (restOf (sgOf s.w)) 280 := by
    unfold bytesOf
    rw [List.length_cons, full_length]; omega
  have hrd : ∀ k, k < trim (byt s.w) (restOf (sgOf s.w)) 280 → rd (bytesOf s) (1 + k) = byt s.w k := fun k hk => by
    unfold bytesOf
    rw [show rd (fbyte (fl s) 5 :: full s.w (trim (byt s.w) (restOf (sgOf s.w)) 280)) (1 + k) = rd (full s.w (trim (byt s.w) (restOf (sgOf s.w)) 280)) k by
      simp [rd, Nat.add_comm 1 k], rd_full _ _ _ hk]
  have hb : ∀ k, (byt s.w k).toNat = s.w / 2 ^ (8 * k) % 256 := fun k => by unfold byt; exact Int.toNat_natCast _
  have hsg := byt_sign s.w (sgOf s.w)
  generalize hN : trim (byt s.w) (restOf (sgOf s.w)) 280 = n at *
  unfold rdB
  rw [hl]
  by_cases h : i < n
  · rw [if_pos h, hrd i h, hb i]
  · rw [if_neg h]
    obtain ⟨t3, t4⟩ := t2 (by omega)
    have e := t1 i (by omega) hi
    rw [← hb i, e]
    by_cases h0 : n = 0
    · have r0 := t3 h0
      rw [if_neg (by omega), r0]; rfl
    · have h1 := hsg _ (t4 (by omega))
      have h2 := hrd (n - 1) (by omega)
      rw [show 1 + (n - 1) = n by omega] at h2
      rw [h2]
      by_cases hs : sgOf s.w = true
      · rw [if_pos ⟨by omega, h1.2 hs⟩, hs]; rfl
      · have hs2 : sgOf s.w = false := by simpa using hs
        rw [if_neg (fun h3 => hs (h1.1 h3.2)), hs2]; rfl
theorem sum_back (s : St) : sumC (rdSt (bytesOf s)) = sumC s := by
  have hw : ws (lowW (rdB (bytesOf s)) 280) = ws s.w := lowW_ws s.w 2240 _ rfl (fun i hi => rdB_back s i hi)
  have hF : rd (bytesOf s) 0 = fbyte (fl s) 5 := rfl
  have hm : ∀ k, k < 5 → markR (rd (bytesOf s) 0) k = fl s k := fun k hk => by rw [hF]; exact mark_back (fl s) k hk
  exact sumC_eq _ _ hw (hm 0 (by decide)) (hm 1 (by decide)) (hm 2 (by decide)) (hm 3 (by decide)) (hm 4 (by decide))
/-- A sum's bytes hang on what lies in its cells alone. -/
theorem bytes_congr (s t : St) (h : sumC s = sumC t) : bytesOf s = bytesOf t := by
  have hat : ∀ i : Nat, (sumC s)[i]? = (sumC t)[i]? := fun i => by rw [h]
  have hw : ∀ i, i < 35 → wdn s.w i = wdn t.w i := fun i hi => by
    have := hat i
    rw [sumC_w _ i hi, sumC_w _ i hi] at this
    unfold wdv at this
    simp only [Option.some.injEq, Value.int.injEq, true_and] at this
    omega
  have hfl : ∀ k, k < 5 → fl s k = fl t k := fun k hk => by
    have := hat (35 + k)
    have e1 := sumC_fl s.w (fl s) k hk
    have e2 := sumC_fl t.w (fl t) k hk
    have e3 : (sumC s)[35 + k]? = some (.bool (fl s k)) := e1
    have e4 : (sumC t)[35 + k]? = some (.bool (fl t k)) := e2
    rw [e3, e4] at this
    simpa using this
  have hb : ∀ i, i < 280 → byt s.w i = byt t.w i := fun i hi => by
    have e : i = 8 * (i / 8) + i % 8 := by omega
    rw [e, ← byt_word s.w (i / 8) (i % 8) (by omega), ← byt_word t.w (i / 8) (i % 8) (by omega), hw (i / 8) (by omega)]
  have hsg : sgOf s.w = sgOf t.w := by unfold sgOf; rw [hw 34 (by decide)]
  have htr : ∀ r m, m ≤ 280 → trim (byt s.w) r m = trim (byt t.w) r m := fun r m => by
    induction m with
    | zero => intro _; rfl
    | succ m ih =>
      intro hm
      rw [trim, trim, ih (by omega), hb m (by omega), hb (m - 1) (by omega)]
  have hfull : ∀ m, m ≤ 280 → full s.w m = full t.w m := fun m => by
    induction m with
    | zero => intro _; rfl
    | succ m ih => intro hm; rw [full, full, ih (by omega), hb m (by omega)]
  have hfb : fbyte (fl s) 5 = fbyte (fl t) 5 := by
    rw [fbyte_eq, fbyte_eq, hfl 0 (by decide), hfl 1 (by decide), hfl 2 (by decide), hfl 3 (by decide), hfl 4 (by decide)]
  unfold bytesOf
  rw [hfb, hsg, htr _ 280 (Nat.le_refl _), hfull _ (trim_le _ _ 280)]
/-- A sum's bytes, read, are the sum. -/
theorem read_back (s : St) : readR (bytesOf s) = (rdSt (bytesOf s), 0) := by
  have hn := trim_le (byt s.w) (restOf (sgOf s.w)) 280
  have hl : (bytesOf s).length = 1 + trim (byt s.w) (restOf (sgOf s.w)) 280 := by
    unfold bytesOf
    rw [List.length_cons, full_length]; omega
  have hF : rd (bytesOf s) 0 = fbyte (fl s) 5 := rfl
  have hr := fbyte_range (fl s)
  unfold readR
  rw [if_neg (by rw [hl, hF]; omega), if_pos (bytes_congr _ _ (sum_back s))]
end Go.Proofs.Ythplelglifnhoaa
