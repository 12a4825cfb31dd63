import Derived.Test.YtjmllggjaplldaaJb
import Derived.Lib.BitFns
import Derived.Test.YtjmllggjaplldaaDr
import Derived.Laws.CopyOwn
import Derived.Great.BuildSlice
import Derived.Deep.DeepCutAuto
import Derived.Deep.CutBlock
import Derived.Test.YtjmllggjaplldaaPl
/-! Exact sums: a sum read from bytes, said plainly. -/
namespace Go.Proofs.Ytjmllggjaplldaa
open Go.RowKit
set_option linter.unusedVariables false

/-- The whole number of some bytes, the lowest first. -/
def lowW (f : Nat → Nat) : Nat → Nat
  | 0 => 0
  | i + 1 => lowW f i + f i * 2 ^ (8 * i)
theorem lowW_lt (f : Nat → Nat) (hf : ∀ i, f i < 256) : ∀ i, lowW f i < 2 ^ (8 * i) := by
  intro i
  induction i with
  | zero => simp [lowW]
  | succ i ih =>
    rw [lowW, show 8 * (i + 1) = 8 + 8 * i by omega, Nat.pow_add]
    have := hf i
    have h1 : f i * 2 ^ (8 * i) ≤ 255 * 2 ^ (8 * i) := Nat.mul_le_mul_right _ (by omega)
    omega
theorem wdn_add_hi (L m k i : Nat) (h : 64 * (i + 1) ≤ k) : wdn (L + m * 2 ^ k) i = wdn L i := by
  unfold wdn
  have e : m * 2 ^ k = 2 ^ (64 * i) * (18446744073709551616 * (m * 2 ^ (k - 64 * (i + 1)))) := by
    have : 2 ^ k = 2 ^ (64 * i) * (18446744073709551616 * 2 ^ (k - 64 * (i + 1))) := by
      rw [show (18446744073709551616 : Nat) = 2 ^ 64 from rfl, ← Nat.pow_add, ← Nat.pow_add]; congr 1; omega
    rw [this]
    generalize 2 ^ (64 * i) = a
    generalize 2 ^ (k - 64 * (i + 1)) = b
    rw [← Nat.mul_assoc, ← Nat.mul_assoc, ← Nat.mul_assoc, Nat.mul_comm m a, Nat.mul_assoc a m, Nat.mul_comm m, ← Nat.mul_assoc a, Nat.mul_assoc]
  rw [e, Nat.add_mul_div_left _ _ (Nat.two_pow_pos _), Nat.add_mul_mod_self_left]
theorem or_join64 (i : Nat) (x y : Int) (hx0 : 0 ≤ x) (hx : x < 2 ^ i) (hy0 : 0 ≤ y) (hy : y % 2 ^ i = 0) (hx1 : x < 18446744073709551616) (hy1 : y < 18446744073709551616) : bits .or .u64 x y = x + y := by
  have h : bits .or .u64 y x = y + x := bits_join .u64 64 (by decide) (fun n h0 h1 => by rw [IntKind.wrap_u64]; omega) i y x hy0 hy hy1 hx0 hx hx1
  have hc : bits .or .u64 x y = bits .or .u64 y x := by simp only [bits, BitVec.or_comm]
  rw [hc, h]; omega
/-- One more byte laid into the words. -/
theorem ws_step (f : Nat → Nat) (hf : ∀ i, f i < 256) (i : Nat) (hi : i < 280) :
    (ws (lowW f i)).setIfInBounds (i / 8) (.int .u64 (bits .or .u64 ((wdn (lowW f i) (i / 8) : Nat) : Int) (IntKind.u64.wrap ((f i : Int) * 2 ^ (8 * (i % 8)))))) = ws (lowW f (i + 1)) := by
  have hL := lowW_lt f hf i
  have hb := hf i
  have hk : i = 8 * (i / 8) + i % 8 := by omega
  have hj : i % 8 < 8 := Nat.mod_lt _ (by decide)
  have hk35 : i / 8 < 35 := by omega
  show _ = ws (lowW f i + f i * 2 ^ (8 * i))
  generalize lowW f i = L at *
  generalize f i = b at *
  generalize i / 8 = k at *
  generalize i % 8 = j at *
  subst hk
  have hp : 2 ^ (8 * (8 * k + j)) = 2 ^ (64 * k) * 2 ^ (8 * j) := by rw [← Nat.pow_add]; congr 1; omega
  have hPk := Nat.two_pow_pos (64 * k)
  have hq : L / 2 ^ (64 * k) < 2 ^ (8 * j) := (Nat.div_lt_iff_lt_mul hPk).2 (by rw [Nat.mul_comm, ← hp]; exact hL)
  have hj56 : 2 ^ (8 * j) ≤ 2 ^ 56 := Nat.pow_le_pow_right (by decide) (by omega)
  have hbj : b * 2 ^ (8 * j) ≤ 255 * 2 ^ 56 := Nat.mul_le_mul (by omega) hj56
  have hdw : wdn L k = L / 2 ^ (64 * k) := Nat.mod_eq_of_lt (by omega)
  have hnew : wdn (L + b * 2 ^ (8 * (8 * k + j))) k = L / 2 ^ (64 * k) + b * 2 ^ (8 * j) := by
    unfold wdn
    rw [hp, show b * (2 ^ (64 * k) * 2 ^ (8 * j)) = 2 ^ (64 * k) * (b * 2 ^ (8 * j)) by rw [← Nat.mul_assoc, Nat.mul_comm b, Nat.mul_assoc], Nat.add_mul_div_left _ _ hPk]
    exact Nat.mod_eq_of_lt (by omega)
  have hval : bits .or .u64 ((wdn L k : Nat) : Int) (IntKind.u64.wrap ((b : Int) * 2 ^ (8 * j))) = ((L / 2 ^ (64 * k) + b * 2 ^ (8 * j) : Nat) : Int) := by
    have hw : IntKind.u64.wrap ((b : Int) * 2 ^ (8 * j)) = ((b * 2 ^ (8 * j) : Nat) : Int) := by
      rw [IntKind.wrap_u64, show ((b : Int) * 2 ^ (8 * j)) = ((b * 2 ^ (8 * j) : Nat) : Int) by simp]
      omega
    rw [hw, hdw, or_join64 (8 * j) _ _ (by omega) (by
      have : ((L / 2 ^ (64 * k) : Nat) : Int) < ((2 ^ (8 * j) : Nat) : Int) := by omega
      simpa using this) (by omega) (by
      simp) (by omega) (by omega)]
    omega
  rw [hval]
  apply Array.ext_getElem?
  intro m
  by_cases hm : m < 35
  · rw [ws_at _ m hm]
    by_cases e : k = m
    · subst e
      rw [Array.getElem?_setIfInBounds_self_of_lt (by rw [ws_size]; omega)]
      unfold wdv
      rw [hnew]
    · rw [Array.getElem?_setIfInBounds_ne e, ws_at _ m hm]
      unfold wdv
      rcases Nat.lt_or_ge m k with h | h
      · rw [wdn_add_hi L b _ m (by omega)]
      · have hlt : L + b * 2 ^ (8 * (8 * k + j)) < 2 ^ (64 * m) := by
          have h1 : b * 2 ^ (8 * (8 * k + j)) ≤ 255 * 2 ^ (8 * (8 * k + j)) := Nat.mul_le_mul_right _ (by omega)
          have h2 : 2 ^ (8 * (8 * k + j) + 8) ≤ 2 ^ (64 * m) := Nat.pow_le_pow_right (by decide) (by omega)
          rw [Nat.pow_add] at h2
          omega
        have z : ∀ X, X < 2 ^ (64 * m) → wdn X m = 0 := fun X hX => by unfold wdn; rw [Nat.div_eq_of_lt hX]
        rw [z _ hlt, z L (by omega)]
  · rw [Array.getElem?_eq_none (by rw [Array.size_setIfInBounds, ws_size]; omega), Array.getElem?_eq_none (by rw [ws_size]; omega)]
/-- The bytes that are read: those behind the first, then what tells the sign. -/
def rdB (p : List Int) (i : Nat) : Nat :=
  if i < p.length - 1 then (rd p (1 + i)).toNat else if 0 < p.length - 1 ∧ 128 ≤ rd p (p.length - 1) then 255 else 0
theorem rdB_lt (p : List Int) (h : Bytes8 p) (i : Nat) : rdB p i < 256 := by
  unfold rdB
  split
  · have := h (1 + i) (by omega); omega
  · split <;> omega
def markR (f : Int) (k : Nat) : Bool := decide (0 < bits .and .u8 f (pw k))
/-- The sum that some bytes tell, before it is asked whether it has just these. -/
def rdSt (p : List Int) : St := mkSt (lowW (rdB p) 280) (markR (rd p 0))
/-- What is read. -/
def readR (p : List Int) : St × Int :=
  if p.length < 1 ∨ 281 < p.length ∨ 31 < rd p 0 then (noSt, 3) else if bytesOf (rdSt p) = p then (rdSt p, 0) else (noSt, 3)
end Go.Proofs.Ytjmllggjaplldaa
/-! Exact sums: a sum read from bytes: the walk. -/
namespace Go.Proofs.Ytjmllggjaplldaa
open Go.RowKit
set_option linter.unusedVariables false
attribute [-simp] Try.isAgg28
attribute [-simp] Try.isAgg30 Try.sizeOf30 Try.typeInfo30 Try.type30
attribute [-simp] Try.isAgg99

/-- The 280 bytes. -/
def bsC (f : Nat → Nat) : Array Value := (Array.range 280).map fun i => .int .u8 (f i : Int)
theorem bsC_size (f : Nat → Nat) : (bsC f).size = 280 := by simp [bsC]
theorem bsC_at (f : Nat → Nat) (i : Nat) (h : i < 280) : (bsC f)[i]? = some (.int .u8 (f i : Int)) := by simp [bsC, h]
theorem bsC_one (f : Nat → Nat) : (bsC f).all (·.oneCell') = true := by
  rw [Array.all_eq_true_iff_forall_mem]
  intro x hx
  unfold bsC at hx
  obtain ⟨i, _, rfl⟩ := Array.mem_map.1 hx
  rfl
theorem bsC_set (f : Nat → Nat) (i v : Nat) (h : i < 280) : (bsC f).setIfInBounds i (.int .u8 (v : Int)) = bsC (fun k => if k = i then v else f k) := by
  apply Array.ext_getElem?
  intro k
  by_cases hk : k < 280
  · rw [bsC_at _ k hk]
    by_cases e : k = i
    · subst e; rw [Array.getElem?_setIfInBounds_self_of_lt (by rw [bsC_size]; omega), if_pos rfl]
    · rw [Array.getElem?_setIfInBounds_ne (Ne.symm e), bsC_at _ k hk, if_neg e]
  · rw [Array.getElem?_eq_none (by rw [Array.size_setIfInBounds, bsC_size]; omega), Array.getElem?_eq_none (by rw [bsC_size]; omega)]
set_option maxRecDepth 100000 in
theorem size77 : (Try.prog.info? 99).map (·.size) = some 280 := by kernel_rfl
set_option maxRecDepth 100000 in
theorem zero77 : ∀ w, (zeroValue 99).run Try.prog w = .ok (.agg (bsC fun _ => 0)) w := by
  have h : (bsC fun _ => 0) = Array.replicate 280 (.int .u8 0) := by
    apply Array.ext_getElem?
    intro k
    by_cases hk : k < 280
    · rw [bsC_at _ k hk, Array.getElem?_replicate, if_pos hk]; rfl
    · rw [Array.getElem?_eq_none (by rw [bsC_size]; omega), Array.getElem?_eq_none (by simp; omega)]
  intro w
  rw [h]
  kernel_rfl
/-- The bytes behind the copy, and while the sign is told. -/
def f0 (p : List Int) (i : Nat) (k : Nat) : Nat := if k < p.length - 1 then (rd p (1 + k)).toNat else if k < i then 255 else 0
theorem bs_splice (p : List Int) (h8 : Bytes8 p) (h1 : 1 ≤ p.length) (h2 : p.length ≤ 281) : (splice (bsC fun _ => 0).toList 0 ((p.drop 1).map (Value.int .u8))).toArray = bsC (f0 p 0) := by
  have hl : ((p.drop 1).map (Value.int .u8)).length = p.length - 1 := by rw [List.length_map, List.length_drop]
  have hz : (bsC fun _ => 0).toList.length = 280 := by rw [Array.length_toList, bsC_size]
  apply Array.ext_getElem?
  intro k
  unfold splice
  rw [List.getElem?_toArray, List.take_zero, List.nil_append, Nat.zero_add, hl]
  by_cases hk : k < 280
  · rw [bsC_at _ k hk]
    unfold f0
    by_cases hn : k < p.length - 1
    · rw [List.getElem?_append_left (by rw [hl]; exact hn), if_pos hn, List.getElem?_map, List.getElem?_drop, List.getElem?_eq_getElem (by omega), ← rd_eq p (1 + k) (by omega)]
      have := h8 (1 + k) (by omega)
      show some (Value.int .u8 (rd p (1 + k))) = some (Value.int .u8 ((rd p (1 + k)).toNat : Int))
      rw [Int.toNat_of_nonneg this.1]
    · rw [List.getElem?_append_right (by rw [hl]; omega), hl, if_neg hn, if_neg (by omega), List.getElem?_drop, Array.getElem?_toList, show p.length - 1 + (k - (p.length - 1)) = k by omega, bsC_at _ k hk]
  · rw [List.getElem?_eq_none (by rw [List.length_append, hl, List.length_drop, hz]; omega), Array.getElem?_eq_none (by rw [bsC_size]; omega)]
theorem sumC_word (L L' : Nat) (A : Nat → Bool) (k : Nat) (hk : k < 35) (v : Value) (h : (ws L).setIfInBounds k v = ws L') : (sumC (mkSt L A)).setIfInBounds k v = sumC (mkSt L' A) := by
  apply Array.ext_getElem?
  intro m
  by_cases hm : m < 35
  · have h2 : ((ws L).setIfInBounds k v)[m]? = (ws L')[m]? := by rw [h]
    rw [ws_at _ m hm] at h2
    rw [sumC_w _ m hm]
    show _ = some (wdv L' m)
    rw [← h2]
    by_cases e : k = m
    · subst e
      rw [Array.getElem?_setIfInBounds_self_of_lt (by rw [sumC_size]; omega), Array.getElem?_setIfInBounds_self_of_lt (by rw [ws_size]; omega)]
    · rw [Array.getElem?_setIfInBounds_ne e, Array.getElem?_setIfInBounds_ne e, sumC_w _ m hm, ws_at _ m hm]; rfl
  · obtain ⟨q, rfl⟩ : ∃ q, m = 35 + q := ⟨m - 35, by omega⟩
    rw [Array.getElem?_setIfInBounds_ne (by omega), sumC_f, sumC_f]; rfl
theorem run_index280 (E : Array Value) (hsz : E.size = 280) (k : Nat) (hk : k < 280) (x : Int) (h : E[k]? = some (.int .u8 x)) (w : World) :
    (Instr.index 99 (.agg E) (.int .i64 (k : Int))).run Try.prog w = .ok (.int .u8 x) w := by
  have hv := at_of (by omega) h
  simp [Instr.index, run_underlying Try.underlying99, asIntOf, go_sem, part, hk, hv, hsz, Try.sizeOf5, Try.isAgg5, Sem.run_bind, Result.andThen]
theorem bsC_congr {f g : Nat → Nat} (h : ∀ k, k < 280 → f k = g k) : bsC f = bsC g := by
  apply Array.ext_getElem?
  intro k
  by_cases hk : k < 280
  · rw [bsC_at _ k hk, bsC_at _ k hk, h k hk]
  · rw [Array.getElem?_eq_none (by rw [bsC_size]; omega), Array.getElem?_eq_none (by rw [bsC_size]; omega)]
theorem f0_start (p : List Int) (N : Nat) (hN : p.length - 1 = N) : bsC (f0 p 0) = bsC (f0 p N) := bsC_congr fun k _ => by
  unfold f0
  rw [hN]
  by_cases h : k < N
  · rw [if_pos h, if_pos h]
  · rw [if_neg h, if_neg h, if_neg (by omega), if_neg (by omega)]
theorem f0_step (p : List Int) (N i : Nat) (hN : p.length - 1 = N) (hi : N ≤ i) (h : i < 280) : (bsC (f0 p i)).setIfInBounds i (.int .u8 255) = bsC (f0 p (i + 1)) := by
  rw [show (255 : Int) = ((255 : Nat) : Int) from rfl, bsC_set _ i 255 h]
  refine bsC_congr fun k _ => ?_
  unfold f0
  rw [hN]
  by_cases e : k = i
  · rw [if_pos e, if_neg (by omega), if_pos (by omega)]
  · rw [if_neg e]
    by_cases h2 : k < N
    · rw [if_pos h2, if_pos h2]
    · rw [if_neg h2, if_neg h2]
      by_cases h3 : k < i
      · rw [if_pos h3, if_pos (by omega)]
      · rw [if_neg h3, if_neg (by omega)]
theorem f0_end (p : List Int) (N i : Nat) (hN : p.length - 1 = N) (hi : N ≤ i) (hneg : N < i → 0 < N ∧ 128 ≤ rd p N) (h : (0 < N ∧ 128 ≤ rd p N) → i = 280) : bsC (f0 p i) = bsC (rdB p) := bsC_congr fun k hk => by
  unfold f0 rdB
  rw [hN]
  by_cases h2 : k < N
  · rw [if_pos h2, if_pos h2]
  · rw [if_neg h2, if_neg h2]
    by_cases h3 : 0 < N ∧ 128 ≤ rd p N
    · rw [if_pos h3, if_pos (by have := h h3; omega)]
    · rw [if_neg h3, if_neg (by
        intro h4
        exact h3 (hneg (by omega)))]
set_option maxRecDepth 100000 in
set_option maxHeartbeats 8000000 in
theorem read_any (A : Option Addr) (cap : Nat) (p : List Int) (w : World) (hcp : p.length ≤ cap) (hr : Reads w .u8 A p) (h8 : Bytes8 p) (hl : p.length ≤ 9223372036854775807) :
    Calls Try.prog 58 #[.slice A p.length cap] w fun e w' => e = .returned (.tuple #[.agg (sumC (readR p).1), .int .i64 (readR p).2]) ∧ Below w.heap.size w w' := by
  have Hs := Lib.hid size30
  have Hs77 := Lib.hid size77
  have zz : ∀ w, (zeroValue 30).run Try.prog w = .ok (.agg (sumC noSt)) w := zero30
  have z7 := zero77
  by_cases hbad : p.length < 1 ∨ 281 < p.length ∨ 31 < rd p 0
  · have Hres := Lib.hid (show readR p = (noSt, 3) by unfold readR; rw [if_pos hbad])
    have g0 := fun w : World => heap_alloc2_old w (.cells (sumC noSt) 30) (.cells (sumC noSt) 30)
    have g1 := fun w : World => heap_alloc2_new w (.cells (sumC noSt) 30) (.cells (sumC noSt) 30)
    have bb : Below w.heap.size w ((w.alloc (.cells (sumC noSt) 30)).alloc (.cells (sumC noSt) 30)) := below_alloc (below_alloc (Below.refl _ _) _) _
    have hd : (decide ((p.length : Int) < 1) = true) ∨ (decide ((p.length : Int) < 1) = false ∧ decide ((281 : Int) < (p.length : Int)) = true) ∨ (decide ((p.length : Int) < 1) = false ∧ decide ((281 : Int) < (p.length : Int)) = false ∧ (1 : Int) ≤ (p.length : Int) ∧ decide ((31 : Int) < rd p 0) = true ∧ ∃ a, A = some a ∧ w.cell? a = some (.int .u8 (rd p 0))) := by
      by_cases h1 : p.length < 1
      · exact .inl (decide_eq_true (by omega))
      · by_cases h2 : 281 < p.length
        · exact .inr (.inl ⟨decide_eq_false (by omega), decide_eq_true (by omega)⟩)
        · refine .inr (.inr ⟨decide_eq_false (by omega), decide_eq_false (by omega), by omega, decide_eq_true (by omega), ?_⟩)
          obtain ⟨a, rfl⟩ := hr.some_ (by omega)
          have := hr.lit 0 (by omega)
          have e : a.add 0 = a := by simp [Addr.add]
          rw [e] at this
          exact ⟨a, rfl, this⟩
    have Hg0 := Lib.hid (g0 w)
    have Hg1 := Lib.hid (g1 w)
    have Hbb := Lib.hid bb
    rw [Hres.out]
    clear g0 g1 bb hr h8 z7 Hres
    rcases hd with h1 | ⟨h1, h2⟩ | ⟨h1, h2, h3, h4, a, rfl, hc⟩
    · clear hbad
      go_enter Try.func58, Try.ntmps58
      go_wp2_with (first
        | (refine at_op (.alloc 30) ?_ rfl; first | (refine wpList_alloc_row rfl _ 30 rfl (some 2) rfl w.heap.size rfl _ zz ?_) | (refine wpList_alloc_row rfl _ 30 rfl (some 4) rfl (w.heap.size + 1) (by simp) _ zz ?_))
        | (refine at_op0 (.load 30 (.tmp 4)) ?_ rfl rfl; refine wpList_load_row rfl 30 (.tmp 4) rfl (w.heap.size + 1) rfl 30 _ (0, 0) _ Hg1.out Try.underlying30 rfl (by rw [sumC_size]; exact Hs.out) ?_)
        | (refine at_op (.store 30 (.tmp 2) (.tmp 25)) ?_ rfl; refine wpList_store_row rfl 30 (.tmp 2) (.tmp 25) rfl w.heap.size (sumC noSt) rfl rfl 30 _ Hg0.out (by rw [sumC_size]; exact Hs.out) (by simp only [sumC_size]) (sumC_one _) ?_))
      exact bodyPost_ret (results_row_tmp rfl _ _ w.heap.size 30 (sumC noSt) (0, 0) _ rfl (setRow_heap _ _ _ (sumC noSt) _ _ Hg0.out) Try.underlying30 rfl (by rw [sumC_size]; exact Hs.out)) rfl ⟨rfl, below_setRow Hbb.out (Nat.le_refl _) _⟩
    · clear hbad
      go_enter Try.func58, Try.ntmps58
      go_wp2_with (first
        | (refine at_op (.alloc 30) ?_ rfl; first | (refine wpList_alloc_row rfl _ 30 rfl (some 2) rfl w.heap.size rfl _ zz ?_) | (refine wpList_alloc_row rfl _ 30 rfl (some 4) rfl (w.heap.size + 1) (by simp) _ zz ?_))
        | (refine at_op0 (.load 30 (.tmp 4)) ?_ rfl rfl; refine wpList_load_row rfl 30 (.tmp 4) rfl (w.heap.size + 1) rfl 30 _ (0, 0) _ Hg1.out Try.underlying30 rfl (by rw [sumC_size]; exact Hs.out) ?_)
        | (refine at_op (.store 30 (.tmp 2) (.tmp 25)) ?_ rfl; refine wpList_store_row rfl 30 (.tmp 2) (.tmp 25) rfl w.heap.size (sumC noSt) rfl rfl 30 _ Hg0.out (by rw [sumC_size]; exact Hs.out) (by simp only [sumC_size]) (sumC_one _) ?_))
      exact bodyPost_ret (results_row_tmp rfl _ _ w.heap.size 30 (sumC noSt) (0, 0) _ rfl (setRow_heap _ _ _ (sumC noSt) _ _ Hg0.out) Try.underlying30 rfl (by rw [sumC_size]; exact Hs.out)) rfl ⟨rfl, below_setRow Hbb.out (Nat.le_refl _) _⟩
    · have hc2 := cell_below Hbb.out hc
      have hlp : 0 < p.length := by omega
      clear hbad hc
      go_enter Try.func58, Try.ntmps58
      go_wp2_with (first
        | (refine at_op (.alloc 30) ?_ rfl; first | (refine wpList_alloc_row rfl _ 30 rfl (some 2) rfl w.heap.size rfl _ zz ?_) | (refine wpList_alloc_row rfl _ 30 rfl (some 4) rfl (w.heap.size + 1) (by simp) _ zz ?_))
        | (refine at_op0 (.load 30 (.tmp 4)) ?_ rfl rfl; refine wpList_load_row rfl 30 (.tmp 4) rfl (w.heap.size + 1) rfl 30 _ (0, 0) _ Hg1.out Try.underlying30 rfl (by rw [sumC_size]; exact Hs.out) ?_)
        | (refine at_op (.store 30 (.tmp 2) (.tmp 25)) ?_ rfl; refine wpList_store_row rfl 30 (.tmp 2) (.tmp 25) rfl w.heap.size (sumC noSt) rfl rfl 30 _ Hg0.out (by rw [sumC_size]; exact Hs.out) (by simp only [sumC_size]) (sumC_one _) ?_))
      exact bodyPost_ret (results_row_tmp rfl _ _ w.heap.size 30 (sumC noSt) (0, 0) _ rfl (setRow_heap _ _ _ (sumC noSt) _ _ Hg0.out) Try.underlying30 rfl (by rw [sumC_size]; exact Hs.out)) rfl ⟨rfl, below_setRow Hbb.out (Nat.le_refl _) _⟩
  · obtain ⟨a, rfl⟩ := hr.some_ (by omega)
    have hb3 : Below w.heap.size w (((w.alloc (.cells (sumC noSt) 30)).alloc (.cells (sumC noSt) 30)).alloc (.cells (bsC fun _ => 0) 99)) := below_alloc (below_alloc (below_alloc (Below.refl _ _) _) _) _
    have c0w : w.cell? a = some (.int .u8 (rd p 0)) := by
      have := hr.lit 0 (by omega)
      have e : a.add 0 = a := by simp [Addr.add]
      rwa [e] at this
    have c0 := cell_below (below_alloc (below_alloc (Below.refl w.heap.size w) (.cells (sumC noSt) 30)) (.cells (sumC noSt) 30)) c0w
    have d1 : decide ((p.length : Int) < 1) = false := decide_eq_false (by omega)
    have d2 : decide ((281 : Int) < (p.length : Int)) = false := decide_eq_false (by omega)
    have d3 : decide ((31 : Int) < rd p 0) = false := decide_eq_false (by omega)
    have r3 := hr.below hb3
    have hp1 : 1 ≤ p.length := by omega
    have hp2 : p.length ≤ 281 := by omega
    have hf0 := h8 0 (by omega)
    have hf1 : rd p 0 ≤ 31 := by omega
    go_enter Try.func58, Try.ntmps58
    go_wp2_with (first
      | (refine at_op (.alloc 30) ?_ rfl; first | (refine wpList_alloc_row rfl _ 30 rfl (some 2) rfl w.heap.size rfl _ zz ?_) | (refine wpList_alloc_row rfl _ 30 rfl (some 4) rfl (w.heap.size + 1) (by simp) _ zz ?_))
      | (refine at_op (.alloc 99) ?_ rfl; refine wpList_alloc_row rfl _ 99 rfl (some 5) rfl (w.heap.size + 2) (by simp) _ z7 ?_))
    have g0 := heap3_0 w (.cells (sumC noSt) 30) (.cells (sumC noSt) 30) (.cells (bsC fun _ => 0) 99)
    have g1 := heap3_1 w (.cells (sumC noSt) 30) (.cells (sumC noSt) 30) (.cells (bsC fun _ => 0) 99)
    have g2 := heap3_2 w (.cells (sumC noSt) 30) (.cells (sumC noSt) 30) (.cells (bsC fun _ => 0) 99)
    clear c0 d1 d2 d3 zz z7
    generalize (((w.alloc (.cells (sumC noSt) 30)).alloc (.cells (sumC noSt) 30)).alloc (.cells (bsC fun _ => 0) 99)) = w3 at *
    have hsp := bs_splice p h8 hp1 hp2
    have hcl : ((p.drop 1).map (Value.int .u8)).length = p.length - 1 := by rw [List.length_map, List.length_drop]
    have hsrc : ∀ j v, ((p.drop 1).map (Value.int .u8))[j]? = some v → w3.cell? ((a.add 1).add j) = some v := fun j v hv => by
      have hj : j < p.length - 1 := by
        rcases Nat.lt_or_ge j (p.length - 1) with h | h
        · exact h
        · rw [List.getElem?_eq_none (by rw [hcl]; exact h)] at hv; cases hv
      rw [List.getElem?_map, List.getElem?_drop, List.getElem?_eq_getElem (by omega), ← rd_eq p (1 + j) (by omega)] at hv
      rw [add_add, r3.lit (1 + j) (by omega)]
      simpa using hv
    have hone : ∀ v ∈ (p.drop 1).map (Value.int .u8), v.oneCell' = true := fun v hv => by obtain ⟨x, _, rfl⟩ := List.mem_map.1 hv; rfl
    have hu8 : (Try.prog.info? 5).map (·.size) = some 1 := by kernel_rfl
    have hft : 0 + ((p.drop 1).map (Value.int .u8)).length ≤ (bsC fun _ => 0).toList.length := by
      have hz : (bsC fun _ => 0).toList.length = 280 := by rw [Array.length_toList, bsC_size]
      rw [hcl, hz]; omega
    have hi1 : (1 : Int) ≤ (p.length : Int) := by omega
    go_frame
    go_cut [6] (fun v wr => v = .int .i64 ((p.length - 1 : Nat) : Int) ∧ wr.heap[w.heap.size + 2]? = some (.cells (bsC (f0 p 0)) 99 (0, 0)) ∧ wr.heap[w.heap.size]? = some (.cells (sumC noSt) 30 (0, 0)) ∧ wr.heap[w.heap.size + 1]? = some (.cells (sumC noSt) 30 (0, 0)) ∧ Below w.heap.size w wr)
    case first =>
      by_cases hc1 : cap = 1
      · subst hc1
        go_region_law (first | (refine step_copy_splice rfl (.tmp 26) (.tmp 28) 37 37 rfl 5 Try.underlying37 hu8 _ _ _ _ _ _ rfl rfl (w.heap.size + 2) 0 (bsC fun _ => 0).toList 99 (by rw [Array.toArray_toList]; exact g2) ((p.drop 1).map (Value.int .u8)) (by rw [hcl]; show _ = min _ _; omega) (fun h => by rw [hcl] at h; omega) hft hone (w.heap.size + 2) w3 (Below.refl (w.heap.size + 2) w3).drew (Nat.le_refl _) ?_; intro w5 HG5 b5))
        go_wp2_with fail
        go_meet
        exact ⟨by first | rfl | (have h0 : p.length - 1 = 0 := by omega
                                 rw [h0]; rfl), by rw [← hsp]; exact HG5.out, (b5.block _ (by omega)).trans g0, (b5.block _ (by omega)).trans g1, hb3.trans (b5.mono (by omega))⟩
      · go_region_law (first | (refine step_copy_splice rfl (.tmp 26) (.tmp 28) 37 37 rfl 5 Try.underlying37 hu8 _ _ _ _ _ _ rfl rfl (w.heap.size + 2) 0 (bsC fun _ => 0).toList 99 (by rw [Array.toArray_toList]; exact g2) ((p.drop 1).map (Value.int .u8)) (by rw [hcl]; show _ = min _ _; omega) (fun _ => ⟨rfl, _, rfl, hsrc⟩) hft hone (w.heap.size + 2) w3 (Below.refl (w.heap.size + 2) w3).drew (Nat.le_refl _) ?_; intro w5 HG5 b5))
        go_wp2_with fail
        go_meet
        exact ⟨by first | rfl | (have h0 : p.length - 1 = 0 := by omega
                                 rw [h0]; rfl), by rw [← hsp]; exact HG5.out, (b5.block _ (by omega)).trans g0, (b5.block _ (by omega)).trans g1, hb3.trans (b5.mono (by omega))⟩
    case rest =>
      obtain ⟨rfl, k2, k0, k1, hbc⟩ := hcut
      have rc := hr.below hbc
      have c0c := cell_below hbc c0w
      clear hsp hcl hsrc hone hu8 hft hi1 g0 g1 g2 r3 hb3 c0w
      have hn := h8 (p.length - 1) (by omega)
      generalize hN : p.length - 1 = N at *
      have hNl : N < p.length := by omega
      go_upto_block 0 with fail
      go_cut [7] (fun v wr => wr.heap[w.heap.size + 2]? = some (.cells (bsC (rdB p)) 99 (0, 0)) ∧ wr.heap[w.heap.size]? = some (.cells (sumC noSt) 30 (0, 0)) ∧ wr.heap[w.heap.size + 1]? = some (.cells (sumC noSt) 30 (0, 0)) ∧ Below w.heap.size w wr)
      case first =>
        go_wp2_with fail
        go_loopw [7] (fun v wr => ∃ i : Nat, N ≤ i ∧ i ≤ 280 ∧ v = .int .i64 i ∧ (N < i → 0 < N ∧ 128 ≤ rd p N) ∧ wr.heap[w.heap.size + 2]? = some (.cells (bsC (f0 p i)) 99 (0, 0)) ∧ wr.heap[w.heap.size]? = some (.cells (sumC noSt) 30 (0, 0)) ∧ wr.heap[w.heap.size + 1]? = some (.cells (sumC noSt) 30 (0, 0)) ∧ Below w.heap.size w wr) (fun v _ => 280 - (intOf v).toNat)
        case atStart => exact ⟨N, Nat.le_refl _, by omega, rfl, fun h => absurd h (Nat.lt_irrefl _), by rw [← f0_start p N hN]; exact k2, k0, k1, hbc⟩
        case round =>
          obtain ⟨i, hi, hi2, rfl, hneg, k2, k0, k1, hb⟩ := hrel
          by_cases hlt : i < 280
          · have hst := f0_step p N i hN hi hlt
            have Hst := Lib.hid hst
            have Hend := Lib.hid (f0_end p N i hN hi hneg)
            have Hneg := Lib.hid hneg
            have HN := Lib.hid hN
            have K2 := Lib.hid k2
            have K0 := Lib.hid k0
            have K1 := Lib.hid k1
            have hcell : wr.cell? ⟨w.heap.size + 2, i, none⟩ = some (.int .u8 (f0 p i i : Int)) := (cell_of_row _ _ i _ _ _ k2).trans (bsC_at _ i hlt)
            have hfz := frozen_of_row k2 i
            by_cases h0 : 0 < N
            · have hcN : wr.cell? (a.add N) = some (.int .u8 (rd p N)) := (hr.below hb).lit N (by omega)
              generalize hX : rd p N = x at *
              have HX := Lib.hid hX
              clear hst hneg hN k2 k0 k1 hX
              generalize f0 p i i = y at *
              by_cases hx : 128 ≤ x
              · have hxb : (x / 128 == 1) = true := by rw [beq_iff_eq]; omega
                go_wp2_with fail
                refine ⟨⟨i + 1, by omega, by omega, by go_num, fun _ => ⟨h0, hx⟩, ?_, ?_, ?_, hb.setCell (p := ⟨w.heap.size + 2, i, none⟩) (by simp) _⟩, by simp [intOf]; omega⟩
                · rw [← Hst.out]
                  exact heap_setCell_at (k := i) K2.out _
                · exact (Below.heap_setCell _ _ _ _ (by simp)).trans K0.out
                · exact (Below.heap_setCell _ _ _ _ (by simp)).trans K1.out
              · have hxb : (x / 128 == 1) = false := by rw [beq_eq_false_iff_ne]; omega
                go_wp2_with fail
                go_meet
                exact ⟨by rw [← Hend.out (fun h => by have := h.2; omega)]; exact K2.out, K0.out, K1.out, hb⟩
            · clear hst hneg hN k2 k0 k1
              go_wp2_with fail
              go_meet
              exact ⟨by rw [← Hend.out (fun h => by have := h.1; omega)]; exact K2.out, K0.out, K1.out, hb⟩
          · have hend := f0_end p N i hN hi hneg (fun _ => by omega)
            rw [hend] at k2
            have HN := Lib.hid hN
            clear hend hneg hN
            go_wp2_with fail
            go_meet
            exact ⟨k2, k0, k1, hb⟩
      case rest =>
        obtain ⟨k2, k0, k1, hbr⟩ := hcut
        clear hbc rc c0c hn
        have hz : sumC noSt = sumC (mkSt (lowW (rdB p) 0) (fun _ => false)) := rfl
        go_upto_block 2 with (first
          | (refine at_op (.load 99 (.tmp 5)) ?_ rfl; refine wpList_load_row rfl 99 (.tmp 5) rfl (w.heap.size + 2) rfl 99 _ (0, 0) _ k2 Try.underlying99 rfl (by rw [bsC_size]; exact Hs77.out) ?_))
        go_cut [8] (fun v wr => wr.heap[w.heap.size]? = some (.cells (sumC noSt) 30 (0, 0)) ∧ wr.heap[w.heap.size + 1]? = some (.cells (sumC (mkSt (lowW (rdB p) 280) (fun _ => false))) 30 (0, 0)) ∧ Below w.heap.size w wr)
        case first =>
          go_wp2_with fail
          go_loopw [50] (fun v wr => ∃ i : Nat, i ≤ 280 ∧ v = .int .i64 i ∧ wr.heap[w.heap.size]? = some (.cells (sumC noSt) 30 (0, 0)) ∧ wr.heap[w.heap.size + 1]? = some (.cells (sumC (mkSt (lowW (rdB p) i) (fun _ => false))) 30 (0, 0)) ∧ Below w.heap.size w wr) (fun v _ => 280 - (intOf v).toNat)
          case atStart => exact ⟨0, by omega, rfl, k0, k1, hbr⟩
          case round =>
            clear k2 k0 k1 hbr hz
            obtain ⟨i, hi, rfl, k0, k1, hb⟩ := hrel
            by_cases hlt : i < 280
            · have hidx := run_index280 (bsC (rdB p)) (bsC_size _) i hlt _ (bsC_at _ i hlt)
              have hfb := rdB_lt p h8 i
              have hww := wdn_lt (lowW (rdB p) i) (i / 8)
              have hcell : wr.cell? ⟨w.heap.size + 1, i / 8, none⟩ = some (.int .u64 (wdn (lowW (rdB p) i) (i / 8) : Nat)) := (cell_of_row _ _ _ _ _ _ k1).trans (sumC_w _ _ (by omega))
              have hfz := frozen_of_row k1 (i / 8)
              obtain ⟨k, hk⟩ : ∃ k, i / 8 = k := ⟨_, rfl⟩
              obtain ⟨j, hj⟩ : ∃ j, i % 8 = j := ⟨_, rfl⟩
              have hk35 : k < 35 := by omega
              have hj8 : j < 8 := by omega
              have q1 : (i : Int) / 8 = (k : Int) := by omega
              have q2 : (i : Int) % 8 = (j : Int) := by omega
              rw [hk] at hww hcell hfz
              have HK := Lib.hid hk
              have HJ := Lib.hid hj
              have H8 := Lib.hid h8
              have K0 := Lib.hid k0
              have K1 := Lib.hid k1
              have hD := bsC_size (rdB p)
              clear k0 k1 hk hj hN h8
              generalize hB : rdB p i = b at *
              have HB := Lib.hid hB
              clear hB
              generalize hX : wdn (lowW (rdB p) i) k = x at *
              have HX := Lib.hid hX
              clear hX
              generalize bsC (rdB p) = D at *
              have Hb := Lib.hid hb
              clear hb hr hbad hp1 hp2 hf0 hf1 hcp hl hNl
              go_upto_region 13 with fail
              have p1 : (i : Int).tdiv 8 = (k : Int) := by rw [Int.tdiv_eq_ediv_of_nonneg (by omega)]; exact q1
              have p2 : (i : Int).tmod 8 = (j : Int) := by rw [Int.tmod_eq_emod_of_nonneg (by omega)]; exact q2
              have p3 : IntKind.i64.wrap (k : Int) = (k : Int) := by rw [IntKind.wrap_i64]; omega
              have p4 : IntKind.i64.wrap (8 * (j : Int)) = 8 * (j : Int) := by rw [IntKind.wrap_i64]; omega
              have p5 : (0 : Int) ≤ (k : Int) := by omega
              have p6 : (k : Int) < 35 := by omega
              have p7 : (0 : Int) ≤ 8 * (j : Int) := by omega
              have p8 : 8 * (j : Int) ≤ 64 := by omega
              have p9 : IntKind.i64.wrap (j : Int) = (j : Int) := by rw [IntKind.wrap_i64]; omega
              have hcd : wr.drew.cell? ⟨w.heap.size + 1, k, none⟩ = some (.int .u64 (x : Int)) := hcell
              have hfd : wr.drew.frozen? ⟨w.heap.size + 1, k, none⟩ = false := hfz
              clear q1 q2
              go_region_with fail
              have hv : bits .or .u64 (x : Int) (IntKind.u64.wrap (IntKind.u64.wrap (b : Int) * 2 ^ (8 * (j : Int)).toNat)) = bits .or .u64 (x : Int) (IntKind.u64.wrap ((b : Int) * 2 ^ (8 * j))) := by
                rw [show IntKind.u64.wrap (b : Int) = (b : Int) by rw [IntKind.wrap_u64]; omega, show (8 * (j : Int)).toNat = 8 * j by omega]
              rw [hv]
              have hst := ws_step (rdB p) (rdB_lt p H8.out) i hlt
              rw [HK.out, HJ.out, HB.out, HX.out] at hst
              have hset := sumC_word _ _ (fun _ => false) k hk35 _ hst
              have m1 : (wr.setCell ⟨w.heap.size + 1, k, none⟩ (.int .u64 (bits .or .u64 (x : Int) (IntKind.u64.wrap ((b : Int) * 2 ^ (8 * j)))))).heap[w.heap.size + 1]? = some (.cells (sumC (mkSt (lowW (rdB p) (i + 1)) (fun _ => false))) 30 (0, 0)) := by
                rw [← hset]; exact heap_setCell_at (k := k) K1.out _
              have m0 : (wr.setCell ⟨w.heap.size + 1, k, none⟩ (.int .u64 (bits .or .u64 (x : Int) (IntKind.u64.wrap ((b : Int) * 2 ^ (8 * j)))))).heap[w.heap.size]? = some (.cells (sumC noSt) 30 (0, 0)) := (Below.heap_setCell _ _ _ _ (by simp)).trans K0.out
              have mb := Hb.out.setCell (p := ⟨w.heap.size + 1, k, none⟩) (by simp) (.int .u64 (bits .or .u64 (x : Int) (IntKind.u64.wrap ((b : Int) * 2 ^ (8 * j)))))
              generalize wr.setCell ⟨w.heap.size + 1, k, none⟩ (.int .u64 (bits .or .u64 (x : Int) (IntKind.u64.wrap ((b : Int) * 2 ^ (8 * j))))) = w7 at *
              have M0 := Lib.hid m0
              have M1 := Lib.hid m1
              clear hv hst hset m0 m1 hcd hfd hcell hfz K0 K1 p1 p2 p3 p4 p5 p6 p7 p8 p9 hidx HB HX
              go_wp2_with fail
              exact ⟨⟨i + 1, by omega, by go_num, M0.out, M1.out, mb.drew⟩, by simp [intOf]; omega⟩
            · obtain rfl : i = 280 := by omega
              go_wp2_with fail
              go_meet
              exact ⟨k0, k1, hb⟩
        case rest =>
          obtain ⟨k0, k1, hb⟩ := hcut
          clear hbr hz
          have rc := hr.below hb
          have hcf : wc.cell? a = some (.int .u8 (rd p 0)) := by
            have := rc.lit 0 (by omega)
            have e : a.add 0 = a := by simp [Addr.add]
            rwa [e] at this
          have c35 : wc.cell? ⟨w.heap.size + 1, 35, none⟩ = some (.bool false) := (cell_of_row _ _ _ _ _ _ k1).trans (sumC_fl _ _ 0 (by decide))
          have c36 : wc.cell? ⟨w.heap.size + 1, 36, none⟩ = some (.bool false) := (cell_of_row _ _ _ _ _ _ k1).trans (sumC_fl _ _ 1 (by decide))
          have c37 : wc.cell? ⟨w.heap.size + 1, 37, none⟩ = some (.bool false) := (cell_of_row _ _ _ _ _ _ k1).trans (sumC_fl _ _ 2 (by decide))
          have c38 : wc.cell? ⟨w.heap.size + 1, 38, none⟩ = some (.bool false) := (cell_of_row _ _ _ _ _ _ k1).trans (sumC_fl _ _ 3 (by decide))
          have c39 : wc.cell? ⟨w.heap.size + 1, 39, none⟩ = some (.bool false) := (cell_of_row _ _ _ _ _ _ k1).trans (sumC_fl _ _ 4 (by decide))
          have z35 := frozen_of_row k1 35
          have z36 := frozen_of_row k1 36
          have z37 := frozen_of_row k1 37
          have z38 := frozen_of_row k1 38
          have z39 := frozen_of_row k1 39
          have K0 := Lib.hid k0
          have K1 := Lib.hid k1
          have Hb := Lib.hid hb
          have hres : readR p = if bytesOf (rdSt p) = p then (rdSt p, 0) else (noSt, 3) := by unfold readR; rw [if_neg hbad]
          have Hres := Lib.hid hres
          have hlp : 0 < p.length := by omega
          have HN := Lib.hid hN
          clear k0 k1 hb hres hbad hN
          generalize hF : rd p 0 = f at *
          have HF := Lib.hid hF
          clear hF
          go_upto_region 17 with fail
          have e0 := heap_setCell_at (k := 35) K1.out (.bool (decide (0 < bits .and .u8 f 1)))
          have e1 := heap_setCell_at (k := 36) e0 (.bool (decide (0 < bits .and .u8 f 2)))
          have e2 := heap_setCell_at (k := 37) e1 (.bool (decide (0 < bits .and .u8 f 4)))
          have e3 := heap_setCell_at (k := 38) e2 (.bool (decide (0 < bits .and .u8 f 8)))
          have e4 := heap_setCell_at (k := 39) e3 (.bool (decide (0 < bits .and .u8 f 16)))
          have y0 := K0.out
          have y1 : (wc.setCell ⟨w.heap.size + 1, 35, none⟩ (.bool (decide (0 < bits .and .u8 f 1)))).heap[w.heap.size]? = some (.cells (sumC noSt) 30 (0, 0)) := (Below.heap_setCell _ _ _ _ (by simp)).trans y0
          have y2 : ((wc.setCell ⟨w.heap.size + 1, 35, none⟩ (.bool (decide (0 < bits .and .u8 f 1)))).setCell ⟨w.heap.size + 1, 36, none⟩ (.bool (decide (0 < bits .and .u8 f 2)))).heap[w.heap.size]? = some (.cells (sumC noSt) 30 (0, 0)) := (Below.heap_setCell _ _ _ _ (by simp)).trans y1
          have y3 : (((wc.setCell ⟨w.heap.size + 1, 35, none⟩ (.bool (decide (0 < bits .and .u8 f 1)))).setCell ⟨w.heap.size + 1, 36, none⟩ (.bool (decide (0 < bits .and .u8 f 2)))).setCell ⟨w.heap.size + 1, 37, none⟩ (.bool (decide (0 < bits .and .u8 f 4)))).heap[w.heap.size]? = some (.cells (sumC noSt) 30 (0, 0)) := (Below.heap_setCell _ _ _ _ (by simp)).trans y2
          have y4 : ((((wc.setCell ⟨w.heap.size + 1, 35, none⟩ (.bool (decide (0 < bits .and .u8 f 1)))).setCell ⟨w.heap.size + 1, 36, none⟩ (.bool (decide (0 < bits .and .u8 f 2)))).setCell ⟨w.heap.size + 1, 37, none⟩ (.bool (decide (0 < bits .and .u8 f 4)))).setCell ⟨w.heap.size + 1, 38, none⟩ (.bool (decide (0 < bits .and .u8 f 8)))).heap[w.heap.size]? = some (.cells (sumC noSt) 30 (0, 0)) := (Below.heap_setCell _ _ _ _ (by simp)).trans y3
          have y5 : (((((wc.setCell ⟨w.heap.size + 1, 35, none⟩ (.bool (decide (0 < bits .and .u8 f 1)))).setCell ⟨w.heap.size + 1, 36, none⟩ (.bool (decide (0 < bits .and .u8 f 2)))).setCell ⟨w.heap.size + 1, 37, none⟩ (.bool (decide (0 < bits .and .u8 f 4)))).setCell ⟨w.heap.size + 1, 38, none⟩ (.bool (decide (0 < bits .and .u8 f 8)))).setCell ⟨w.heap.size + 1, 39, none⟩ (.bool (decide (0 < bits .and .u8 f 16)))).heap[w.heap.size]? = some (.cells (sumC noSt) 30 (0, 0)) := (Below.heap_setCell _ _ _ _ (by simp)).trans y4
          have hbw := (((((Hb.out.setCell (p := ⟨w.heap.size + 1, 35, none⟩) (by simp) (.bool (decide (0 < bits .and .u8 f 1)))).setCell (p := ⟨w.heap.size + 1, 36, none⟩) (by simp) (.bool (decide (0 < bits .and .u8 f 2)))).setCell (p := ⟨w.heap.size + 1, 37, none⟩) (by simp) (.bool (decide (0 < bits .and .u8 f 4)))).setCell (p := ⟨w.heap.size + 1, 38, none⟩) (by simp) (.bool (decide (0 < bits .and .u8 f 8)))).setCell (p := ⟨w.heap.size + 1, 39, none⟩) (by simp) (.bool (decide (0 < bits .and .u8 f 16))))
          have hS : ((((((sumC (mkSt (lowW (rdB p) 280) (fun _ => false))).setIfInBounds 35 (.bool (decide (0 < bits .and .u8 f 1)))).setIfInBounds 36 (.bool (decide (0 < bits .and .u8 f 2)))).setIfInBounds 37 (.bool (decide (0 < bits .and .u8 f 4)))).setIfInBounds 38 (.bool (decide (0 < bits .and .u8 f 8)))).setIfInBounds 39 (.bool (decide (0 < bits .and .u8 f 16)))) = sumC (rdSt p) := by
            rw [show ∀ A : Nat → Bool, (sumC (mkSt (lowW (rdB p) 280) A)).setIfInBounds 35 (.bool (decide (0 < bits .and .u8 f 1))) = sumC (mkSt (lowW (rdB p) 280) (fun q => if q = 0 then decide (0 < bits .and .u8 f 1) else A q)) from fun A => sumC_set _ A 0 (by decide) _]
            rw [show ∀ A : Nat → Bool, (sumC (mkSt (lowW (rdB p) 280) A)).setIfInBounds 36 (.bool (decide (0 < bits .and .u8 f 2))) = sumC (mkSt (lowW (rdB p) 280) (fun q => if q = 1 then decide (0 < bits .and .u8 f 2) else A q)) from fun A => sumC_set _ A 1 (by decide) _]
            rw [show ∀ A : Nat → Bool, (sumC (mkSt (lowW (rdB p) 280) A)).setIfInBounds 37 (.bool (decide (0 < bits .and .u8 f 4))) = sumC (mkSt (lowW (rdB p) 280) (fun q => if q = 2 then decide (0 < bits .and .u8 f 4) else A q)) from fun A => sumC_set _ A 2 (by decide) _]
            rw [show ∀ A : Nat → Bool, (sumC (mkSt (lowW (rdB p) 280) A)).setIfInBounds 38 (.bool (decide (0 < bits .and .u8 f 8))) = sumC (mkSt (lowW (rdB p) 280) (fun q => if q = 3 then decide (0 < bits .and .u8 f 8) else A q)) from fun A => sumC_set _ A 3 (by decide) _]
            rw [show ∀ A : Nat → Bool, (sumC (mkSt (lowW (rdB p) 280) A)).setIfInBounds 39 (.bool (decide (0 < bits .and .u8 f 16))) = sumC (mkSt (lowW (rdB p) 280) (fun q => if q = 4 then decide (0 < bits .and .u8 f 16) else A q)) from fun A => sumC_set _ A 4 (by decide) _]
            unfold rdSt
            rw [HF.out]
            rfl
          rw [hS] at e4
          generalize (((((wc.setCell ⟨w.heap.size + 1, 35, none⟩ (.bool (decide (0 < bits .and .u8 f 1)))).setCell ⟨w.heap.size + 1, 36, none⟩ (.bool (decide (0 < bits .and .u8 f 2)))).setCell ⟨w.heap.size + 1, 37, none⟩ (.bool (decide (0 < bits .and .u8 f 4)))).setCell ⟨w.heap.size + 1, 38, none⟩ (.bool (decide (0 < bits .and .u8 f 8)))).setCell ⟨w.heap.size + 1, 39, none⟩ (.bool (decide (0 < bits .and .u8 f 16)))) = w9 at *
          clear hS e0 e1 e2 e3 y0 y1 y2 y3 y4 c35 c36 c37 c38 c39 z35 z36 z37 z38 z39 hcf rc
          have r9 := hr.below hbw
          have hbyt := fun w => bytes_any (rdSt p) w
          have hbb : ((strOfNums (bytesOf (rdSt p))).toList == (strOfNums p).toList) = decide (bytesOf (rdSt p) = p) := by
            by_cases hE : bytesOf (rdSt p) = p
            · rw [hE, decide_eq_true rfl]; exact str_eq p
            · rw [decide_eq_false hE]; exact str_ne (bytesOf_bytes _) h8 hE
          have bb8 := bytesOf_bytes (rdSt p)
          have E4 := Lib.hid e4
          have Y5 := Lib.hid y5
          have R9 := Lib.hid r9
          have Hbw := Lib.hid hbw
          clear e4 y5 r9 hbw bb8
          obtain ⟨R, hR⟩ : ∃ R, R = rdSt p := ⟨_, rfl⟩
          rw [← hR] at hbyt hbb E4 Hres
          clear hR
          have HL := Lib.hid (run_loadCellsFrom_row (P := Try.prog) w9.drew (w.heap.size + 1) 30 (sumC R) (0, 0) E4.out 40 (sumC_size _))
          have hcp0 := run_string_reads (P := Try.prog) w9.drew 37 9 5 Try.underlying37 Try.underlying5 Try.underlying9 (some a) cap p R9.out
          have R9d : Hid (Reads w9.drew .u8 (some a) p) := Lib.hid R9.out
          have H8 := Lib.hid h8
          clear h8 hr hcp hl hp1 hp2 k2 hNl HN HF hf0 hf1
          generalize hsp : strOfNums p = sp at *
          generalize hss : strOfNums (bytesOf R) = ss at *
          have Hsp := Lib.hid hsp
          have Hss := Lib.hid hss
          clear hsp hss
          generalize hbd : decide (bytesOf R = p) = bb at *
          have Hbd := Lib.hid hbd
          clear hbd
          go_region_with (first
            | (rw [Try.isAgg30]; simp only [Result.andThen_ok, if_true, run_sizeOf_info Hs.out, HL.out])
            | (go_at_call 52; (with_reducible refine (hbyt _).mono ?_); rintro e w10 ⟨v, rfl, ho, b10⟩; obtain ⟨A9, c9, rfl, _, q9⟩ := ho.form; have hcp1 := run_string_reads (P := Try.prog) w10 37 9 5 Try.underlying37 Try.underlying5 Try.underlying9 (some a) cap p (R9d.out.below b10); have hcp2 := run_string_reads (P := Try.prog) w10 37 9 5 Try.underlying37 Try.underlying5 Try.underlying9 A9 c9 (bytesOf R) q9; rw [Hsp.out] at hcp1; rw [Hss.out] at hcp2; generalize (bytesOf R).length = n9 at *; have G4 := Lib.hid ((b10.block (w.heap.size + 1) (heap_lt E4.out)).trans E4.out); have G5 := Lib.hid ((b10.block w.heap.size (heap_lt Y5.out)).trans Y5.out); have Hb10 := Lib.hid (below_trans Hbw.out.drew b10); clear ho q9))
          all_goals
            cases bb
            rotate_left
            · have hr1 : readR p = (R, 0) := by rw [Hres.out, if_pos (of_decide_eq_true Hbd.out)]
              have Hr1 := Lib.hid hr1
              clear Hres hr1 hbyt hcp0 hcp1 hcp2 HL hbb Hbd
              go_wp2_with (first
                | (refine at_op0 (.load 30 (.tmp 4)) ?_ rfl rfl; refine wpList_load_row rfl 30 (.tmp 4) rfl (w.heap.size + 1) rfl 30 _ (0, 0) _ G4.out Try.underlying30 rfl (by rw [sumC_size]; exact Hs.out) ?_)
                | (refine at_op (.store 30 (.tmp 2) (.tmp 99)) ?_ rfl; refine wpList_store_row rfl 30 (.tmp 2) (.tmp 99) rfl w.heap.size (sumC R) rfl rfl 30 _ G5.out (by rw [sumC_size]; exact Hs.out) (by simp only [sumC_size]) (sumC_one _) ?_))
              exact bodyPost_ret (results_row_tmp rfl _ _ w.heap.size 30 (sumC R) (0, 0) _ rfl (setRow_heap _ _ _ (sumC R) _ _ G5.out) Try.underlying30 rfl (by rw [sumC_size]; exact Hs.out)) rfl ⟨by rw [Hr1.out]; rfl, below_setRow Hb10.out (Nat.le_refl _) _⟩
            · have hr1 : readR p = (noSt, 3) := by rw [Hres.out, if_neg (of_decide_eq_false Hbd.out)]
              have Hr1 := Lib.hid hr1
              clear Hres hr1 hbyt hcp0 hcp1 hcp2 HL hbb Hbd
              go_wp2_with (first
                | (refine at_op0 (.build 30 #[]) ?_ rfl rfl; refine wpList_buildTo rfl 30 #[] rfl (some 98) rfl (sumC noSt) (by kernel_rfl) ?_)
                | (refine at_op (.store 30 (.tmp 2) (.tmp 98)) ?_ rfl; refine wpList_store_row rfl 30 (.tmp 2) (.tmp 98) rfl w.heap.size (sumC noSt) rfl rfl 30 _ G5.out (by rw [sumC_size]; exact Hs.out) (by simp only [sumC_size]) (sumC_one _) ?_))
              exact bodyPost_ret (results_row_tmp rfl _ _ w.heap.size 30 (sumC noSt) (0, 0) _ rfl (setRow_heap _ _ _ (sumC noSt) _ _ G5.out) Try.underlying30 rfl (by rw [sumC_size]; exact Hs.out)) rfl ⟨by rw [Hr1.out]; rfl, below_setRow Hb10.out (Nat.le_refl _) _⟩
end Go.Proofs.Ytjmllggjaplldaa
/-! Exact sums: any bytes as a sum: the walk of the law. -/
namespace Go.Proofs.Ytjmllggjaplldaa
open Go.RowKit
set_option linter.unusedVariables false
attribute [-simp] Try.isAgg30 Try.sizeOf30 Try.typeInfo30 Try.type30

section
variable {P : Program} {o : Oper} {a : Act} {ops : Array Oper} {rest : List Oper} {Q : Exit → Act → World → Prop} {w : World}
theorem wpList_buildG (hw : Region.wanted o (yielded ops a.tmps) = true) (t : TypeId) (parts : Array (Nat × Operand)) (ho : o.op = .build t parts) (cells : Array Value) (hf : P.built t (parts.map fun (i, x) => (i, a.eval x)).toList = some cells)
    (h : wpList P ops Q rest (a.put o.dst (.agg cells)) w) : wpList P ops Q (o :: rest) a w :=
  BigFrame.wpList_want hw fun K hK => wp_build t parts ho (by rw [hf]; rfl) (hK _ _ (by rw [hf]; exact h))
end
theorem readR_cases (p : List Int) : (∃ S, readR p = (S, 0) ∧ bytesOf S = p) ∨ readR p = (noSt, 3) := by
  unfold readR
  split
  · exact .inr rfl
  · split
    · rename_i h; exact .inl ⟨_, rfl, h⟩
    · exact .inr rfl
theorem read_len {A : Option Addr} {cap n : Nat} {p : List Int} {w : World} {R : Ending → World → Prop} (h : p.length = n) (k : Calls Try.prog 58 #[.slice A p.length cap] w R) : Calls Try.prog 58 #[.slice A n cap] w R := h ▸ k
end Go.Proofs.Ytjmllggjaplldaa
/-! Exact sums: a sum as bytes, and back: the plain law. -/
namespace Go.Proofs.Ytjmllggjaplldaa
open Go.RowKit
set_option linter.unusedVariables false

theorem trim_spec (f : Nat → Int) (r : Int) : ∀ m, (∀ i, trim f r m ≤ i → i < m → f i = r) ∧ (trim f r m < m → (trim f r m = 0 → r = 0) ∧ (0 < trim f r m → f (trim f r m - 1) / 128 = r / 128)) := by
  intro m
  induction m with
  | zero => exact ⟨fun i _ h => absurd h (by omega), fun h => absurd h (by omega)⟩
  | succ m ih =>
    obtain ⟨ih1, ih2⟩ := ih
    by_cases hc : f m = r ∧ ((m = 0 ∧ r = 0) ∨ (0 < m ∧ f (m - 1) / 128 = r / 128))
    · have e : trim f r (m + 1) = trim f r m := by rw [trim]; exact if_pos hc
      rw [e]
      refine ⟨fun i h1 h2 => ?_, fun h => ?_⟩
      · by_cases e2 : i = m
        · subst e2; exact hc.1
        · exact ih1 i h1 (by omega)
      · have hle := trim_le f r m
        by_cases h3 : trim f r m < m
        · exact ih2 h3
        · have h4 : trim f r m = m := by omega
          rw [h4]
          rcases hc.2 with h5 | h5
          · exact ⟨fun _ => h5.2, fun h6 => absurd h6 (by omega)⟩
          · exact ⟨fun h6 => absurd h5.1 (by omega), fun _ => h5.2⟩
    · have e : trim f r (m + 1) = m + 1 := by rw [trim]; exact if_neg hc
      rw [e]
      exact ⟨fun i h1 h2 => absurd h1 (by omega), fun h => absurd h (by omega)⟩
theorem lowW_mod (W : Nat) (f : Nat → Nat) (hf : ∀ i, i < 280 → f i = W / 2 ^ (8 * i) % 256) : ∀ i, i ≤ 280 → lowW f i = W % 2 ^ (8 * i) := by
  intro i
  induction i with
  | zero => intro _; simp [lowW, Nat.mod_one]
  | succ i ih =>
    intro h
    rw [lowW, ih (by omega), hf i (by omega), show 8 * (i + 1) = 8 * i + 8 by omega, Nat.pow_add, Nat.mod_mul, Nat.mul_comm (W / 2 ^ (8 * i) % 256), show (2 : Nat) ^ 8 = 256 from rfl]
theorem lowW_ws (W N : Nat) (f : Nat → Nat) (hN : N = 8 * 280) (hf : ∀ i, i < 280 → f i = W / 2 ^ (8 * i) % 256) : ws (lowW f 280) = ws W := by
  rw [lowW_mod W f hf 280 (Nat.le_refl _), ← hN]
  exact ws_mod W N (by omega)
theorem mark_back (A : Nat → Bool) (k : Nat) (hk : k < 5) : markR (fbyte A 5) k = A k := by
  have h : ∀ a b c d e : Bool, ∀ j, j < 5 → decide (0 < bits .and .u8 ((a.toNat : Int) + 2 * b.toNat + 4 * c.toNat + 8 * d.toNat + 16 * e.toNat) (pw j)) = (match j with | 0 => a | 1 => b | 2 => c | 3 => d | _ => e) := by
    intro a b c d e j hj
    match j, hj with
    | 0, _ => cases a <;> cases b <;> cases c <;> cases d <;> cases e <;> decide
    | 1, _ => cases a <;> cases b <;> cases c <;> cases d <;> cases e <;> decide
    | 2, _ => cases a <;> cases b <;> cases c <;> cases d <;> cases e <;> decide
    | 3, _ => cases a <;> cases b <;> cases c <;> cases d <;> cases e <;> decide
    | 4, _ => cases a <;> cases b <;> cases c <;> cases d <;> cases e <;> decide
  unfold markR
  rw [fbyte_eq, h _ _ _ _ _ k hk]
  match k, hk with
  | 0, _ => rfl
  | 1, _ => rfl
  | 2, _ => rfl
  | 3, _ => rfl
  | 4, _ => rfl
theorem byt_sign (W : Nat) (sg : Bool) : ∀ (n : Nat), (byt W n / 128 = restOf sg / 128) → (128 ≤ byt W n ↔ sg = true) := by
  intro n h
  have := byt_range W n
  cases sg
  · rw [show restOf false / 128 = 0 by decide] at h
    constructor
    · intro h2; omega
    · intro h2; cases h2
  · rw [show restOf true / 128 = 1 by decide] at h
    constructor
    · intro _; rfl
    · intro _; omega
/-- The bytes that are read from a sum's bytes are the sum's. -/
theorem rdB_back (s : St) (i : Nat) (hi : i < 280) : rdB (bytesOf s) i = s.w / 2 ^ (8 * i) % 256 := by
  have hn := trim_le (byt s.w) (restOf (sgOf s.w)) 280
  obtain ⟨t1, t2⟩ := trim_spec (byt s.w) (restOf (sgOf s.w)) 280
  have hl : (bytesOf s).length - 1 = trim (byt s.w) (restOf (sgOf s.w)) 280 := by
    unfold bytesOf
    rw [List.length_cons, full_length]; omega
  have hrd : ∀ k, k < trim (byt s.w) (restOf (sgOf s.w)) 280 → rd (bytesOf s) (1 + k) = byt s.w k := fun k hk => by
    unfold bytesOf
    rw [show rd (fbyte (fl s) 5 :: full s.w (trim (byt s.w) (restOf (sgOf s.w)) 280)) (1 + k) = rd (full s.w (trim (byt s.w) (restOf (sgOf s.w)) 280)) k by
      simp [rd, Nat.add_comm 1 k], rd_full _ _ _ hk]
  have hb : ∀ k, (byt s.w k).toNat = s.w / 2 ^ (8 * k) % 256 := fun k => by unfold byt; exact Int.toNat_natCast _
  have hsg := byt_sign s.w (sgOf s.w)
  generalize hN : trim (byt s.w) (restOf (sgOf s.w)) 280 = n at *
  unfold rdB
  rw [hl]
  by_cases h : i < n
  · rw [if_pos h, hrd i h, hb i]
  · rw [if_neg h]
    obtain ⟨t3, t4⟩ := t2 (by omega)
    have e := t1 i (by omega) hi
    rw [← hb i, e]
    by_cases h0 : n = 0
    · have r0 := t3 h0
      rw [if_neg (by omega), r0]; rfl
    · have h1 := hsg _ (t4 (by omega))
      have h2 := hrd (n - 1) (by omega)
      rw [show 1 + (n - 1) = n by omega] at h2
      rw [h2]
      by_cases hs : sgOf s.w = true
      · rw [if_pos ⟨by omega, h1.2 hs⟩, hs]; rfl
      · have hs2 : sgOf s.w = false := by simpa using hs
        rw [if_neg (fun h3 => hs (h1.1 h3.2)), hs2]; rfl
theorem sum_back (s : St) : sumC (rdSt (bytesOf s)) = sumC s := by
  have hw : ws (lowW (rdB (bytesOf s)) 280) = ws s.w := lowW_ws s.w 2240 _ rfl (fun i hi => rdB_back s i hi)
  have hF : rd (bytesOf s) 0 = fbyte (fl s) 5 := rfl
  have hm : ∀ k, k < 5 → markR (rd (bytesOf s) 0) k = fl s k := fun k hk => by rw [hF]; exact mark_back (fl s) k hk
  exact sumC_eq _ _ hw (hm 0 (by decide)) (hm 1 (by decide)) (hm 2 (by decide)) (hm 3 (by decide)) (hm 4 (by decide))
/-- A sum's bytes hang on what lies in its cells alone. -/
theorem bytes_congr (s t : St) (h : sumC s = sumC t) : bytesOf s = bytesOf t := by
  have hat : ∀ i : Nat, (sumC s)[i]? = (sumC t)[i]? := fun i => by rw [h]
  have hw : ∀ i, i < 35 → wdn s.w i = wdn t.w i := fun i hi => by
    have := hat i
    rw [sumC_w _ i hi, sumC_w _ i hi] at this
    unfold wdv at this
    simp only [Option.some.injEq, Value.int.injEq, true_and] at this
    omega
  have hfl : ∀ k, k < 5 → fl s k = fl t k := fun k hk => by
    have := hat (35 + k)
    have e1 := sumC_fl s.w (fl s) k hk
    have e2 := sumC_fl t.w (fl t) k hk
    have e3 : (sumC s)[35 + k]? = some (.bool (fl s k)) := e1
    have e4 : (sumC t)[35 + k]? = some (.bool (fl t k)) := e2
    rw [e3, e4] at this
    simpa using this
  have hb : ∀ i, i < 280 → byt s.w i = byt t.w i := fun i hi => by
    have e : i = 8 * (i / 8) + i % 8 := by omega
    rw [e, ← byt_word s.w (i / 8) (i % 8) (by omega), ← byt_word t.w (i / 8) (i % 8) (by omega), hw (i / 8) (by omega)]
  have hsg : sgOf s.w = sgOf t.w := by unfold sgOf; rw [hw 34 (by decide)]
  have htr : ∀ r m, m ≤ 280 → trim (byt s.w) r m = trim (byt t.w) r m := fun r m => by
    induction m with
    | zero => intro _; rfl
    | succ m ih =>
      intro hm
      rw [trim, trim, ih (by omega), hb m (by omega), hb (m - 1) (by omega)]
  have hfull : ∀ m, m ≤ 280 → full s.w m = full t.w m := fun m => by
    induction m with
    | zero => intro _; rfl
    | succ m ih => intro hm; rw [full, full, ih (by omega), hb m (by omega)]
  have hfb : fbyte (fl s) 5 = fbyte (fl t) 5 := by
    rw [fbyte_eq, fbyte_eq, hfl 0 (by decide), hfl 1 (by decide), hfl 2 (by decide), hfl 3 (by decide), hfl 4 (by decide)]
  unfold bytesOf
  rw [hfb, hsg, htr _ 280 (Nat.le_refl _), hfull _ (trim_le _ _ 280)]
/-- A sum's bytes, read, are the sum. -/
theorem read_back (s : St) : readR (bytesOf s) = (rdSt (bytesOf s), 0) := by
  have hn := trim_le (byt s.w) (restOf (sgOf s.w)) 280
  have hl : (bytesOf s).length = 1 + trim (byt s.w) (restOf (sgOf s.w)) 280 := by
    unfold bytesOf
    rw [List.length_cons, full_length]; omega
  have hF : rd (bytesOf s) 0 = fbyte (fl s) 5 := rfl
  have hr := fbyte_range (fl s)
  unfold readR
  rw [if_neg (by rw [hl, hF]; omega), if_pos (bytes_congr _ _ (sum_back s))]
end Go.Proofs.Ytjmllggjaplldaa
