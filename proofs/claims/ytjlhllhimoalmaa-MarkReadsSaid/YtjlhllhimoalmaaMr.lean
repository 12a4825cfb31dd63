import Derived.Test.YtjlhllhimoalmaaCt
import Derived.Test.YtjlhllhimoalmaaMk
import Derived.Test.YtjlhllhimoalmaaMs
import Derived.Deep.RegionLaw
/-! Marks read, and laid. -/
namespace Go.Proofs.Ytjlhllhimoalmaa
open Go.RowKit
set_option linter.unusedVariables false
attribute [-simp] Try.isAgg27 Try.sizeOf27 Try.typeInfo27 Try.type27

/-- A number with a sign as one without, and back. -/
def zig (x : Int) : Nat := if 0 ≤ x then (2 * x).toNat else (-2 * x - 1).toNat
def zag (n : Nat) : Int := if n % 2 = 0 then ((n / 2 : Nat) : Int) else -((n / 2 : Nat) : Int) - 1
theorem zig_zag (n : Nat) : zig (zag n) = n := by
  unfold zig zag
  split <;> split <;> omega
theorem zig_lt {x : Int} (h : -9223372036854775808 ≤ x ∧ x < 9223372036854775808) : zig x < 18446744073709551616 := by
  unfold zig; split <;> omega
theorem zag_range {n : Nat} (h : n < 18446744073709551616) : -9223372036854775808 ≤ zag n ∧ zag n < 9223372036854775808 := by
  unfold zag; split <;> omega
theorem zig_bits (x : Int) (h : -9223372036854775808 ≤ x ∧ x < 9223372036854775808) :
    bits .xor .u64 (IntKind.u64.wrap (wrap64 (x * 2))) (IntKind.u64.wrap (x / 9223372036854775808)) = (zig x : Int) := by
  unfold zig
  by_cases h0 : 0 ≤ x
  · rw [if_pos h0]
    have e1 : IntKind.u64.wrap (wrap64 (x * 2)) = (((2 * x).toNat : Nat) : Int) := by rw [IntKind.wrap_u64]; unfold wrap64; omega
    have e2 : IntKind.u64.wrap (x / 9223372036854775808) = ((0 : Nat) : Int) := by rw [IntKind.wrap_u64]; omega
    rw [e1, e2, xor64 _ _ (by omega) (by omega), Nat.xor_zero]
  · rw [if_neg h0]
    have e1 : IntKind.u64.wrap (wrap64 (x * 2)) = (((2 * x + 18446744073709551616).toNat : Nat) : Int) := by rw [IntKind.wrap_u64]; unfold wrap64; omega
    have e2 : IntKind.u64.wrap (x / 9223372036854775808) = ((18446744073709551615 : Nat) : Int) := by rw [IntKind.wrap_u64]; omega
    rw [e1, e2, xor64 _ _ (by omega) (by omega), Nat.xor_comm, ← xor64 _ _ (by omega) (by omega)]
    have := not64 (2 * x + 18446744073709551616).toNat (by omega)
    rw [show ((18446744073709551615 : Nat) : Int) = IntKind.u64.max from rfl, this]
    omega
theorem zag_bits (n : Nat) (h : n < 18446744073709551616) :
    bits .xor .i64 (wrap64 ((n : Int) / 2)) (wrap64 (-wrap64 (bits .and .u64 (n : Int) 1))) = zag n := by
  have e0 : bits .and .u64 (n : Int) 1 = ((n % 2 : Nat) : Int) := by
    rw [show (1 : Int) = ((2 ^ 1 - 1 : Nat) : Int) from rfl, and64 _ _ h (by omega), Nat.and_two_pow_sub_one_eq_mod]
  have e1 : wrap64 ((n : Int) / 2) = ((n / 2 : Nat) : Int) := by unfold wrap64; omega
  rw [e0, e1]
  have hx : ∀ y : Int, bits .xor .i64 ((n / 2 : Nat) : Int) y = IntKind.i64.wrap ((BitVec.ofInt 64 ((n / 2 : Nat) : Int) ^^^ BitVec.ofInt 64 y).toNat : Int) := fun y => rfl
  rw [hx]
  unfold zag
  by_cases h0 : n % 2 = 0
  · rw [if_pos h0, h0]
    rw [show BitVec.ofInt 64 (wrap64 (-wrap64 ((0 : Nat) : Int))) = 0#64 by decide +kernel, BitVec.xor_zero, ofInt_nat _ (by omega), IntKind.wrap_i64]
    omega
  · rw [if_neg h0, show n % 2 = 1 by omega]
    rw [show BitVec.ofInt 64 (wrap64 (-wrap64 ((1 : Nat) : Int))) = BitVec.allOnes 64 by decide +kernel, BitVec.xor_allOnes, BitVec.toNat_not, ofInt_nat _ (by omega), IntKind.wrap_i64]
    omega
/-- What is read is what would be laid. -/
theorem uintF_of_rdU (most : Nat) : ∀ (f i acc : Nat) (xs : List Int) (n : Nat) (rest : List Int), Bytes8 xs → i + f = 9 → rdU most (f + 1) i acc xs = some (n, rest) →
    ∃ m : Nat, n = acc + m * 2 ^ (7 * i) ∧ xs = uintF f m ++ rest ∧ (i = 0 ∨ 0 < m) := by
  intro f
  induction f with
  | zero =>
    intro i acc xs n rest h8 hi h
    cases xs with
    | nil => cases h
    | cons b xs =>
      have hb := h8 0 (by simp)
      have hb : 0 ≤ b ∧ b ≤ 255 := hb
      rw [rdU] at h
      split at h
      · split at h
        · split at h
          · rename_i h1 h2 h3
            injection h with h
            injection h with h4 h5
            refine ⟨b.toNat, ?_, ?_, by omega⟩
            · rw [← h4, show b.toNat % 128 = b.toNat from by omega]
            · subst h5
              show b :: xs = [((b.toNat : Nat) : Int)] ++ xs
              rw [show ((b.toNat : Nat) : Int) = b from by omega]
              rfl
          · cases h
        · rw [rdU] at h; cases h
      · cases h
  | succ f ih =>
    intro i acc xs n rest h8 hi h
    cases xs with
    | nil => cases h
    | cons b xs =>
      have hb := h8 0 (by simp)
      have hb : 0 ≤ b ∧ b ≤ 255 := hb
      have h8' : Bytes8 xs := fun j hj => h8 (j + 1) (by simpa using hj)
      rw [rdU] at h
      split at h
      · split at h
        · split at h
          · rename_i h1 h2 h3
            injection h with h
            injection h with h4 h5
            refine ⟨b.toNat, ?_, ?_, by omega⟩
            · rw [← h4, show b.toNat % 128 = b.toNat from by omega]
            · subst h5
              rw [uintF_small _ _ (by omega), show ((b.toNat : Nat) : Int) = b from by omega]
              rfl
          · cases h
        · rename_i h1 h2
          obtain ⟨m, e1, e2, e3⟩ := ih (i + 1) _ xs n rest h8' (by omega) h
          have hm : 0 < m := by omega
          refine ⟨b.toNat % 128 + 128 * m, ?_, ?_, by omega⟩
          · rw [e1, show 7 * (i + 1) = 7 + 7 * i from by omega, Nat.pow_add, show (2 : Nat) ^ 7 = 128 from rfl, Nat.add_assoc]
            congr 1
            rw [Nat.add_mul, ← Nat.mul_assoc, Nat.mul_comm m 128]
          · rw [uintF, if_neg (by omega), show (b.toNat % 128 + 128 * m) % 128 + 128 = b.toNat from by omega, show (b.toNat % 128 + 128 * m) / 128 = m from by omega, show ((b.toNat : Nat) : Int) = b from by omega]
            rw [e2]; rfl
      · cases h
theorem uintL_of_rdU {most : Nat} {xs : List Int} {n : Nat} {rest : List Int} (h8 : Bytes8 xs) (h : rdU most 10 0 0 xs = some (n, rest)) : xs = uintL n ++ rest := by
  obtain ⟨m, e1, e2, _⟩ := uintF_of_rdU most 9 0 0 xs n rest h8 rfl h
  rw [Nat.mul_zero, Nat.pow_zero, Nat.mul_one, Nat.zero_add] at e1
  subst e1
  exact e2
set_option maxRecDepth 100000 in
theorem int_none (g B : Nat) (xs : List Int) (w : World) (h : RdSt w g B xs) (h8 : Bytes8 xs) (hr : rdU 18446744073709551615 10 0 0 xs = none) :
    Calls Try.prog 22 #[.pointer (some ⟨g, 0, none⟩)] w fun e w' => e = badP ∧ w.grownBy w' (some g) := by
  have hc := uint_none g B 18446744073709551615 xs w h h8 (by decide) hr
  have hc : Calls Try.prog 19 #[.pointer (some ⟨g, 0, none⟩), .int .u64 18446744073709551615] w fun e w' => e = badP ∧ w.grownBy w' (some g) := hc
  clear hr h h8
  go_enter Try.func22, Try.ntmps22
  go_wp2_with (go_at_call 19; (with_reducible refine hc.mono ?_); rintro e w1 ⟨rfl, hg⟩)
  exact ⟨rfl, rfl, hg⟩
set_option maxRecDepth 100000 in
theorem int_some (g B n : Nat) (xs rest : List Int) (w : World) (h : RdSt w g B xs) (h8 : Bytes8 xs) (hr : rdU 18446744073709551615 10 0 0 xs = some (n, rest)) :
    Calls Try.prog 22 #[.pointer (some ⟨g, 0, none⟩)] w fun e w' => e = .returned (.int .i64 (zag n)) ∧ RdSt w' g B rest ∧ w.grownBy w' (some g) := by
  have hc := uint_some g B 18446744073709551615 n xs rest w h h8 (by decide) hr
  have hc : Calls Try.prog 19 #[.pointer (some ⟨g, 0, none⟩), .int .u64 18446744073709551615] w fun e w' => e = .returned (.int .u64 (n : Nat)) ∧ RdSt w' g B rest ∧ w.grownBy w' (some g) := hc
  have hm := (rdU_rest _ _ _ _ _ _ _ h8 hr).2
  have hz := Lib.hid (zag_bits n (by omega))
  clear hr h h8 hm
  go_enter Try.func22, Try.ntmps22
  go_wp2_with (go_at_call 19; (with_reducible refine hc.mono ?_); rintro e w1 ⟨rfl, hs, hg⟩)
  go_ret
  exact ⟨by rw [← hz.out]; rfl, hs, hg⟩
set_option maxRecDepth 100000 in
theorem colInt_any (base : Nat) (v : Value) (xs : List Int) (x : Int) (w : World) (hb : base ≤ w.heap.size) (ho : Own w base 5 .u8 v xs) (hx : -9223372036854775808 ≤ x ∧ x < 9223372036854775808) (hl : xs.length ≤ 1000000) :
    Calls Try.prog 24 #[v, .int .i64 x] w fun e w' => ∃ v', e = .returned v' ∧ Own w' base 5 .u8 v' (xs ++ uintL (zig x)) ∧ w.grownBy w' v.ownBlock ∧ ∀ k, v'.ownBlock = some k → v.ownBlock = some k ∨ w.heap.size ≤ k := by
  have hc := colUint_any base v xs (zig x) w hb ho (zig_lt hx) hl
  have hz := zig_bits x hx
  rw [← hz] at hc
  clear hz hx
  go_enter Try.func24, Try.ntmps24
  go_wp2_with (go_at_call 23; (with_reducible refine hc.mono ?_); rintro e w1 ⟨v', rfl, h2⟩)
  go_ret
  exact ⟨v', rfl, h2⟩
/-- The marks of the partitions left. -/
def rdM : Nat → Nat → (Nat → Option Int) → List Int → Option ((Nat → Option Int) × List Int)
  | 0, _, f, xs => some (f, xs)
  | _ + 1, _, _, [] => none
  | n + 1, i, f, b :: xs =>
    if b < 2 then
      if b = 1 then (rdU 18446744073709551615 10 0 0 xs).bind fun p => rdM n (i + 1) (updM f i (zag p.1)) p.2
      else rdM n (i + 1) f xs
    else none
def rdMarks (xs : List Int) : Option ((Nat × (Nat → Option Int)) × List Int) :=
  (rdU 8 10 0 0 xs).bind fun p => if 0 < p.1 then (rdM p.1 0 f0 p.2).bind fun q => some ((p.1, q.1), q.2) else none
def MarksPost (g B : Nat) (w : World) (r : Option ((Nat × (Nat → Option Int)) × List Int)) (e : Ending) (w' : World) : Prop :=
  w.grownBy w' (some g) ∧ ((r = none ∧ e = badP) ∨ ∃ n f rest, r = some ((n, f), rest) ∧ e = .returned (.agg (mkC (n : Nat) f)) ∧ RdSt w' g B rest)
set_option maxRecDepth 100000 in
theorem zero27 : ∀ w, (zeroValue 27).run Try.prog w = .ok (.agg (mkC 0 f0)) w := (zero_of_info (P := Try.prog) (v := .agg (mkC 0 f0)) (n := 17) (by kernel_rfl)).1
/-- While a time is read and laid: what each operation left; the reader; the marks. -/
structure RegM (w0 : World) (g B g2 r k : Nat) (C : Array Value) (Z : Array Value) (ys zs : List Int) (z : Int) (CV : Nat → Value) (listed : Array Bool) (vals : Nat → Value) (w' : World) : Prop where
  val : ∀ j, listed.getD j false = true → vals j = CV j
  rd : RdSt w' g B (if listed.getD 3 false = true then zs else ys)
  row : ∃ D, w'.heap[g2]? = some (.cells D 27 (0, 0)) ∧ D = (if listed.getD 9 false = true then (if listed.getD 6 false = true then (C.setIfInBounds (1 + k) (.bool true)) else C).setIfInBounds (9 + k) (.int .i64 z) else (if listed.getD 6 false = true then C.setIfInBounds (1 + k) (.bool true) else C))
  zr : w'.heap[r]? = some (.cells Z 27 (0, 0))
  gr : w0.grownBy w' (some g)
section
variable {w0 w1 w2 : World} {g B g2 r k : Nat} {C Z : Array Value} {ys zs : List Int} {z : Int} {CV vals : Nat → Value} {listed : Array Bool}
theorem RegM.start {w1 : World} (hs : RdSt w1 g B ys) (hC : w1.heap[g2]? = some (.cells C 27 (0, 0))) (hZ : w1.heap[r]? = some (.cells Z 27 (0, 0))) (hg : w0.grownBy w1 (some g)) : RegM w0 g B g2 r k C Z ys zs z CV (Array.replicate 10 false) (fun _ => undef) w1.drew := by
  refine ⟨fun j h => absurd h (by rw [getD_replicate_false]; decide), ?_, ⟨C, hC, ?_⟩, hZ, ⟨hg.os, hg.tape, hg.output, hg.size, hg.block⟩⟩
  · rw [getD_replicate_false]; exact hs.drew
  · simp only [getD_replicate_false]; rfl
theorem RegM.keep (h : RegM w0 g B g2 r k C Z ys zs z CV listed vals w1) (i : Nat) (h3 : i ≠ 3) (h6 : i ≠ 6) (h9 : i ≠ 9) {v : Value} (hv : CV i = v) : RegM w0 g B g2 r k C Z ys zs z CV (listed.setIfInBounds i true) (upd vals i v) w1 := by
  subst hv
  refine ⟨fun j hl => ?_, ?_, ?_, h.zr, h.gr⟩
  · by_cases e : i = j
    · subst e; simp [upd]
    · rw [getD_set_ne false e] at hl
      simp [upd, Ne.symm e, h.val j hl]
  · rw [getD_set_ne false h3]; exact h.rd
  · rw [getD_set_ne false h6, getD_set_ne false h9]; exact h.row
theorem RegM.valsK (h : ∀ j, listed.getD j false = true → vals j = CV j) (i : Nat) {v : Value} (hv : CV i = v) : ∀ j, (listed.setIfInBounds i true).getD j false = true → upd vals i v j = CV j := fun j hl => by
  subst hv
  by_cases e : i = j
  · subst e; simp [upd]
  · rw [getD_set_ne false e] at hl
    simp [upd, Ne.symm e, h j hl]
theorem RegM.get (h : RegM w0 g B g2 r k C Z ys zs z CV listed vals w1) {ops : Array Oper} {a0 a : Act} (hR : InRun ops a0 listed vals a) {i : Nat} (hr : i ∈ Region.ready .any ops listed) (j : Nat) (hw : Region.waitsFor .any ops i j = true) {d : Tmp} (hj : j < ops.size) (hd : dstAt ops j = some d) {v : Value} (hv : CV j = v) : a.tmps[d]? = some v := by
  rw [hR.dep hr j hw hj hd, h.val j (dep_of hr hw), hv]
theorem RegM.call (h : RegM w0 g B g2 r k C Z ys zs z CV listed vals w1) (hs : listed.size = 10) (hs2 : RdSt w2 g B zs) (hg : w1.grownBy w2 (some g)) (h1 : g2 ≠ g) (h2 : r ≠ g) {v : Value} (hv : CV 3 = v) : RegM w0 g B g2 r k C Z ys zs z CV (listed.setIfInBounds 3 true) (upd vals 3 v) w2 := by
  obtain ⟨D, hD, hE⟩ := h.row
  refine ⟨RegM.valsK h.val 3 hv, ?_, ⟨D, RdSt.row hg hD h1, ?_⟩, RdSt.row hg h.zr h2, RdSt.grown_trans h.gr hg⟩
  · rw [getD_set_self listed 3 false (by omega), if_pos rfl]; exact hs2
  · rw [getD_set_ne false (show 3 ≠ 6 by decide), getD_set_ne false (show 3 ≠ 9 by decide)]; exact hE
theorem RegM.has (h : RegM w0 g B g2 r k C Z ys zs z CV listed vals w1) (hs : listed.size = 10) (hu : listed.getD 9 false = false) (hB : B ≤ g2) (h1 : g2 ≠ g) (h2 : g2 ≠ r) (h0 : w0.heap.size ≤ g2) (hv : CV 6 = undef) : RegM w0 g B g2 r k C Z ys zs z CV (listed.setIfInBounds 6 true) (upd vals 6 undef) (w1.setCell ⟨g2, 1 + k, none⟩ (.bool true)) := by
  obtain ⟨D, hD, hE⟩ := h.row
  refine ⟨RegM.valsK h.val 6 hv, ?_, ⟨_, heap_setCell_at hD _, ?_⟩, (Below.heap_setCell _ ⟨g2, 1 + k, none⟩ _ r (fun e => h2 e.symm)).trans h.zr, grown_setCellN h.gr h0 _ _⟩
  · rw [getD_set_ne false (show 6 ≠ 3 by decide)]; exact h.rd.setCell hB h1 _ _
  · rw [getD_set_ne false (show 6 ≠ 9 by decide), hu, getD_set_self listed 6 false (by omega)]
    rw [hu] at hE
    simp only [Bool.false_eq_true, if_false, if_true] at hE ⊢
    rw [hE]
    split
    · rw [Array.setIfInBounds_setIfInBounds]
    · rfl
theorem RegM.time (h : RegM w0 g B g2 r k C Z ys zs z CV listed vals w1) (hs : listed.size = 10) (hu : listed.getD 9 false = false) (hB : B ≤ g2) (h1 : g2 ≠ g) (h2 : g2 ≠ r) (h0 : w0.heap.size ≤ g2) (hv : CV 9 = undef) : RegM w0 g B g2 r k C Z ys zs z CV (listed.setIfInBounds 9 true) (upd vals 9 undef) (w1.setCell ⟨g2, 9 + k, none⟩ (.int .i64 z)) := by
  obtain ⟨D, hD, hE⟩ := h.row
  refine ⟨RegM.valsK h.val 9 hv, ?_, ⟨_, heap_setCell_at hD _, ?_⟩, (Below.heap_setCell _ ⟨g2, 9 + k, none⟩ _ r (fun e => h2 e.symm)).trans h.zr, grown_setCellN h.gr h0 _ _⟩
  · rw [getD_set_ne false (show 9 ≠ 3 by decide)]; exact h.rd.setCell hB h1 _ _
  · rw [getD_set_ne false (show 9 ≠ 6 by decide), getD_set_self listed 9 false (by omega)]
    rw [hu] at hE
    simp only [Bool.false_eq_true, if_false, if_true] at hE ⊢
    rw [hE]
end
set_option maxRecDepth 100000 in
set_option maxHeartbeats 8000000 in
theorem readMarks_any (g B : Nat) (xs : List Int) (w : World) (h : RdSt w g B xs) (h8 : Bytes8 xs) (hB : B ≤ w.heap.size) :
    Calls Try.prog 16 #[.pointer (some ⟨g, 0, none⟩)] w (MarksPost g B w (rdMarks xs)) := by
  have hk1 := fun v w => check_ok v w
  have hk0 := fun v w => check_bad v w
  have zz := zero27
  have Hs := Lib.hid size27
  have hgl := h.lt
  cases hu : rdU 8 10 0 0 xs with
  | none =>
    have hr : rdMarks xs = none := by unfold rdMarks; rw [hu]; rfl
    rw [hr]
    have hs0 := h.below (below_alloc (Below.refl w.heap.size w) (.cells (mkC 0 f0) 27))
    have hc := uint_none g B 8 xs _ hs0 h8 (by decide) hu
    have hc : Calls Try.prog 19 #[.pointer (some ⟨g, 0, none⟩), .int .u64 8] (w.alloc (.cells (mkC 0 f0) 27)) fun e w' => e = badP ∧ (w.alloc (.cells (mkC 0 f0) 27)).grownBy w' (some g) := hc
    have hga := grown_alloc (grown_refl w (some g)) (.cells (mkC 0 f0) 27)
    generalize mkC 0 f0 = Z at *
    clear hr hu h h8 hs0
    go_enter Try.func16, Try.ntmps16
    go_wp2_with (first
      | (refine at_op (.alloc 27) ?_ rfl; refine wpList_alloc_row rfl _ 27 rfl (some 2) rfl w.heap.size rfl Z zz ?_)
      | (go_at_call 19; (with_reducible refine hc.mono ?_); rintro e w1 ⟨rfl, hg⟩))
    exact ⟨rfl, RdSt.grown_trans hga hg, .inl ⟨rfl, rfl⟩⟩
  | some p =>
    obtain ⟨n, ys⟩ := p
    obtain ⟨h8y, hn8⟩ := rdU_rest _ _ _ _ _ _ _ h8 hu
    have hs0 := h.below (below_alloc (Below.refl w.heap.size w) (.cells (mkC 0 f0) 27))
    have hc := uint_some g B 8 n xs ys _ hs0 h8 (by decide) hu
    have hc : Calls Try.prog 19 #[.pointer (some ⟨g, 0, none⟩), .int .u64 8] (w.alloc (.cells (mkC 0 f0) 27)) fun e w' => e = .returned (.int .u64 (n : Nat)) ∧ RdSt w' g B ys ∧ (w.alloc (.cells (mkC 0 f0) 27)).grownBy w' (some g) := hc
    have hga := grown_alloc (grown_refl w (some g)) (.cells (mkC 0 f0) 27)
    have hz0 := heap_alloc_new w (.cells (mkC 0 f0) 27)
    have hin : (n : Int) ≤ 8 := by omega
    by_cases h0 : n = 0
    · have hr : rdMarks xs = none := by unfold rdMarks; rw [hu]; simp [h0]
      rw [hr]
      subst h0
      clear hr hu h h8 hs0
      go_enter Try.func16, Try.ntmps16
      go_wp2_with (first
        | (refine at_op (.alloc 27) ?_ rfl; first | (refine wpList_alloc_row rfl _ 27 rfl (some 2) rfl w.heap.size rfl (mkC 0 f0) zz ?_) | (refine wpList_alloc_row rfl _ 27 rfl (some 3) rfl w1.heap.size rfl (mkC 0 f0) zz ?_; have hz1 := heap_alloc_new w1 (.cells (mkC 0 f0) 27)))
        | (refine at_op (.store 27 (.tmp 3) (.tmp 9)) ?_ rfl; refine wpList_store_row rfl 27 (.tmp 3) (.tmp 9) rfl w1.heap.size (mkC 0 f0) rfl rfl 27 (mkC 0 f0) hz1 Hs.out rfl (mkC_one 0 f0) ?_; rw [World.setRow_alloc_new]; have q0 := (cell_of_row _ _ 0 _ _ _ hz1).trans (mkC_n 0 f0))
        | (go_at_call 19; (with_reducible refine hc.mono ?_); rintro e w1 ⟨rfl, hs, hg⟩)
        | (go_at_call 20; (with_reducible refine (hk0 _ _).mono ?_); rintro e w2 ⟨rfl, rfl⟩))
      exact ⟨rfl, grown_alloc (RdSt.grown_trans hga hg) _, .inl ⟨rfl, rfl⟩⟩
    · have hr : rdMarks xs = (rdM n 0 f0 ys).bind fun q => some ((n, q.1), q.2) := by unfold rdMarks; rw [hu]; simp [Nat.pos_of_ne_zero h0]
      rw [hr]
      obtain ⟨R, hR⟩ : ∃ R, R = rdM n 0 f0 ys := ⟨_, rfl⟩
      rw [← hR]
      have hn0 : 0 < n := by omega
      clear hr hu h h8 hs0
      go_enter Try.func16, Try.ntmps16
      go_upto_region 3 with (first
        | (refine at_op (.alloc 27) ?_ rfl; first | (refine wpList_alloc_row rfl _ 27 rfl (some 2) rfl w.heap.size rfl (mkC 0 f0) zz ?_) | (refine wpList_alloc_row rfl _ 27 rfl (some 3) rfl w1.heap.size rfl (mkC 0 f0) zz ?_; have hz1 := heap_alloc_new w1 (.cells (mkC 0 f0) 27)))
        | (refine at_op (.store 27 (.tmp 3) (.tmp 9)) ?_ rfl; refine wpList_store_row rfl 27 (.tmp 3) (.tmp 9) rfl w1.heap.size (mkC n f0) rfl rfl 27 (mkC 0 f0) hz1 Hs.out rfl (mkC_one n f0) ?_; rw [World.setRow_alloc_new]; have hz2 := heap_alloc_new w1 (.cells (mkC n f0) 27); have q0 := (cell_of_row _ _ 0 _ _ _ hz2).trans (mkC_n n f0))
        | (go_at_call 19; (with_reducible refine hc.mono ?_); rintro e w1 ⟨rfl, hs, hg⟩)
        | (go_at_call 20; (with_reducible refine (hk1 _ _).mono ?_); rintro e w2 ⟨rfl, rfl⟩))
      have hgr := grown_alloc (RdSt.grown_trans hga hg) (.cells (mkC n f0) 27)
      have hs2 := hs.below (below_alloc (Below.refl w1.heap.size w1) (.cells (mkC n f0) 27))
      have hgs := hg.size
      have hzr : w1.heap[w.heap.size]? = some (.cells (mkC 0 f0) 27) := RdSt.row hg hz0 (by omega)
      have hzr2 := (below_alloc (Below.refl w1.heap.size w1) (.cells (mkC n f0) 27)).block w.heap.size (heap_lt hzr)
      have hzr3 := hzr2.trans hzr
      have hlt := heap_lt hzr
      have hBw : B ≤ w1.heap.size := by simp at hgs; omega
      have hgl2 : g < w1.heap.size := by omega
      generalize hg2 : w1.heap.size = g2 at *
      generalize w1.alloc (.cells (mkC n f0) 27) = w2 at *
      go_wp2_with fail
      clear hs hg hzr hzr2 hgs hk1 hk0 hc zz hz0 hga hz1 q0 hg2
      have hk1 := fun v w => check_ok v w
      have hk0 := fun v w => check_bad v w
      go_loopw [17] (fun i wr => ∃ (k : Nat) (f : Nat → Option Int) (ys : List Int), i = .int .i64 (k : Nat) ∧ k ≤ n ∧ RdSt wr g B ys ∧ Bytes8 ys ∧ wr.heap[g2]? = some (.cells (mkC n f) 27 (0, 0)) ∧ wr.heap[w.heap.size]? = some (.cells (mkC 0 f0) 27 (0, 0)) ∧ w.grownBy wr (some g) ∧ R = rdM (n - k) k f ys) (fun i _ => n - (intOf i).toNat)
      case atStart => exact ⟨0, f0, ys, rfl, by omega, hs2, h8y, hz2, hzr3, hgr, hR⟩
      case round =>
        clear hs2 h8y hz2 hzr3 hgr hR
        obtain ⟨k, f, ys, rfl, hk, hs, h8, hm, hr, hgr, hR⟩ := hrel
        have Hm := Lib.hid hm
        have Hr := Lib.hid hr
        have Hgr := Lib.hid hgr
        clear hgr
        by_cases hlt : k < n
        · have hk8 : k < 8 := by omega
          have hki : (k : Int) < (n : Int) := by omega
          have hk8i : (k : Int) < 8 := by omega
          obtain ⟨d, hd⟩ : ∃ d, n - k = d + 1 := ⟨n - k - 1, by omega⟩
          rw [hd] at hR
          cases ys with
          | nil =>
            have hRn : R = none := hR
            have HRn := Lib.hid hRn
            have hb := byte_none g B wr hs
            clear hR hRn hs hm hr
            go_wp2_with (go_at_call 21; (with_reducible refine hb.mono ?_); rintro e w1 ⟨rfl, rfl⟩)
            exact ⟨rfl, Hgr.out, .inl ⟨by rw [HRn.out]; rfl, rfl⟩⟩
          | cons b ys =>
            have hb := byte_some g B b ys wr hs
            have h8' : Bytes8 ys := fun i hi => h8 (i + 1) (by simpa using hi)
            rw [rdM] at hR
            by_cases hb2 : b < 2
            · rw [if_pos hb2] at hR
              by_cases hb1 : b = 1
              · rw [if_pos hb1] at hR
                have hb1' : (b == 1) = true := by rw [beq_iff_eq]; exact hb1
                cases hu : rdU 18446744073709551615 10 0 0 ys with
                | none =>
                  have hRn : R = none := by rw [hR, hu]; rfl
                  have HRn := Lib.hid hRn
                  have hin := fun (wx : World) (hx : RdSt wx g B ys) => int_none g B ys wx hx h8' hu
                  clear hR hRn hs hm hr hu
                  go_upto_region 9 with (first
                    | (go_at_call 21; (with_reducible refine hb.mono ?_); rintro e w1 ⟨rfl, hs1, hg1⟩)
                    | (go_at_call 20; first | ((with_reducible refine (hk1 _ _).mono ?_); rintro e w2 ⟨rfl, rfl⟩)))
                  obtain ⟨CV, hCV⟩ : ∃ CV : Nat → Value, CV = fun j => match j with
                    | 0 => .int .i64 (k : Int)
                    | 1 => .int .i64 (k : Int)
                    | 2 => .pointer (some ⟨g, 0, none⟩)
                    | 3 => .int .i64 0
                    | 4 => .pointer (some ⟨g2, 1, none⟩)
                    | 5 => .pointer (some ⟨g2, 1 + k, none⟩)
                    | 7 => .pointer (some ⟨g2, 9, none⟩)
                    | 8 => .pointer (some ⟨g2, 9 + k, none⟩)
                    | _ => undef := ⟨_, rfl⟩
                  have V0 := Lib.hid (show CV 0 = .int .i64 (k : Int) from congrFun hCV 0)
                  have V1 := Lib.hid (show CV 1 = .int .i64 (k : Int) from congrFun hCV 1)
                  have V2 := Lib.hid (show CV 2 = .pointer (some ⟨g, 0, none⟩) from congrFun hCV 2)
                  have V3 := Lib.hid (show CV 3 = .int .i64 0 from congrFun hCV 3)
                  have V4 := Lib.hid (show CV 4 = .pointer (some ⟨g2, 1, none⟩) from congrFun hCV 4)
                  have V5 := Lib.hid (show CV 5 = .pointer (some ⟨g2, 1 + k, none⟩) from congrFun hCV 5)
                  have V6 := Lib.hid (show CV 6 = undef from congrFun hCV 6)
                  have V7 := Lib.hid (show CV 7 = .pointer (some ⟨g2, 9, none⟩) from congrFun hCV 7)
                  have V8 := Lib.hid (show CV 8 = .pointer (some ⟨g2, 9 + k, none⟩) from congrFun hCV 8)
                  have V9 := Lib.hid (show CV 9 = undef from congrFun hCV 9)
                  clear hCV
                  refine region_run (fun listed vals wq => listed.getD 3 false = false ∧ RegM w g B g2 w.heap.size k (mkC (n : Nat) f) (mkC 0 f0) ys [] 0 CV listed vals wq) (by kernel_rfl) (by kernel_rfl) (by kernel_rfl) (by kernel_rfl) ⟨getD_replicate_false _ _, RegM.start hs1 (RdSt.row hg1 Hm.out (by omega)) (RdSt.row hg1 Hr.out (by omega)) (RdSt.grown_trans Hgr.out hg1)⟩ ?_ ?_
                  · rintro listed vals a1 wq i hsz hcl ⟨hn3, hI⟩ hR hi hu hr1
                    replace hi : i < 10 := hi
                    replace hsz : listed.size = 10 := hsz
                    clear hb hs1 hg1 hk1 hk0
                    obtain rfl | hi1 : i = 0 ∨ 1 ≤ i := by omega
                    · have t4 := hR.fixed 4 (by kernel_rfl) rfl
                      have hkeep := And.intro ((getD_set_ne false (show 0 ≠ 3 by decide)).trans hn3) (hI.keep 0 (by decide) (by decide) (by decide) V0.out)
                      clear hI hin Hm Hr Hgr hn3
                      exact wpOp_val rfl rfl (by go_simp) ⟨_, rfl, hkeep⟩
                    obtain rfl | hi1 : i = 1 ∨ 2 ≤ i := by omega
                    · have t4 := hR.fixed 4 (by kernel_rfl) rfl
                      have hkeep := And.intro ((getD_set_ne false (show 1 ≠ 3 by decide)).trans hn3) (hI.keep 1 (by decide) (by decide) (by decide) V1.out)
                      clear hI hin Hm Hr Hgr hn3
                      exact wpOp_val rfl rfl (by go_simp) ⟨_, rfl, hkeep⟩
                    obtain rfl | hi1 : i = 2 ∨ 3 ≤ i := by omega
                    · have t0 := hR.fixed 0 (by kernel_rfl) rfl
                      have hkeep := And.intro ((getD_set_ne false (show 2 ≠ 3 by decide)).trans hn3) (hI.keep 2 (by decide) (by decide) (by decide) V2.out)
                      clear hI hin Hm Hr Hgr hn3
                      exact wpOp_val rfl rfl (by go_simp) ⟨_, rfl, hkeep⟩
                    obtain rfl | hi1 : i = 3 ∨ 4 ≤ i := by omega
                    · have t30 : a1.tmps[30]? = some (.pointer (some ⟨g, 0, none⟩)) := hI.get hR hr1 2 (by kernel_rfl) (by decide) rfl V2.out
                      have h3 : listed.getD 3 false = false := hu
                      have hrd := hI.rd
                      rw [h3, if_neg (by decide)] at hrd
                      have hc1 := hin wq hrd
                      refine wpOp_dies (f := 22) (args := #[.pointer (some ⟨g, 0, none⟩)]) rfl rfl (by go_simp) (hc1.mono ?_)
                      rintro e wz ⟨rfl, hg2⟩
                      exact ⟨_, rfl, ⟨hR.dfs, RdSt.grown_trans hI.gr hg2, .inl ⟨by rw [HRn.out]; rfl, rfl⟩⟩⟩
                    obtain rfl | hi1 : i = 4 ∨ 5 ≤ i := by omega
                    · have t3 := hR.fixed 3 (by kernel_rfl) rfl
                      have hkeep := And.intro ((getD_set_ne false (show 4 ≠ 3 by decide)).trans hn3) (hI.keep 4 (by decide) (by decide) (by decide) V4.out)
                      clear hI hin Hm Hr Hgr hn3
                      exact wpOp_val rfl rfl (by go_simp) ⟨_, rfl, hkeep⟩
                    obtain rfl | hi1 : i = 5 ∨ 6 ≤ i := by omega
                    · have t32 : a1.tmps[32]? = some (.pointer (some ⟨g2, 1, none⟩)) := hI.get hR hr1 4 (by kernel_rfl) (by decide) rfl V4.out
                      have t28 : a1.tmps[28]? = some (.int .i64 (k : Int)) := hI.get hR hr1 0 (by kernel_rfl) (by decide) rfl V0.out
                      have hkeep := And.intro ((getD_set_ne false (show 5 ≠ 3 by decide)).trans hn3) (hI.keep 5 (by decide) (by decide) (by decide) V5.out)
                      clear hI hin Hm Hr Hgr hn3
                      exact wpOp_val rfl rfl (by go_simp) ⟨_, rfl, hkeep⟩
                    obtain rfl | hi1 : i = 6 ∨ 7 ≤ i := by omega
                    · exact absurd (dep_of (i := 3) hr1 (by kernel_rfl)) (by rw [hn3]; decide)
                    obtain rfl | hi1 : i = 7 ∨ 8 ≤ i := by omega
                    · have t3 := hR.fixed 3 (by kernel_rfl) rfl
                      have hkeep := And.intro ((getD_set_ne false (show 7 ≠ 3 by decide)).trans hn3) (hI.keep 7 (by decide) (by decide) (by decide) V7.out)
                      clear hI hin Hm Hr Hgr hn3
                      exact wpOp_val rfl rfl (by go_simp) ⟨_, rfl, hkeep⟩
                    obtain rfl | hi1 : i = 8 ∨ 9 ≤ i := by omega
                    · have t34 : a1.tmps[34]? = some (.pointer (some ⟨g2, 9, none⟩)) := hI.get hR hr1 7 (by kernel_rfl) (by decide) rfl V7.out
                      have t29 : a1.tmps[29]? = some (.int .i64 (k : Int)) := hI.get hR hr1 1 (by kernel_rfl) (by decide) rfl V1.out
                      have hkeep := And.intro ((getD_set_ne false (show 8 ≠ 3 by decide)).trans hn3) (hI.keep 8 (by decide) (by decide) (by decide) V8.out)
                      clear hI hin Hm Hr Hgr hn3
                      exact wpOp_val rfl rfl (by go_simp) ⟨_, rfl, hkeep⟩
                    obtain rfl : i = 9 := by omega
                    exact absurd (dep_of (i := 3) hr1 (by kernel_rfl)) (by rw [hn3]; decide)
                  · rintro listed vals wq FF ⟨hn3, hI⟩ hall hFF
                    exact absurd (hall 3 (by decide)) (by rw [hn3]; decide)
                | some p =>
                  obtain ⟨m, zs⟩ := p
                  have hin := fun (wx : World) (hx : RdSt wx g B ys) => int_some g B m ys zs wx hx h8' hu
                  have h8z := (rdU_rest _ _ _ _ _ _ _ h8' hu).1
                  have HR := Lib.hid (show R = rdM d (k + 1) (updM f k (zag m)) zs by rw [hR, hu]; rfl)
                  clear hR hs hm hr hu
                  go_upto_region 9 with (first
                    | (go_at_call 21; (with_reducible refine hb.mono ?_); rintro e w1 ⟨rfl, hs1, hg1⟩)
                    | (go_at_call 20; first | ((with_reducible refine (hk1 _ _).mono ?_); rintro e w2 ⟨rfl, rfl⟩)))
                  obtain ⟨CV, hCV⟩ : ∃ CV : Nat → Value, CV = fun j => match j with
                    | 0 => .int .i64 (k : Int)
                    | 1 => .int .i64 (k : Int)
                    | 2 => .pointer (some ⟨g, 0, none⟩)
                    | 3 => .int .i64 (zag m)
                    | 4 => .pointer (some ⟨g2, 1, none⟩)
                    | 5 => .pointer (some ⟨g2, 1 + k, none⟩)
                    | 7 => .pointer (some ⟨g2, 9, none⟩)
                    | 8 => .pointer (some ⟨g2, 9 + k, none⟩)
                    | _ => undef := ⟨_, rfl⟩
                  have V0 := Lib.hid (show CV 0 = .int .i64 (k : Int) from congrFun hCV 0)
                  have V1 := Lib.hid (show CV 1 = .int .i64 (k : Int) from congrFun hCV 1)
                  have V2 := Lib.hid (show CV 2 = .pointer (some ⟨g, 0, none⟩) from congrFun hCV 2)
                  have V3 := Lib.hid (show CV 3 = .int .i64 (zag m) from congrFun hCV 3)
                  have V4 := Lib.hid (show CV 4 = .pointer (some ⟨g2, 1, none⟩) from congrFun hCV 4)
                  have V5 := Lib.hid (show CV 5 = .pointer (some ⟨g2, 1 + k, none⟩) from congrFun hCV 5)
                  have V6 := Lib.hid (show CV 6 = undef from congrFun hCV 6)
                  have V7 := Lib.hid (show CV 7 = .pointer (some ⟨g2, 9, none⟩) from congrFun hCV 7)
                  have V8 := Lib.hid (show CV 8 = .pointer (some ⟨g2, 9 + k, none⟩) from congrFun hCV 8)
                  have V9 := Lib.hid (show CV 9 = undef from congrFun hCV 9)
                  clear hCV
                  refine region_run (RegM w g B g2 w.heap.size k (mkC (n : Nat) f) (mkC 0 f0) ys zs (zag m) CV) (by kernel_rfl) (by kernel_rfl) (by kernel_rfl) (by kernel_rfl) (RegM.start hs1 (RdSt.row hg1 Hm.out (by omega)) (RdSt.row hg1 Hr.out (by omega)) (RdSt.grown_trans Hgr.out hg1)) ?_ ?_
                  · intro listed vals a1 wq i hsz hcl hI hR hi hu hr1
                    replace hi : i < 10 := hi
                    replace hsz : listed.size = 10 := hsz
                    clear hb hs1 hg1 hk1 hk0
                    obtain rfl | hi1 : i = 0 ∨ 1 ≤ i := by omega
                    · have t4 := hR.fixed 4 (by kernel_rfl) rfl
                      have hkeep := hI.keep 0 (by decide) (by decide) (by decide) V0.out
                      clear hI hin Hm Hr Hgr
                      exact wpOp_val rfl rfl (by go_simp) ⟨_, rfl, hkeep⟩
                    obtain rfl | hi1 : i = 1 ∨ 2 ≤ i := by omega
                    · have t4 := hR.fixed 4 (by kernel_rfl) rfl
                      have hkeep := hI.keep 1 (by decide) (by decide) (by decide) V1.out
                      clear hI hin Hm Hr Hgr
                      exact wpOp_val rfl rfl (by go_simp) ⟨_, rfl, hkeep⟩
                    obtain rfl | hi1 : i = 2 ∨ 3 ≤ i := by omega
                    · have t0 := hR.fixed 0 (by kernel_rfl) rfl
                      have hkeep := hI.keep 2 (by decide) (by decide) (by decide) V2.out
                      clear hI hin Hm Hr Hgr
                      exact wpOp_val rfl rfl (by go_simp) ⟨_, rfl, hkeep⟩
                    obtain rfl | hi1 : i = 3 ∨ 4 ≤ i := by omega
                    · have t30 : a1.tmps[30]? = some (.pointer (some ⟨g, 0, none⟩)) := hI.get hR hr1 2 (by kernel_rfl) (by decide) rfl V2.out
                      have h3 : listed.getD 3 false = false := hu
                      have hrd := hI.rd
                      rw [h3, if_neg (by decide)] at hrd
                      have hc1 := hin wq hrd
                      refine wpOp_calls (f := 22) (args := #[.pointer (some ⟨g, 0, none⟩)]) rfl rfl (by go_simp) (hc1.mono ?_)
                      rintro e wz ⟨rfl, hs2, hg2⟩
                      exact ⟨_, rfl, _, rfl, hI.call hsz hs2 hg2 (by omega) (by omega) V3.out⟩
                    obtain rfl | hi1 : i = 4 ∨ 5 ≤ i := by omega
                    · have t3 := hR.fixed 3 (by kernel_rfl) rfl
                      have hkeep := hI.keep 4 (by decide) (by decide) (by decide) V4.out
                      clear hI hin Hm Hr Hgr
                      exact wpOp_val rfl rfl (by go_simp) ⟨_, rfl, hkeep⟩
                    obtain rfl | hi1 : i = 5 ∨ 6 ≤ i := by omega
                    · have t32 : a1.tmps[32]? = some (.pointer (some ⟨g2, 1, none⟩)) := hI.get hR hr1 4 (by kernel_rfl) (by decide) rfl V4.out
                      have t28 : a1.tmps[28]? = some (.int .i64 (k : Int)) := hI.get hR hr1 0 (by kernel_rfl) (by decide) rfl V0.out
                      have hkeep := hI.keep 5 (by decide) (by decide) (by decide) V5.out
                      clear hI hin Hm Hr Hgr
                      exact wpOp_val rfl rfl (by go_simp) ⟨_, rfl, hkeep⟩
                    obtain rfl | hi1 : i = 6 ∨ 7 ≤ i := by omega
                    · have t33 : a1.tmps[33]? = some (.pointer (some ⟨g2, 1 + k, none⟩)) := hI.get hR hr1 5 (by kernel_rfl) (by decide) rfl V5.out
                      obtain ⟨D, hD, hE⟩ := hI.row
                      have h9 : listed.getD 9 false = false := unlisted (n := 9) hcl hu (by kernel_rfl)
                      have hfz := frozen_of_row hD (1 + k)
                      have hcc : ∃ u, wq.cell? ⟨g2, 1 + k, none⟩ = some u := by
                        rw [cell_of_row _ _ _ _ _ _ hD, hE, h9]
                        simp only [Bool.false_eq_true, if_false]
                        have hsz17 := mkC_size (n : Int) f
                        split <;> exact ⟨_, Array.getElem?_eq_getElem (by simp [hsz17]; omega)⟩
                      obtain ⟨u, hcc⟩ := hcc
                      have hfin := hI.has hsz h9 (by omega) (by omega) (by omega) (by omega) V6.out
                      clear hI hD hE
                      refine wpOp_skip rfl rfl (w' := wq.setCell ⟨g2, 1 + k, none⟩ (.bool true)) ?_ ⟨_, rfl, hfin⟩
                      clear hfin hin HR Hm Hr Hgr
                      go_simp
                    obtain rfl | hi1 : i = 7 ∨ 8 ≤ i := by omega
                    · have t3 := hR.fixed 3 (by kernel_rfl) rfl
                      have hkeep := hI.keep 7 (by decide) (by decide) (by decide) V7.out
                      clear hI hin Hm Hr Hgr
                      exact wpOp_val rfl rfl (by go_simp) ⟨_, rfl, hkeep⟩
                    obtain rfl | hi1 : i = 8 ∨ 9 ≤ i := by omega
                    · have t34 : a1.tmps[34]? = some (.pointer (some ⟨g2, 9, none⟩)) := hI.get hR hr1 7 (by kernel_rfl) (by decide) rfl V7.out
                      have t29 : a1.tmps[29]? = some (.int .i64 (k : Int)) := hI.get hR hr1 1 (by kernel_rfl) (by decide) rfl V1.out
                      have hkeep := hI.keep 8 (by decide) (by decide) (by decide) V8.out
                      clear hI hin Hm Hr Hgr
                      exact wpOp_val rfl rfl (by go_simp) ⟨_, rfl, hkeep⟩
                    obtain rfl : i = 9 := by omega
                    have t35 : a1.tmps[35]? = some (.pointer (some ⟨g2, 9 + k, none⟩)) := hI.get hR hr1 8 (by kernel_rfl) (by decide) rfl V8.out
                    have t31 : a1.tmps[31]? = some (.int .i64 (zag m)) := hI.get hR hr1 3 (by kernel_rfl) (by decide) rfl V3.out
                    obtain ⟨D, hD, hE⟩ := hI.row
                    have h9 : listed.getD 9 false = false := hu
                    have hfz := frozen_of_row hD (9 + k)
                    have hcc : ∃ u, wq.cell? ⟨g2, 9 + k, none⟩ = some u := by
                      rw [cell_of_row _ _ _ _ _ _ hD, hE, h9]
                      simp only [Bool.false_eq_true, if_false]
                      have hsz17 := mkC_size (n : Int) f
                      split <;> exact ⟨_, Array.getElem?_eq_getElem (by simp [hsz17]; omega)⟩
                    obtain ⟨u, hcc⟩ := hcc
                    have hfin := hI.time hsz h9 (by omega) (by omega) (by omega) (by omega) V9.out
                    clear hI hD hE
                    refine wpOp_skip rfl rfl (w' := wq.setCell ⟨g2, 9 + k, none⟩ (.int .i64 (zag m))) ?_ ⟨_, rfl, hfin⟩
                    clear hfin hin HR Hm Hr Hgr
                    go_simp
                  · intro listed vals wq FF hI hall hFF
                    obtain ⟨D, hD, hE⟩ := hI.row
                    have hrd := hI.rd
                    have hzr := hI.zr
                    have hgq := hI.gr
                    rw [hall 6 (by decide), hall 9 (by decide), if_pos rfl, if_pos rfl] at hE
                    rw [hall 3 (by decide), if_pos rfl] at hrd
                    have hE2 : D = mkC (n : Nat) (updM f k (zag m)) := hE.trans (mkC_set n f k hk8 (zag m))
                    rw [hE2] at hD
                    have hF2 : FF = (((((((((Act.put _ (some 28) (vals 0)).put (some 29) (vals 1)).put (some 30) (vals 2)).put (some 31) (vals 3)).put (some 32) (vals 4)).put (some 33) (vals 5)).put none (vals 6)).put (some 34) (vals 7)).put (some 35) (vals 8)).put none (vals 9) := hFF
                    simp only [putAll] at hF2
                    rw [hF2]
                    clear hF2 hFF hI hall hE hE2 hin hb hs1 hg1
                    go_frame
                    go_wp2_with fail
                    exact ⟨⟨k + 1, updM f k (zag m), zs, by go_num, by omega, hrd, h8z, hD, hzr, hgq, by rw [HR.out]; congr 1; omega⟩, by simp [intOf]; omega⟩
              · rw [if_neg hb1] at hR
                have hb1' : (b == 1) = false := by rw [beq_eq_false_iff_ne]; exact hb1
                have HR := Lib.hid hR
                clear hR hs hm hr hb1
                go_wp2_with (first
                  | (go_at_call 21; (with_reducible refine hb.mono ?_); rintro e w1 ⟨rfl, hs1, hg1⟩)
                  | (go_at_call 20; first | ((with_reducible refine (hk1 _ _).mono ?_); rintro e w2 ⟨rfl, rfl⟩)))
                exact ⟨⟨k + 1, f, ys, by go_num, by omega, hs1, h8', RdSt.row hg1 Hm.out (by omega), RdSt.row hg1 Hr.out (by omega), RdSt.grown_trans Hgr.out hg1, by rw [HR.out]; congr 1; omega⟩, by simp [intOf]; omega⟩
            · rw [if_neg hb2] at hR
              have HRn := Lib.hid hR
              have hbd : decide (b < 2) = false := decide_eq_false hb2
              clear hR hs hm hr
              go_wp2_with (first
                | (go_at_call 21; (with_reducible refine hb.mono ?_); rintro e w1 ⟨rfl, hs1, hg1⟩)
                | (go_at_call 20; first | ((with_reducible refine (hk0 _ _).mono ?_); rintro e w2 ⟨rfl, rfl⟩)))
              exact ⟨rfl, RdSt.grown_trans Hgr.out hg1, .inl ⟨by rw [HRn.out]; rfl, rfl⟩⟩
        · obtain rfl : k = n := by omega
          rw [Nat.sub_self, rdM] at hR
          have HR := Lib.hid hR
          have hs2 := hs.setRow (k := w.heap.size) hB (by omega) (mkC (k : Nat) f)
          have hrs := setRow_heap wr w.heap.size _ (mkC (k : Nat) f) _ _ hr
          clear hR hs
          go_wp2_with (first
            | (refine at_op (.load 27 (.tmp 3)) ?_ rfl; refine wpList_load_row rfl 27 (.tmp 3) rfl g2 rfl 27 (mkC (k : Nat) f) (0, 0) _ Hm.out Try.underlying27 rfl Hs.out ?_)
            | (refine at_op (.store 27 (.tmp 2) (.tmp 37)) ?_ rfl; refine wpList_store_row rfl 27 (.tmp 2) (.tmp 37) rfl w.heap.size (mkC (k : Nat) f) rfl rfl 27 (mkC 0 f0) Hr.out Hs.out rfl (mkC_one _ f) ?_))
          exact bodyPost_ret (results_cell_row rfl _ _ w.heap.size 27 (mkC (k : Nat) f) (0, 0) _ rfl hrs Try.underlying27 rfl Hs.out) rfl ⟨grown_setRowN Hgr.out (Nat.le_refl _) _, .inr ⟨k, f, ys, by rw [HR.out]; rfl, rfl, hs2⟩⟩
/-- The bytes of the first k partitions. -/
def flatM (f : Nat → Option Int) : Nat → List Int
  | 0 => []
  | k + 1 => flatM f k ++ (match f k with | some t => 1 :: uintL (zig t) | none => [0])
def layM (n : Nat) (f : Nat → Option Int) : List Int := uintL n ++ flatM f n
theorem flatM_len (f : Nat → Option Int) : ∀ k, (flatM f k).length ≤ 11 * k := by
  intro k
  induction k with
  | zero => simp [flatM]
  | succ k ih =>
    rw [flatM, List.length_append]
    have : (match f k with | some t => 1 :: uintL (zig t) | none => [0] : List Int).length ≤ 11 := by
      cases f k with
      | none => simp
      | some t => have := (uintL_len (zig t)).2; simp; omega
    omega
theorem rdM_flat : ∀ (d i : Nat) (f : Nat → Option Int) (ys : List Int) (f' : Nat → Option Int) (rest : List Int), Bytes8 ys → (∀ j, i ≤ j → f j = none) → rdM d i f ys = some (f', rest) →
    (∀ j, j < i → f' j = f j) ∧ flatM f' i ++ ys = flatM f' (i + d) ++ rest ∧ (∀ j t, f' j = some t → f j = some t ∨ (-9223372036854775808 ≤ t ∧ t < 9223372036854775808)) := by
  intro d
  induction d with
  | zero =>
    intro i f ys f' rest h8 hn h
    injection h with h
    injection h with h1 h2
    subst h1 h2
    exact ⟨fun _ _ => rfl, rfl, fun j t e => .inl e⟩
  | succ d ih =>
    intro i f ys f' rest h8 hn h
    cases ys with
    | nil => cases h
    | cons b xs =>
      have hb := h8 0 (by simp)
      have hb : 0 ≤ b ∧ b ≤ 255 := hb
      have h8' : Bytes8 xs := fun j hj => h8 (j + 1) (by simpa using hj)
      rw [rdM] at h
      split at h
      · split at h
        · rename_i h2 h1
          cases hu : rdU 18446744073709551615 10 0 0 xs with
          | none => rw [hu] at h; cases h
          | some p =>
            obtain ⟨m, zs⟩ := p
            rw [hu] at h
            simp only [Option.bind_some] at h
            obtain ⟨h8z, hm⟩ := rdU_rest _ _ _ _ _ _ _ h8' hu
            have hx := uintL_of_rdU h8' hu
            obtain ⟨a1, a2, a3⟩ := ih (i + 1) (updM f i (zag m)) zs f' rest h8z (fun j hj => by unfold updM; rw [if_neg (by omega)]; exact hn j (by omega)) h
            have hi : f' i = some (zag m) := by rw [a1 i (by omega)]; unfold updM; rw [if_pos rfl]
            refine ⟨fun j hj => by rw [a1 j (by omega)]; unfold updM; rw [if_neg (by omega)], ?_, fun j t e => ?_⟩
            · rw [show i + (d + 1) = i + 1 + d from by omega, ← a2, flatM, hi, hx]
              show _ = flatM f' i ++ (1 :: uintL (zig (zag m))) ++ zs
              rw [zig_zag, h1]
              simp
            · rcases a3 j t e with h4 | h4
              · unfold updM at h4
                split at h4
                · injection h4 with h4
                  subst h4
                  exact .inr (zag_range (by omega))
                · exact .inl h4
              · exact .inr h4
        · rename_i h2 h1
          obtain ⟨a1, a2, a3⟩ := ih (i + 1) f xs f' rest h8' (fun j hj => hn j (by omega)) h
          have hi : f' i = none := by rw [a1 i (by omega)]; exact hn i (Nat.le_refl _)
          refine ⟨fun j hj => a1 j (by omega), ?_, a3⟩
          rw [show i + (d + 1) = i + 1 + d from by omega, ← a2, flatM, hi, show b = 0 from by omega]
          simp
      · cases h
theorem rdMarks_lay {xs : List Int} {n : Nat} {f : Nat → Option Int} (h8 : Bytes8 xs) (h : rdMarks xs = some ((n, f), [])) : n ≤ 8 ∧ xs = layM n f ∧ ∀ j t, f j = some t → -9223372036854775808 ≤ t ∧ t < 9223372036854775808 := by
  unfold rdMarks at h
  cases hu : rdU 8 10 0 0 xs with
  | none => rw [hu] at h; cases h
  | some p =>
    obtain ⟨m, ys⟩ := p
    rw [hu] at h
    simp only [Option.bind_some] at h
    obtain ⟨h8y, hm⟩ := rdU_rest _ _ _ _ _ _ _ h8 hu
    have hx := uintL_of_rdU h8 hu
    split at h
    · cases hr : rdM m 0 f0 ys with
      | none => rw [hr] at h; cases h
      | some q =>
        obtain ⟨f', rest⟩ := q
        rw [hr] at h
        injection h with h
        injection h with h1 h2
        injection h1 with h3 h4
        have h3 : m = n := h3
        have h4 : f' = f := h4
        have h2 : rest = [] := h2
        subst h3 h4 h2
        obtain ⟨_, a2, a3⟩ := rdM_flat m 0 f0 ys f' [] h8y (fun _ _ => rfl) hr
        refine ⟨hm, ?_, fun j t e => ?_⟩
        · rw [Nat.zero_add, List.append_nil] at a2
          rw [hx, layM, ← a2]; rfl
        · rcases a3 j t e with h5 | h5
          · cases h5
          · exact h5
    · cases h
set_option maxRecDepth 100000 in
set_option maxHeartbeats 8000000 in
theorem layMarks_any (n : Nat) (f : Nat → Option Int) (w : World) (hn : n ≤ 8) (hf : ∀ j t, f j = some t → -9223372036854775808 ≤ t ∧ t < 9223372036854775808) :
    Calls Try.prog 17 #[.slice none 0 0, .agg (mkC (n : Nat) f)] w fun e w' => ∃ v, e = .returned v ∧ Own w' w.heap.size 5 .u8 v (layM n f) ∧ Below w.heap.size w w' := by
  have h1 := heap_alloc_new w (.cells (mkC n f) 27)
  have hw1 : (w.alloc (.cells (mkC n f) 27)).heap.size = w.heap.size + 1 := by simp
  have hba := below_alloc (Below.refl w.heap.size w) (.cells (mkC n f) 27)
  have q0 := (cell_of_row _ _ 0 _ _ _ h1).trans (mkC_n n f)
  have hnw : IntKind.u64.wrap (n : Int) = (n : Int) := by rw [IntKind.wrap_u64]; omega
  have hc := colUint_any (w.heap.size + 1) (.slice none 0 0) [] n (w.alloc (.cells (mkC n f) 27)) (by omega) (Own.nil _ _ _ _) (by omega) (by simp)
  have hla : ∀ k, k ≤ n → (uintL n ++ flatM f k).length ≤ 100 := fun k hk => by have := (uintL_len n).2; have := flatM_len f k; rw [List.length_append]; omega
  go_enter Try.func17, Try.ntmps17
  go_wp2_with (go_at_call 23; (with_reducible refine hc.mono ?_); rintro e w2 ⟨v2, rfl, o2, g2, n2⟩; have b2 := below_of_grown g2 (fun k e => by cases e); have h2 := (b2.block w.heap.size (by omega)).trans h1; have c2 := (cell_of_row _ _ 0 _ _ _ h2).trans (mkC_n n f))
  have b0 := below_trans hba (b2.mono (by omega))
  go_loopw [0, 13] (fun p i wr => ∃ k : Nat, i = .int .i64 (k : Nat) ∧ k ≤ n ∧ Own wr (w.heap.size + 1) 5 .u8 p (uintL n ++ flatM f k) ∧ wr.heap[w.heap.size]? = some (.cells (mkC n f) 27 (0, 0)) ∧ Below w.heap.size w wr ∧ w.heap.size + 1 ≤ wr.heap.size) (fun _ i _ => n - (intOf i).toNat)
  case atStart => exact ⟨0, rfl, by omega, by rw [flatM, List.append_nil]; exact o2, h2, b0, by have := b2.size; omega⟩
  case round =>
    clear o2 h2 b2 c2 q0 hc h1 hba hw1 g2 n2 b0
    obtain ⟨k, rfl, hk, ho, hr, hb, hsz⟩ := hrel
    by_cases hlt : k < n
    · have hki : (k : Int) < (n : Int) := by omega
      have hk8 : (k : Int) < 8 := by omega
      have hl := hla k hk
      have c1 := (cell_of_row _ _ (1 + k) _ _ _ hr).trans (mkC_has n f k (by omega))
      have Hr := Lib.hid hr
      cases hfk : f k with
      | none =>
        have hfl : flatM f (k + 1) = flatM f k ++ [0] := by rw [flatM, hfk]
        have Hfl := Lib.hid hfl
        replace c1 : wr.cell? ⟨w.heap.size, 1 + k, none⟩ = some (.bool false) := by rw [c1, hfk]; rfl
        have l1 : (uintL n ++ flatM f k).length + [(0 : Int)].length ≤ maxLen := by show _ + 1 ≤ _; unfold maxLen; omega
        have l2 : ((uintL n ++ flatM f k).length + [(0 : Int)].length) * 1 ≤ 140737488355328 := by show (_ + 1) * 1 ≤ _; omega
        have oa := ho.alloc (.cells #[.int .u8 0] 5)
        have ra := Reads.one wr 5 .u8 0
        have hba : w.heap.size + 1 ≤ (wr.alloc (.cells #[.int .u8 0] 5)).heap.size := by simp; omega
        clear hfl hl hr hfk hla
        go_wp2_with (first
          | (at_builtin
             refine wpList_append rfl _ (.tmp 28) (.tmp 29) 42 rfl (w.heap.size + 1) 5 .u8 1 Try.underlying42 infoU8 _ (uintL n ++ flatM f k) rfl oa _ 1 [0] rfl ra l1 l2 hba ?_
             intro v2 w2 ho2 hg2 hv2))
        exact ⟨⟨k + 1, by go_num, by omega, by rw [Hfl.out, ← List.append_assoc]; exact ho2,
          (hg2.block w.heap.size (by simp; omega) (fun e => by have := (ho.lt _ e.symm).1; omega)).trans (((below_alloc (Below.refl wr.heap.size wr) _).block w.heap.size (by omega)).trans Hr.out),
          (below_alloc hb _).grown hg2 (by simp; omega) (fun g e => by have := (ho.lt g e).1; omega), by have := hg2.size; omega⟩, by simp [intOf]; omega⟩
      | some t =>
        have hfl : flatM f (k + 1) = flatM f k ++ (1 :: uintL (zig t)) := by rw [flatM, hfk]
        have Hfl := Lib.hid hfl
        replace c1 : wr.cell? ⟨w.heap.size, 1 + k, none⟩ = some (.bool true) := by rw [c1, hfk]; rfl
        have c9 : wr.cell? ⟨w.heap.size, 9 + k, none⟩ = some (.int .i64 t) := by rw [cell_of_row _ _ (9 + k) _ _ _ hr, mkC_t n f k (by omega), hfk]; rfl
        have hft := hf k t hfk
        have H9 : Hid ((mkC (n : Nat) f)[9 + k]? = some (.int .i64 t)) := Lib.hid (by rw [mkC_t n f k (by omega), hfk]; rfl)
        have l1 : (uintL n ++ flatM f k).length + [(1 : Int)].length ≤ maxLen := by show _ + 1 ≤ _; unfold maxLen; omega
        have l2 : ((uintL n ++ flatM f k).length + [(1 : Int)].length) * 1 ≤ 140737488355328 := by show (_ + 1) * 1 ≤ _; omega
        have hl1 : (uintL n ++ flatM f k ++ [1]).length ≤ 1000000 := by rw [List.length_append]; show _ + 1 ≤ _; omega
        have hci := fun (w2 : World) v2 (ho2 : Own w2 (w.heap.size + 1) 5 .u8 v2 (uintL n ++ flatM f k ++ [1])) (hs2 : w.heap.size + 1 ≤ w2.heap.size) => colInt_any (w.heap.size + 1) v2 _ t w2 hs2 ho2 hft hl1
        clear hfl hl hfk hla hft hl1
        go_upto_region 6 with fail
        have e1 := cell_below (below_alloc (Below.refl wr.heap.size wr) (.cells #[.int .u8 1] 5)) c9
        go_region_law (first
          | (refine step_append rfl _ (.tmp 21) 42 rfl (w.heap.size + 1) 5 .u8 1 Try.underlying42 infoU8 _ (uintL n ++ flatM f k) rfl ((Own.below ho (Below.refl _ _).drew).alloc _) _ 1 [1] rfl (Reads.one _ _ _ _) l1 l2 (by simp; omega) ?_; intro v2 w2 ho2 hg2 hv2; have r2 := (hg2.block w.heap.size (by simp; omega) (fun e => by have := (ho.lt _ e.symm).1; omega)).trans (((below_alloc (Below.refl wr.drew.heap.size wr.drew) _).block w.heap.size (by simp; omega)).trans Hr.out); have e9 := (cell_of_row _ _ (9 + k) _ _ _ r2).trans H9.out; have hs2 : w.heap.size + 1 ≤ w2.heap.size := Nat.le_trans (by simp; omega) hg2.size)
          | (refine step_calls (f := 24) (args := #[v2, .int .i64 t]) rfl (by go_simp) ((hci w2 v2 ho2 hs2).mono ?_); rintro e w5 ⟨q, rfl, o5, g5, n5⟩; refine ⟨q, rfl, ?_⟩))
        all_goals
          go_wp2_with fail
          exact ⟨⟨k + 1, by go_num, by omega, by rw [Hfl.out, ← List.append_assoc, List.append_cons]; exact o5,
            (g5.block w.heap.size (by omega) (fun e => by have := (ho2.lt _ e.symm).1; omega)).trans r2,
            ((below_alloc hb.drew _).grown hg2 (by simp; omega) (fun g e => by have := (ho.lt g e).1; omega)).grown g5 (by omega) (fun g e => by have := (ho2.lt g e).1; omega), Nat.le_trans hs2 g5.size⟩, by simp [intOf]; omega⟩
    · obtain rfl : k = n := by omega
      clear hr hla hsz
      go_wp2_with fail
      go_ret
      exact ⟨_, rfl, ho.mono (by omega), hb⟩
end Go.Proofs.Ytjlhllhimoalmaa
