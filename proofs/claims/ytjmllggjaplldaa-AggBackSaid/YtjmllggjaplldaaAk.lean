import Derived.Test.YtjmllggjaplldaaAj
import Derived.Laws.FloatArith
import Derived.Deep.DeepCutAuto
import Derived.Deep.CutBlock
import Derived.StillTailTactics
/-! The least and the greatest; what is too great: the law. -/
namespace Go.Proofs.Ytjmllggjaplldaa
open Go.RowKit
set_option linter.unusedVariables false
attribute [-simp] Try.isAgg30 Try.sizeOf30 Try.typeInfo30 Try.type30
attribute [-simp] Try.isAgg32 Try.sizeOf32 Try.typeInfo32 Try.type32
attribute [-simp] Try.isAgg27 Try.sizeOf27 Try.typeInfo27 Try.type27
attribute [-simp] Try.isAgg39 Try.sizeOf39 Try.typeInfo39 Try.type39

theorem sub_fin {x : Nat} (h : rung x < 9218868437227405312) : Ieee.double.sub x x = some 0 := by
  unfold Ieee.Format.sub
  rw [read_mag h]
  generalize magOf (rung x) = m
  generalize (upOf (rung x) : Int) = u
  have e : Ieee.signed (negB x) m 0 + Ieee.signed (!negB x) m 0 = 0 := by
    unfold Ieee.signed
    cases negB x <;> simp <;> omega
  simp only [Ieee.Datum.opposite, Ieee.Datum.sum, Option.map_some, Int.min_self, Int.sub_self, Int.toNat_zero, e, if_true]
  cases negB x <;> rfl
theorem sub_special {x : Nat} (h : nanB x = true ∨ infB x = true) : Ieee.double.sub x x = none := by
  unfold Ieee.Format.sub
  rcases h with h | h
  · rw [read_nan h]; rfl
  · have hr : rung x = 9218868437227405312 := by have := of_decide_eq_true h; unfold rung; omega
    rw [read_inf hr]
    cases negB x <;> rfl
theorem run_sub_special {P : Program} (T : TypeId) {x : Nat} (h : nanB x = true ∨ infB x = true) (w : World) :
    ∃ r, nanB r = true ∧ (binOp .sub T (.float .f64 x) (.float .f64 x)).run P w = .ok (.float .f64 r) w.drew := by
  have hs : FloatKind.f64.format.sub x x = none := sub_special h
  refine ⟨Question.cut (.nanBits .f64 x x) (w.tape w.drawn (.nanBits .f64 x x)), ?_, ?_⟩
  · generalize w.tape w.drawn (.nanBits .f64 x x) = t
    unfold nanB Question.cut
    have h2 : t % 2 = 0 ∨ t % 2 = 1 := by omega
    have h3 : t / 2 % (2 ^ 52 - 1) < 4503599627370495 := Nat.mod_lt _ (by decide)
    simp only [decide_eq_true_eq]
    generalize t / 2 % (2 ^ 52 - 1) = v at *
    rcases h2 with h2 | h2 <;> rw [h2] <;> omega
  · simp [binOp, Op.floatArith, hs, Question.forced]
/-- Is there any, of the first ones? -/
def anyK (f : Nat → Bool) : Nat → Bool
  | 0 => false
  | k + 1 => anyK f k || f k
theorem anyK_true (f : Nat → Bool) (n : Nat) : anyK f n = true ↔ ∃ i, i < n ∧ f i = true := by
  induction n with
  | zero => simp [anyK]
  | succ n ih =>
    rw [anyK, Bool.or_eq_true, ih]
    constructor
    · rintro (⟨i, h1, h2⟩ | h)
      · exact ⟨i, by omega, h2⟩
      · exact ⟨n, by omega, h⟩
    · rintro ⟨i, h1, h2⟩
      by_cases e : i = n
      · subst e; exact .inr h2
      · exact .inl ⟨i, by omega, h2⟩
theorem loR_le (xs : List Nat) : ∀ k, k ≤ xs.length → ∀ i, i < k → ¬ rank (fd xs i) < rank (loR xs k) := by
  intro k
  induction k with
  | zero => intro _ i h; omega
  | succ k ih =>
    intro hk i hi
    rw [loR_succ xs k (by omega)]
    unfold minR
    by_cases e : i = k
    · subst e
      split <;> omega
    · have := ih (by omega) i (by omega)
      split <;> omega
theorem hiR_le (xs : List Nat) : ∀ k, k ≤ xs.length → ∀ i, i < k → ¬ rank (hiR xs k) < rank (fd xs i) := by
  intro k
  induction k with
  | zero => intro _ i h; omega
  | succ k ih =>
    intro hk i hi
    rw [hiR_succ xs k (by omega)]
    unfold maxR
    by_cases e : i = k
    · subst e
      split <;> omega
    · have := ih (by omega) i (by omega)
      split <;> omega
theorem loR_mem (xs : List Nat) (h0 : 0 < xs.length) : ∀ k, k ≤ xs.length → ∃ i, i < xs.length ∧ loR xs k = fd xs i := by
  intro k
  induction k with
  | zero => intro _; exact ⟨0, h0, rfl⟩
  | succ k ih =>
    intro hk
    rw [loR_succ xs k (by omega)]
    unfold minR
    split
    · exact ⟨k, by omega, rfl⟩
    · exact ih (by omega)
theorem hiR_mem (xs : List Nat) (h0 : 0 < xs.length) : ∀ k, k ≤ xs.length → ∃ i, i < xs.length ∧ hiR xs k = fd xs i := by
  intro k
  induction k with
  | zero => intro _; exact ⟨0, h0, rfl⟩
  | succ k ih =>
    intro hk
    rw [hiR_succ xs k (by omega)]
    unfold maxR
    split
    · exact ⟨k, by omega, rfl⟩
    · exact ih (by omega)
def badF (x : Nat) : Bool := nanB x || infB x
theorem inf_two {x : Nat} (hx : x < 18446744073709551616) : infB x = (infP x || infM x) := by
  unfold infB infP infM
  rw [Bool.eq_iff_iff]
  simp only [Bool.or_eq_true, decide_eq_true_eq]
  omega
theorem flags_any (xs : List Nat) (h64 : Words64 xs) : ∀ k, k ≤ xs.length → ((sumOf (xs.take k)).nan || (sumOf (xs.take k)).pos || (sumOf (xs.take k)).neg) = anyK (fun i => badF (fd xs i)) k := by
  intro k
  induction k with
  | zero => intro _; rfl
  | succ k ih =>
    intro hk
    rw [sumOf_snoc xs k (by omega), anyK, ← ih (by omega)]
    have hx := h64 k (by omega)
    generalize sumOf (xs.take k) = s
    generalize fd xs k = x at *
    have hi := inf_two hx
    show _ = (s.nan || s.pos || s.neg || (nanB x || infB x))
    unfold addSt
    by_cases h : nanB x = true ∨ infB x = true
    · rw [if_pos h]
      rw [hi] at h ⊢
      generalize nanB x = a at *
      generalize infP x = b at *
      generalize infM x = c at *
      show ((s.nan || a) || (s.pos || b) || (s.neg || c)) = _
      cases s.nan <;> cases s.pos <;> cases s.neg <;> cases a <;> cases b <;> cases c <;> rfl
    · rw [if_neg h]
      have h1 : nanB x = false := by cases e : nanB x with | false => rfl | true => exact absurd (.inl e) h
      have h2 : infB x = false := by cases e : infB x with | false => rfl | true => exact absurd (.inr e) h
      rw [h1, h2]
      split <;> simp
theorem over_fin (xs : List Nat) (h64 : Words64 xs) (h : (valSt (sumOf xs)).2 = true) : anyK (fun i => badF (fd xs i)) xs.length = false ∧ infB (canon (valSt (sumOf xs)).1) = true := by
  have hf := flags_any xs h64 xs.length (Nat.le_refl _)
  rw [List.take_length] at hf
  rw [← hf]
  generalize sumOf xs = s at *
  unfold valSt at *
  by_cases hs : (s.nan || s.pos || s.neg) = true
  · rw [if_pos hs] at h; cases h
  · rw [if_neg hs] at h ⊢
    refine ⟨by simpa using hs, ?_⟩
    generalize sgOf s.w = sg at *
    generalize absOf s.w = A at *
    unfold valOf at *
    by_cases h0 : A = 0
    · rw [if_pos h0] at h; cases h
    · rw [if_neg h0] at h ⊢
      by_cases h1 : A < 9007199254740992
      · rw [if_pos h1] at h; cases h
      · rw [if_neg h1] at h ⊢
        by_cases h2 : 2047 * 4503599627370496 ≤ rungOf A
        · rw [if_pos h2]
          cases sg <;> decide
        · rw [if_neg h2] at h; cases h
theorem neq_zero : (FloatKind.f64.format.order 0 0 != some .eq) = false := by decide
theorem neq_nan {r : Nat} (h : nanB r = true) : (FloatKind.f64.format.order r 0 != some .eq) = true := by
  show (Ieee.double.order r 0 != some .eq) = true
  rw [order_nan_left _ h]; rfl
set_option maxRecDepth 100000 in
set_option maxHeartbeats 16000000 in
theorem aggEnds_any (A : Option Addr) (cap : Nat) (xs : List Nat) (w : World) (hr : FReads w A xs) (h64 : Words64 xs) (hxl : xs.length ≤ 9223372036854775807) :
    Calls Try.prog 3 #[.slice A xs.length cap] w fun e w' => e = .returned (.bool true) ∧ Below w.heap.size w w' := by
  have Hs := Lib.hid sizeAgg
  have aw := awake12_any
  by_cases h0 : xs.length = 0
  · obtain rfl := List.eq_nil_of_length_eq_zero h0
    go_enter Try.func3, Try.ntmps3
    go_wp2_with (go_at_call 10; (with_reducible refine (aw _).mono ?_); rintro e w1 ⟨rfl, b1⟩)
    go_ret
    exact ⟨rfl, below_trans (by assumption) b1⟩
  by_cases h60 : 60 < xs.length
  · go_enter Try.func3, Try.ntmps3
    have hi : (60 : Int) < (xs.length : Int) := by omega
    have h0i : ((xs.length : Int) == 0) = false := by rw [beq_eq_false_iff_ne]; omega
    go_wp2_with (go_at_call 10; (with_reducible refine (aw _).mono ?_); rintro e w1 ⟨rfl, b1⟩)
    go_ret
    exact ⟨rfl, below_trans (by assumption) b1⟩
  · have hpos : 0 < xs.length := by omega
    obtain ⟨a, rfl⟩ : ∃ a, A = some a := by
      obtain ⟨a, h, _⟩ := hr 0 (by omega)
      exact ⟨a, h⟩
    obtain ⟨N, hN⟩ : ∃ N : Nat, N = 2240 := ⟨_, rfl⟩
    have hof := fun w1 (b : Below w.heap.size w w1) => of_as (some a) cap xs w1 (hr.below b) h64 (by omega)
    have hrof := fun w1 (b : Below w.heap.size w w1) => refOf_any (some a) cap xs N w1 hN (hr.below b) h64 (by omega)
    have hrval := fun g w h => refValue_any g (sumOf xs) N w hN h
    have ht := fun w => tell_as (asOf xs) w (asOf_okA xs h64)
    have heq := asOf_all xs h0 (by omega)
    have htl : tellAS (asOf xs) = ⟨xs.length, canon (valSt (sumOf xs)).1, (valSt (sumOf xs)).2, canon (loR xs xs.length), canon (hiR xs xs.length)⟩ := by rw [heq]; rfl
    rw [htl] at ht
    have hlo := loR_lt xs h64 hpos xs.length (Nat.le_refl _)
    have hhi := hiR_lt xs h64 hpos xs.length (Nat.le_refl _)
    have hbl : ∀ k, k < xs.length → ∀ w, Calls Try.prog 13 #[.float .f64 (fd xs k), .float .f64 (canon (loR xs xs.length))] w fun e w' => e = .returned (.bool false) ∧ w = w' := fun k hk w => by
      have := before_any (fd xs k) (canon (loR xs xs.length)) w (h64 k hk) (canon_lt hlo)
      rw [rank_canon, decide_eq_false (loR_le xs _ (Nat.le_refl _) k hk)] at this
      exact this
    have hbh : ∀ k, k < xs.length → ∀ w, Calls Try.prog 13 #[.float .f64 (canon (hiR xs xs.length)), .float .f64 (fd xs k)] w fun e w' => e = .returned (.bool false) ∧ w = w' := fun k hk w => by
      have := before_any (canon (hiR xs xs.length)) (fd xs k) w (canon_lt hhi) (h64 k hk)
      rw [rank_canon, decide_eq_false (hiR_le xs _ (Nat.le_refl _) k hk)] at this
      exact this
    have hsl : ∀ k, k < xs.length → ∀ w, Calls Try.prog 14 #[.float .f64 (fd xs k), .float .f64 (canon (loR xs xs.length))] w fun e w' => e = .returned (.bool (decide (canon (fd xs k) = canon (loR xs xs.length)))) ∧ w = w' := fun k hk w => by
      have := refSame_any (fd xs k) (canon (loR xs xs.length)) w (h64 k hk) (canon_lt hlo)
      rw [canon_canon] at this
      exact this
    have hsh : ∀ k, k < xs.length → ∀ w, Calls Try.prog 14 #[.float .f64 (fd xs k), .float .f64 (canon (hiR xs xs.length))] w fun e w' => e = .returned (.bool (decide (canon (fd xs k) = canon (hiR xs xs.length)))) ∧ w = w' := fun k hk w => by
      have := refSame_any (fd xs k) (canon (hiR xs xs.length)) w (h64 k hk) (canon_lt hhi)
      rw [canon_canon] at this
      exact this
    have hL : anyK (fun i => decide (canon (fd xs i) = canon (loR xs xs.length))) xs.length = true := by
      obtain ⟨i, hi, e⟩ := loR_mem xs hpos xs.length (Nat.le_refl _)
      exact (anyK_true _ _).2 ⟨i, hi, by rw [e]; exact decide_eq_true rfl⟩
    have hH : anyK (fun i => decide (canon (fd xs i) = canon (hiR xs xs.length))) xs.length = true := by
      obtain ⟨i, hi, e⟩ := hiR_mem xs hpos xs.length (Nat.le_refl _)
      exact (anyK_true _ _).2 ⟨i, hi, by rw [e]; exact decide_eq_true rfl⟩
    have hov := over_fin xs h64
    have hxl1 := valSt_low (sumOf xs)
    have hxl2 := refVal_lt (sumOf xs)
    obtain ⟨c1, c2⟩ := refVal_canon (sumOf xs)
    have hss : ∀ w, Calls Try.prog 14 #[.float .f64 (canon (valSt (sumOf xs)).1), .float .f64 (refVal (sumOf xs)).1] w fun e w' => e = .returned (.bool true) ∧ w = w' := fun w => by
      have := refSame_any (canon (valSt (sumOf xs)).1) (refVal (sumOf xs)).1 w (canon_lt hxl1) hxl2
      rw [canon_canon, c1, decide_eq_true rfl] at this
      exact this
    rw [c2] at hrval
    have hsp : ∀ k, k < xs.length → (badF (fd xs k) = true → ∀ w : World, ∃ r, nanB r = true ∧ (binOp .sub 25 (.float .f64 (fd xs k)) (.float .f64 (fd xs k))).run Try.prog w = .ok (.float .f64 r) w.drew) ∧ (badF (fd xs k) = false → ∀ w, (binOp .sub 25 (.float .f64 (fd xs k)) (.float .f64 (fd xs k))).run Try.prog w = .ok (.float .f64 0) w) := fun k hk => ⟨fun h w => run_sub_special _ (by unfold badF at h; simpa using h) w, fun h w => run_float_arith w .sub _ .f64 _ _ _ (sub_fin (by
      unfold badF at h
      rw [Bool.or_eq_false_iff] at h
      exact fin_rung (h64 k hk) h.1 h.2))⟩
    have hS : (valSt (sumOf xs)).2 = true → ∀ w : World, ∃ r, nanB r = true ∧ (binOp .sub 25 (.float .f64 (canon (valSt (sumOf xs)).1)) (.float .f64 (canon (valSt (sumOf xs)).1))).run Try.prog w = .ok (.float .f64 r) w.drew := fun h w => run_sub_special _ (.inr (hov h).2) w
    have hF : (valSt (sumOf xs)).2 = true → anyK (fun i => badF (fd xs i)) xs.length = false := fun h => (hov h).1
    generalize sumOf xs = S0 at *
    generalize (refVal S0).1 = y at *
    generalize canon (valSt S0).1 = x at *
    generalize (valSt S0).2 = ov at *
    generalize canon (loR xs xs.length) = lo at *
    generalize canon (hiR xs xs.length) = hi at *
    generalize asOf xs = S at *
    have hwl := wrap_len xs.length (by omega)
    rw [IntKind.wrap_u64] at hwl
    have Hwl := Lib.hid hwl
    have h60i : (xs.length : Int) ≤ 60 := by omega
    have h0i : ((xs.length : Int) == 0) = false := by rw [beq_eq_false_iff_ne]; omega
    obtain ⟨fl, hfl⟩ : ∃ fl : Nat → Bool, fl = fun i => decide (canon (fd xs i) = lo) := ⟨_, rfl⟩
    obtain ⟨fh, hfh⟩ : ∃ fh : Nat → Bool, fh = fun i => decide (canon (fd xs i) = hi) := ⟨_, rfl⟩
    obtain ⟨fb, hfb⟩ : ∃ fb : Nat → Bool, fb = fun i => badF (fd xs i) := ⟨_, rfl⟩
    have fl1 : ∀ k, decide (canon (fd xs k) = lo) = fl k := fun k => by rw [hfl]
    have fh1 : ∀ k, decide (canon (fd xs k) = hi) = fh k := fun k => by rw [hfh]
    have fb1 : ∀ k, badF (fd xs k) = fb k := fun k => by rw [hfb]
    rw [← hfl] at hL
    rw [← hfh] at hH
    rw [← hfb] at hF
    simp only [fl1] at hsl
    simp only [fh1] at hsh
    simp only [fb1] at hsp
    have HL := Lib.hid hL
    have HH := Lib.hid hH
    have HF := Lib.hid hF
    have Hbl := Lib.hid hbl
    have Hbh := Lib.hid hbh
    have Hsl := Lib.hid hsl
    have Hsh := Lib.hid hsh
    have Hsp := Lib.hid hsp
    have HSS := Lib.hid hS
    have Hr := Lib.hid fun (w1 : World) (b : Below w.heap.size w w1) (i : Nat) (hi : i < xs.length) => (hr.below b).lit i hi
    have hD1 := avC_one ⟨xs.length, x, ov, lo, hi⟩
    have hDs : (avC ⟨xs.length, x, ov, lo, hi⟩).size = 5 := rfl
    obtain ⟨d0, d1, d2, d3, d4⟩ := avC_cells ⟨xs.length, x, ov, lo, hi⟩
    generalize avC ⟨xs.length, x, ov, lo, hi⟩ = D at *
    obtain ⟨Z, hZ, zz⟩ : ∃ Z : Array Value, Z.size = 5 ∧ ∀ w, (zeroValue 27).run Try.prog w = .ok (.agg Z) w := ⟨avC noAV, rfl, zeroAgg⟩
    have d0 := Lib.hid d0
    have d1 := Lib.hid d1
    have d2 := Lib.hid d2
    have d3 := Lib.hid d3
    have d4 := Lib.hid d4
    clear hr h64 hxl h0 h60 hN heq htl hlo hhi hbl hbh hsl hsh hL hH hov hxl1 hxl2 c1 c2 hsp hS hF hwl hfl hfh hfb fl1 fh1 fb1
    go_enter Try.func3, Try.ntmps3
    go_upto_block 0 with (first
      | (go_at_call 10; (with_reducible refine (aw _).mono ?_); rintro e w1 ⟨rfl, b1⟩)
      | (go_at_call 11; (with_reducible refine (hof _ b1).mono ?_); rintro e w2 ⟨rfl, b2⟩; have bb2 := below_trans b1 b2)
      | (go_at_call 12; (with_reducible refine (ht _).mono ?_); rintro e w3 ⟨rfl, b3⟩; have bb3 := below_trans bb2 b3)
      | (refine at_op (.alloc 27) ?_ rfl; refine wpList_alloc_row rfl _ 27 rfl (some 3) rfl w3.heap.size rfl _ zz ?_)
      | (refine at_op (.store 27 (.tmp 3) (.tmp 25)) ?_ rfl; refine wpList_store_row rfl 27 (.tmp 3) (.tmp 25) rfl w3.heap.size D rfl rfl 27 _ (heap_alloc_new w3 _) (by rw [hDs]; exact Hs.out) (by rw [hZ, hDs]) hD1 ?_; rw [World.setRow_alloc_new]; have k3 := Lib.hid (heap_alloc_new w3 (.cells D 27)); have bb4 := below_alloc bb3 (.cells D 27); generalize w3.heap.size = g3 at *; generalize w3.alloc (.cells D 27) = w4 at *))
    clear b1 b2 b3 bb2 bb3 aw hof ht zz hZ hD1
    go_cut [4, 5, 6, 7] (fun vl vh vi _ wr => vl = .bool true ∧ vh = .bool true ∧ vi = .bool (anyK fb xs.length) ∧ wr.heap[g3]? = some (.cells D 27 (0, 0)) ∧ Below w.heap.size w wr)
    case first =>
      clear hrof hrval hss
      go_wp2_with fail
      go_loopw [4, 5, 6, 7] (fun vl vh vi i wr => ∃ k : Nat, k ≤ xs.length ∧ vl = .bool (anyK fl k) ∧ vh = .bool (anyK fh k) ∧ vi = .bool (anyK fb k) ∧ i = .int .i64 (k : Nat) ∧ wr.heap[g3]? = some (.cells D 27 (0, 0)) ∧ Below w.heap.size w wr) (fun _ _ _ i _ => xs.length - (intOf i).toNat)
      case atStart => exact ⟨0, Nat.zero_le _, rfl, rfl, rfl, rfl, k3.out, bb4⟩
      case round =>
        clear k3 bb4
        obtain ⟨k, hk, rfl, rfl, rfl, rfl, hg, hb⟩ := hrel
        have Hg := Lib.hid hg
        by_cases hlt : k < xs.length
        · have ck := (Hr.out wr hb) k hlt
          have c3 := (cell_of_row _ _ 3 _ _ _ hg).trans d3.out
          have c4 := (cell_of_row _ _ 4 _ _ _ hg).trans d4.out
          have hbl := Hbl.out k hlt
          have hbh := Hbh.out k hlt
          have hsl := Hsl.out k hlt
          have hsh := Hsh.out k hlt
          obtain ⟨hs1, hs2⟩ := Hsp.out k hlt
          have HL1 : Hid (anyK fl (k + 1) = (anyK fl k || fl k)) := Lib.hid rfl
          have HH1 : Hid (anyK fh (k + 1) = (anyK fh k || fh k)) := Lib.hid rfl
          have HB1 : Hid (anyK fb (k + 1) = (anyK fb k || fb k)) := Lib.hid rfl
          have hlti : (k : Int) < (xs.length : Int) := by omega
          have hHs1 := Lib.hid hs1
          have hHs2 := Lib.hid hs2
          clear Hbl Hbh Hsl Hsh Hsp HL HH HF HSS hg hs1 hs2
          generalize anyK fl k = bl at *
          generalize anyK fh k = bh at *
          generalize anyK fb k = bb at *
          generalize fl k = sl at *
          generalize fh k = sh at *
          generalize fb k = sb at *
          generalize hzz : fd xs k = z at *
          have HZ := Lib.hid hzz
          clear hzz
          go_wp2_with fail
          go_quiet ((first | (go_at_call 13; with_reducible exact quiet_of_left (hbl _)) | (go_at_call 13; with_reducible exact quiet_of_left (hbh _))))
          go_wp2_with fail
          have hg1 : (wr.drewN nq).heap[g3]? = some (.cells D 27 (0, 0)) := Hg.out
          have hb1 := below_drewN hb nq
          have ck1 : (wr.drewN nq).cell? (a.add k) = some (.float .f64 z) := ck
          have c31 : (wr.drewN nq).cell? ⟨g3, 3, none⟩ = some (.float .f64 lo) := c3
          clear Hg hb ck c3 c4 hbl hbh
          generalize wr.drewN nq = w5 at *
          have Hg := Lib.hid hg1
          clear hg1
          go_cut [4] (fun v wx => v = .bool (bl || sl) ∧ wx.heap[g3]? = some (.cells D 27 (0, 0)) ∧ Below w.heap.size w wx)
          case first =>
            clear hsh
            cases bl
            · go_quiet ((go_at_call 14; with_reducible exact quiet_of_left (hsl _)))
              go_wp2_with fail
              go_meet
              exact ⟨rfl, Hg.out, below_drewN hb1 _⟩
            · go_quiet (fail)
              go_wp2_with fail
              go_meet
              exact ⟨rfl, Hg.out, below_drewN hb1 _⟩
          case rest =>
            obtain ⟨rfl, hg1, hb1⟩ := hcut
            clear Hg ck1 c31 hsl
            have Hg := Lib.hid hg1
            have ck : wc.cell? (a.add k) = some (.float .f64 z) := by rw [← HZ.out]; exact (Hr.out wc hb1) k hlt
            have c4 := (cell_of_row _ _ 4 _ _ _ hg1).trans d4.out
            clear hg1
            go_wp2_with fail
            go_cut [5] (fun v wx => v = .bool (bh || sh) ∧ wx.heap[g3]? = some (.cells D 27 (0, 0)) ∧ Below w.heap.size w wx)
            case first =>
              cases bh
              · go_quiet ((go_at_call 14; with_reducible exact quiet_of_left (hsh _)))
                go_wp2_with fail
                go_meet
                exact ⟨rfl, Hg.out, below_drewN hb1 _⟩
              · go_quiet (fail)
                go_wp2_with fail
                go_meet
                exact ⟨rfl, Hg.out, below_drewN hb1 _⟩
            case rest =>
              obtain ⟨rfl, hg2, hb2⟩ := hcut
              clear Hg hb1 ck c4 hsh
              have Hg := Lib.hid hg2
              have ck : wc.cell? (a.add k) = some (.float .f64 z) := by rw [← HZ.out]; exact (Hr.out wc hb2) k hlt
              clear hg2
              go_wp2_with fail
              cases bb
              · cases sb
                · have hs2 := hHs2.out rfl
                  have hnz := neq_zero
                  go_quiet (fail)
                  go_wp2_with fail
                  exact ⟨⟨k + 1, by omega, by rw [HL1.out], by rw [HH1.out], by rw [HB1.out]; rfl, by go_num, Hg.out, below_drewN hb2 _⟩, by simp [intOf]; omega⟩
                · have hs1 := hHs1.out rfl
                  go_still_tail 10, (by kernel_rfl)
                  change wpList _ _ _ _ _ wc.drew
                  have hg3 : wc.drew.heap[g3]? = some (.cells D 27 (0, 0)) := Hg.out
                  have hb3 := hb2.drew
                  clear ck hb2 Hg
                  generalize wc.drew = w6 at *
                  obtain ⟨r, hr, hrun⟩ := hs1 w6
                  have hnr := neq_nan hr
                  clear hs1
                  go_wp2_with fail
                  exact ⟨⟨k + 1, by omega, by rw [HL1.out], by rw [HH1.out], by rw [HB1.out]; rfl, by go_num, hg3, hb3.drew⟩, by simp [intOf]; omega⟩
              · go_quiet (fail)
                go_wp2_with fail
                exact ⟨⟨k + 1, by omega, by rw [HL1.out], by rw [HH1.out], by rw [HB1.out]; rfl, by go_num, Hg.out, below_drewN hb2 _⟩, by simp [intOf]; omega⟩
        · obtain rfl : k = xs.length := by omega
          rw [HL.out, HH.out]
          go_wp2_with fail
          go_meet
          exact ⟨rfl, rfl, rfl, Hg.out, hb⟩
    case rest =>
      obtain ⟨rfl, rfl, rfl, hg, hb⟩ := hcut
      clear Hbl Hbh Hsl Hsh Hsp HL HH Hr k3 bb4
      have Hg := Lib.hid hg
      clear hg
      cases hov : ov
      · rw [hov] at hrval d2
        clear HF HSS hov
        generalize anyK fb xs.length = bf at *
        go_wp2_with (first
          | (go_at_call 15; (with_reducible refine (hrof _ hb).mono ?_); rintro e w5 ⟨q, rfl, hq, b5⟩; have bb5 := below_trans hb b5; have k5 := Lib.hid ((b5.block _ (heap_lt Hg.out)).trans Hg.out))
          | (go_at_call 16; (with_reducible refine (hrval _ _ hq).mono ?_); rintro e w6 ⟨rfl, b6⟩; have bb6 := below_trans bb5 b6; have k6 := (b6.block _ (heap_lt k5.out)).trans k5.out; have e0 := (cell_of_row _ _ 0 _ _ _ k6).trans d0.out; have e1 := (cell_of_row _ _ 1 _ _ _ k6).trans d1.out; have e2 := (cell_of_row _ _ 2 _ _ _ k6).trans d2.out; have hw := Hwl.out; clear k6)
          | (go_at_call 14; (with_reducible refine (hss _).mono ?_); rintro e w7 ⟨rfl, rfl⟩))
        go_ret
        exact ⟨rfl, bb6⟩
      · have hbf := HF.out hov
        have hS := HSS.out hov
        rw [hov] at hrval d2
        rw [hbf]
        have HS := Lib.hid hS
        clear HF HSS hov hbf hS
        go_wp2_with (first
          | (go_at_call 15; (with_reducible refine (hrof _ hb).mono ?_); rintro e w5 ⟨q, rfl, hq, b5⟩; have bb5 := below_trans hb b5; have k5 := Lib.hid ((b5.block _ (heap_lt Hg.out)).trans Hg.out))
          | (go_at_call 16; (with_reducible refine (hrval _ _ hq).mono ?_); rintro e w6 ⟨rfl, b6⟩; have bb6 := below_trans bb5 b6; have k6 := (b6.block _ (heap_lt k5.out)).trans k5.out; have e0 := (cell_of_row _ _ 0 _ _ _ k6).trans d0.out; have e1 := (cell_of_row _ _ 1 _ _ _ k6).trans d1.out; have e2 := (cell_of_row _ _ 2 _ _ _ k6).trans d2.out; have hw := Hwl.out; obtain ⟨r, hr, hrun⟩ := HS.out w6; have hnr := neq_nan hr; clear k6)
          | (go_at_call 14; (with_reducible refine (hss _).mono ?_); rintro e w7 ⟨rfl, rfl⟩))
        go_ret
        exact ⟨rfl, bb6.drew⟩
theorem aggEnds_walk (W : World) (A : Option Addr) (cap : Nat) (xs : List Nat) (hc : xs.length ≤ cap) (hl : cap ≤ maxLen) (hr : FReads W A xs) (hw : Words64 xs) :
    Calls Try.prog 3 #[.slice A xs.length cap] W fun e w' => e = .returned (.bool true) ∧ Below W.heap.size W w' :=
  aggEnds_any A cap xs W hr hw (by unfold maxLen at hl; omega)
end Go.Proofs.Ytjmllggjaplldaa
