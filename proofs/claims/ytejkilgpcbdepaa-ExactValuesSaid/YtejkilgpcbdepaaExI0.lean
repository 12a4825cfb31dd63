import Derived.Test.YtejkilgpcbdepaaExIc
/-! Exact sums: the walk of Value, of no sign. -/
namespace Go.Proofs.Ytejkilgpcbdepaa
open Go.RowKit
set_option linter.unusedVariables false
attribute [-simp] Try.isAgg28
attribute [-simp] Try.isAgg30 Try.sizeOf30 Try.typeInfo30 Try.type30
set_option maxHeartbeats 16000000 in
set_option maxRecDepth 100000 in
theorem value_plus (C E D : Array Value) (hC : C.size = 40) (A x34 : Nat) (ng : Bool) (an ot : Bool) (R : Nat) (ov : Bool) (w : World) (hNG : ng = false)
    (c35 : C[35]? = some (.bool false)) (c36 : C[36]? = some (.bool false)) (c37 : C[37]? = some (.bool false)) (c38 : C[38]? = some (.bool an)) (c39 : C[39]? = some (.bool ot))
    (hE : E.size = 35) (hE1 : E.all (·.oneCell') = true) (hfr : ∀ i, i < E.size → C[i]? = E[i]?) (e34 : E[34]? = some (.int .u64 (x34 : Nat))) (hx34 : x34 < 18446744073709551616) (hng : decide (9223372036854775808 ≤ x34) = ng)
    (hD : D.size = 35) (hD1 : D.all (·.oneCell') = true) (hDi : ∀ i, i < 35 → D[i]? = some (.int .u64 (wdn A i : Nat)))
    (hA : ng = false → E = D) (hmin : ng = true → ∀ w, Calls Try.prog 35 #[.agg E] w fun e w' => e = .returned (.agg D) ∧ Below w.heap.size w w')
    (hget : ∀ (s : Nat) w, s < 2240 → Calls Try.prog 38 #[.agg D, .int .i64 s] w fun e w' => e = .returned (.int .u64 ((A / 2 ^ s % 9007199254740992 : Nat) : Int)) ∧ Below w.heap.size w w')
    (hbel : ∀ (s : Nat) w, s < 2240 → Calls Try.prog 39 #[.agg D, .int .i64 s] w fun e w' => e = .returned (.bool (decide (A % 2 ^ s ≠ 0))) ∧ Below w.heap.size w w')
    (htop : topI A 35 = if A = 0 then -1 else (A.log2 : Int)) (hlog : A.log2 < 2240)
    (hcp : ∀ w, Calls Try.prog 23 #[.float .f64 0, .float .f64 13830554455654793216] w fun e w' => e = .returned (.float .f64 9223372036854775808) ∧ w = w')
    (hR0 : A = 0 → R = (if (an && !ot) = true then 9223372036854775808 else 0) ∧ ov = false)
    (hR1 : A ≠ 0 → A < 9007199254740992 → R = (if ng = true then 9223372036854775808 else 0) + A ∧ ov = false)
    (hR2 : 9007199254740992 ≤ A → (2047 * 4503599627370496 ≤ rungOf A → R = (if ng = true then 18442240474082181120 else 9218868437227405312) ∧ ov = true) ∧ (rungOf A < 2047 * 4503599627370496 → R = (if ng = true then 9223372036854775808 else 0) + rungOf A ∧ ov = false)) :
    Calls Try.prog 17 #[.agg C] w fun e w' => e = .returned (.tuple #[.float .f64 R, .bool ov]) ∧ Below w.heap.size w w' := by
  have H8 := Lib.hid size28
  have h35 := at_of (by omega) c35
  have h36 := at_of (by omega) c36
  have h37 := at_of (by omega) c37
  have Hfr := Lib.hid hfr
  have Hc38 := Lib.hid c38
  have Hc39 := Lib.hid c39
  have HE := Lib.hid hE
  have HD := Lib.hid hD
  have HDi := Lib.hid hDi
  have Hget := Lib.hid hget
  have Hbel := Lib.hid hbel
  have Htop := Lib.hid htop
  have Hcp := Lib.hid hcp
  have HR0 := Lib.hid hR0
  have HR1 := Lib.hid hR1
  have HR2 := Lib.hid hR2
  have hsg : ((x34 : Int) / 9223372036854775808 == 1) = ng := by
    rw [← hng, Bool.eq_iff_iff]
    simp only [beq_iff_eq, decide_eq_true_eq]
    omega
  obtain ⟨Y, hY, zy⟩ : ∃ Y : Array Value, Y.size = 35 ∧ ∀ w, (zeroValue 28).run Try.prog w = .ok (.agg Y) w := ⟨_, ws_size _, zero28⟩
  have hd34 := fun (w6 : World) (h : w6.heap[w.heap.size + 1]? = some (.cells E 28 (0, 0))) => (cell_of_row w6 _ 34 _ _ _ h).trans e34
  clear c35 c36 c37 c38 c39 hfr hng hget hbel htop hcp hR0 hR1 hR2 hDi e34 hE
  cases hNG
  have hEA := hA rfl
  subst hEA
  clear hA hmin
  go_enter Try.func17, Try.ntmps17
  go_wp2_with (first
      | (refine at_op (.load 28 (.tmp 32)) ?_ rfl; refine wpList_load_front rfl _ 28 (.tmp 32) rfl w.heap.size rfl C E 30 (0, 0) _ (heap_alloc_new w _) Hfr.out Try.underlying28 rfl (by rw [HE.out]; exact H8.out) ?_)
      | (refine at_op (.alloc 28) ?_ rfl; refine wpList_alloc_row rfl _ 28 rfl (some 4) rfl (w.heap.size + 1) (by simp) Y zy ?_)
      | (refine at_op (.store 28 (.tmp 4) (.tmp 33)) ?_ rfl; refine wpList_store_row rfl 28 (.tmp 4) (.tmp 33) rfl (w.heap.size + 1) E rfl rfl 28 Y (heap_alloc2_new w _ _) (by rw [HE.out]; exact H8.out) (by rw [hY, HE.out]) hE1 ?_; have j0h := Lib.hid ((setRow_other ((w.alloc (.cells C 30)).alloc (.cells Y 28)) (w.heap.size + 1) w.heap.size E (by omega)).trans (heap_alloc2_old w _ _)); have j1h := Lib.hid (setRow_heap _ _ _ E _ _ (heap_alloc2_new w (.cells C 30) (.cells Y 28))); have bb := below_setRow (below_alloc (below_alloc (Below.refl w.heap.size w) (.cells C 30)) (.cells Y 28)) (show w.heap.size ≤ w.heap.size + 1 by omega) E; generalize ((w.alloc (.cells C 30)).alloc (.cells Y 28)).setRow (w.heap.size + 1) E = w6 at *; have hc34 := hd34 w6 j1h.out)
      | (refine at_op0 (.load 28 (.tmp 4)) ?_ rfl rfl; refine wpList_load_row rfl 28 (.tmp 4) rfl (w.heap.size + 1) rfl 28 _ (0, 0) _ j1h.out Try.underlying28 rfl (by first | (rw [HE.out]; exact H8.out) | (rw [HD.out]; exact H8.out)) ?_))
  clear hd34 hsg hx34
  go_loop [6, 41] (fun t i => ∃ k : Nat, k ≤ 35 ∧ i = .int .i64 k ∧ t = .int .i64 (topI A k)) (fun _ i => 35 - (intOf i).toNat)
  case atStart => exact ⟨0, by omega, rfl, by rw [topI_zero]⟩
  case round =>
    obtain ⟨k, hk, rfl, rfl⟩ := hrel
    by_cases hlt : k < 35
    · have hidx := run_index35 E HD.out k hlt _ (HDi.out k hlt)
      have Hsame := Lib.hid (topI_same A k)
      have Hstep := Lib.hid (topI_step A k)
      have hxl := wdn_lt A k
      generalize wdn A k = x at *
      by_cases hx0 : x = 0
      · have hx1 : ((x : Int) != 0) = false := by simp; omega
        go_wp2_with fail
        exact ⟨⟨k + 1, by omega, by go_num, by rw [Hsame.out hx0]⟩, by simp [intOf]; omega⟩
      · have hx1 : ((x : Int) != 0) = true := by simp; omega
        have hbl := Lib.bitLen_le x 64 (Nat.le_refl _) hxl
        go_wp2_with (go_at_call 36; (with_reducible refine (len64_any _ _ (by omega) (by omega)).mono ?_); rintro e w7 ⟨rfl, rfl⟩)
        exact ⟨⟨k + 1, by omega, by go_num, by rw [Hstep.out hx0]⟩, by simp [intOf]; omega⟩
    · obtain rfl : k = 35 := by omega
      have h1 := Htop.out
      rw [h1]
      clear h1 Htop
      by_cases hA0 : A = 0
      · obtain ⟨hR, rfl⟩ := HR0.out hA0
        have hcp := Hcp.out
        have d38 := (cell_of_row w6 _ 38 _ _ _ j0h.out).trans Hc38.out
        have d39 := (cell_of_row w6 _ 39 _ _ _ j0h.out).trans Hc39.out
        rw [if_pos hA0]
        clear HR0 HR1 HR2
        cases an <;> cases ot
        all_goals
          simp at hR
          subst hR
          go_wp2_with (go_at_call 23; (with_reducible refine (hcp _).mono ?_); rintro e w7 ⟨rfl, rfl⟩)
          all_goals first
            | (exfalso; omega)
            | (go_ret2; exact ⟨rfl, bb⟩)
      · rw [if_neg hA0]
        have hA0' := Nat.pos_of_ne_zero hA0
        by_cases hsm : A < 9007199254740992
        · obtain ⟨hR, rfl⟩ := HR1.out hA0 hsm
          have hl52 : (A.log2 : Int) ≤ 52 := by
            have := (Nat.log2_lt hA0 (k := 53)).2 hsm
            omega
          have hl0 : (0 : Int) ≤ (A.log2 : Int) := by omega
          have hw0 : wdn A 0 = A := by unfold wdn; simp; omega
          have d0 := (cell_of_row w6 _ 0 _ _ _ j1h.out).trans (HDi.out 0 (by omega))
          rw [hw0] at d0
          have hf := run_frombits
          have hor0 : bits .or .u64 0 (A : Int) = (A : Int) := by
            have := or64 0 A (by omega) (by omega)
            rw [Nat.zero_or] at this
            exact this
          have hor1 : bits .or .u64 9223372036854775808 (A : Int) = ((9223372036854775808 + A : Nat) : Int) := by
            have := or64 9223372036854775808 A (by omega) (by omega)
            rw [show (9223372036854775808 : Nat) ||| A = 9223372036854775808 + A from (Nat.two_pow_add_eq_or_of_lt (i := 63) (b := A) (by omega) 1).symm] at this
            exact this
          clear HR0 HR1 HR2 hA0 hw0
          generalize A.log2 = L at *
          simp at hR
          subst hR
          go_wp2_with fail
          all_goals first
            | (exfalso; omega)
            | (go_ret2; exact ⟨rfl, bb⟩)
        · have h53 : 9007199254740992 ≤ A := by omega
          have hrr := HR2.out h53
          have hL53 : 53 ≤ A.log2 := (Nat.le_log2 hA0).2 h53
          have hne53 : ¬ A < 9007199254740992 := hsm
          have hrg : rungOf A = (A.log2 - 52) * 4503599627370496 + (A / 2 ^ (A.log2 - 52) + (upB A (A.log2 - 52)).toNat) := by unfold rungOf; rw [if_neg hsm]
          obtain ⟨sN, hsN⟩ : ∃ sN, sN = A.log2 - 52 := ⟨_, rfl⟩
          have hm0 : A / 2 ^ sN < 9007199254740992 ∧ 4503599627370496 ≤ A / 2 ^ sN := by
            have h1 := Nat.log2_self_le hA0
            have h2 : A < 2 ^ (A.log2 + 1) := Nat.lt_log2_self
            have hp := Nat.two_pow_pos sN
            constructor
            · rw [Nat.div_lt_iff_lt_mul hp, show (9007199254740992 : Nat) = 2 ^ 53 from rfl, ← Nat.pow_add, show 53 + sN = A.log2 + 1 by omega]
              exact h2
            · rw [Nat.le_div_iff_mul_le hp, show (4503599627370496 : Nat) = 2 ^ 52 from rfl, ← Nat.pow_add, show 52 + sN = A.log2 by omega]
              exact h1
          rw [← hsN] at hrg
          have g1 := fun w => Hget.out sN w (by omega)
          have g2 := fun w => Hget.out (sN - 1) w (by omega)
          have b1 := fun w => Hbel.out (sN - 1) w (by omega)
          unfold upB at hrg
          rw [Nat.mod_eq_of_lt hm0.1] at g1
          have hsl1 : 1 ≤ sN := by omega
          have hsl2 : sN ≤ 2187 := by omega
          have e1 : (A.log2 : Int) - 52 = (sN : Int) := by omega
          have e2 : (sN : Int) - 1 = ((sN - 1 : Nat) : Int) := by omega
          have hl52 : ¬ (A.log2 : Int) ≤ 52 := by omega
          have hl0 : (0 : Int) ≤ (A.log2 : Int) := by omega
          have a1 : bits .and .u64 ((A / 2 ^ (sN - 1) % 9007199254740992 : Nat) : Int) 1 = ((A / 2 ^ (sN - 1) % 2 : Nat) : Int) := by
            have h3 : A / 2 ^ (sN - 1) % 9007199254740992 < 9007199254740992 := Nat.mod_lt _ (by omega)
            have := and64 (A / 2 ^ (sN - 1) % 9007199254740992) 1 (by omega) (by omega)
            rw [show ((1 : Nat) : Int) = 1 from rfl] at this
            rw [this, Nat.and_one_is_mod]
            congr 1; omega
          have a2 : bits .and .u64 ((A / 2 ^ sN : Nat) : Int) 1 = ((A / 2 ^ sN % 2 : Nat) : Int) := by
            have := and64 (A / 2 ^ sN) 1 (by omega) (by omega)
            rw [show ((1 : Nat) : Int) = 1 from rfl] at this
            rw [this, Nat.and_one_is_mod]
          have hf := run_frombits
          have hip := infP_any
          have him := infM_any
          have Hrr := Lib.hid hrr
          clear HR0 HR1 HR2 hrr hA0 hsN hsm hne53 Hget Hbel
          generalize hld : decide (A % 2 ^ (sN - 1) ≠ 0) = bl at *
          have hmod : A / 2 ^ (sN - 1) % 2 = 0 ∨ A / 2 ^ (sN - 1) % 2 = 1 := by omega
          have hmod2 : A / 2 ^ sN % 2 = 0 ∨ A / 2 ^ sN % 2 = 1 := by omega
          generalize A / 2 ^ (sN - 1) % 2 = hf1 at *
          generalize A / 2 ^ sN % 2 = od at *
          generalize A / 2 ^ (sN - 1) % 9007199254740992 = gv at *
          generalize A / 2 ^ sN = m at *
          generalize rungOf A = rg at *
          generalize A.log2 = L at *
          have Hm0 := Lib.hid hm0
          clear hld hL53 h53 hA0'
          have HrgN := Lib.hid (fun (h : rg = sN * 4503599627370496 + m) => show (2046 < sN + 1 → R = (if false = true then 18442240474082181120 else 9218868437227405312) ∧ ov = true) ∧ (¬ 2046 < sN + 1 → R = (if false = true then 9223372036854775808 else 0) + rg ∧ ov = false) from
            ⟨fun h => Hrr.out.1 (by omega), fun h => Hrr.out.2 (by omega)⟩)
          have HrgU := Lib.hid (fun (h : rg = sN * 4503599627370496 + (m + 1)) (h1 : m + 1 ≠ 9007199254740992) => show (2046 < sN + 1 → R = (if false = true then 18442240474082181120 else 9218868437227405312) ∧ ov = true) ∧ (¬ 2046 < sN + 1 → R = (if false = true then 9223372036854775808 else 0) + rg ∧ ov = false) from
            ⟨fun h => Hrr.out.1 (by omega), fun h => Hrr.out.2 (by omega)⟩)
          have HrgV := Lib.hid (fun (h : rg = sN * 4503599627370496 + (m + 1)) (h1 : m + 1 = 9007199254740992) => show (2046 < sN + 2 → R = (if false = true then 18442240474082181120 else 9218868437227405312) ∧ ov = true) ∧ (¬ 2046 < sN + 2 → R = (if false = true then 9223372036854775808 else 0) + rg ∧ ov = false) from
            ⟨fun h => Hrr.out.1 (by omega), fun h => Hrr.out.2 (by omega)⟩)
          have Hrg := Lib.hid hrg
          obtain ⟨mi, hmi⟩ : ∃ mi : Int, ((m : Nat) : Int) = mi := ⟨_, rfl⟩
          rw [hmi] at g1 a2
          have Hmi := Lib.hid hmi
          have hmb1 : 4503599627370496 ≤ mi := by omega
          have hmb2 : mi ≤ 9007199254740991 := by omega
          clear hm0 hrg Hrr hmi
          rcases hmod with rfl | rfl
          · skip
            have lf := HrgN.out (by rw [Hrg.out]; simp)
            clear HrgN HrgU HrgV
            by_cases hov : 2046 < sN + 1
            · obtain ⟨hR, rfl⟩ := lf.1 hov
              simp at hR
              subst hR
              clear lf
              go_wp2_with (first
                | (refine at_op0 (.load 28 (.tmp 4)) ?_ rfl rfl; refine wpList_load_row rfl 28 (.tmp 4) rfl (w.heap.size + 1) rfl 28 _ (0, 0) _ j1h.out Try.underlying28 rfl (by rw [HD.out]; exact H8.out) ?_)
                | (refine at_opG (.load 28 (.tmp 4)) (some (6, false)) ?_ rfl rfl; refine wpList_load_rowG rfl 28 (.tmp 4) rfl (w.heap.size + 1) rfl 28 _ (0, 0) _ j1h.out Try.underlying28 rfl (by rw [HD.out]; exact H8.out) ?_)
                | (go_at_call 38; (first | (with_reducible refine (g1 _).mono ?_) | (with_reducible refine (g2 _).mono ?_)); rintro e w8 ⟨rfl, b8⟩; have j1h := Lib.hid ((b8.block _ (heap_lt j1h.out)).trans j1h.out); have bb := below_trans bb b8; clear b8)
                | (go_at_call 39; (with_reducible refine (b1 _).mono ?_); rintro e w8 ⟨rfl, b8⟩; have j1h := Lib.hid ((b8.block _ (heap_lt j1h.out)).trans j1h.out); have bb := below_trans bb b8; clear b8)
                | (go_at_call 21; (first | (with_reducible refine (hip _ _ (by omega)).mono ?_) | (with_reducible refine (him _ _ (by omega)).mono ?_)); rintro e w9 ⟨rfl, rfl⟩))
              all_goals first
                | (exfalso; omega)
                | (go_ret2; exact ⟨rfl, bb⟩)
            · obtain ⟨hR, rfl⟩ := lf.2 hov
              have HR := Lib.hid hR
              clear lf hR
              go_wp2_with (first
                | (refine at_op0 (.load 28 (.tmp 4)) ?_ rfl rfl; refine wpList_load_row rfl 28 (.tmp 4) rfl (w.heap.size + 1) rfl 28 _ (0, 0) _ j1h.out Try.underlying28 rfl (by rw [HD.out]; exact H8.out) ?_)
                | (refine at_opG (.load 28 (.tmp 4)) (some (6, false)) ?_ rfl rfl; refine wpList_load_rowG rfl 28 (.tmp 4) rfl (w.heap.size + 1) rfl 28 _ (0, 0) _ j1h.out Try.underlying28 rfl (by rw [HD.out]; exact H8.out) ?_)
                | (go_at_call 38; (first | (with_reducible refine (g1 _).mono ?_) | (with_reducible refine (g2 _).mono ?_)); rintro e w8 ⟨rfl, b8⟩; have j1h := Lib.hid ((b8.block _ (heap_lt j1h.out)).trans j1h.out); have bb := below_trans bb b8; clear b8)
                | (go_at_call 39; (with_reducible refine (b1 _).mono ?_); rintro e w8 ⟨rfl, b8⟩; have j1h := Lib.hid ((b8.block _ (heap_lt j1h.out)).trans j1h.out); have bb := below_trans bb b8; clear b8)
                | (go_at_call 21; (first | (with_reducible refine (hip _ _ (by omega)).mono ?_) | (with_reducible refine (him _ _ (by omega)).mono ?_)); rintro e w9 ⟨rfl, rfl⟩))
              all_goals first
                | (exfalso; omega)
                | (go_ret2; refine ⟨congrArg (fun r => Ending.returned (.tuple #[.float .f64 r, .bool false])) ?_, bb⟩; rw [HR.out, Hrg.out]; exact (pack_false sN m mi Hmi.out Hm0.out.2 Hm0.out.1 (by omega)).trans (by simp))
          · rcases hmod2 with rfl | rfl
            · cases bl
              · skip
                have lf := HrgN.out (by rw [Hrg.out]; simp)
                clear HrgN HrgU HrgV
                by_cases hov : 2046 < sN + 1
                · obtain ⟨hR, rfl⟩ := lf.1 hov
                  simp at hR
                  subst hR
                  clear lf
                  go_wp2_with (first
                | (refine at_op0 (.load 28 (.tmp 4)) ?_ rfl rfl; refine wpList_load_row rfl 28 (.tmp 4) rfl (w.heap.size + 1) rfl 28 _ (0, 0) _ j1h.out Try.underlying28 rfl (by rw [HD.out]; exact H8.out) ?_)
                | (refine at_opG (.load 28 (.tmp 4)) (some (6, false)) ?_ rfl rfl; refine wpList_load_rowG rfl 28 (.tmp 4) rfl (w.heap.size + 1) rfl 28 _ (0, 0) _ j1h.out Try.underlying28 rfl (by rw [HD.out]; exact H8.out) ?_)
                | (go_at_call 38; (first | (with_reducible refine (g1 _).mono ?_) | (with_reducible refine (g2 _).mono ?_)); rintro e w8 ⟨rfl, b8⟩; have j1h := Lib.hid ((b8.block _ (heap_lt j1h.out)).trans j1h.out); have bb := below_trans bb b8; clear b8)
                | (go_at_call 39; (with_reducible refine (b1 _).mono ?_); rintro e w8 ⟨rfl, b8⟩; have j1h := Lib.hid ((b8.block _ (heap_lt j1h.out)).trans j1h.out); have bb := below_trans bb b8; clear b8)
                | (go_at_call 21; (first | (with_reducible refine (hip _ _ (by omega)).mono ?_) | (with_reducible refine (him _ _ (by omega)).mono ?_)); rintro e w9 ⟨rfl, rfl⟩))
                  all_goals first
                    | (exfalso; omega)
                    | (go_ret2; exact ⟨rfl, bb⟩)
                · obtain ⟨hR, rfl⟩ := lf.2 hov
                  have HR := Lib.hid hR
                  clear lf hR
                  go_wp2_with (first
                | (refine at_op0 (.load 28 (.tmp 4)) ?_ rfl rfl; refine wpList_load_row rfl 28 (.tmp 4) rfl (w.heap.size + 1) rfl 28 _ (0, 0) _ j1h.out Try.underlying28 rfl (by rw [HD.out]; exact H8.out) ?_)
                | (refine at_opG (.load 28 (.tmp 4)) (some (6, false)) ?_ rfl rfl; refine wpList_load_rowG rfl 28 (.tmp 4) rfl (w.heap.size + 1) rfl 28 _ (0, 0) _ j1h.out Try.underlying28 rfl (by rw [HD.out]; exact H8.out) ?_)
                | (go_at_call 38; (first | (with_reducible refine (g1 _).mono ?_) | (with_reducible refine (g2 _).mono ?_)); rintro e w8 ⟨rfl, b8⟩; have j1h := Lib.hid ((b8.block _ (heap_lt j1h.out)).trans j1h.out); have bb := below_trans bb b8; clear b8)
                | (go_at_call 39; (with_reducible refine (b1 _).mono ?_); rintro e w8 ⟨rfl, b8⟩; have j1h := Lib.hid ((b8.block _ (heap_lt j1h.out)).trans j1h.out); have bb := below_trans bb b8; clear b8)
                | (go_at_call 21; (first | (with_reducible refine (hip _ _ (by omega)).mono ?_) | (with_reducible refine (him _ _ (by omega)).mono ?_)); rintro e w9 ⟨rfl, rfl⟩))
                  all_goals first
                    | (exfalso; omega)
                    | (go_ret2; refine ⟨congrArg (fun r => Ending.returned (.tuple #[.float .f64 r, .bool false])) ?_, bb⟩; rw [HR.out, Hrg.out]; exact (pack_false sN m mi Hmi.out Hm0.out.2 Hm0.out.1 (by omega)).trans (by simp))
              · skip
                have hsum := Hrg.out
                simp at hsum
                have Hsum := Lib.hid hsum
                clear hsum
                go_wp2_with (first
                | (refine at_op0 (.load 28 (.tmp 4)) ?_ rfl rfl; refine wpList_load_row rfl 28 (.tmp 4) rfl (w.heap.size + 1) rfl 28 _ (0, 0) _ j1h.out Try.underlying28 rfl (by rw [HD.out]; exact H8.out) ?_)
                | (refine at_opG (.load 28 (.tmp 4)) (some (6, false)) ?_ rfl rfl; refine wpList_load_rowG rfl 28 (.tmp 4) rfl (w.heap.size + 1) rfl 28 _ (0, 0) _ j1h.out Try.underlying28 rfl (by rw [HD.out]; exact H8.out) ?_)
                | (go_at_call 38; (first | (with_reducible refine (g1 _).mono ?_) | (with_reducible refine (g2 _).mono ?_)); rintro e w8 ⟨rfl, b8⟩; have j1h := Lib.hid ((b8.block _ (heap_lt j1h.out)).trans j1h.out); have bb := below_trans bb b8; clear b8)
                | (go_at_call 39; (with_reducible refine (b1 _).mono ?_); rintro e w8 ⟨rfl, b8⟩; have j1h := Lib.hid ((b8.block _ (heap_lt j1h.out)).trans j1h.out); have bb := below_trans bb b8; clear b8)
                | (go_at_call 21; (first | (with_reducible refine (hip _ _ (by omega)).mono ?_) | (with_reducible refine (him _ _ (by omega)).mono ?_)); rintro e w9 ⟨rfl, rfl⟩))
                all_goals first
                  | (exfalso; omega)
                  | (have hq : mi + 1 = 9007199254740992 := by simpa using ‹(mi + 1 == 9007199254740992) = true›
                     have hm1 : m + 1 = 9007199254740992 := by have := Hmi.out; omega
                     have lf := HrgV.out Hsum.out hm1
                     first
                       | (obtain ⟨hR, rfl⟩ := lf.1 (by omega); simp at hR; subst hR; go_ret2; exact ⟨rfl, bb⟩)
                       | (obtain ⟨hR, rfl⟩ := lf.2 (by omega); go_ret2; refine ⟨congrArg (fun r => Ending.returned (.tuple #[.float .f64 r, .bool false])) ?_, bb⟩; rw [hR, Hsum.out]; exact (packW_false sN m mi hq hm1 (by omega)).trans (by simp)))
                  | (have hq : mi + 1 ≠ 9007199254740992 := by simpa using ‹(mi + 1 == 9007199254740992) = false›
                     have hm1 : m + 1 ≠ 9007199254740992 := by have := Hmi.out; omega
                     have lf := HrgU.out Hsum.out hm1
                     have hm2 := Hm0.out
                     have hm3 := Hmi.out
                     first
                       | (obtain ⟨hR, rfl⟩ := lf.1 (by omega); simp at hR; subst hR; go_ret2; exact ⟨rfl, bb⟩)
                       | (obtain ⟨hR, rfl⟩ := lf.2 (by omega); go_ret2; refine ⟨congrArg (fun r => Ending.returned (.tuple #[.float .f64 r, .bool false])) ?_, bb⟩; rw [hR, Hsum.out]; exact (pack_false sN (m + 1) (mi + 1) (by omega) (by omega) (by omega) (by omega)).trans (by simp)))
            · skip
              have hsum := Hrg.out
              simp at hsum
              have Hsum := Lib.hid hsum
              clear hsum
              go_wp2_with (first
                | (refine at_op0 (.load 28 (.tmp 4)) ?_ rfl rfl; refine wpList_load_row rfl 28 (.tmp 4) rfl (w.heap.size + 1) rfl 28 _ (0, 0) _ j1h.out Try.underlying28 rfl (by rw [HD.out]; exact H8.out) ?_)
                | (refine at_opG (.load 28 (.tmp 4)) (some (6, false)) ?_ rfl rfl; refine wpList_load_rowG rfl 28 (.tmp 4) rfl (w.heap.size + 1) rfl 28 _ (0, 0) _ j1h.out Try.underlying28 rfl (by rw [HD.out]; exact H8.out) ?_)
                | (go_at_call 38; (first | (with_reducible refine (g1 _).mono ?_) | (with_reducible refine (g2 _).mono ?_)); rintro e w8 ⟨rfl, b8⟩; have j1h := Lib.hid ((b8.block _ (heap_lt j1h.out)).trans j1h.out); have bb := below_trans bb b8; clear b8)
                | (go_at_call 39; (with_reducible refine (b1 _).mono ?_); rintro e w8 ⟨rfl, b8⟩; have j1h := Lib.hid ((b8.block _ (heap_lt j1h.out)).trans j1h.out); have bb := below_trans bb b8; clear b8)
                | (go_at_call 21; (first | (with_reducible refine (hip _ _ (by omega)).mono ?_) | (with_reducible refine (him _ _ (by omega)).mono ?_)); rintro e w9 ⟨rfl, rfl⟩))
              all_goals first
                | (exfalso; omega)
                | (have hq : mi + 1 = 9007199254740992 := by simpa using ‹(mi + 1 == 9007199254740992) = true›
                   have hm1 : m + 1 = 9007199254740992 := by have := Hmi.out; omega
                   have lf := HrgV.out Hsum.out hm1
                   first
                     | (obtain ⟨hR, rfl⟩ := lf.1 (by omega); simp at hR; subst hR; go_ret2; exact ⟨rfl, bb⟩)
                     | (obtain ⟨hR, rfl⟩ := lf.2 (by omega); go_ret2; refine ⟨congrArg (fun r => Ending.returned (.tuple #[.float .f64 r, .bool false])) ?_, bb⟩; rw [hR, Hsum.out]; exact (packW_false sN m mi hq hm1 (by omega)).trans (by simp)))
                | (have hq : mi + 1 ≠ 9007199254740992 := by simpa using ‹(mi + 1 == 9007199254740992) = false›
                   have hm1 : m + 1 ≠ 9007199254740992 := by have := Hmi.out; omega
                   have lf := HrgU.out Hsum.out hm1
                   have hm2 := Hm0.out
                   have hm3 := Hmi.out
                   first
                     | (obtain ⟨hR, rfl⟩ := lf.1 (by omega); simp at hR; subst hR; go_ret2; exact ⟨rfl, bb⟩)
                     | (obtain ⟨hR, rfl⟩ := lf.2 (by omega); go_ret2; refine ⟨congrArg (fun r => Ending.returned (.tuple #[.float .f64 r, .bool false])) ?_, bb⟩; rw [hR, Hsum.out]; exact (pack_false sN (m + 1) (mi + 1) (by omega) (by omega) (by omega) (by omega)).trans (by simp)))
end Go.Proofs.Ytejkilgpcbdepaa
