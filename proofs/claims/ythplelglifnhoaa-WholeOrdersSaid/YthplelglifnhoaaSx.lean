import Derived.Test.YthplelglifnhoaaSw
/-! Two sorted ranges merged in place. -/
namespace Go.Proofs.Ythplelglifnhoaa
open Go.Shelf Go.RowKit Go.Lib Go.Sort
set_option linter.unusedVariables false
set_option linter.unusedSimpArgs false
attribute [-simp] Try.isAgg36 Try.sizeOf36 Try.typeInfo36 Try.type36
section
variable {α : Type} [Inhabited α]
set_option maxHeartbeats 8000000 in
set_option maxRecDepth 1000000 in
theorem symMerge_first (k : Nat) (aE : ∀ w, (isAgg 36).run Try.prog w = .ok true w) (zE : ∀ w, (Go.sizeOf 36).run Try.prog w = .ok k w) (enc : α → List Value) (cf : α → α → Int) (hO : SWO (ltOf cf)) (g : Nat) (cb : Array Value) (blk off cap : Nat) (d0 : Array α) (w0 : World)
    (eg : ∀ args w, (callFunc g args).run Try.prog w = .ok (.enter g args) w) (hcmp : CmpLays Try.prog g cb enc k cf blk off d0.size w0) (R : RowK enc k w0 blk off d0)
    (a m b : Nat) (d : Array α) (w : World) (hs : d0.size = d.size) (S : SWK enc k w0 blk off d w) (ham : m = a + 1) (hmb : m < b) (hb : b ≤ d.size) (hsz : d.size < 4611686018427387904) (h1 : SortedIn (ltOf cf) a m d) (h2 : SortedIn (ltOf cf) m b d) :
    Calls Try.prog 85 #[.slice (some ⟨blk, off, none⟩) d.size cap, .int .i64 a, .int .i64 m, .int .i64 b, .func (.func g) #[] cb] w fun e w' => e = .returned (.tuple #[]) ∧ ∃ d', PermIn a b d d' ∧ SortedIn (ltOf cf) a b d' ∧ SWK enc k w0 blk off d' w' := by
  have mixed : Try.prog.follows .mixedOrders = true := by kernel_rfl
  have HC : Aside _ := hcmp
  have S0 : Aside (SWK enc k w0 blk off d w) := S
  have Q1 : Aside (SortedIn (ltOf cf) a m d) := h1
  have Q2 : Aside (SortedIn (ltOf cf) m b d) := h2
  clear S hcmp h1 h2
  have ham1 : a < m := by omega
  have ham2 : m ≤ a + 1 := by omega
  clear ham
  have wma : IntKind.i64.wrap ((m : Int) - (a : Int)) = 1 := by rw [IntKind.wrap_i64]; omega
  go_enter Try.func85, Try.ntmps85
  go_wp2
  go_loopg [10, 11] (b - m) (fun kx s10 s11 wr => ∃ (i j : Nat), s10 = .int .i64 i ∧ s11 = .int .i64 j ∧ m ≤ i ∧ i ≤ j ∧ j ≤ b ∧ j - i ≤ kx ∧ Aside (SWK enc k w0 blk off d wr) ∧ Aside ((i = m ∨ ltOf cf d[i - 1]! d[a]! = true) ∧ (j = b ∨ ltOf cf d[j]! d[a]! = false)))
  case atStart => exact ⟨m, b, rfl, rfl, Nat.le_refl _, by omega, Nat.le_refl _, Nat.le_refl _, S0, .inl rfl, .inl rfl⟩
  case round =>
    clear S0
    obtain ⟨i, j, rfl, rfl, hmi, hij, hjb, hkx, S1, B1⟩ := hrel
    by_cases hlt : i < j
    · have hltz : (i : Int) < (j : Int) := by omega
      obtain ⟨h, hh⟩ : ∃ h : Nat, h = (i + j) / 2 := ⟨_, rfl⟩
      have wij : IntKind.i64.wrap ((i : Int) + (j : Int)) = (i : Int) + (j : Int) := by rw [IntKind.wrap_i64]; omega
      have wuj : IntKind.u64.wrap ((i : Int) + (j : Int)) = (i : Int) + (j : Int) := by rw [IntKind.wrap_u64]; omega
      have wsh : ((i : Int) + (j : Int)).fdiv (2 ^ min (Int.toNat 1) IntKind.u64.bits) = (h : Int) := by show ((i : Int) + (j : Int)).fdiv 2 = _; rw [Int.fdiv_eq_ediv_of_nonneg _ (by omega)]; omega
      have wsh2 : ((i : Int) + (j : Int)) / 2 = (h : Int) := by omega
      have hh1 : 2 * h ≤ i + j := by omega
      have hh2 : i + j ≤ 2 * h + 1 := by omega
      clear hh
      have wuh : IntKind.u64.wrap (h : Int) = (h : Int) := by rw [IntKind.wrap_u64]; omega
      have wih : IntKind.i64.wrap (h : Int) = (h : Int) := by rw [IntKind.wrap_i64]; omega
      have wih1 : IntKind.i64.wrap ((h : Int) + 1) = (h : Int) + 1 := by rw [IntKind.wrap_i64]; omega
      cases hlv : ltOf cf d[h]! d[a]! with
      | true =>
        have ea12 : ((h : Int)).toNat = h := by omega
        have pa12 : (0 : Int) ≤ (h : Int) := by omega
        have ba12 : (h : Int) < (d.size : Int) := by omega
        have ra12 : IntKind.i64.wrap ((h : Int)) = (h : Int) := by rw [IntKind.wrap_i64]; omega
        have ec12 : ((a : Int)).toNat = a := by omega
        have pc12 : (0 : Int) ≤ (a : Int) := by omega
        have bc12 : (a : Int) < (d.size : Int) := by omega
        have rc12 : IntKind.i64.wrap ((a : Int)) = (a : Int) := by rw [IntKind.wrap_i64]; omega
        obtain ⟨x12, hx12⟩ : ∃ x, x = d[h]! := ⟨_, rfl⟩
        obtain ⟨y12, hy12⟩ : ∃ x, x = d[a]! := ⟨_, rfl⟩
        have l12a := S1.out.ld R (by omega) Try.prog (h) (by omega)
        have l12b := S1.out.ld R (by omega) Try.prog (a) (by omega)
        rw [← hx12] at l12a
        rw [← hy12] at l12b
        have hc12 := S1.out.cmp HC.out (by omega) x12 y12
        have hv12 : cf x12 y12 < 0 := by rw [hx12, hy12]; exact of_decide_eq_true hlv
        have hd12 : decide (cf x12 y12 < 0) = true := decide_eq_true hv12
        clear hx12 hy12
        go_wp2_with fail
        go_quiet_grown (first | (go_at_fn g; refine Calls.grown_of (hc12 _ _)))
        have S2 : Aside (SWK enc k w0 blk off d (grow (wr.drewN nq) osq)) := S1.out.grown nq osq
        clear l12a l12b hc12 S1
        generalize grow (wr.drewN nq) osq = wu2 at S2 ⊢
        clear nq osq
        go_wp2
        go_roundg (j - (h + 1))
        case measure => omega
        case rel => exact ⟨h + 1, j, by go_num, rfl, by omega, by omega, hjb, Nat.le_refl _, S2, .inr (by rw [Nat.add_sub_cancel]; exact hlv), B1.out.2⟩
      | false =>
        have ea13 : ((h : Int)).toNat = h := by omega
        have pa13 : (0 : Int) ≤ (h : Int) := by omega
        have ba13 : (h : Int) < (d.size : Int) := by omega
        have ra13 : IntKind.i64.wrap ((h : Int)) = (h : Int) := by rw [IntKind.wrap_i64]; omega
        have ec13 : ((a : Int)).toNat = a := by omega
        have pc13 : (0 : Int) ≤ (a : Int) := by omega
        have bc13 : (a : Int) < (d.size : Int) := by omega
        have rc13 : IntKind.i64.wrap ((a : Int)) = (a : Int) := by rw [IntKind.wrap_i64]; omega
        obtain ⟨x13, hx13⟩ : ∃ x, x = d[h]! := ⟨_, rfl⟩
        obtain ⟨y13, hy13⟩ : ∃ x, x = d[a]! := ⟨_, rfl⟩
        have l13a := S1.out.ld R (by omega) Try.prog (h) (by omega)
        have l13b := S1.out.ld R (by omega) Try.prog (a) (by omega)
        rw [← hx13] at l13a
        rw [← hy13] at l13b
        have hc13 := S1.out.cmp HC.out (by omega) x13 y13
        have hv13 : ¬ cf x13 y13 < 0 := by rw [hx13, hy13]; exact of_decide_eq_false hlv
        have hd13 : decide (cf x13 y13 < 0) = false := decide_eq_false hv13
        clear hx13 hy13
        go_wp2_with fail
        go_quiet_grown (first | (go_at_fn g; refine Calls.grown_of (hc13 _ _)))
        have S2 : Aside (SWK enc k w0 blk off d (grow (wr.drewN nq) osq)) := S1.out.grown nq osq
        clear l13a l13b hc13 S1
        generalize grow (wr.drewN nq) osq = wu2 at S2 ⊢
        clear nq osq
        go_wp2
        go_roundg (h - i)
        case measure => omega
        case rel => exact ⟨i, h, rfl, rfl, hmi, by omega, by omega, Nat.le_refl _, S2, B1.out.1, .inr hlv⟩
    · have hnlt : ¬ (i : Int) < (j : Int) := by omega
      obtain rfl : i = j := by omega
      have wi1 : IntKind.i64.wrap ((i : Int) - 1) = ((i - 1 : Nat) : Int) := by rw [IntKind.wrap_i64]; omega
      go_wp2
      generalize hwr : wr = wo at *
      clear hwr
      go_loopg [13] (i - a) (fun ky s13 wr => ∃ (q : Nat) (dk : Array α), s13 = .int .i64 q ∧ a ≤ q ∧ q ≤ i - 1 ∧ i - 1 - q ≤ ky ∧ dk.size = d.size ∧ Aside (SWK enc k w0 blk off dk wr) ∧ Aside (Moved (rotF a (a + 1) (q + 1)) d dk))
      case atStart => exact ⟨a, d, rfl, Nat.le_refl _, by omega, by omega, rfl, S1, Moved.id d fun x => rotF_none a (a + 1) (a + 1) x (.inr rfl) (by omega) (Nat.le_refl _)⟩
      case round =>
        clear S1
        obtain ⟨q, dk, rfl, haq, hqi, hky, hds, S1, M1⟩ := hrel
        by_cases hlt2 : q < i - 1
        · have hltz2 : (q : Int) < ((i - 1 : Nat) : Int) := by omega
          have M2 : Aside (Moved (rotF a (a + 1) (q + 2)) d (swp dk q (q + 1))) := Moved.comp M1.out (moved_swp dk q (q + 1) (by omega) (by omega)) (fun x => rotF_up a q x haq)
          have ea14 : ((q : Int)).toNat = q := by omega
          have pa14 : (0 : Int) ≤ (q : Int) := by omega
          have ba14 : (q : Int) < (d.size : Int) := by omega
          have ra14 : IntKind.i64.wrap ((q : Int)) = (q : Int) := by rw [IntKind.wrap_i64]; omega
          have ec14 : ((q : Int) + 1).toNat = q + 1 := by omega
          have pc14 : (0 : Int) ≤ (q : Int) + 1 := by omega
          have bc14 : (q : Int) + 1 < (d.size : Int) := by omega
          have rc14 : IntKind.i64.wrap ((q : Int) + 1) = (q : Int) + 1 := by rw [IntKind.wrap_i64]; omega
          have S2 : Aside (SWK enc k w0 blk off (swp dk (q) (q + 1)) ((wr.drew.setCells blk (off + (q) * k) (enc dk[q + 1]!)).setCells blk (off + (q + 1) * k) (enc dk[q]!))) := S1.out.swapped R (q) (q + 1) (by omega) (by omega)
          have l14a := S1.out.ld1 R (by omega) Try.prog (q) (by omega)
          have l14b := S1.out.ld1 R (by omega) Try.prog (q + 1) (by omega)
          have s14a := S1.out.st1 R (by omega) Try.prog (q) (by omega) dk[q + 1]!
          have s14b := S1.out.st2 R (by omega) Try.prog (q) (q + 1) (by omega) (by omega) dk[q + 1]! dk[q]!
          have n14a : (enc dk[q]!).length = k := R.hk _
          have n14b : (enc dk[q + 1]!).length = k := R.hk _
          generalize enc dk[q]! = cI14 at S2 l14a s14b n14a
          generalize enc dk[q + 1]! = cJ14 at S2 l14b s14a s14b n14b
          clear S1
          go_wp2_with fail
          go_big_region_o
          clear l14a l14b s14a s14b
          generalize (wr.drew.setCells blk (off + (q) * k) cJ14).setCells blk (off + (q + 1) * k) cI14 = w2 at S2 ⊢
          go_wp2
          go_roundg (i - 1 - (q + 1))
          case measure => omega
          case rel => exact ⟨q + 1, swp dk q (q + 1), by simp, by omega, by omega, Nat.le_refl _, by rw [size_swp]; exact hds, S2, M2⟩
        · have hnlt2 : ¬ (q : Int) < ((i - 1 : Nat) : Int) := by omega
          obtain rfl : q = i - 1 := by omega
          go_wp2
          (try simp only [Exit.inBlock, Exit.then]); refine bodyPost_ret (results_none rfl _ _ _) rfl ?_
          have M3 : Moved (rotF a (a + 1) i) d dk := by have := M1.out; rwa [show i - 1 + 1 = i by omega] at this
          obtain rfl : m = a + 1 := by omega
          obtain ⟨r1, r2⟩ := merge_first hO (i := i) Q2.out hb hmi hjb (fun x x1 x2 => by
            rcases B1.out.1 with c | c
            · omega
            · have := sortedIn_le hO Q2.out (i := x) (j := i - 1) x1 (by omega) (by omega)
              cases hx : ltOf cf d[x]! d[a]! with
              | true => rfl
              | false => exact absurd (hO.ntrans _ _ _ this hx) (by rw [c]; simp)) (fun x x1 x2 => by
            rcases B1.out.2 with c | c
            · omega
            · exact hO.ntrans _ _ _ (sortedIn_le hO Q2.out (i := i) (j := x) hmi x1 x2) c) M3
          exact ⟨rfl, dk, r1, r2, S1.out⟩

set_option maxHeartbeats 8000000 in
set_option maxRecDepth 1000000 in
theorem symMerge_last (k : Nat) (aE : ∀ w, (isAgg 36).run Try.prog w = .ok true w) (zE : ∀ w, (Go.sizeOf 36).run Try.prog w = .ok k w) (enc : α → List Value) (cf : α → α → Int) (hO : SWO (ltOf cf)) (g : Nat) (cb : Array Value) (blk off cap : Nat) (d0 : Array α) (w0 : World)
    (eg : ∀ args w, (callFunc g args).run Try.prog w = .ok (.enter g args) w) (hcmp : CmpLays Try.prog g cb enc k cf blk off d0.size w0) (R : RowK enc k w0 blk off d0)
    (a m b : Nat) (d : Array α) (w : World) (hs : d0.size = d.size) (S : SWK enc k w0 blk off d w) (ham : a + 1 < m) (hmb : b = m + 1) (hb : b ≤ d.size) (hsz : d.size < 4611686018427387904) (h1 : SortedIn (ltOf cf) a m d) (h2 : SortedIn (ltOf cf) m b d) :
    Calls Try.prog 85 #[.slice (some ⟨blk, off, none⟩) d.size cap, .int .i64 a, .int .i64 m, .int .i64 b, .func (.func g) #[] cb] w fun e w' => e = .returned (.tuple #[]) ∧ ∃ d', PermIn a b d d' ∧ SortedIn (ltOf cf) a b d' ∧ SWK enc k w0 blk off d' w' := by
  have mixed : Try.prog.follows .mixedOrders = true := by kernel_rfl
  have HC : Aside _ := hcmp
  have S0 : Aside (SWK enc k w0 blk off d w) := S
  have Q1 : Aside (SortedIn (ltOf cf) a m d) := h1
  have Q2 : Aside (SortedIn (ltOf cf) m b d) := h2
  clear S hcmp h1 h2
  have hmb1 : m < b := by omega
  have hmb2 : b ≤ m + 1 := by omega
  clear hmb
  have wma : IntKind.i64.wrap ((m : Int) - (a : Int)) = (m : Int) - (a : Int) := by rw [IntKind.wrap_i64]; omega
  have wma1 : ((m : Int) - (a : Int) == 1) = false := by simp; omega
  have wbm : IntKind.i64.wrap ((b : Int) - (m : Int)) = 1 := by rw [IntKind.wrap_i64]; omega
  go_enter Try.func85, Try.ntmps85
  go_wp2
  clear wma wma1 wbm
  go_loopg [14, 15] (m - a) (fun kx s10 s11 wr => ∃ (i j : Nat), s10 = .int .i64 i ∧ s11 = .int .i64 j ∧ a ≤ i ∧ i ≤ j ∧ j ≤ m ∧ j - i ≤ kx ∧ Aside (SWK enc k w0 blk off d wr) ∧ Aside ((i = a ∨ ltOf cf d[m]! d[i - 1]! = false) ∧ (j = m ∨ ltOf cf d[m]! d[j]! = true)))
  case atStart => exact ⟨a, m, rfl, rfl, Nat.le_refl _, by omega, Nat.le_refl _, Nat.le_refl _, S0, .inl rfl, .inl rfl⟩
  case round =>
    clear S0
    obtain ⟨i, j, rfl, rfl, hmi, hij, hjb, hkx, S1, B1⟩ := hrel
    by_cases hlt : i < j
    · have hltz : (i : Int) < (j : Int) := by omega
      obtain ⟨h, hh⟩ : ∃ h : Nat, h = (i + j) / 2 := ⟨_, rfl⟩
      have wij : IntKind.i64.wrap ((i : Int) + (j : Int)) = (i : Int) + (j : Int) := by rw [IntKind.wrap_i64]; omega
      have wuj : IntKind.u64.wrap ((i : Int) + (j : Int)) = (i : Int) + (j : Int) := by rw [IntKind.wrap_u64]; omega
      have wsh : ((i : Int) + (j : Int)).fdiv (2 ^ min (Int.toNat 1) IntKind.u64.bits) = (h : Int) := by show ((i : Int) + (j : Int)).fdiv 2 = _; rw [Int.fdiv_eq_ediv_of_nonneg _ (by omega)]; omega
      have wsh2 : ((i : Int) + (j : Int)) / 2 = (h : Int) := by omega
      have hh1 : 2 * h ≤ i + j := by omega
      have hh2 : i + j ≤ 2 * h + 1 := by omega
      clear hh
      have wuh : IntKind.u64.wrap (h : Int) = (h : Int) := by rw [IntKind.wrap_u64]; omega
      have wih : IntKind.i64.wrap (h : Int) = (h : Int) := by rw [IntKind.wrap_i64]; omega
      have wih1 : IntKind.i64.wrap ((h : Int) + 1) = (h : Int) + 1 := by rw [IntKind.wrap_i64]; omega
      cases hlv : ltOf cf d[m]! d[h]! with
      | true =>
        have ea12 : ((m : Int)).toNat = m := by omega
        have pa12 : (0 : Int) ≤ (m : Int) := by omega
        have ba12 : (m : Int) < (d.size : Int) := by omega
        have ra12 : IntKind.i64.wrap ((m : Int)) = (m : Int) := by rw [IntKind.wrap_i64]; omega
        have ec12 : ((h : Int)).toNat = h := by omega
        have pc12 : (0 : Int) ≤ (h : Int) := by omega
        have bc12 : (h : Int) < (d.size : Int) := by omega
        have rc12 : IntKind.i64.wrap ((h : Int)) = (h : Int) := by rw [IntKind.wrap_i64]; omega
        obtain ⟨x12, hx12⟩ : ∃ x, x = d[m]! := ⟨_, rfl⟩
        obtain ⟨y12, hy12⟩ : ∃ x, x = d[h]! := ⟨_, rfl⟩
        have l12a := S1.out.ld R (by omega) Try.prog (m) (by omega)
        have l12b := S1.out.ld R (by omega) Try.prog (h) (by omega)
        rw [← hx12] at l12a
        rw [← hy12] at l12b
        have hc12 := S1.out.cmp HC.out (by omega) x12 y12
        have hv12 : cf x12 y12 < 0 := by rw [hx12, hy12]; exact of_decide_eq_true hlv
        have hd12 : decide (cf x12 y12 < 0) = true := decide_eq_true hv12
        clear hx12 hy12
        go_wp2_with fail
        go_quiet_grown (first | (go_at_fn g; refine Calls.grown_of (hc12 _ _)))
        have S2 : Aside (SWK enc k w0 blk off d (grow (wr.drewN nq) osq)) := S1.out.grown nq osq
        clear l12a l12b hc12 S1
        generalize grow (wr.drewN nq) osq = wu2 at S2 ⊢
        clear nq osq
        go_wp2
        go_roundg (h - i)
        case measure => omega
        case rel => exact ⟨i, h, rfl, rfl, hmi, by omega, by omega, Nat.le_refl _, S2, B1.out.1, .inr hlv⟩
      | false =>
        have ea13 : ((m : Int)).toNat = m := by omega
        have pa13 : (0 : Int) ≤ (m : Int) := by omega
        have ba13 : (m : Int) < (d.size : Int) := by omega
        have ra13 : IntKind.i64.wrap ((m : Int)) = (m : Int) := by rw [IntKind.wrap_i64]; omega
        have ec13 : ((h : Int)).toNat = h := by omega
        have pc13 : (0 : Int) ≤ (h : Int) := by omega
        have bc13 : (h : Int) < (d.size : Int) := by omega
        have rc13 : IntKind.i64.wrap ((h : Int)) = (h : Int) := by rw [IntKind.wrap_i64]; omega
        obtain ⟨x13, hx13⟩ : ∃ x, x = d[m]! := ⟨_, rfl⟩
        obtain ⟨y13, hy13⟩ : ∃ x, x = d[h]! := ⟨_, rfl⟩
        have l13a := S1.out.ld R (by omega) Try.prog (m) (by omega)
        have l13b := S1.out.ld R (by omega) Try.prog (h) (by omega)
        rw [← hx13] at l13a
        rw [← hy13] at l13b
        have hc13 := S1.out.cmp HC.out (by omega) x13 y13
        have hv13 : ¬ cf x13 y13 < 0 := by rw [hx13, hy13]; exact of_decide_eq_false hlv
        have hd13 : decide (cf x13 y13 < 0) = false := decide_eq_false hv13
        clear hx13 hy13
        go_wp2_with fail
        go_quiet_grown (first | (go_at_fn g; refine Calls.grown_of (hc13 _ _)))
        have S2 : Aside (SWK enc k w0 blk off d (grow (wr.drewN nq) osq)) := S1.out.grown nq osq
        clear l13a l13b hc13 S1
        generalize grow (wr.drewN nq) osq = wu2 at S2 ⊢
        clear nq osq
        go_wp2
        go_roundg (j - (h + 1))
        case measure => omega
        case rel => exact ⟨h + 1, j, by go_num, rfl, by omega, by omega, hjb, Nat.le_refl _, S2, .inr (by rw [Nat.add_sub_cancel]; exact hlv), B1.out.2⟩
    · have hnlt : ¬ (i : Int) < (j : Int) := by omega
      obtain rfl : i = j := by omega
      go_wp2
      generalize hwr : wr = wo at *
      clear hwr
      go_loopg [17] (m - i) (fun ky s13 wr => ∃ (q : Nat) (dk : Array α), s13 = .int .i64 q ∧ i ≤ q ∧ q ≤ m ∧ q - i ≤ ky ∧ dk.size = d.size ∧ Aside (SWK enc k w0 blk off dk wr) ∧ Aside (Moved (rotF q m (m + 1)) d dk))
      case atStart => exact ⟨m, d, rfl, hjb, Nat.le_refl _, Nat.le_refl _, rfl, S1, Moved.id d fun x => rotF_none m m (m + 1) x (.inl rfl) (by omega) (by omega)⟩
      case round =>
        clear S1
        obtain ⟨q1, dk, rfl, haq, hqi, hky, hds, S1, M1⟩ := hrel
        by_cases hlt2 : i < q1
        · have hltz2 : (i : Int) < (q1 : Int) := by omega
          obtain ⟨q, rfl⟩ : ∃ q, q1 = q + 1 := ⟨q1 - 1, by omega⟩
          have hltz3 : (i : Int) < (q : Int) + 1 := by omega
          have hnp : (i : Int) ≤ (q : Int) := by omega
          have M2 : Aside (Moved (rotF q m (m + 1)) d (swp dk (q + 1) q)) := Moved.comp M1.out (moved_swp dk (q + 1) q (by omega) (by omega)) (fun x => rotF_down q m x (by omega))
          have ea14 : ((q : Int) + 1).toNat = q + 1 := by omega
          have pa14 : (0 : Int) ≤ (q : Int) + 1 := by omega
          have ba14 : (q : Int) + 1 < (d.size : Int) := by omega
          have ra14 : IntKind.i64.wrap ((q : Int) + 1) = (q : Int) + 1 := by rw [IntKind.wrap_i64]; omega
          have ec14 : ((q : Int)).toNat = q := by omega
          have pc14 : (0 : Int) ≤ (q : Int) := by omega
          have bc14 : (q : Int) < (d.size : Int) := by omega
          have rc14 : IntKind.i64.wrap ((q : Int)) = (q : Int) := by rw [IntKind.wrap_i64]; omega
          have S2 : Aside (SWK enc k w0 blk off (swp dk (q + 1) (q)) ((wr.drew.setCells blk (off + (q + 1) * k) (enc dk[q]!)).setCells blk (off + (q) * k) (enc dk[q + 1]!))) := S1.out.swapped R (q + 1) (q) (by omega) (by omega)
          have l14a := S1.out.ld1 R (by omega) Try.prog (q + 1) (by omega)
          have l14b := S1.out.ld1 R (by omega) Try.prog (q) (by omega)
          have s14a := S1.out.st1 R (by omega) Try.prog (q + 1) (by omega) dk[q]!
          have s14b := S1.out.st2 R (by omega) Try.prog (q + 1) (q) (by omega) (by omega) dk[q]! dk[q + 1]!
          have n14a : (enc dk[q + 1]!).length = k := R.hk _
          have n14b : (enc dk[q]!).length = k := R.hk _
          generalize enc dk[q + 1]! = cI14 at S2 l14a s14b n14a
          generalize enc dk[q]! = cJ14 at S2 l14b s14a s14b n14b
          clear S1
          go_wp2_with fail
          go_big_region_o
          clear l14a l14b s14a s14b
          generalize (wr.drew.setCells blk (off + (q + 1) * k) cJ14).setCells blk (off + (q) * k) cI14 = w2 at S2 ⊢
          go_wp2
          go_roundg (q - i)
          case measure => omega
          case rel => exact ⟨q, swp dk (q + 1) q, by simp, by omega, by omega, Nat.le_refl _, by rw [size_swp]; exact hds, S2, M2⟩
        · have hnlt2 : ¬ (i : Int) < (q1 : Int) := by omega
          obtain rfl : q1 = i := by omega
          go_wp2
          (try simp only [Exit.inBlock, Exit.then]); refine bodyPost_ret (results_none rfl _ _ _) rfl ?_
          obtain rfl : b = m + 1 := by omega
          obtain ⟨r1, r2⟩ := merge_last hO (i := q1) Q1.out (by omega) hmi hqi (fun x x1 x2 => by
            rcases B1.out.1 with c | c
            · omega
            · exact hO.ntrans _ _ _ c (sortedIn_le hO Q1.out (i := x) (j := q1 - 1) x1 (by omega) (by omega))) (fun x x1 x2 => by
            rcases B1.out.2 with c | c
            · omega
            · have := sortedIn_le hO Q1.out (i := q1) (j := x) hmi x1 x2
              cases hx : ltOf cf d[m]! d[x]! with
              | true => rfl
              | false => exact absurd (hO.ntrans _ _ _ hx this) (by rw [c]; simp)) M1.out
          exact ⟨rfl, dk, r1, r2, S1.out⟩
end
end Go.Proofs.Ythplelglifnhoaa
