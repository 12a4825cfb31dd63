import Derived.Test.YtgpfoamhcoipgaaDoorCo
import Derived.Recover
import Derived.Defers
import Derived.Deep.DeepCutAuto
import Derived.Deep.CutBlock
/-! Readers: what is read next, or a panic of their own. -/
namespace Go.Proofs.YtgpfoamhcoipgaaDoor
open Go.RowKit
set_option linter.unusedVariables false

/-- What a reader gives up by. -/
abbrev badP : Ending := .panicked [{ v := .iface 76 (.agg #[]), recovered := false }]
/-- A reader that has bytes left. -/
structure RdSt (w : World) (g B : Nat) (xs : List Int) : Prop where
  cell : ∃ A cap, w.cell? ⟨g, 0, none⟩ = some (.slice A xs.length cap) ∧ xs.length ≤ cap ∧ Reads w .u8 A xs ∧ (xs ≠ [] → ∀ a, A = some a → a.block ≠ g ∧ a.block < B)
  frozen : w.frozen? ⟨g, 0, none⟩ = false
set_option maxRecDepth 100000 in
theorem check_ok (v : Value) (w : World) : Calls Tryd.prog 15 #[v, .bool true] w fun e w' => e = .returned (.tuple #[]) ∧ w = w' := by
  go_enter Tryd.func15, Tryd.ntmps15
  go_wp2
  go_end0
  exact ⟨rfl, rfl⟩
set_option maxRecDepth 100000 in
theorem check_bad (v : Value) (w : World) : Calls Tryd.prog 15 #[v, .bool false] w fun e w' => e = badP ∧ w = w' := by
  go_enter Tryd.func15, Tryd.ntmps15
  go_wp2
  exact ⟨rfl, rfl, rfl⟩
theorem Reads.setCell {w : World} {k : IntKind} {A : Option Addr} {xs : List Int} (h : Reads w k A xs) {g j : Nat} (hne : ∀ a, A = some a → a.block ≠ g) (v : Value) : Reads (w.setCell ⟨g, j, none⟩ v) k A xs := fun i hi => by
  obtain ⟨a, rfl, hc⟩ := h i hi
  refine ⟨a, rfl, ?_⟩
  rw [World.cell?_setCell_other (h := fun e => hne a rfl (by
    have : (a.add i).block = a.block := by unfold Addr.add; split <;> rfl
    rw [← this, ← congrArg Addr.block e]))]
  exact hc
theorem cutAt_block {A : Option Addr} {cap j g B : Nat} (h : ∀ a, A = some a → a.block ≠ g ∧ a.block < B) : ∀ a, cutAt A cap j = some a → a.block ≠ g ∧ a.block < B := fun a e => by
  unfold cutAt at e
  split at e
  · exact h a e
  · cases A with
    | none => cases e
    | some b =>
      injection e with e
      subst e
      have : (b.add j).block = b.block := by unfold Addr.add; split <;> rfl
      rw [this]; exact h b rfl
/-- A reader goes on behind some bytes. -/
theorem RdSt.cut {w : World} {g B : Nat} {xs : List Int} {A : Option Addr} {cap : Nat} (hc : w.cell? ⟨g, 0, none⟩ = some (.slice A xs.length cap)) (hl : xs.length ≤ cap) (hr : Reads w .u8 A xs) (hn : xs ≠ [] → ∀ a, A = some a → a.block ≠ g ∧ a.block < B) (hf : w.frozen? ⟨g, 0, none⟩ = false) (j : Nat) (hj : j ≤ xs.length) :
    RdSt (w.setCell ⟨g, 0, none⟩ (.slice (cutAt A cap j) (xs.length - j) (cap - j))) g B (xs.drop j) := by
  have hx : xs.drop j ≠ [] → xs ≠ [] := fun h e => h (by rw [e]; simp)
  have hk : xs.drop j ≠ [] → ∀ a, cutAt A cap j = some a → a.block ≠ g ∧ a.block < B := fun h a e => cutAt_block (hn (hx h)) a e
  refine ⟨⟨cutAt A cap j, cap - j, ?_, by rw [List.length_drop]; omega, ?_, hk⟩, ?_⟩
  · rw [List.length_drop]
    exact World.cell?_setCell_same' _ _ _ (by rw [hc]; rfl)
  · by_cases h : xs.drop j = []
    · rw [h]; exact Reads.nil _ _ _
    · exact (hr.cut cap j hl).setCell (fun a e => (hk h a e).1) _
  · rw [← hf]; simp
theorem grown_setCell (w : World) (g j : Nat) (v : Value) : w.grownBy (w.setCell ⟨g, j, none⟩ v) (some g) := ⟨rfl, rfl, rfl, by simp, fun k hk hne => Below.heap_setCell w ⟨g, j, none⟩ v k (fun e => hne (by rw [e]))⟩
set_option maxRecDepth 100000 in
set_option maxHeartbeats 4000000 in
theorem byte_none (g B : Nat) (w : World) (h : RdSt w g B []) : Calls Tryd.prog 14 #[.pointer (some ⟨g, 0, none⟩)] w fun e w' => e = badP ∧ w = w' := by
  obtain ⟨⟨A, cap, hc, _, _, _⟩, _⟩ := h
  have hk := fun v w => check_bad v w
  have hc : w.cell? ⟨g, 0, none⟩ = some (.slice A 0 cap) := hc
  go_enter Tryd.func14, Tryd.ntmps14
  go_wp2_with (go_at_call 15; (with_reducible refine (hk _ _).mono ?_); rintro e w1 ⟨rfl, rfl⟩)
  exact ⟨rfl, rfl, rfl⟩
set_option maxRecDepth 100000 in
set_option maxHeartbeats 4000000 in
theorem byte_some (g B : Nat) (b : Int) (xs : List Int) (w : World) (h : RdSt w g B (b :: xs)) : Calls Tryd.prog 14 #[.pointer (some ⟨g, 0, none⟩)] w fun e w' => e = .returned (.int .u8 b) ∧ RdSt w' g B xs ∧ w.grownBy w' (some g) := by
  obtain ⟨⟨A, cap, hc, hl, hr, hn⟩, hf⟩ := h
  have hk := fun v w => check_ok v w
  obtain ⟨a, rfl⟩ : ∃ a, A = some a := by obtain ⟨a, h, _⟩ := hr 0 (by simp); exact ⟨a, h⟩
  have h0 := hr.lit 0 (by simp)
  have h0 : w.cell? (a.add 0) = some (.int .u8 b) := h0
  have ha0 : a.add 0 = a := by unfold Addr.add; simp
  rw [ha0] at h0
  have hfin := RdSt.cut hc hl hr hn hf 1 (by simp)
  have hg := grown_setCell w g 0 (.slice (cutAt (some a) cap 1) ((b :: xs).length - 1) (cap - 1))
  have hlen : (b :: xs).length = xs.length + 1 := rfl
  rw [hlen] at hc hl
  have Hfin := Lib.hid hfin
  have Hg := Lib.hid hg
  clear hfin hg hr hn
  go_enter Tryd.func14, Tryd.ntmps14
  go_wp2_with (go_at_call 15; (with_reducible refine (hk _ _).mono ?_); rintro e w1 ⟨rfl, rfl⟩)
  all_goals
    go_ret
    have hf2 := Hfin.out
    have hg2 := Hg.out
    rw [hlen, Nat.add_sub_cancel] at hf2 hg2
    simp only [cutAt] at hf2 hg2
    first | rw [if_pos (by assumption)] at hf2 hg2 | rw [if_neg (by assumption)] at hf2 hg2
    refine ⟨rfl, ?_, ?_⟩
    · first | exact hf2 | (have e : cap - 1 = 0 := by omega
                           rw [e] at hf2
                           exact hf2) | simpa [Addr.add] using hf2
    · first | exact hg2 | (have e : cap - 1 = 0 := by omega
                           rw [e] at hg2
                           exact hg2) | simpa [Addr.add] using hg2
/-- The next number's bytes: the place, what was read, the bytes: the number, and what is left; or none. -/
def rdU (most : Nat) : Nat → Nat → Nat → List Int → Option (Nat × List Int)
  | 0, _, _, _ => none
  | _ + 1, _, _, [] => none
  | f + 1, i, n, b :: xs =>
    if i < 9 ∨ (i = 9 ∧ b < 2) then
      if b < 128 then
        if n + (b.toNat % 128) * 2 ^ (7 * i) ≤ most ∧ (i = 0 ∨ 0 < b) then some (n + (b.toNat % 128) * 2 ^ (7 * i), xs) else none
      else rdU most f (i + 1) (n + (b.toNat % 128) * 2 ^ (7 * i)) xs
    else none
theorem and_low (b : Int) (h : 0 ≤ b ∧ b ≤ 255) : bits .and .u8 b 127 = ((b.toNat % 128 : Nat) : Int) := by
  obtain ⟨r, rfl⟩ := Int.eq_ofNat_of_zero_le h.1
  have key : ∀ r : Nat, r < 256 → bits .and .u8 ((r : Nat) : Int) 127 = ((r % 128 : Nat) : Int) := by decide +kernel
  exact key r (by omega)
theorem pow7_le (k : Nat) (hk : k ≤ 9) : 2 ^ (7 * k) ≤ 9223372036854775808 := Nat.le_trans (Nat.pow_le_pow_right (by decide) (show 7 * k ≤ 63 by omega)) (by decide)
theorem or_place (m k : Nat) (b : Int) (hb : 0 ≤ b ∧ b ≤ 255) (hm : m < 2 ^ (7 * k)) (hc : k < 9 ∨ (k = 9 ∧ b < 2)) (hk : k ≤ 9) :
    bits .or .u64 (m : Int) (IntKind.u64.wrap (IntKind.u64.wrap (bits .and .u8 b 127) * 2 ^ (7 * k))) = ((m + b.toNat % 128 * 2 ^ (7 * k) : Nat) : Int) := by
  rw [and_low b hb]
  have hp := pow7_le k hk
  have ht : b.toNat % 128 * 2 ^ (7 * k) < 18446744073709551616 := by
    rcases hc with h | ⟨rfl, h⟩
    · have h1 : 2 ^ (7 * k) ≤ 72057594037927936 := Nat.le_trans (Nat.pow_le_pow_right (by decide) (show 7 * k ≤ 56 by omega)) (by decide)
      have h2 : b.toNat % 128 ≤ 127 := by omega
      exact Nat.lt_of_le_of_lt (Nat.mul_le_mul h2 h1) (by decide)
    · have h2 : b.toNat % 128 ≤ 1 := by omega
      exact Nat.lt_of_le_of_lt (Nat.mul_le_mul_right _ h2) (by decide)
  have e1 : IntKind.u64.wrap ((b.toNat % 128 : Nat) : Int) = ((b.toNat % 128 : Nat) : Int) := by rw [IntKind.wrap_u64]; omega
  have e2 : ((b.toNat % 128 : Nat) : Int) * 2 ^ (7 * k) = ((b.toNat % 128 * 2 ^ (7 * k) : Nat) : Int) := by rw [Int.natCast_mul, Int.natCast_pow]; rfl
  rw [e1, e2]
  have e3 : IntKind.u64.wrap ((b.toNat % 128 * 2 ^ (7 * k) : Nat) : Int) = ((b.toNat % 128 * 2 ^ (7 * k) : Nat) : Int) := by
    rw [IntKind.wrap_u64]
    generalize b.toNat % 128 * 2 ^ (7 * k) = y at *
    omega
  rw [e3, or64 m _ (by omega) ht, Nat.or_comm, Nat.mul_comm, ← Nat.two_pow_add_eq_or_of_lt hm, Nat.add_comm]
theorem place_lt (m k : Nat) (b : Int) (hm : m < 2 ^ (7 * k)) : m + b.toNat % 128 * 2 ^ (7 * k) < 2 ^ (7 * (k + 1)) := by
  have h2 : b.toNat % 128 ≤ 127 := by omega
  have h3 := Nat.mul_le_mul_right (2 ^ (7 * k)) h2
  rw [show 7 * (k + 1) = 7 + 7 * k by omega, Nat.pow_add]
  show _ < 128 * 2 ^ (7 * k)
  omega
theorem rdU_nil (most f i n : Nat) : rdU most f i n [] = none := by cases f <;> rfl
theorem RdSt.grown_trans {w w1 w2 : World} {g : Nat} (h : w.grownBy w1 (some g)) (k : w1.grownBy w2 (some g)) : w.grownBy w2 (some g) := Go.Proofs.YtgpfoamhcoipgaaDoor.grown_trans h k fun k e => .inl e
/-- What a reader's number comes to. -/
def UintPost (g B : Nat) (w : World) (r : Option (Nat × List Int)) (e : Ending) (w' : World) : Prop :=
  w.grownBy w' (some g) ∧ ((r = none ∧ e = badP) ∨ ∃ n rest, r = some (n, rest) ∧ e = .returned (.int .u64 (n : Nat)) ∧ RdSt w' g B rest)
set_option maxRecDepth 100000 in
set_option maxHeartbeats 8000000 in
theorem uint_read (g B most : Nat) (xs : List Int) (w : World) (h : RdSt w g B xs) (h8 : Bytes8 xs) (hm : most < 18446744073709551616) :
    Calls Tryd.prog 13 #[.pointer (some ⟨g, 0, none⟩), .int .u64 (most : Nat)] w (UintPost g B w (rdU most 10 0 0 xs)) := by
  have hk1 := fun v w => check_ok v w
  have hk0 := fun v w => check_bad v w
  obtain ⟨R, hR⟩ : ∃ R, R = rdU most 10 0 0 xs := ⟨_, rfl⟩
  rw [← hR]
  have HR := Lib.hid hR
  clear hR
  go_enter Tryd.func13, Tryd.ntmps13
  go_wp2_with fail
  go_loopw [5, 6, 7] (fun n i _ wr => ∃ (k m : Nat) (ys : List Int), i = .int .i64 (k : Nat) ∧ n = .int .u64 (m : Nat) ∧ k ≤ 9 ∧ m < 2 ^ (7 * k) ∧ RdSt wr g B ys ∧ Bytes8 ys ∧ w.grownBy wr (some g) ∧ R = rdU most (10 - k) k m ys) (fun _ i _ _ => 10 - (intOf i).toNat)
  case atStart => exact ⟨0, 0, xs, rfl, rfl, by omega, by decide, h, h8, grown_refl _ _, HR.out⟩
  case round =>
    clear h h8 HR
    obtain ⟨k, m, ys, rfl, rfl, hk, hm2, hs, h8, hg, hR⟩ := hrel
    have HR := Lib.hid hR
    have Hg := Lib.hid hg
    clear hR hg
    cases ys with
    | nil =>
      have hb := byte_none g B wr hs
      go_wp2_with (go_at_call 14; (with_reducible refine hb.mono ?_); rintro e w1 ⟨rfl, rfl⟩)
      exact ⟨rfl, Hg.out, .inl ⟨by rw [HR.out, rdU_nil], rfl⟩⟩
    | cons b ys =>
      have hb := byte_some g B b ys wr hs
      have hbr := h8 0 (by simp)
      have hbr : 0 ≤ b ∧ b ≤ 255 := hbr
      have h8' : Bytes8 ys := fun i hi => h8 (i + 1) (by simpa using hi)
      have hf : 10 - k = (9 - k) + 1 := by omega
      rw [hf] at HR
      by_cases hc : k < 9 ∨ (k = 9 ∧ b < 2)
      · have hki : ((k : Int) < 9) ∨ ((k : Int) = 9 ∧ b < 2) := by omega
        have hd1 : (decide ((k : Int) < 9) || (((k : Int) == 9) && decide (b < 2))) = true := by
          rcases hki with h | ⟨h1, h2⟩
          · rw [decide_eq_true h]; rfl
          · rw [h1, decide_eq_true h2]; rfl
        obtain ⟨z, hz⟩ : ∃ z : Nat, z = m + (b.toNat % 128) * 2 ^ (7 * k) := ⟨_, rfl⟩
        rw [rdU, if_pos hc, ← hz] at HR
        have hz2 : bits .or .u64 (m : Int) (IntKind.u64.wrap (IntKind.u64.wrap (bits .and .u8 b 127) * 2 ^ (7 * k))) = (z : Int) := by
          rw [hz]
          exact or_place m k b hbr hm2 hc hk
        have hzl : z < 2 ^ (7 * (k + 1)) := by rw [hz]; exact place_lt m k b hm2
        have Hzl := Lib.hid hzl
        clear hz hzl
        rcases hki with hki | ⟨hki, hb2⟩
        · have hdk : decide ((k : Int) < 9) = true := decide_eq_true hki
          by_cases h128 : b < 128
          · have hd8 : decide (b < 128) = true := decide_eq_true h128
            clear hc hd1 hm2
            by_cases hle : z ≤ most
            · by_cases hk0' : k = 0
              · have hRs : R = some (z, ys) := by rw [HR.out, if_pos h128, if_pos ⟨hle, .inl hk0'⟩]
                have HRs := Lib.hid hRs
                have hle' : (z : Int) ≤ (most : Int) := by omega
                have hki0 : ((k : Int) == 0) = true := by rw [beq_iff_eq]; omega
                clear hRs HR hk0'
                go_wp2_with (first
                  | (go_at_call 14; (with_reducible refine hb.mono ?_); rintro e w1 ⟨rfl, hs1, hg1⟩)
                  | (go_at_call 15; first | ((with_reducible refine (hk1 _ _).mono ?_); rintro e w2 ⟨rfl, rfl⟩) | ((with_reducible refine (hk0 _ _).mono ?_); rintro e w2 ⟨rfl, rfl⟩)))
                go_ret
                exact ⟨RdSt.grown_trans Hg.out hg1, .inr ⟨z, ys, HRs.out, rfl, hs1⟩⟩
              · have hki0 : ((k : Int) == 0) = false := by rw [beq_eq_false_iff_ne]; omega
                by_cases hbp : 0 < b
                · have hRs : R = some (z, ys) := by rw [HR.out, if_pos h128, if_pos ⟨hle, .inr hbp⟩]
                  have HRs := Lib.hid hRs
                  have hle' : (z : Int) ≤ (most : Int) := by omega
                  clear hRs HR
                  go_wp2_with (first
                    | (go_at_call 14; (with_reducible refine hb.mono ?_); rintro e w1 ⟨rfl, hs1, hg1⟩)
                    | (go_at_call 15; first | ((with_reducible refine (hk1 _ _).mono ?_); rintro e w2 ⟨rfl, rfl⟩) | ((with_reducible refine (hk0 _ _).mono ?_); rintro e w2 ⟨rfl, rfl⟩)))
                  go_ret
                  exact ⟨RdSt.grown_trans Hg.out hg1, .inr ⟨z, ys, HRs.out, rfl, hs1⟩⟩
                · have hRs : R = none := by rw [HR.out, if_pos h128, if_neg (fun h => h.2.elim hk0' hbp)]
                  have HRs := Lib.hid hRs
                  have hle' : (z : Int) ≤ (most : Int) := by omega
                  have hb0 : decide (0 < b) = false := decide_eq_false hbp
                  clear hRs HR
                  go_wp2_with (first
                    | (go_at_call 14; (with_reducible refine hb.mono ?_); rintro e w1 ⟨rfl, hs1, hg1⟩)
                    | (go_at_call 15; first | ((with_reducible refine (hk1 _ _).mono ?_); rintro e w2 ⟨rfl, rfl⟩) | ((with_reducible refine (hk0 _ _).mono ?_); rintro e w2 ⟨rfl, rfl⟩)))
                  exact ⟨rfl, RdSt.grown_trans Hg.out hg1, .inl ⟨HRs.out, rfl⟩⟩
            · have hRs : R = none := by rw [HR.out, if_pos h128, if_neg (fun h => hle h.1)]
              have HRs := Lib.hid hRs
              have hle' : decide ((z : Int) ≤ (most : Int)) = false := decide_eq_false (by omega)
              clear hRs HR
              go_wp2_with (first
                | (go_at_call 14; (with_reducible refine hb.mono ?_); rintro e w1 ⟨rfl, hs1, hg1⟩)
                | (go_at_call 15; first | ((with_reducible refine (hk1 _ _).mono ?_); rintro e w2 ⟨rfl, rfl⟩) | ((with_reducible refine (hk0 _ _).mono ?_); rintro e w2 ⟨rfl, rfl⟩)))
              exact ⟨rfl, RdSt.grown_trans Hg.out hg1, .inl ⟨HRs.out, rfl⟩⟩
          · have hd8 : decide (b < 128) = false := decide_eq_false h128
            rw [if_neg h128] at HR
            have hk9 : k < 9 := by omega
            clear hc hd1 hm2
            go_wp2_with (first
              | (go_at_call 14; (with_reducible refine hb.mono ?_); rintro e w1 ⟨rfl, hs1, hg1⟩)
              | (go_at_call 15; first | ((with_reducible refine (hk1 _ _).mono ?_); rintro e w2 ⟨rfl, rfl⟩) | ((with_reducible refine (hk0 _ _).mono ?_); rintro e w2 ⟨rfl, rfl⟩)))
            exact ⟨⟨k + 1, z, ys, by go_num, rfl, by omega, Hzl.out, hs1, h8', RdSt.grown_trans Hg.out hg1, by rw [HR.out]; congr 1; omega⟩, by simp [intOf]; omega⟩
        · have h128 : b < 128 := by omega
          have hdk : decide ((k : Int) < 9) = false := decide_eq_false (by omega)
          have hk9e : ((k : Int) == 9) = true := by rw [beq_iff_eq]; exact hki
          have hd2 : decide (b < 2) = true := decide_eq_true hb2
          have hd8 : decide (b < 128) = true := decide_eq_true h128
          clear hc hd1 hm2 hki
          by_cases hle : z ≤ most
          · by_cases hk0' : k = 0
            · have hRs : R = some (z, ys) := by rw [HR.out, if_pos h128, if_pos ⟨hle, .inl hk0'⟩]
              have HRs := Lib.hid hRs
              have hle' : (z : Int) ≤ (most : Int) := by omega
              have hki0 : ((k : Int) == 0) = true := by rw [beq_iff_eq]; omega
              clear hRs HR hk0'
              go_wp2_with (first
                | (go_at_call 14; (with_reducible refine hb.mono ?_); rintro e w1 ⟨rfl, hs1, hg1⟩)
                | (go_at_call 15; first | ((with_reducible refine (hk1 _ _).mono ?_); rintro e w2 ⟨rfl, rfl⟩) | ((with_reducible refine (hk0 _ _).mono ?_); rintro e w2 ⟨rfl, rfl⟩)))
              go_ret
              exact ⟨RdSt.grown_trans Hg.out hg1, .inr ⟨z, ys, HRs.out, rfl, hs1⟩⟩
            · have hki0 : ((k : Int) == 0) = false := by rw [beq_eq_false_iff_ne]; omega
              by_cases hbp : 0 < b
              · have hRs : R = some (z, ys) := by rw [HR.out, if_pos h128, if_pos ⟨hle, .inr hbp⟩]
                have HRs := Lib.hid hRs
                have hle' : (z : Int) ≤ (most : Int) := by omega
                clear hRs HR
                go_wp2_with (first
                  | (go_at_call 14; (with_reducible refine hb.mono ?_); rintro e w1 ⟨rfl, hs1, hg1⟩)
                  | (go_at_call 15; first | ((with_reducible refine (hk1 _ _).mono ?_); rintro e w2 ⟨rfl, rfl⟩) | ((with_reducible refine (hk0 _ _).mono ?_); rintro e w2 ⟨rfl, rfl⟩)))
                go_ret
                exact ⟨RdSt.grown_trans Hg.out hg1, .inr ⟨z, ys, HRs.out, rfl, hs1⟩⟩
              · have hRs : R = none := by rw [HR.out, if_pos h128, if_neg (fun h => h.2.elim hk0' hbp)]
                have HRs := Lib.hid hRs
                have hle' : (z : Int) ≤ (most : Int) := by omega
                have hb0 : decide (0 < b) = false := decide_eq_false hbp
                clear hRs HR
                go_wp2_with (first
                  | (go_at_call 14; (with_reducible refine hb.mono ?_); rintro e w1 ⟨rfl, hs1, hg1⟩)
                  | (go_at_call 15; first | ((with_reducible refine (hk1 _ _).mono ?_); rintro e w2 ⟨rfl, rfl⟩) | ((with_reducible refine (hk0 _ _).mono ?_); rintro e w2 ⟨rfl, rfl⟩)))
                exact ⟨rfl, RdSt.grown_trans Hg.out hg1, .inl ⟨HRs.out, rfl⟩⟩
          · have hRs : R = none := by rw [HR.out, if_pos h128, if_neg (fun h => hle h.1)]
            have HRs := Lib.hid hRs
            have hle' : decide ((z : Int) ≤ (most : Int)) = false := decide_eq_false (by omega)
            clear hRs HR
            go_wp2_with (first
              | (go_at_call 14; (with_reducible refine hb.mono ?_); rintro e w1 ⟨rfl, hs1, hg1⟩)
              | (go_at_call 15; first | ((with_reducible refine (hk1 _ _).mono ?_); rintro e w2 ⟨rfl, rfl⟩) | ((with_reducible refine (hk0 _ _).mono ?_); rintro e w2 ⟨rfl, rfl⟩)))
            exact ⟨rfl, RdSt.grown_trans Hg.out hg1, .inl ⟨HRs.out, rfl⟩⟩
      · have hRn : R = none := by rw [HR.out, rdU, if_neg hc]
        have hki : ((k : Int) < 9) = False := by simp; omega
        have hb2 : ¬ b < 2 := fun e => hc (.inr ⟨by omega, e⟩)
        obtain rfl : k = 9 := by omega
        have HRn := Lib.hid hRn
        have hd : decide (b < 2) = false := decide_eq_false hb2
        clear hRn HR hs h8 hm2
        go_wp2_with (first
          | (go_at_call 14; (with_reducible refine hb.mono ?_); rintro e w1 ⟨rfl, hs1, hg1⟩)
          | (go_at_call 15; (with_reducible refine (hk0 _ _).mono ?_); rintro e w2 ⟨rfl, rfl⟩))
        exact ⟨rfl, RdSt.grown_trans Hg.out hg1, .inl ⟨HRn.out, rfl⟩⟩
end Go.Proofs.YtgpfoamhcoipgaaDoor
