import Derived.Test.YtjlhllhimoalmaaMarkF
/-! Marks: the reference's answer. -/
namespace Go.Proofs.Ytjlhllhimoalmaa
open Go.RowKit
set_option linter.unusedVariables false

/-- What the first k have shown. -/
def seenF (n : Int) (U0 U1 : Nat → Int) : Nat → Nat → Option Int
  | 0 => f0
  | k + 1 => seeF n (seenF n U0 U1 k) (U0 k) (U1 k)
theorem ofF_see (n : Int) (F : Nat → Option Int) (q x p : Int) : ofF n (seeF n F q x) p = if q = p ∧ 0 ≤ p ∧ p < n ∧ (ofF n F p = none ∨ (ofF n F p).getD 0 < x) then some x else ofF n F p := by
  by_cases hp : 0 ≤ p ∧ p < n
  · unfold ofF
    rw [if_pos hp, if_pos hp]
    unfold seeF
    by_cases hq : q = p
    · subst hq
      rw [if_pos hp]
      cases hf : F q.toNat with
      | none => simp [upd, hp]
      | some t =>
        by_cases ht : t < x
        · simp [upd, hp, ht]
        · simp [ht, hf]
    · have hR : ∀ u v : Option Int, (if q = p ∧ 0 ≤ p ∧ p < n ∧ (F p.toNat = none ∨ (F p.toNat).getD 0 < x) then u else v) = v := fun u v => if_neg (fun h => hq h.1)
      rw [hR]
      split
      · rename_i h1
        have hne : p.toNat ≠ q.toNat := by omega
        cases hf : F q.toNat with
        | none => simp [upd, hne]
        | some t =>
          by_cases ht : t < x
          · simp [upd, hne, ht]
          · simp [ht]
      · rfl
  · unfold ofF
    rw [if_neg hp, if_neg hp, if_neg (fun h => hp ⟨h.2.1, h.2.2.1⟩)]

set_option maxHeartbeats 2000000 in
theorem refOf_any (A : Option Addr) (len cap : Nat) (U0 U1 : Nat → Int) (w : World) (hr : Pairs w A len U0 U1) (h60 : len ≤ 60) (n p : Int) :
    Calls Try.prog 12 #[.slice A len cap, .int .i64 n, .int .i64 p] w fun e w' => e = .returned (.tuple #[.int .i64 ((ofF n (seenF n U0 U1 len) p).getD 0), .bool (ofF n (seenF n U0 U1 len) p).isSome]) ∧ w = w' := by
  have z0 : ofF n (seenF n U0 U1 0) p = none := by unfold ofF seenF f0; split <;> rfl
  go_enter Try.func12, Try.ntmps12
  go_wp2
  go_loop [8, 9, 10] (fun t b i => ∃ k : Nat, k ≤ len ∧ i = .int .i64 k ∧ t = .int .i64 ((ofF n (seenF n U0 U1 k) p).getD 0) ∧ b = .bool (ofF n (seenF n U0 U1 k) p).isSome) (fun _ _ i => len - (intOf i).toNat)
  case atStart => exact ⟨0, Nat.zero_le _, rfl, by rw [z0]; rfl, by rw [z0]; rfl⟩
  case round =>
    obtain ⟨k, hk, rfl, rfl, rfl⟩ := hrel
    by_cases hlt : k < len
    · obtain ⟨a, rfl, c0, c1⟩ := hr k hlt
      have c2 : w.cell? ((a.add (k * 2)).add 1) = some (.int .i64 (U1 k)) := by rw [add_add]; exact c1
      have c3 : w.cell? ⟨(a.add (k * 2)).block, (a.add (k * 2)).off + 1, none⟩ = some (.int .i64 (U1 k)) := c2
      have c4 : w.cell? ⟨a.block, a.off + k * 2 + 1, none⟩ = some (.int .i64 (U1 k)) := by rw [← c1]; rfl
      have Hs := Lib.hid (ofF_see n (seenF n U0 U1 k) (U0 k) (U1 k) p)
      have Hn : seenF n U0 U1 (k + 1) = seeF n (seenF n U0 U1 k) (U0 k) (U1 k) := rfl
      clear hr
      rw [← Hn] at Hs
      clear Hn
      generalize ofF n (seenF n U0 U1 k) p = o at *
      cases o with
      | none =>
        go_wp2
        all_goals
          refine ⟨⟨k + 1, by omega, by go_num, ?_, ?_⟩, by simp [intOf]; omega⟩
          all_goals
            rw [Hs.out]
            split
            all_goals first
              | rfl
              | (exfalso; simp_all; done)
              | (exfalso; simp_all; omega)
      | some t =>
        go_wp2
        all_goals
          refine ⟨⟨k + 1, by omega, by go_num, ?_, ?_⟩, by simp [intOf]; omega⟩
          all_goals
            rw [Hs.out]
            split
            all_goals first
              | rfl
              | (exfalso; simp_all; done)
              | (exfalso; simp_all; omega)
    · obtain rfl : k = len := by omega
      go_wp2
      go_ret2
      exact ⟨rfl, rfl⟩

set_option maxHeartbeats 2000000 in
theorem refLow_any (A : Option Addr) (len cap : Nat) (U0 U1 : Nat → Int) (w : World) (hr : Pairs w A len U0 U1) (h60 : len ≤ 60) (n : Nat) (h8 : n ≤ 8) :
    Calls Try.prog 13 #[.slice A len cap, .int .i64 n] w fun e w' => e = .returned (.tuple #[.int .i64 ((lowF n (seenF n U0 U1 len)).getD 0), .bool (lowF n (seenF n U0 U1 len)).isSome]) ∧ w = w' := by
  have hof := refOf_any A len cap U0 U1 w hr h60 (n : Int)
  generalize seenF n U0 U1 len = f at *
  go_enter Try.func13, Try.ntmps13
  go_wp2
  go_loop [6, 7] (fun l i => ∃ k : Nat, k ≤ n ∧ i = .int .i64 k ∧ l = .int .i64 (lowV f k) ∧ (∀ j, j < k → (f j).isSome = true)) (fun _ i => n - (intOf i).toNat)
  case atStart => exact ⟨0, Nat.zero_le _, rfl, rfl, fun j hj => absurd hj (by omega)⟩
  case round =>
    obtain ⟨k, hk, rfl, rfl, hal⟩ := hrel
    have Hal := Lib.hid hal
    clear hal
    by_cases hlt : k < n
    · have hof1 := hof (k : Int)
      rw [ofF_in n f k hlt] at hof1
      have Hn := Lib.hid (lowF_none (f := f) hlt)
      have Hstep := Lib.hid (show lowV f (k + 1) = if k = 0 ∨ (f k).getD 0 < lowV f k then (f k).getD 0 else lowV f k from rfl)
      cases hfk : f k with
      | none =>
        rw [hfk] at hof1
        go_wp2_with (go_at_call 12; (with_reducible refine hof1.mono ?_); rintro e w1 ⟨rfl, rfl⟩)
        go_ret2
        exact ⟨by rw [Hn.out hfk]; rfl, rfl⟩
      | some t =>
        rw [hfk] at hof1
        go_wp2_with (go_at_call 12; (with_reducible refine hof1.mono ?_); rintro e w1 ⟨rfl, rfl⟩)
        all_goals
          have hk4 := Hal.out
          have hk5 := Hstep.out
          rw [hfk] at hk5
          simp only [Option.getD_some] at hk5
          refine ⟨⟨k + 1, by omega, (by first | go_num | (congr 1; omega)), ?_, ?_⟩, by simp [intOf]; omega⟩
          · rw [hk5]
            split <;> first | rfl | (exfalso; simp_all; done) | (exfalso; simp_all; omega)
          · intro j hj
            by_cases hjk : j = k
            · rw [hjk, hfk]; rfl
            · exact hk4 j (by omega)
    · obtain rfl : k = n := by omega
      go_wp2
      have hal := Hal.out
      clear hof
      by_cases h0 : 0 < k
      · go_ret2
        exact ⟨by rw [lowF_all hal h0]; simp [h0], rfl⟩
      · obtain rfl : k = 0 := by omega
        go_ret2
        exact ⟨by rw [lowF_zero f]; rfl, rfl⟩
end Go.Proofs.Ytjlhllhimoalmaa
