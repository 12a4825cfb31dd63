import Derived.Test.YtnpdamahennojaaDoorPgF
import Derived.Test.YtnpdamahennojaaDoorOwn2
import Derived.Deep.Matrix
namespace Go.Proofs.YtnpdamahennojaaDoor
open Go.RowKit
set_option linter.unusedVariables false

/-- Pages, one behind the other. -/
def cat (X : Nat → List Int) : Nat → List Int | 0 => [] | k + 1 => cat X k ++ pageOf k (X k)
theorem cat_length (X : Nat → List Int) (h : ∀ r, r < 12 → (X r).length ≤ 300) : ∀ k, k ≤ 12 → (cat X k).length ≤ 309 * k
  | 0, _ => by simp [cat]
  | k + 1, hk => by
    have h1 := cat_length X h k (by omega)
    have h2 := h k (by omega)
    simp only [cat, List.length_append, pageOf_length]
    omega
theorem cat_bytes (X : Nat → List Int) (n : Nat) (hn : n ≤ 12) (h : ∀ r, r < n → (X r).length ≤ 300) (h8 : ∀ r, r < n → Bytes8 (X r)) : ∀ k, k ≤ n → Bytes8 (cat X k)
  | 0, _ => Bytes8.nil
  | k + 1, hk => (cat_bytes X n hn h h8 k (by omega)).append (pageOf_bytes _ _ (by omega) (h8 k (by omega)) (by have := h k (by omega); omega))
theorem cat_split (X : Nat → List Int) (n : Nat) (hn : n ≤ 12) (h : ∀ r, r < n → (X r).length ≤ 300) (h8 : ∀ r, r < n → Bytes8 (X r)) (k : Nat) (hk : k < n) : ∀ m, k < m → m ≤ n → ∃ rest, cat X m = cat X k ++ (pageOf k (X k) ++ rest) ∧ Bytes8 rest
  | 0, h0, _ => absurd h0 (by omega)
  | m + 1, h0, hm => by
    by_cases e : k = m
    · subst e; exact ⟨[], by simp [cat], Bytes8.nil⟩
    · obtain ⟨rest, hr, hb⟩ := cat_split X n hn h h8 k hk m (by omega) (by omega)
      exact ⟨rest ++ pageOf m (X m), by simp [cat, hr], hb.append (pageOf_bytes _ _ (by omega) (h8 m (by omega)) (by have := h m (by omega); omega))⟩

/-- Rows of bytes that came in. -/
def RowsB (w : World) (M : Option Addr) (n : Nat) (X : Nat → List Int) (R : Nat → Option Addr) (C : Nat → Nat) : Prop :=
  ∀ r, r < n → (∃ a, M = some a ∧ w.cell? (a.add r) = some (.slice (R r) (X r).length (C r))) ∧ (X r).length ≤ C r ∧ Bytes8 (X r) ∧ Reads w .u8 (R r) (X r)
theorem RowsB.below {w w' : World} {M : Option Addr} {n : Nat} {X : Nat → List Int} {R : Nat → Option Addr} {C : Nat → Nat} (h : RowsB w M n X R C) (hb : Below w.heap.size w w') : RowsB w' M n X R C := fun r hr => by
  obtain ⟨⟨a, rfl, hc⟩, h1, h2, h3⟩ := h r hr
  exact ⟨⟨a, rfl, cell_below hb hc⟩, h1, h2, h3.below hb⟩

set_option maxRecDepth 100000 in
set_option maxHeartbeats 2000000 in
theorem pageSeveral_any (M : Option Addr) (n cap : Nat) (X : Nat → List Int) (R : Nat → Option Addr) (C : Nat → Nat) (w : World) (hx : RowsB w M n X R C) (ht : HasTab w) :
    Calls Tryd.prog 6 #[.slice M n cap] w fun e w' => e = .returned (.bool true) ∧ Below w.heap.size w w' := by
  have hpos := ht.pos
  have haw := fun w1 (b : Below w.heap.size w w1) => awake_any w1 (ht.below hpos b)
  have Haw := Lib.hid haw
  clear haw
  by_cases hl : 12 < n
  · clear hx
    go_enter Tryd.func6, Tryd.ntmps6
    go_wp2_with fail
    refine (Haw.out w (Below.refl _ _)).mono ?_
    rintro e w1 ⟨rfl, b1⟩
    go_wp2_with fail
    refine (Haw.out w1 b1).mono ?_
    rintro e w2 ⟨rfl, b2⟩
    go_wp2
    go_ret
    exact ⟨rfl, below_trans b1 b2⟩
  · have hxs := fun w1 (b : Below w.heap.size w w1) => hx.below b
    have Hxs := Lib.hid hxs
    clear hxs hx
    have Ht := Lib.hid (fun w1 (b : Below w.heap.size w w1) => ht.below hpos b)
    go_enter Tryd.func6, Tryd.ntmps6
    go_wp2_with fail
    refine (Haw.out w (Below.refl _ _)).mono ?_
    rintro e w1 ⟨rfl, b1⟩
    go_wp2
    go_loopw [3, 4] (fun p i wr => ∃ k : Nat, k ≤ n ∧ i = .int .i64 k ∧ Own wr w.heap.size 5 .u8 p (cat X k) ∧ (∀ r, r < k → (X r).length ≤ 300) ∧ Below w.heap.size w wr) (fun _ i _ => n - (intOf i).toNat)
    case atStart => exact ⟨0, by omega, rfl, Own.nil _ _ _ _, fun r hr => absurd hr (by omega), b1⟩
    case round =>
      obtain ⟨k, hk, rfl, ho, hsm, hbw⟩ := hrel
      by_cases hkn : k < n
      · obtain ⟨⟨a, rfl, hc⟩, hcc, h8, hr⟩ := Hxs.out wr hbw k hkn
        by_cases h300 : 300 < (X k).length
        · clear hsm hr h8
          go_wp2
          go_ret
          exact ⟨rfl, hbw⟩
        · have hlay := lay_any w.heap.size u3 (cat X k) k (R k) (C k) (X k) wr ho hr h8 (by omega) (by omega) (by
            have : ∀ j, j ≤ k → (cat X j).length ≤ 309 * j := fun j => by
              induction j with
              | zero => intro _; simp [cat]
              | succ j ih =>
                intro hj
                have h1 := ih (by omega)
                have h2 := hsm j (by omega)
                simp only [cat, List.length_append, pageOf_length]
                omega
            have := this k (Nat.le_refl _)
            omega) (Ht.out wr hbw) hbw.size hpos
          have Hlay := Lib.hid hlay
          have Hsm := Lib.hid hsm
          have hlt := ho.lt
          clear hlay hsm hr h8
          go_wp2_with (go_at_call 12; refine Hlay.out.mono ?_; rintro e w3 ⟨v3, rfl, ho3, hg3⟩)
          go_roundw
          case rel => exact ⟨k + 1, by omega, by go_num, ho3, fun r hr => by
                        by_cases e : r = k
                        · subst e; omega
                        · exact Hsm.out r (by omega), hbw.grown hg3 hbw.size (fun g hg => (hlt g hg).1)⟩
          case measure => simp [intOf]; omega
      · obtain rfl : n = k := by omega
        have q8 := cat_bytes X n (by omega) hsm (fun r hr => (Hxs.out wr hbw r hr).2.2.1) n (Nat.le_refl _)
        have hql : (cat X n).length ≤ 4000 := by
          have : ∀ j, j ≤ n → (cat X j).length ≤ 309 * j := fun j => by
            induction j with
            | zero => intro _; simp [cat]
            | succ j ih =>
              intro hj
              have h1 := ih (by omega)
              have h2 := hsm j (by omega)
              simp only [cat, List.length_append, pageOf_length]
              omega
          have := this n (Nat.le_refl _)
          omega
        obtain ⟨A3, c3, rfl, hc3, r3⟩ := ho.form
        have hrd : ∀ j, j < n → pgRead (cat X n) (cat X j).length = ((j : Int), X j, ((cat X (j + 1)).length : Int), 0) := fun j hj => by
          obtain ⟨rest, hr, hb⟩ := cat_split X n (by omega) hsm (fun r hr => (Hxs.out wr hbw r hr).2.2.1) j hj n hj (Nat.le_refl _)
          rw [hr, read_page _ _ _ _ (by omega) (Hxs.out wr hbw j hj).2.2.1 (by have := hsm j hj; omega) hb]
          simp only [cat, List.length_append, pageOf_length]
          simp only [Prod.mk.injEq, true_and, and_true]
          omega
        have hread := fun (w' : World) (h : Below w.heap.size w w') (hq : Reads w' .u8 A3 (cat X n)) (p : Int) => read_any A3 c3 (cat X n) p w' (by omega) hc3 q8 hq (Ht.out w' h)
        unfold ReadPost at hread
        have Hrd := Lib.hid hrd
        have Hread := Lib.hid hread
        have hmono : ∀ j, j ≤ n → (cat X j).length ≤ 4000 := fun j hj => by
          by_cases e : j = n
          · subst e; exact hql
          · obtain ⟨rest, hr, _⟩ := cat_split X n (by omega) hsm (fun r hr => (Hxs.out wr hbw r hr).2.2.1) j (by omega) n (by omega) (Nat.le_refl _)
            rw [hr, List.length_append] at hql; omega
        have Hmono := Lib.hid hmono
        have Hsm := Lib.hid hsm
        have hle : n ≤ 12 := by omega
        clear hrd hread ho hmono hsm
        have HQ : Hid (∃ Q, Q = cat X n) := Lib.hid ⟨_, rfl⟩
        go_wp2
        go_loopw [5, 6] (fun a i wq => ∃ j : Nat, j ≤ n ∧ i = .int .i64 j ∧ a = .int .i64 (cat X j).length ∧ Reads wq .u8 A3 (cat X n) ∧ Below w.heap.size w wq) (fun _ i _ => n - (intOf i).toNat)
        case atStart => exact ⟨0, by omega, rfl, rfl, r3, hbw⟩
        case round =>
          clear r3
          rename World => wq
          obtain ⟨j, hj, rfl, rfl, r4, hbq⟩ := hrel
          by_cases hjn : j < n
          · have hread := Hread.out _ hbq r4 (cat X j).length
            rw [Hrd.out j hjn] at hread
            simp only at hread
            have H1 := Lib.hid hread
            clear hread
            have m1 := Hmono.out (j + 1) (by omega)
            have m0 := Hmono.out j (by omega)
            go_wp2_with (go_at_call 13; refine H1.out.mono ?_; rintro e w5 ⟨A5, c5, rfl, hc5, r5, b5⟩)
            have b5' := below_trans hbq b5
            obtain ⟨⟨a, rfl, hc⟩, hcc, h8, hr⟩ := Hxs.out w5 b5' j hjn
            have k1 : ∀ m, (convert 22 9 (.slice A5 (X j).length c5)).run Tryd.prog (w5.drewN m) = .ok (.string (strOfNums (X j))) (w5.drewN m) := fun m => conv_of (w := w5.drewN m) r5
            have k2 : ∀ m, (convert 22 9 (.slice (R j) (X j).length (C j))).run Tryd.prog (w5.drewN m) = .ok (.string (strOfNums (X j))) (w5.drewN m) := fun m => conv_of (w := w5.drewN m) hr
            have s1 : IntKind.u8.wrap (j : Int) = (j : Int) := IntWalk.u8_in _ (by omega)
            have s2 : ((j : Int) != (j : Int)) = false := by simp
            have i1 : (0 : Int) ≤ (j : Int) := by omega
            have i2 : (j : Int) < (n : Int) := by omega
            have r6 := r4.below b5
            clear hr h8 r5 r4
            go_quiet (fail)
            clear k1 k2 s1 s2 i1 i2
            go_wp2
            go_roundw
            case rel => exact ⟨j + 1, by omega, by go_num, rfl, r6, below_drewN b5' _⟩
            case measure => simp [intOf]; omega
          · obtain rfl : n = j := by omega
            go_wp2
            go_ret
            exact ⟨rfl, hbq⟩
end Go.Proofs.YtnpdamahennojaaDoor
