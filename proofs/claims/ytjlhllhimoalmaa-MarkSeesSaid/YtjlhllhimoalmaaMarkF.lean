import Derived.Test.YtjlhllhimoalmaaMarkE
import Derived.Test.YtjlhllhimoalmaaOwn4
/-! Marks: partitions that are near. -/
namespace Go.Proofs.Ytjlhllhimoalmaa
open Go.RowKit
set_option linter.unusedVariables false

/-- Two rows' cells, one behind the other. -/
def pcells (V0 V1 : Nat → Int) : Nat → List Value
  | 0 => []
  | k + 1 => pcells V0 V1 k ++ [.int .i64 (V0 k), .int .i64 (V1 k)]
theorem pcells_len (V0 V1 : Nat → Int) (k : Nat) : (pcells V0 V1 k).length = k * 2 := by
  induction k with
  | zero => rfl
  | succ k ih => simp [pcells, ih]; omega
theorem pcells_at (V0 V1 : Nat → Int) (k i : Nat) (h : i < k) : (pcells V0 V1 k)[i * 2]? = some (.int .i64 (V0 i)) ∧ (pcells V0 V1 k)[i * 2 + 1]? = some (.int .i64 (V1 i)) := by
  induction k with
  | zero => omega
  | succ k ih =>
    unfold pcells
    by_cases hik : i < k
    · obtain ⟨h0, h1⟩ := ih hik
      rw [List.getElem?_append_left (by rw [pcells_len]; omega), List.getElem?_append_left (by rw [pcells_len]; omega)]
      exact ⟨h0, h1⟩
    · obtain rfl : i = k := by omega
      rw [List.getElem?_append_right (by rw [pcells_len]; omega), List.getElem?_append_right (by rw [pcells_len]; omega), pcells_len]
      rw [show i * 2 - i * 2 = 0 by omega, show i * 2 + 1 - i * 2 = 1 by omega]
      exact ⟨rfl, rfl⟩
theorem pairs_of_own {w : World} {base : Nat} {e : TypeId} {v : Value} {n : Nat} {V0 V1 : Nat → Int} (h : w.ownsRow base e 2 v n (pcells V0 V1 n)) : ∃ A cap, v = .slice A n cap ∧ Pairs w A n V0 V1 ∧ ∀ a, A = some a → base ≤ a.block := by
  have h' := h
  rcases h.2 with ⟨rfl, rfl⟩ | ⟨g, cap, cur, rfl, hb, hg, hn, hm, hs, ht⟩
  · exact ⟨none, 0, rfl, fun i hi => absurd hi (by omega), fun a h => by cases h⟩
  · refine ⟨_, cap, rfl, fun i hi => ⟨_, rfl, ?_, ?_⟩, fun a h => by cases h; exact hb⟩
    · exact World.ownsRow.cells h' (g := g) rfl _ _ (pcells_at V0 V1 n i hi).1
    · exact World.ownsRow.cells h' (g := g) rfl _ _ (pcells_at V0 V1 n i hi).2
def nearV (V0 : Nat → Int) (i : Nat) : Int := if i % 5 = 4 then V0 i else (bits .and .i64 (V0 i) 255).tmod 8

theorem and_bd (x : Int) : -9223372036854775808 ≤ bits .and .i64 x 255 ∧ bits .and .i64 x 255 ≤ 9223372036854775807 := by
  simp only [bits, IntKind.wrap_i64]; omega
theorem info_seen : Try.prog.info? 36 = some Try.t36 := by kernel_rfl

set_option maxHeartbeats 2000000 in
theorem near_any (A : Option Addr) (len cap : Nat) (V0 V1 : Nat → Int) (w : World) (hr : Pairs w A len V0 V1) (h60 : len ≤ 60)
    (v0 : ∀ i, i < len → -9223372036854775808 ≤ V0 i ∧ V0 i ≤ 9223372036854775807) :
    Calls Try.prog 9 #[.slice A len cap] w fun e w' => ∃ A' cap', e = .returned (.slice A' len cap') ∧ Pairs w' A' len (nearV V0) V1 ∧ (∀ a, A' = some a → w.heap.size ≤ a.block) ∧ Below w.heap.size w w' := by
  go_enter Try.func9, Try.ntmps9
  go_wp2
  go_loopw [3, 4] (fun s i wr => ∃ k : Nat, k ≤ len ∧ i = .int .i64 k ∧ wr.ownsRow w.heap.size 36 2 s k (pcells (nearV V0) V1 k) ∧ Below w.heap.size w wr) (fun _ i _ => len - (intOf i).toNat)
  case atStart => exact ⟨0, Nat.zero_le _, rfl, World.ownsRow_nil w _ _ 2, Below.refl _ _⟩
  case round =>
    obtain ⟨k, hk, rfl, hown, hbr⟩ := hrel
    by_cases hlt : k < len
    · obtain ⟨a, rfl, c0, c1⟩ := (hr.below hbr) k hlt
      have c2 : wr.cell? ((a.add (k * 2)).add 1) = some (.int .i64 (V1 k)) := by rw [add_add]; exact c1
      have c3 : wr.cell? ⟨(a.add (k * 2)).block, (a.add (k * 2)).off + 1, none⟩ = some (.int .i64 (V1 k)) := c2
      have c4 : wr.cell? ⟨a.block, a.off + k * 2 + 1, none⟩ = some (.int .i64 (V1 k)) := by rw [← c1]; rfl
      have vb := v0 k hlt
      have Hown := Lib.hid hown
      clear hown hr v0
      have hown2 := fun (o1 o2 : Obj) => (Hown.out.alloc o1).alloc o2
      have hin := info_seen
      have hbr2 := fun (o1 o2 : Obj) => below_alloc (below_alloc hbr o1) o2
      have hn2 : ∀ (o1 : Obj) (x y : Int) j u, [Value.int .i64 x, .int .i64 y][j]? = some u → ((wr.alloc o1).alloc (.cells #[.int .i64 x, .int .i64 y] 36)).cell? ((⟨wr.heap.size + 1, 0, none⟩ : Addr).add j) = some u := fun o1 x y j u h => by
        have := cell_new (wr.alloc o1) #[.int .i64 x, .int .i64 y] 36 (0, 0) j
        rw [show (wr.alloc o1).heap.size = wr.heap.size + 1 by show (wr.heap.push o1).size = _; simp] at this
        rw [this]; simpa using h
      by_cases h5 : k % 5 = 4
      · have e0 : nearV V0 k = V0 k := by unfold nearV; rw [if_pos h5]
        go_wp2_with (refine wpList_append_row rfl _ (.tmp 24) (.tmp 26) 22 rfl w.heap.size 36 Try.t36 (.agg #[.int .i64 0, .int .i64 0]) 2 16 Try.underlying22 hin rfl rfl rfl rfl (by omega) _ k _ rfl (hown2 _ _) ⟨wr.heap.size + 1, 0, none⟩ 1 1 [.int .i64 (V0 k), .int .i64 (V1 k)] rfl rfl (hn2 _ _ _) (by simp [Value.oneCell']) (by simp [maxLen]; omega) (by omega) (by have := hbr.size; simp; omega) ?_; intro v' w' ho hg hv)
        refine ⟨⟨k + 1, by omega, by go_num, ?_, (hbr2 _ _).grown hg (by have := hbr.size; simp; omega) fun g hg => (Hown.out.lt g hg).1⟩, by simp [intOf]; omega⟩
        rw [show pcells (nearV V0) V1 (k + 1) = pcells (nearV V0) V1 k ++ [.int .i64 (nearV V0 k), .int .i64 (V1 k)] from rfl, e0]
        exact ho
      · have e0 : nearV V0 k = (bits .and .i64 (V0 k) 255).tmod 8 := by unfold nearV; rw [if_neg h5]
        have hbd := and_bd (V0 k)
        go_wp2_with (refine wpList_append_row rfl _ (.tmp 24) (.tmp 26) 22 rfl w.heap.size 36 Try.t36 (.agg #[.int .i64 0, .int .i64 0]) 2 16 Try.underlying22 hin rfl rfl rfl rfl (by omega) _ k _ rfl (hown2 _ _) ⟨wr.heap.size + 1, 0, none⟩ 1 1 [.int .i64 ((bits .and .i64 (V0 k) 255).tmod 8), .int .i64 (V1 k)] rfl rfl (hn2 _ _ _) (by simp [Value.oneCell']) (by simp [maxLen]; omega) (by omega) (by have := hbr.size; simp; omega) ?_; intro v' w' ho hg hv)
        refine ⟨⟨k + 1, by omega, by go_num, ?_, (hbr2 _ _).grown hg (by have := hbr.size; simp; omega) fun g hg => (Hown.out.lt g hg).1⟩, by simp [intOf]; omega⟩
        rw [show pcells (nearV V0) V1 (k + 1) = pcells (nearV V0) V1 k ++ [.int .i64 (nearV V0 k), .int .i64 (V1 k)] from rfl, e0]
        exact ho
    · obtain rfl : k = len := by omega
      go_wp2
      go_ret
      obtain ⟨A', cap', rfl, hp, hA⟩ := pairs_of_own hown
      exact ⟨A', cap', rfl, hp, hA, hbr⟩
end Go.Proofs.Ytjlhllhimoalmaa
