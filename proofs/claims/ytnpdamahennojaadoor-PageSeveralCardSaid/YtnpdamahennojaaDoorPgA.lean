import Derived.Test.YtnpdamahennojaaDoorOwn
import Derived.Test.YtnpdamahennojaaDoorLaid
namespace Go.Proofs.YtnpdamahennojaaDoor
open Go.RowKit

def le4 (n : Int) : List Int := [n % 256, n / 256 % 256, n / 65536 % 256, n / 16777216]
theorem Tryd.info5 : (Tryd.prog.info? 5).map (fun i => (i.zero, i.size, i.bytes)) = some (some (.int .u8 0), 1, 1) := by kernel_rfl

theorem four_any (n : Int) (h : 0 ≤ n ∧ n ≤ 4294967295) (w : World) :
    Calls Tryd.prog 18 #[.int .u32 n] w fun e w' => ∃ v, e = .returned v ∧ Own w' w.heap.size 5 .u8 v (le4 n) ∧ Below w.heap.size w w' := by
  have hf := Own.new w w.heap.size 5 .u8 (le4 n) ((le4 n).map (Value.int .u8)).toArray rfl (Nat.le_refl _) (by unfold maxLen; simp [le4])
  have hF := Lib.hid hf
  clear hf
  go_enter Tryd.func18, Tryd.ntmps18
  go_wp2
  go_ret
  exact ⟨_, rfl, hF.out, (Below.refl _ _).alloc (Nat.le_refl _) _⟩
theorem ref_four_any (n : Int) (h : 0 ≤ n ∧ n ≤ 4294967295) (w : World) :
    Calls Tryd.prog 21 #[.int .u32 n] w fun e w' => ∃ v, e = .returned v ∧ Own w' w.heap.size 5 .u8 v (le4 n) ∧ Below w.heap.size w w' := by
  have hf := Own.new w w.heap.size 5 .u8 (le4 n) ((le4 n).map (Value.int .u8)).toArray rfl (Nat.le_refl _) (by unfold maxLen; simp [le4])
  have hF := Lib.hid hf
  clear hf
  go_enter Tryd.func21, Tryd.ntmps21
  go_wp2
  go_ret
  exact ⟨_, rfl, hF.out, (Below.refl _ _).alloc (Nat.le_refl _) _⟩

def num4 (xs : List Int) : Int := bits .or .u32 (bits .or .u32 (bits .or .u32 (rd xs 0) (rd xs 1 * 256)) (rd xs 2 * 65536)) (rd xs 3 * 16777216)
theorem number_any (A : Option Addr) (cap : Nat) (xs : List Int) (h4 : 4 ≤ xs.length) (h8 : Bytes8 xs) (w : World) (hx : Reads w .u8 A xs) :
    Calls Tryd.prog 19 #[.slice A xs.length cap] w fun e w' => e = .returned (.int .u32 (num4 xs)) ∧ ∃ n, w' = w.drewN n := by
  obtain ⟨a, rfl⟩ := hx.some_ (by omega)
  have c0 : w.cell? a = some (.int .u8 (rd xs 0)) := hx.lit 0 (by omega)
  have c1 : w.cell? ⟨a.block, a.off + 1, none⟩ = some (.int .u8 (rd xs 1)) := hx.lit 1 (by omega)
  have c2 : w.cell? ⟨a.block, a.off + 2, none⟩ = some (.int .u8 (rd xs 2)) := hx.lit 2 (by omega)
  have c3 : w.cell? ⟨a.block, a.off + 3, none⟩ = some (.int .u8 (rd xs 3)) := hx.lit 3 (by omega)
  have b0 := h8 0 (by omega); have b1 := h8 1 (by omega); have b2 := h8 2 (by omega); have b3 := h8 3 (by omega)
  have l3 : (3 : Int) < (xs.length : Int) := by omega
  have l2 : (2 : Int) < (xs.length : Int) := by omega
  have l1 : (1 : Int) < (xs.length : Int) := by omega
  have l0 : (0 : Int) < (xs.length : Int) := by omega
  have p0 : 0 < xs.length := by omega
  clear hx h8
  go_enter Tryd.func19, Tryd.ntmps19
  go_wp2
  go_quiet (fail)
  go_wp2
  go_ret
  exact ⟨rfl, _, rfl⟩

theorem clone_any (A : Option Addr) (cap : Nat) (xs : List Int) (w : World) (hl : xs.length ≤ 140737488351232) (hx : Reads w .u8 A xs) :
    Calls Tryd.prog 20 #[.slice A xs.length cap] w fun e w' => ∃ v, e = .returned v ∧ Own w' w.heap.size 5 .u8 v xs ∧ Below w.heap.size w w' := by
  have hnil := Lib.run_eql_slice_nil (P := Tryd.prog) w 22 5 A xs.length cap 0 0 Tryd.underlying22
  cases A with
  | none =>
    have h0 : xs = [] := by
      cases xs with
      | nil => rfl
      | cons y ys => obtain ⟨a, h, _⟩ := hx 0 (by simp); cases h
    subst h0
    simp only [List.length_nil, Option.isNone_none] at hnil
    simp only [List.length_nil]
    go_enter Tryd.func20, Tryd.ntmps20
    go_wp2
    go_ret
    exact ⟨_, rfl, Own.nil _ _ _ _, Below.refl _ _⟩
  | some a =>
    go_enter Tryd.func20, Tryd.ntmps20
    go_wp2_with (at_builtin; refine wpList_append rfl _ _ _ 22 rfl w.heap.size 5 .u8 1 Tryd.underlying22 Tryd.info5 _ [] rfl (Own.new w w.heap.size 5 .u8 [] #[] rfl (Nat.le_refl _) (by decide)) (some a) cap xs rfl (hx.below ((Below.refl _ _).alloc (Nat.le_refl _) _)) (by unfold maxLen; simp; omega) (by simp; omega) (by simp) ?_)
    intro v w1 ho hg ha
    go_wp2
    go_ret
    refine ⟨v, rfl, by simpa using ho, ((Below.refl _ _).alloc (Nat.le_refl _) _).grown hg (by simp) ?_⟩
    intro k hk
    simp [Value.ownBlock] at hk; omega
end Go.Proofs.YtnpdamahennojaaDoor
