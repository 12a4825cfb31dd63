import Derived.Test.YtejkilgpcbdepaaExQ
import Derived.Laws.FloatArith
/-! Exact sums: the walk of the law of one number, many times (what is said of the conversions, of the quotient and of the product is handed in). -/
namespace Go.Proofs.Ytejkilgpcbdepaa
open Go.RowKit
set_option linter.unusedVariables false
attribute [-simp] Try.isAgg30 Try.sizeOf30 Try.typeInfo30 Try.type30

/-- One number, k times. -/
def manySt (x : Nat) : Nat → St
  | 0 => noSt
  | k + 1 => addSt (manySt x k) x

set_option maxHeartbeats 4000000 in
theorem many_walk (m : Int) (N : Nat) (fm x fn pr v : Nat) (w : World) (hN : N ≤ 255) (hx : x < 18446744073709551616)
    (c1 : ∀ w, (convert 39 22 (.int .u32 m)).run Try.prog w = .ok (.float .f64 fm) w)
    (c2 : ∀ w, (binOp .quo 22 (.float .f64 fm) (.float .f64 4652218415073722368)).run Try.prog w = .ok (.float .f64 x) w)
    (c3 : ∀ w, (convert 5 22 (.int .u8 (N : Int))).run Try.prog w = .ok (.float .f64 fn) w)
    (c4 : ∀ w, (binOp .mul 22 (.float .f64 x) (.float .f64 fn)).run Try.prog w = .ok (.float .f64 pr) w)
    (hv : valSt (manySt x N) = (v, false)) (he : (FloatKind.f64.format.order v pr == some .eq) = true) :
    Calls Try.prog 5 #[.int .u32 m, .int .u8 (N : Int)] w fun e w' => e = .returned (.bool true) ∧ Below w.heap.size w w' := by
  have Hs := Lib.hid size30
  have aw := awake_any
  have hva := fun w => value_any (manySt x N) w
  rw [hv] at hva
  obtain ⟨Z, hZ, zz⟩ : ∃ Z : Array Value, Z = sumC (manySt x 0) ∧ ∀ w, (zeroValue 30).run Try.prog w = .ok (.agg Z) w := ⟨_, rfl, zero30⟩
  have HZ := Lib.hid hZ
  clear hZ hv
  go_enter Try.func5, Try.ntmps5
  go_wp2_with (first
    | (go_at_call 13; (with_reducible refine (aw _).mono ?_); rintro e w1 ⟨rfl, b1⟩)
    | (refine at_op (.alloc 30) ?_ rfl; refine wpList_alloc_row rfl _ 30 rfl (some 6) rfl w1.heap.size rfl Z zz ?_))
  have hg := heap_alloc_new w1 (.cells Z 30)
  have bb := below_alloc b1 (.cells Z 30)
  have hge := b1.size
  rw [HZ.out] at *
  generalize w1.heap.size = g at *
  generalize w1.alloc (.cells (sumC (manySt x 0)) 30) = w2 at *
  clear b1 aw zz
  go_loopw [7] (fun i wr => ∃ k : Nat, k ≤ N ∧ i = .int .i64 k ∧ wr.heap[g]? = some (.cells (sumC (manySt x k)) 30 (0, 0)) ∧ Below w.heap.size w wr) (fun i _ => N - (intOf i).toNat)
  case atStart => exact ⟨0, Nat.zero_le _, rfl, hg, bb⟩
  case round =>
    obtain ⟨k, hk, rfl, hs, hb⟩ := hrel
    have Hsu := Lib.hid hs
    have hgl := heap_lt hs
    clear hg bb hs
    by_cases hlt : k < N
    · have hadd := fun w => add_any (manySt x k) x w hx
      have hS : addSt (manySt x k) x = manySt x (k + 1) := rfl
      rw [hS] at hadd
      clear hS
      go_wp2_with (first
        | (refine at_op0 (.load 30 (.tmp 6)) ?_ rfl rfl; refine wpList_load_row rfl 30 (.tmp 6) rfl g rfl 30 _ (0, 0) _ Hsu.out Try.underlying30 rfl (by rw [sumC_size]; exact Hs.out) ?_)
        | (go_at_call 20; (with_reducible refine (hadd _).mono ?_); rintro e w5 ⟨rfl, b5⟩; have h5 := Lib.hid ((b5.block _ hgl).trans Hsu.out))
        | (refine at_op (.store 30 (.tmp 6) (.tmp 23)) ?_ rfl; refine wpList_store_row rfl 30 (.tmp 6) (.tmp 23) rfl g (sumC (manySt x (k + 1))) rfl rfl 30 _ h5.out (by rw [sumC_size]; exact Hs.out) (by rw [sumC_size, sumC_size]) (sumC_one _) ?_))
      exact ⟨⟨k + 1, by omega, by go_num, setRow_heap _ _ _ _ _ _ h5.out, below_setRow (below_trans hb b5) hge _⟩, by simp [intOf]; omega⟩
    · obtain rfl : k = N := by omega
      go_wp2_with (first
        | (refine at_op0 (.load 30 (.tmp 6)) ?_ rfl rfl; refine wpList_load_row rfl 30 (.tmp 6) rfl g rfl 30 _ (0, 0) _ Hsu.out Try.underlying30 rfl (by rw [sumC_size]; exact Hs.out) ?_)
        | (go_at_call 17; (with_reducible refine (hva _).mono ?_); rintro e w5 ⟨rfl, b5⟩))
      go_ret
      exact ⟨rfl, below_trans hb b5⟩
end Go.Proofs.Ytejkilgpcbdepaa
