import Derived.Test.YtgpfoamhcoipgaaDoorAr
import Derived.Test.YtgpfoamhcoipgaaDoorRc
/-! The reader's Text. -/
namespace Go.Proofs.YtgpfoamhcoipgaaDoor
open Go.RowKit
set_option linter.unusedVariables false
set_option maxRecDepth 100000 in
theorem text_no_uint (g B : Nat) (xs : List Int) (w : World) (h : RdSt w g B xs) (h8 : Bytes8 xs) (hr : rdU 32 10 0 0 xs = none) :
    Calls Tryd.prog 16 #[.pointer (some ⟨g, 0, none⟩), .int .i64 32] w fun e w' => e = badP ∧ w.grownBy w' (some g) := by
  have hc := uint_none g B 32 xs w h h8 (by decide) hr
  have hc : Calls Tryd.prog 13 #[.pointer (some ⟨g, 0, none⟩), .int .u64 32] w fun e w' => e = badP ∧ w.grownBy w' (some g) := hc
  clear hr h h8
  go_enter Tryd.func16, Tryd.ntmps16
  go_wp2_with (go_at_call 13; (with_reducible refine hc.mono ?_); rintro e w1 ⟨rfl, hg⟩)
  exact ⟨rfl, rfl, hg⟩
set_option maxRecDepth 100000 in
theorem text_short (g B n : Nat) (xs rest : List Int) (w : World) (h : RdSt w g B xs) (h8 : Bytes8 xs) (hr : rdU 32 10 0 0 xs = some (n, rest)) (hn : ¬ n ≤ rest.length) (hl : xs.length ≤ 1000000000) :
    Calls Tryd.prog 16 #[.pointer (some ⟨g, 0, none⟩), .int .i64 32] w fun e w' => e = badP ∧ w.grownBy w' (some g) := by
  have hc := uint_some g B 32 n xs rest w h h8 (by decide) hr
  have hc : Calls Tryd.prog 13 #[.pointer (some ⟨g, 0, none⟩), .int .u64 32] w fun e w' => e = .returned (.int .u64 (n : Nat)) ∧ RdSt w' g B rest ∧ w.grownBy w' (some g) := hc
  have hm := (rdU_rest _ _ _ _ _ _ _ h8 hr).2
  have hrl : rest.length ≤ 1000000000 := by
    have := congrArg List.length (uintL_of_rdU h8 hr)
    rw [List.length_append] at this
    omega
  have hk := fun v w => check_bad v w
  have hle : decide ((n : Int) ≤ (rest.length : Int)) = false := decide_eq_false (by omega)
  clear hr h h8
  go_enter Tryd.func16, Tryd.ntmps16
  go_wp2_with (first
    | (go_at_call 13; (with_reducible refine hc.mono ?_); rintro e w1 ⟨rfl, hs, hg⟩; obtain ⟨⟨A1, cap1, hc1, hcl, hrd, hne⟩, hfz⟩ := hs)
    | (go_at_call 15; (with_reducible refine (hk _ _).mono ?_); rintro e w2 ⟨rfl, rfl⟩))
  exact ⟨rfl, rfl, hg⟩
set_option maxRecDepth 100000 in
set_option maxHeartbeats 4000000 in
theorem text_some (g B n : Nat) (xs rest : List Int) (w : World) (h : RdSt w g B xs) (h8 : Bytes8 xs) (hr : rdU 32 10 0 0 xs = some (n, rest)) (hn : n ≤ rest.length) (hl : xs.length ≤ 1000000000) :
    Calls Tryd.prog 16 #[.pointer (some ⟨g, 0, none⟩), .int .i64 32] w fun e w' => e = .returned (.string (strOfNums (rest.take n))) ∧ RdSt w' g B (rest.drop n) ∧ w.grownBy w' (some g) := by
  have hc := uint_some g B 32 n xs rest w h h8 (by decide) hr
  have hc : Calls Tryd.prog 13 #[.pointer (some ⟨g, 0, none⟩), .int .u64 32] w fun e w' => e = .returned (.int .u64 (n : Nat)) ∧ RdSt w' g B rest ∧ w.grownBy w' (some g) := hc
  have hm := (rdU_rest _ _ _ _ _ _ _ h8 hr).2
  have hrl : rest.length ≤ 1000000000 := by
    have := congrArg List.length (uintL_of_rdU h8 hr)
    rw [List.length_append] at this
    omega
  have hk := fun v w => check_ok v w
  have hle0 : (n : Int) ≤ (rest.length : Int) := by omega
  have hle : decide ((n : Int) ≤ (rest.length : Int)) = true := decide_eq_true hle0
  clear hr h h8
  go_enter Tryd.func16, Tryd.ntmps16
  go_upto_region 3 with (first
    | (go_at_call 13; (with_reducible refine hc.mono ?_); rintro e w1 ⟨rfl, hs, hg⟩; obtain ⟨⟨A1, cap1, hc1, hcl, hrd, hne⟩, hfz⟩ := hs)
    | (go_at_call 15; (with_reducible refine (hk _ _).mono ?_); rintro e w2 ⟨rfl, rfl⟩))
  have htl : (rest.take n).length = n := by rw [List.length_take]; omega
  have hcv := fun A => run_string_reads (P := Tryd.prog) w1 22 9 5 Tryd.underlying22 Tryd.underlying5 Tryd.underlying9 A cap1 (rest.take n)
  rw [htl] at hcv
  have hfin := Lib.hid (fun j hj => RdSt.cut hc1 hcl hrd hne hfz j hj)
  have hgr := Lib.hid (fun u => RdSt.grown_trans hg (grown_setCell w1 g 0 u))
  have hncap : (n : Int) ≤ (cap1 : Int) := by omega
  cases A1 with
  | none =>
    have h0 : rest = [] := by
      cases rest with
      | nil => rfl
      | cons y ys => obtain ⟨a, h, _⟩ := hrd 0 (by simp); cases h
    subst h0
    obtain rfl : n = 0 := by simpa using hn
    have hcv := hcv none (Reads.nil _ _ _)
    clear hrd hne htl
    go_wp2_with fail
    go_ret
    have q := hfin.out 0 hn
    have e : cutAt none cap1 0 = none := by unfold cutAt; split <;> rfl
    rw [e] at q
    exact ⟨rfl, q, hgr.out _⟩
  | some a =>
    have hcv := hcv (some a) (hrd.take n)
    clear hrd hne htl
    go_wp2_with fail
    all_goals
      go_ret
      have q := hfin.out n hn
      simp only [cutAt] at q
      first | rw [if_pos (by assumption)] at q | rw [if_neg (by assumption)] at q
      refine ⟨rfl, ?_, hgr.out _⟩
      first | exact q | (have e : cap1 - n = 0 := by omega
                         rw [e] at q
                         exact q) | simpa [Addr.add] using q
end Go.Proofs.YtgpfoamhcoipgaaDoor
