import Derived.Test.YtnpdamahennojaaDoorPgLaw
namespace Go.Proofs.YtnpdamahennojaaDoor
open Go.RowKit

abbrev conv (A : Option Addr) (xs : List Int) (c : Nat) (w : World) : Prop := (convert 22 9 (.slice A xs.length c)).run Tryd.prog w = .ok (.string (strOfNums xs)) w
theorem conv_of {A : Option Addr} {xs : List Int} {c : Nat} {w : World} (h : Reads w .u8 A xs) : conv A xs c w := run_string_reads (P := Tryd.prog) w 22 9 5 Tryd.underlying22 Tryd.underlying5 Tryd.underlying9 A c xs h

set_option maxRecDepth 100000 in
set_option maxHeartbeats 1000000 in
theorem pageReads_any (A : Option Addr) (cap : Nat) (xs : List Int) (p kind : Int) (w : World) (hc : xs.length ≤ cap) (h8 : Bytes8 xs) (hx : Reads w .u8 A xs) (ht : HasTab w) :
    Calls Tryd.prog 7 #[.slice A xs.length cap, .int .i64 p, .int .u8 kind] w fun e w' => e = .returned (.bool true) ∧ Below w.heap.size w w' := by
  have hpos := ht.pos
  by_cases hl : 3000 < xs.length
  · clear hx
    go_enter Tryd.func7, Tryd.ntmps7
    go_wp2_with fail
    refine (awake_any w ht).mono ?_
    rintro e w1 ⟨rfl, b1⟩
    go_wp2_with fail
    refine (awake_any w1 (ht.below hpos b1)).mono ?_
    rintro e w2 ⟨rfl, b2⟩
    go_wp2
    go_ret
    exact ⟨rfl, below_trans b1 b2⟩
  · have hread := fun w1 (b : Below w.heap.size w w1) => read_any A cap xs p w1 (by omega) hc h8 (hx.below b) (ht.below hpos b)
    have hrref := fun w1 (b : Below w.heap.size w w1) => rref_any A cap xs p w1 (by omega) hc h8 (hx.below b)
    have hone := fun w1 (b : Below w.heap.size w w1) => one_any A cap xs kind w1 (by omega) hc h8 (hx.below b) (ht.below hpos b)
    have hrone := fun w1 (b : Below w.heap.size w w1) => rone_any A cap xs kind w1 (by omega) hc h8 (hx.below b)
    have herr := read_err xs p
    unfold ReadPost at hread hrref
    unfold OnePost at hone hrone
    generalize pgRead xs p = R at *
    obtain ⟨K, body, E, err⟩ := R
    generalize pgOne xs kind = R1 at *
    obtain ⟨body1, err1⟩ := R1
    simp only at hread hrref hone hrone herr
    have Hread := Lib.hid hread
    have Hrref := Lib.hid hrref
    have Hone := Lib.hid hone
    have Hrone := Lib.hid hrone
    clear hread hrref hone hrone hx h8
    by_cases h0 : err = 0
    · subst h0
      clear herr
      go_enter Tryd.func7, Tryd.ntmps7
      go_wp2_with fail
      refine (awake_any w ht).mono ?_
      rintro e w1 ⟨rfl, b1⟩
      go_wp2_with fail
      refine (Hread.out w1 b1).mono ?_
      rintro e w2 ⟨A2, c2, rfl, _, hr2, b2⟩
      go_wp2_with fail
      refine (Hrref.out w2 (below_trans b1 b2)).mono ?_
      rintro e w3 ⟨A3, c3, rfl, _, hr3, b3⟩
      have b13 := below_trans (below_trans b1 b2) b3
      have k2 := conv_of (c := c2) (hr2.below b3)
      have k3 := conv_of (c := c3) hr3
      clear hr2 hr3 b1 b2 b3
      go_wp2_with fail
      refine (Hone.out w3 b13).mono ?_
      rintro e w4 ⟨A4, c4, rfl, _, hr4, b4⟩
      go_wp2_with fail
      refine (Hrone.out w4 (below_trans b13 b4)).mono ?_
      rintro e w5 ⟨A5, c5, rfl, _, hr5, b5⟩
      have k4 := conv_of (c := c4) (hr4.below b5)
      have k5 := conv_of (c := c5) hr5
      clear k2 k3 hr4 hr5
      go_wp2
      go_ret
      exact ⟨rfl, below_trans (below_trans b13 b4) b5⟩
    · have h1 := herr h0
      simp only [Prod.mk.injEq] at h1
      obtain ⟨rfl, rfl, rfl, _⟩ := h1
      have e0 : (err == 0) = false := by rw [beq_eq_false_iff_ne]; exact h0
      have e1 : (err != 0) = true := by rw [bne_iff_ne]; exact h0
      clear herr h0
      go_enter Tryd.func7, Tryd.ntmps7
      go_wp2_with fail
      refine (awake_any w ht).mono ?_
      rintro e w1 ⟨rfl, b1⟩
      go_wp2_with fail
      refine (Hread.out w1 b1).mono ?_
      rintro e w2 ⟨A2, c2, rfl, _, hr2, b2⟩
      go_wp2_with fail
      refine (Hrref.out w2 (below_trans b1 b2)).mono ?_
      rintro e w3 ⟨A3, c3, rfl, _, hr3, b3⟩
      have b13 := below_trans (below_trans b1 b2) b3
      have k2 := conv_of (c := c2) (hr2.below b3)
      have k3 := conv_of (c := c3) hr3
      clear hr2 hr3 b1 b2 b3
      go_wp2_with fail
      refine (Hone.out w3 b13).mono ?_
      rintro e w4 ⟨A4, c4, rfl, _, hr4, b4⟩
      go_wp2_with fail
      refine (Hrone.out w4 (below_trans b13 b4)).mono ?_
      rintro e w5 ⟨A5, c5, rfl, _, hr5, b5⟩
      have k4 := conv_of (c := c4) (hr4.below b5)
      have k5 := conv_of (c := c5) hr5
      clear k2 k3 hr4 hr5
      go_wp2
      go_ret
      exact ⟨rfl, below_trans (below_trans b13 b4) b5⟩

/-- The walk of PageReads. -/
theorem pageReads_walk (W : World) (A : Option Addr) (cap : Nat) (xs : List Int) (hc : xs.length ≤ cap) (_ : xs.length * 1 ≤ 140737488351232) (hr : Reads W .u8 A xs) (hw : Wf8 xs) (p : Int) (_ : (Lit.int .i64 p).wf = true) (kind : Int) (_ : (Lit.int .u8 kind).wf = true) (hL : Laid W) :
    Calls Tryd.prog 7 #[.slice A xs.length cap, .int .i64 p, .int .u8 kind] W fun e w' => e = .returned (.bool true) ∧ Below W.heap.size W w' :=
  pageReads_any A cap xs p kind W hc (wf_bytes hw) hr (tab_of_laid hL)
end Go.Proofs.YtnpdamahennojaaDoor
