import Derived.Test.YtnpdamahennojaaDoorPgD
namespace Go.Proofs.YtnpdamahennojaaDoor
open Go.RowKit

/-- What One says: body, the error's number. -/
def pgOne (xs : List Int) (kind : Int) : List Int × Int :=
  if (pgRead xs 0).2.2.2 = 0 then (if (pgRead xs 0).1 = kind ∧ (pgRead xs 0).2.2.1 = xs.length then ((pgRead xs 0).2.1, 0) else ([], 3)) else ([], (pgRead xs 0).2.2.2)
def OnePost (xs : List Int) (kind : Int) (w : World) (e : Ending) (w' : World) : Prop :=
  ∃ A' c', e = .returned (.tuple #[.slice A' (pgOne xs kind).1.length c', .int .i64 (pgOne xs kind).2]) ∧ (pgOne xs kind).1.length ≤ c' ∧ Reads w' .u8 A' (pgOne xs kind).1 ∧ Below w.heap.size w w'

theorem onePost_no {xs : List Int} {kind : Int} {w w' : World} {E : Int} (hs : pgOne xs kind = ([], E)) (hb : Below w.heap.size w w') : OnePost xs kind w (.returned (.tuple #[.slice none 0 0, .int .i64 E])) w' := by
  unfold OnePost
  rw [hs]
  exact ⟨none, 0, rfl, Nat.le_refl _, Reads.nil _ _ _, hb⟩

set_option maxHeartbeats 400000 in
theorem one_any (A : Option Addr) (cap : Nat) (xs : List Int) (kind : Int) (w : World) (hl : xs.length ≤ 1000000000) (hc : xs.length ≤ cap) (h8 : Bytes8 xs) (hx : Reads w .u8 A xs) (ht : HasTab w) :
    Calls Tryd.prog 15 #[.slice A xs.length cap, .int .u8 kind] w (OnePost xs kind w) := by
  have hread := read_any A cap xs 0 w hl hc h8 hx ht
  have hno : ∀ E w', pgOne xs kind = ([], E) → Below w.heap.size w w' → OnePost xs kind w (.returned (.tuple #[.slice none 0 0, .int .i64 E])) w' := fun E w' => onePost_no
  have hok : ∀ A' c' w', (pgRead xs 0).2.2.2 = 0 → (pgRead xs 0).1 = kind ∧ (pgRead xs 0).2.2.1 = xs.length → (pgRead xs 0).2.1.length ≤ c' → Reads w' .u8 A' (pgRead xs 0).2.1 → Below w.heap.size w w' →
      OnePost xs kind w (.returned (.tuple #[.slice A' (pgRead xs 0).2.1.length c', .int .i64 0])) w' := fun A' c' w' h0 h1 h2 h3 h4 => by
    unfold OnePost pgOne
    rw [if_pos h0, if_pos h1]
    exact ⟨A', c', rfl, h2, h3, h4⟩
  have hone : pgOne xs kind = if (pgRead xs 0).2.2.2 = 0 then (if (pgRead xs 0).1 = kind ∧ (pgRead xs 0).2.2.1 = xs.length then ((pgRead xs 0).2.1, 0) else ([], 3)) else ([], (pgRead xs 0).2.2.2) := rfl
  unfold ReadPost at hread
  generalize pgRead xs 0 = R at *
  obtain ⟨K, body, E, err⟩ := R
  simp only at hread hok hone
  have Hread := Lib.hid hread
  have Hno := Lib.hid hno
  have Hok := Lib.hid hok
  have Hone := Lib.hid hone
  clear hread hno hok hone hx h8
  by_cases h0 : err = 0
  · have e0 : (err == 0) = true := by rw [h0]; rfl
    by_cases h1 : K = kind
    · have e1 : (K != kind) = false := by rw [h1]; simp
      by_cases h2 : E = xs.length
      · have e2 : (E != (xs.length : Int)) = false := by rw [h2]; simp
        have Hfin : Hid (err = 0 ∧ K = kind ∧ E = xs.length) := Lib.hid ⟨h0, h1, h2⟩
        clear h0 h1 h2
        go_enter Tryd.func15, Tryd.ntmps15
        go_wp2_with (go_at_call 13; refine Hread.out.mono ?_; rintro e w1 ⟨A', c', rfl, hcc, hr, hb⟩)
        go_ret2
        exact Hok.out A' c' _ Hfin.out.1 Hfin.out.2 hcc hr hb
      · have e2 : (E != (xs.length : Int)) = true := by rw [bne_iff_ne]; exact h2
        have Hfin : Hid (pgOne xs kind = ([], 3)) := Lib.hid (by rw [Hone.out, if_pos h0, if_neg (fun h => h2 h.2)])
        clear h0 h1 h2
        go_enter Tryd.func15, Tryd.ntmps15
        go_wp2_with (go_at_call 13; refine Hread.out.mono ?_; rintro e w1 ⟨A', c', rfl, hcc, hr, hb⟩)
        go_ret2
        exact Hno.out 3 _ Hfin.out hb
    · have e1 : (K != kind) = true := by rw [bne_iff_ne]; exact h1
      have Hfin : Hid (pgOne xs kind = ([], 3)) := Lib.hid (by rw [Hone.out, if_pos h0, if_neg (fun h => h1 h.1)])
      clear h0 h1
      go_enter Tryd.func15, Tryd.ntmps15
      go_wp2_with (go_at_call 13; refine Hread.out.mono ?_; rintro e w1 ⟨A', c', rfl, hcc, hr, hb⟩)
      go_ret2
      exact Hno.out 3 _ Hfin.out hb
  · have e0 : (err == 0) = false := by rw [beq_eq_false_iff_ne]; exact h0
    have e1 : (err != 0) = true := by rw [bne_iff_ne]; exact h0
    have Hfin : Hid (pgOne xs kind = ([], err)) := Lib.hid (by rw [Hone.out, if_neg h0])
    clear h0
    go_enter Tryd.func15, Tryd.ntmps15
    go_wp2_with (go_at_call 13; refine Hread.out.mono ?_; rintro e w1 ⟨A', c', rfl, hcc, hr, hb⟩)
    go_ret2
    exact Hno.out err _ Hfin.out hb
set_option maxHeartbeats 400000 in
theorem rone_any (A : Option Addr) (cap : Nat) (xs : List Int) (kind : Int) (w : World) (hl : xs.length ≤ 1000000000) (hc : xs.length ≤ cap) (h8 : Bytes8 xs) (hx : Reads w .u8 A xs) :
    Calls Tryd.prog 16 #[.slice A xs.length cap, .int .u8 kind] w (OnePost xs kind w) := by
  have hread := rref_any A cap xs 0 w hl hc h8 hx
  have hno : ∀ E w', pgOne xs kind = ([], E) → Below w.heap.size w w' → OnePost xs kind w (.returned (.tuple #[.slice none 0 0, .int .i64 E])) w' := fun E w' => onePost_no
  have hok : ∀ A' c' w', (pgRead xs 0).2.2.2 = 0 → (pgRead xs 0).1 = kind ∧ (pgRead xs 0).2.2.1 = xs.length → (pgRead xs 0).2.1.length ≤ c' → Reads w' .u8 A' (pgRead xs 0).2.1 → Below w.heap.size w w' →
      OnePost xs kind w (.returned (.tuple #[.slice A' (pgRead xs 0).2.1.length c', .int .i64 0])) w' := fun A' c' w' h0 h1 h2 h3 h4 => by
    unfold OnePost pgOne
    rw [if_pos h0, if_pos h1]
    exact ⟨A', c', rfl, h2, h3, h4⟩
  have hone : pgOne xs kind = if (pgRead xs 0).2.2.2 = 0 then (if (pgRead xs 0).1 = kind ∧ (pgRead xs 0).2.2.1 = xs.length then ((pgRead xs 0).2.1, 0) else ([], 3)) else ([], (pgRead xs 0).2.2.2) := rfl
  unfold ReadPost at hread
  generalize pgRead xs 0 = R at *
  obtain ⟨K, body, E, err⟩ := R
  simp only at hread hok hone
  have Hread := Lib.hid hread
  have Hno := Lib.hid hno
  have Hok := Lib.hid hok
  have Hone := Lib.hid hone
  clear hread hno hok hone hx h8
  by_cases h0 : err = 0
  · have e0 : (err != 0) = false := by rw [h0]; rfl
    by_cases h1 : K = kind
    · have e1 : (K != kind) = false := by rw [h1]; simp
      by_cases h2 : E = xs.length
      · have e2 : (E != (xs.length : Int)) = false := by rw [h2]; simp
        have Hfin : Hid (err = 0 ∧ K = kind ∧ E = xs.length) := Lib.hid ⟨h0, h1, h2⟩
        clear h0 h1 h2
        go_enter Tryd.func16, Tryd.ntmps16
        go_wp2_with (go_at_call 14; refine Hread.out.mono ?_; rintro e w1 ⟨A', c', rfl, hcc, hr, hb⟩)
        go_ret2
        exact Hok.out A' c' _ Hfin.out.1 Hfin.out.2 hcc hr hb
      · have e2 : (E != (xs.length : Int)) = true := by rw [bne_iff_ne]; exact h2
        have Hfin : Hid (pgOne xs kind = ([], 3)) := Lib.hid (by rw [Hone.out, if_pos h0, if_neg (fun h => h2 h.2)])
        clear h0 h1 h2
        go_enter Tryd.func16, Tryd.ntmps16
        go_wp2_with (go_at_call 14; refine Hread.out.mono ?_; rintro e w1 ⟨A', c', rfl, hcc, hr, hb⟩)
        go_ret2
        exact Hno.out 3 _ Hfin.out hb
    · have e1 : (K != kind) = true := by rw [bne_iff_ne]; exact h1
      have Hfin : Hid (pgOne xs kind = ([], 3)) := Lib.hid (by rw [Hone.out, if_pos h0, if_neg (fun h => h1 h.1)])
      clear h0 h1
      go_enter Tryd.func16, Tryd.ntmps16
      go_wp2_with (go_at_call 14; refine Hread.out.mono ?_; rintro e w1 ⟨A', c', rfl, hcc, hr, hb⟩)
      go_ret2
      exact Hno.out 3 _ Hfin.out hb
  · skip
    have e3 : (err != 0) = true := by rw [bne_iff_ne]; exact h0
    have Hfin : Hid (pgOne xs kind = ([], err)) := Lib.hid (by rw [Hone.out, if_neg h0])
    clear h0
    go_enter Tryd.func16, Tryd.ntmps16
    go_wp2_with (go_at_call 14; refine Hread.out.mono ?_; rintro e w1 ⟨A', c', rfl, hcc, hr, hb⟩)
    go_ret2
    exact Hno.out err _ Hfin.out hb
end Go.Proofs.YtnpdamahennojaaDoor
