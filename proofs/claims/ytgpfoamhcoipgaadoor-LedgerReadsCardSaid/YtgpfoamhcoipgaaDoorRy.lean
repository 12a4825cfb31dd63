import Derived.Test.YtgpfoamhcoipgaaDoorRx
import Derived.Test.YtgpfoamhcoipgaaDoorPs
import Derived.Test.YtgpfoamhcoipgaaDoorLga
/-! LedgerReads: what is read is laid again alike. -/
namespace Go.Proofs.YtgpfoamhcoipgaaDoor
open Go.RowKit Go.Sort Go.ChangeMaps
set_option linter.unusedVariables false
theorem pgRead_errs (xs : List Int) : (pgRead xs 0).2.2.2 = 0 ∨ (pgRead xs 0).2.2.2 = 3 ∨ (pgRead xs 0).2.2.2 = 4 := by
  unfold pgRead
  rw [if_neg (by omega)]
  simp only
  split
  · exact .inr (.inl rfl)
  · split
    · exact .inr (.inl rfl)
    · split
      · exact .inr (.inr rfl)
      · exact .inl rfl
theorem rdAll_errs (xs : List Int) : (rdAll xs).2 = 0 ∨ ((rdAll xs).2 = 3 ∨ (rdAll xs).2 = 4) ∧ (rdAll xs).1 = [] := by
  have h : (pgOne xs 108).2 = 0 ∨ (pgOne xs 108).2 = 3 ∨ (pgOne xs 108).2 = 4 := by
    unfold pgOne
    split
    · split
      · exact .inl rfl
      · exact .inr (.inl rfl)
    · exact pgRead_errs xs
  unfold rdAll
  split
  · split
    · exact .inl rfl
    · exact .inr ⟨.inl rfl, rfl⟩
  · rename_i h0
    exact .inr ⟨h.resolve_left h0, rfl⟩
theorem flat_len (L : List Ch) : L.length ≤ (L.flatMap layC).length := by
  induction L with
  | nil => simp
  | cons c L ih =>
    rw [List.flatMap_cons, List.length_append, List.length_cons]
    have : 1 ≤ (layC c).length := by
      unfold layC
      simp only [List.length_append, List.length_singleton]
      omega
    omega
theorem page_body {xs body : List Int} {k : Int} (h8 : Bytes8 xs) (h : xs = pageOf k body) : Bytes8 body ∧ body.length + 9 = xs.length := by
  have e : body = (xs.drop 5).take body.length := by
    have e2 : pageOf k body = (le4 body.length ++ [k]) ++ (body ++ le4 (crc32 (head k body))) := by simp [pageOf, head]
    rw [h, e2, show 5 = (le4 body.length ++ [k]).length from by simp [le4_length], List.drop_left, List.take_left]
  refine ⟨by rw [e]; exact (h8.drop 5).take _, ?_⟩
  rw [h, pageOf_length]
set_option maxRecDepth 100000 in
set_option maxHeartbeats 4000000 in
theorem reads_any (A : Option Addr) (cap : Nat) (xs : List Int) (w : World) (hc : xs.length ≤ cap) (hm : xs.length ≤ 140737488351232) (h8 : Bytes8 xs) (hx : Reads w .u8 A xs) (ht : HasTab w) :
    Calls Tryd.prog 3 #[.slice A xs.length cap] w fun e w' => e = .returned (.bool true) ∧ Below w.heap.size w w' := by
  have haw := fun w => awake_any w
  by_cases hl : xs.length ≤ 2000
  · have hrd := fun w1 (b : Below w.heap.size w w1) => read_all A cap xs w1 (by omega) hc h8 (hx.below b) (ht.grown (grown_of_below b none) (by simp))
    have hd : decide ((2000 : Int) < (xs.length : Int)) = false := by simp; omega
    have hn : ¬ (2000 : Int) < (xs.length : Int) := by omega
    unfold RdPost at hrd
    rcases rdAll_errs xs with h0 | ⟨h0, h1⟩
    · obtain ⟨hxs, hgood⟩ := rdAll_inv h8 h0
      rw [h0] at hrd
      generalize (rdAll xs).1 = L at *
      obtain ⟨hb8, hbl⟩ := page_body h8 hxs
      have hL : L.length ≤ (layBody L).length := by
        have := flat_len L
        unfold layBody
        rw [List.length_append]
        omega
      have hlay := fun A9 c9 w2 (b : Below w.heap.size w w2) (hr : RowsAt w2 chL A9 L) => layCs_any A9 c9 L w2 hr hgood (by omega) (by omega) hb8 (ht.grown (grown_of_below b none) (by simp))
      rw [← hxs] at hlay
      have hcv := fun w2 (b : Below w.heap.size w w2) => run_string_reads (P := Tryd.prog) w2 22 9 5 Tryd.underlying22 Tryd.underlying5 Tryd.underlying9 A cap xs (hx.below b)
      have Hlay := Lib.hid hlay
      clear hxs hgood hb8 hbl hL hlay
      go_enter Tryd.func3, Tryd.ntmps3
      go_upto_region 3 with (go_at_call 4; (with_reducible refine (haw _).mono ?_); rintro e w1 ⟨rfl, b1⟩)
      go_upto_region 6 with (go_at_call 5; (with_reducible refine (hrd w1 b1).mono ?_); rintro e w2 ⟨b2, v, rfl, ho⟩; obtain ⟨A9, c9, rfl, _, hr9⟩ := ho.form)
      have b12 := b1.trans (b2.mono b1.size)
      have hcv0 := hcv w2.drew b12.drew
      go_region_with
        (first
          | (go_at_call 6; (with_reducible refine (Hlay.out A9 c9 _ b12.drew (hr9.below (Below.refl _ _).drew)).mono ?_); rintro e w5 ⟨v5, rfl, ho5, hb5⟩; obtain ⟨A5, c5, rfl, _, hr5⟩ := ho5.form; have hcv2 := run_string_reads (P := Tryd.prog) w5 22 9 5 Tryd.underlying22 Tryd.underlying5 Tryd.underlying9 A5 c5 _ hr5; have hcv5 := hcv w5 (b12.drew.trans (hb5.mono b12.drew.size))))
      all_goals
        go_wp2_with fail
        go_ret
        exact ⟨rfl, b12.drew.trans (hb5.mono b12.drew.size)⟩
    · rw [h1] at hrd
      have hE : (rdAll xs).2 ≠ 0 := by omega
      generalize (rdAll xs).2 = E at *
      have hE1 : (E != 0) = true := by simpa using hE
      clear h8 hx ht hc hm h1
      rcases h0 with rfl | rfl
      all_goals
        go_enter Tryd.func3, Tryd.ntmps3
        go_upto_region 3 with (go_at_call 4; (with_reducible refine (haw _).mono ?_); rintro e w1 ⟨rfl, b1⟩)
        go_wp2_with (go_at_call 5; (with_reducible refine (hrd w1 b1).mono ?_); rintro e w2 ⟨b2, v, rfl, ho⟩; obtain ⟨A9, c9, rfl, _, _⟩ := ho.form)
        go_ret
        exact ⟨rfl, b1.trans (b2.mono b1.size)⟩
  · have hn : (2000 : Int) < (xs.length : Int) := by omega
    clear hc hm h8 hx ht
    go_enter Tryd.func3, Tryd.ntmps3
    go_upto_region 2 with (go_at_call 4; (with_reducible refine (haw _).mono ?_); rintro e w1 ⟨rfl, b1⟩)
    go_wp2_with (go_at_call 4; (with_reducible refine (haw _).mono ?_); rintro e w2 ⟨rfl, b2⟩)
    go_ret
    exact ⟨rfl, b1.trans (b2.mono b1.size)⟩
theorem ledgerReads_walk (W : World) (A : Option Addr) (cap : Nat) (xs : List Int) (hc : xs.length ≤ cap) (hl : xs.length * 1 ≤ 140737488351232) (hr : Reads W .u8 A xs) (hw : Wf8 xs) (hL : Laid W) :
    Calls Tryd.prog 3 #[.slice A xs.length cap] W fun e w' => e = .returned (.bool true) ∧ Below W.heap.size W w' :=
  reads_any A cap xs W hc (by omega) (wf_bytes hw) hr (tab_of_laid hL)
end Go.Proofs.YtgpfoamhcoipgaaDoor
