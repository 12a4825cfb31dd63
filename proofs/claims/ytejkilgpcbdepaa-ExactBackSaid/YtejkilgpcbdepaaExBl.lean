import Derived.Test.YtejkilgpcbdepaaExBk
import Derived.SizedLaws
/-! Exact sums: a sum as bytes, and back: the walk of the law. -/
namespace Go.Proofs.Ytejkilgpcbdepaa
open Go.RowKit
set_option linter.unusedVariables false
attribute [-simp] Try.isAgg30 Try.sizeOf30 Try.typeInfo30 Try.type30

section
open Go.ChangeShapes Go.WideShapes Go.Deep
variable {H : Type} {enc : TypeId × Value → H} {P : Program} {W : World} {base : Nat} {spare : Nat → Bool} {held : Bool}
/-- A slice of numbers that came in, its bytes bounded. -/
theorem open_floats8 {t e : TypeId} {v : Value} {d : DataW H} {ps : List MemPlace} {ts : List TypeId} {ds : List (DataW H)} {j : Nat} {r : Reach} {b0 : Nat}
    (hu : P.underlying t = some (.slice e)) (he : P.underlying e = some (.float .f64)) (hc : P.cellsOf e = 1) (hB : P.bytesOf e = 8) (hv : Value.okWide P W r b0 t v)
    (hsz : (DataW.weightsEach P ts ds).all (· ≤ reachBytes) = true) (hts : ts[j]? = some t) (hds : ds[j]? = some d)
    (h : DataW.Trod enc P W base spare held t v d ps) :
    ∃ A cap, ∃ xs : List Nat, v = .slice A xs.length cap ∧ xs.length ≤ cap ∧ (cap ≤ maxLen ∧ xs.length * 8 ≤ 140737488351232) ∧ FReads W A xs ∧ Words64 xs := by
  have hlen : ∀ A len cap, v = .slice A len cap → len * 8 ≤ 140737488351232 := fun A len cap e => by
    subst e
    obtain ⟨fuel, hf⟩ := h
    rcases open_slice hu hf with ⟨hcs, _⟩ | ⟨x, l, c, m, n, D, Pl, hcs, _, hl, hm, hmm, hx, hall⟩
    · simp [Value.cells] at hcs
      omega
    · simp [Value.cells] at hcs
      obtain ⟨rfl, rfl, rfl⟩ := hcs
      obtain ⟨rfl, _⟩ := Prod.mk.inj hx
      have z := sized_slice hsz hts hds hu
      rw [hB, List.length_map, List.length_map, List.length_range, List.length_range] at z
      have hz : reachBytes = 140737488351232 := rfl
      rw [hz] at z
      omega
  obtain ⟨A, cap, xs, e, h1, h2, h3, h4⟩ := open_floats hu he hc hB hv hsz hts hds h
  exact ⟨A, cap, xs, e, h1, ⟨h2, hlen A xs.length cap e⟩, h3, h4⟩
end
def adds (s : St) (ys : List Nat) : St := ys.foldl addSt s
theorem adds_snoc (s : St) (ys : List Nat) (k : Nat) (h : k < ys.length) : adds s (ys.take (k + 1)) = addSt (adds s (ys.take k)) (fd ys k) := by
  rw [take_snocF ys k h]; simp [adds, List.foldl_append]
set_option maxHeartbeats 8000000 in
theorem back_any (A : Option Addr) (cap : Nat) (xs : List Nat) (B : Option Addr) (capb : Nat) (ys : List Nat) (w : World) (hr : FReads w A xs) (h64 : Words64 xs) (hs : FReads w B ys) (k64 : Words64 ys) (hxl : xs.length ≤ 4611686018427387903) (hyl : ys.length ≤ 4611686018427387903) :
    Calls Try.prog 11 #[.slice A xs.length cap, .slice B ys.length capb] w fun e w' => e = .returned (.bool true) ∧ Below w.heap.size w w' := by
  have Hs := Lib.hid size30
  have aw := awake_any
  by_cases h40 : 40 < xs.length + ys.length
  · go_enter Try.func11, Try.ntmps11
    have hi : (40 : Int) < (xs.length : Int) + (ys.length : Int) := by omega
    go_wp2_with (go_at_call 13; (with_reducible refine (aw _).mono ?_); rintro e w1 ⟨rfl, b1⟩)
    go_ret
    exact ⟨rfl, below_trans (by assumption) b1⟩
  · have zz : ∀ w, (zeroValue 30).run Try.prog w = .ok (.agg (sumC noSt)) w := zero30
    have hof := fun w1 (b : Below w.heap.size w w1) => of_list A cap xs w1 (hr.below b) h64 (by omega)
    generalize sumOf xs = S at *
    have hbyt := fun w => bytes_any S w
    have hb8 := bytesOf_bytes S
    have hbl : (bytesOf S).length ≤ 281 := by
      have hn := trim_le (byt S.w) (restOf (sgOf S.w)) 280
      unfold bytesOf
      rw [List.length_cons, full_length]; omega
    have hread := fun (A9 : Option Addr) (c9 : Nat) (w1 : World) (h1 : (bytesOf S).length ≤ c9) (h2 : Reads w1 .u8 A9 (bytesOf S)) => read_any A9 c9 (bytesOf S) w1 h1 h2 hb8 (by omega)
    rw [read_back S, sum_back S] at hread
    have hsame := fun w => same_any S S rfl w
    have hi : ((xs.length : Int) + (ys.length : Int)) ≤ 40 := by omega
    have Hread := Lib.hid hread
    have Hys := Lib.hid (fun w1 (b : Below w.heap.size w w1) => hs.below b)
    have hyl2 : ys.length ≤ 40 := by omega
    clear hread hb8 hbl hr h64 hxl hyl hs h40
    go_enter Try.func11, Try.ntmps11
    go_upto_block 0 with (first
      | (go_at_call 13; (with_reducible refine (aw _).mono ?_); rintro e w1 ⟨rfl, b1⟩)
      | (go_at_call 16; (with_reducible refine (hof _ b1).mono ?_); rintro e w2 ⟨rfl, b2⟩)
      | (refine at_op (.alloc 30) ?_ rfl; first | (refine wpList_alloc_row rfl _ 30 rfl (some 5) rfl w2.heap.size rfl _ zz ?_) | (refine wpList_alloc_row rfl _ 30 rfl (some 6) rfl w6.heap.size rfl _ zz ?_))
      | (refine at_op (.store 30 (.tmp 5) (.tmp 21)) ?_ rfl; refine wpList_store_row rfl 30 (.tmp 5) (.tmp 21) rfl w2.heap.size (sumC S) rfl rfl 30 _ (heap_alloc_new w2 _) (by rw [sumC_size]; exact Hs.out) (by simp only [sumC_size]) (sumC_one _) ?_; rw [World.setRow_alloc_new]; have hg5 := Lib.hid (heap_alloc_new w2 (.cells (sumC S) 30)); have bb5 := below_alloc (below_trans b1 b2) (.cells (sumC S) 30); have hge5 := (below_trans b1 b2).size; generalize w2.heap.size = g5 at *; generalize w2.alloc (.cells (sumC S) 30) = w4 at *)
      | (refine at_op0 (.load 30 (.tmp 5)) ?_ rfl rfl; refine wpList_load_row rfl 30 (.tmp 5) rfl g5 rfl 30 _ (0, 0) _ hg5.out Try.underlying30 rfl (by rw [sumC_size]; exact Hs.out) ?_)
      | (go_at_call 31; (with_reducible refine (hbyt _).mono ?_); rintro e w5 ⟨v, rfl, ho, b5⟩; obtain ⟨A9, c9, rfl, hc9, q9⟩ := ho.form; have hrd := Hread.out A9 c9 w5 hc9 q9; have bw5 := below_trans bb5 b5; have i5 := Lib.hid ((b5.block g5 (heap_lt hg5.out)).trans hg5.out); clear ho q9)
      | (go_at_call 34; (with_reducible refine hrd.mono ?_); rintro e w6 ⟨rfl, b6⟩; have bw6 := below_trans bw5 b6; have j5 := Lib.hid ((b6.block g5 (heap_lt i5.out)).trans i5.out))
      | (refine at_op (.store 30 (.tmp 6) (.tmp 26)) ?_ rfl; refine wpList_store_row rfl 30 (.tmp 6) (.tmp 26) rfl w6.heap.size (sumC S) rfl rfl 30 _ (heap_alloc_new w6 _) (by rw [sumC_size]; exact Hs.out) (by simp only [sumC_size]) (sumC_one _) ?_; rw [World.setRow_alloc_new]; have k6 := Lib.hid (heap_alloc_new w6 (.cells (sumC S) 30)); have bb7 := below_alloc bw6 (.cells (sumC S) 30); have k5 := Lib.hid (((below_alloc (Below.refl w6.heap.size w6) (.cells (sumC S) 30)).block g5 (heap_lt j5.out)).trans j5.out); have hge6 := bw6.size; have hne : g5 < w6.heap.size := heap_lt j5.out; generalize w6.heap.size = g6 at *; generalize w6.alloc (.cells (sumC S) 30) = w7 at *)
      | (refine at_opG (.load 30 (.tmp 6)) (some (2, false)) ?_ rfl rfl; refine wpList_load_rowG rfl 30 (.tmp 6) rfl g6 rfl 30 _ (0, 0) _ k6.out Try.underlying30 rfl (by rw [sumC_size]; exact Hs.out) ?_)
      | (refine at_opG (.load 30 (.tmp 5)) (some (2, false)) ?_ rfl rfl; refine wpList_load_rowG rfl 30 (.tmp 5) rfl g5 rfl 30 _ (0, 0) _ k5.out Try.underlying30 rfl (by rw [sumC_size]; exact Hs.out) ?_)
      | (go_at_call 22; (with_reducible refine (hsame _).mono ?_); rintro e w8 ⟨rfl, b8⟩; have l5 := (b8.block g5 (heap_lt k5.out)).trans k5.out; have l6 := (b8.block g6 (heap_lt k6.out)).trans k6.out; have bb8 := below_trans bb7 b8; clear b8))
    have L5 := Lib.hid l5
    have L6 := Lib.hid l6
    have hz : adds S (ys.take 0) = S := rfl
    have Hz := Lib.hid hz
    clear l5 l6 hz hsame hof hbyt hrd aw zz
    go_wp2_with fail
    go_loopw [8] (fun i wr => ∃ k : Nat, k ≤ ys.length ∧ i = .int .i64 k ∧ wr.heap[g5]? = some (.cells (sumC (adds S (ys.take k))) 30 (0, 0)) ∧ wr.heap[g6]? = some (.cells (sumC (adds S (ys.take k))) 30 (0, 0)) ∧ Below w.heap.size w wr) (fun i _ => ys.length - (intOf i).toNat)
    case atStart => exact ⟨0, Nat.zero_le _, rfl, by rw [Hz.out]; exact L5.out, by rw [Hz.out]; exact L6.out, bb8⟩
    case round =>
      obtain ⟨k, hk, rfl, h5, h6, hb⟩ := hrel
      have H5 := Lib.hid h5
      have H6 := Lib.hid h6
      clear h5 h6
      by_cases hlt : k < ys.length
      · obtain ⟨a, rfl, c0⟩ := (Hys.out wr hb) k hlt
        have hadd := fun w => add_any (adds S (ys.take k)) (fd ys k) w (k64 k hlt)
        have hsn := adds_snoc S ys k hlt
        rw [← hsn] at hadd
        obtain ⟨F', hF'⟩ : ∃ F', adds S (ys.take (k + 1)) = F' := ⟨_, rfl⟩
        rw [hF'] at hadd
        have HF := Lib.hid hF'
        clear hF' hsn
        generalize adds S (ys.take k) = F at *
        have HL := Lib.hid (run_loadCellsFrom_row (P := Try.prog) wr.drew g5 30 (sumC F) (0, 0) H5.out 40 (sumC_size F))
        have b5d := fun w4 (b4 : Below wr.drew.heap.size wr.drew w4) => (b4.block _ (heap_lt H5.out)).trans H5.out
        have b6d := fun w4 (b4 : Below wr.drew.heap.size wr.drew w4) => (b4.block _ (heap_lt H6.out)).trans H6.out
        generalize hX : fd ys k = x at *
        have HX := Lib.hid hX
        clear hX
        clear k64
        go_upto_region 10 with fail
        go_region_with (first
          | (rw [Try.isAgg30]; simp only [Result.andThen_ok, if_true, run_sizeOf_info Hs.out, HL.out])
          | (go_at_call 20; (with_reducible refine (hadd _).mono ?_); rintro e w9 ⟨rfl, b9⟩)
          | (rw [run_sizeOf_info Hs.out]; simp only [Result.andThen_ok, if_true, sumC_size, run_storeCells_row w9 g5 30 (sumC F) (sumC F') (b5d w9 b9) (by rw [sumC_size]; exact Hs.out) (by simp only [sumC_size]) (sumC_one _)]))
        all_goals
          have n5 := Lib.hid (setRow_heap _ _ _ (sumC F') _ _ (b5d w9 b9))
          have n6 := Lib.hid ((setRow_other w9 g5 g6 (sumC F') (by omega)).trans (b6d w9 b9))
          have bb9 := below_setRow (below_trans hb.drew b9) hge5 (sumC F')
          have c10 : (w9.setRow g5 (sumC F')).cell? (a.add k) = some (.float .f64 x) := by
            obtain ⟨a2, e2, c11⟩ := (Hys.out _ bb9) k hlt
            cases e2
            rw [HX.out] at c11
            exact c11
          clear HL b5d b6d b9
          generalize w9.setRow g5 (sumC F') = w10 at *
          have HL := Lib.hid (run_loadCellsFrom_row (P := Try.prog) w10.drew g6 30 (sumC F) (0, 0) n6.out 40 (sumC_size F))
          have b5d := fun w4 (b4 : Below w10.drew.heap.size w10.drew w4) => (b4.block _ (heap_lt n5.out)).trans n5.out
          have b6d := fun w4 (b4 : Below w10.drew.heap.size w10.drew w4) => (b4.block _ (heap_lt n6.out)).trans n6.out
          go_upto_region 11 with fail
          go_region_with (first
            | (rw [Try.isAgg30]; simp only [Result.andThen_ok, if_true, run_sizeOf_info Hs.out, HL.out])
            | (go_at_call 20; (with_reducible refine (hadd _).mono ?_); rintro e w11 ⟨rfl, b11⟩)
            | (rw [run_sizeOf_info Hs.out]; simp only [Result.andThen_ok, if_true, sumC_size, run_storeCells_row w11 g6 30 (sumC F) (sumC F') (b6d w11 b11) (by rw [sumC_size]; exact Hs.out) (by simp only [sumC_size]) (sumC_one _)]))
          all_goals
            have p6 := Lib.hid (setRow_heap _ _ _ (sumC F') _ _ (b6d w11 b11))
            have p5 := Lib.hid ((setRow_other w11 g6 g5 (sumC F') (by omega)).trans (b5d w11 b11))
            have bb11 := below_setRow (below_trans bb9.drew b11) hge6 (sumC F')
            clear HL b5d b6d b11
            generalize w11.setRow g6 (sumC F') = w12 at *
            go_wp2_with fail
            exact ⟨⟨k + 1, by omega, by go_num, by rw [HF.out]; exact p5.out, by rw [HF.out]; exact p6.out, bb11⟩, by simp [intOf]; omega⟩
      · obtain rfl : k = ys.length := by omega
        have hsame := fun w => same_any (adds S (ys.take ys.length)) (adds S (ys.take ys.length)) rfl w
        generalize adds S (ys.take ys.length) = F at *
        go_wp2_with (first
          | (refine at_op0 (.load 30 (.tmp 6)) ?_ rfl rfl; refine wpList_load_row rfl 30 (.tmp 6) rfl g6 rfl 30 _ (0, 0) _ H6.out Try.underlying30 rfl (by rw [sumC_size]; exact Hs.out) ?_)
          | (refine at_op0 (.load 30 (.tmp 5)) ?_ rfl rfl; refine wpList_load_row rfl 30 (.tmp 5) rfl g5 rfl 30 _ (0, 0) _ H5.out Try.underlying30 rfl (by rw [sumC_size]; exact Hs.out) ?_)
          | (go_at_call 22; (with_reducible refine (hsame _).mono ?_); rintro e w13 ⟨rfl, b13⟩))
        go_ret
        exact ⟨rfl, below_trans hb b13⟩
theorem back_walk (W : World) (A : Option Addr) (cap : Nat) (xs : List Nat) (hc : xs.length ≤ cap) (hl : cap ≤ maxLen ∧ xs.length * 8 ≤ 140737488351232) (hr : FReads W A xs) (hw : Words64 xs)
    (B : Option Addr) (capb : Nat) (ys : List Nat) (hcb : ys.length ≤ capb) (hlb : capb ≤ maxLen ∧ ys.length * 8 ≤ 140737488351232) (hrb : FReads W B ys) (hwb : Words64 ys) :
    Calls Try.prog 11 #[.slice A xs.length cap, .slice B ys.length capb] W fun e w' => e = .returned (.bool true) ∧ Below W.heap.size W w' :=
  back_any A cap xs B capb ys W hr hw hrb hwb (by omega) (by omega)
end Go.Proofs.Ytejkilgpcbdepaa
