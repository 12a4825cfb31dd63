import Derived.Test.YtjmllggjaplldaaAp
import Derived.Test.YtjmllggjaplldaaOa
import Derived.Test.YtjmllggjaplldaaAg
import Derived.Deep.DeepCutAuto
import Derived.Deep.CutBlock
/-! In whichever order values come, and however they are grouped: the law. -/
namespace Go.Proofs.Ytjmllggjaplldaa
open Go.RowKit
set_option linter.unusedVariables false
attribute [-simp] Try.isAgg30 Try.sizeOf30 Try.typeInfo30 Try.type30
attribute [-simp] Try.isAgg32 Try.sizeOf32 Try.typeInfo32 Try.type32
attribute [-simp] Try.isAgg27 Try.sizeOf27 Try.typeInfo27 Try.type27

/-- The one that stands ahead of all, of those that there are. -/
def isLo (xs : List Nat) (c : Nat) : Prop := (∃ x ∈ xs, c = canon x) ∧ ∀ x ∈ xs, ¬ rank x < rank c
def isHi (xs : List Nat) (c : Nat) : Prop := (∃ x ∈ xs, c = canon x) ∧ ∀ x ∈ xs, ¬ rank c < rank x
theorem mem_fd (xs : List Nat) (i : Nat) (h : i < xs.length) : fd xs i ∈ xs := by rw [fd_eq xs i h]; exact List.getElem_mem h
theorem fd_mem {xs : List Nat} {x : Nat} (h : x ∈ xs) : ∃ i, i < xs.length ∧ fd xs i = x := by
  obtain ⟨i, hi, e⟩ := List.getElem_of_mem h
  exact ⟨i, hi, by rw [fd_eq xs i hi]; exact e⟩
theorem lo_is (xs : List Nat) (h0 : 0 < xs.length) : isLo xs (canon (loR xs xs.length)) := by
  obtain ⟨i, hi, e⟩ := loR_mem xs h0 xs.length (Nat.le_refl _)
  refine ⟨⟨_, mem_fd xs i hi, by rw [e]⟩, fun x hx => ?_⟩
  obtain ⟨j, hj, rfl⟩ := fd_mem hx
  rw [rank_canon]
  exact loR_le xs _ (Nat.le_refl _) j hj
theorem hi_is (xs : List Nat) (h0 : 0 < xs.length) : isHi xs (canon (hiR xs xs.length)) := by
  obtain ⟨i, hi, e⟩ := hiR_mem xs h0 xs.length (Nat.le_refl _)
  refine ⟨⟨_, mem_fd xs i hi, by rw [e]⟩, fun x hx => ?_⟩
  obtain ⟨j, hj, rfl⟩ := fd_mem hx
  rw [rank_canon]
  exact hiR_le xs _ (Nat.le_refl _) j hj
theorem lo_unique {xs ys : List Nat} {c d : Nat} (hxs : ∀ x ∈ xs, x < 18446744073709551616) (hm : ∀ x, x ∈ xs ↔ x ∈ ys) (hc : isLo xs c) (hd : isLo ys d) : c = d := by
  obtain ⟨⟨x, hx, rfl⟩, h1⟩ := hc
  obtain ⟨⟨y, hy, rfl⟩, h2⟩ := hd
  have a := h1 y ((hm y).2 hy)
  have b := h2 x ((hm x).1 hx)
  rw [rank_canon] at a b
  exact rank_inj (hxs x hx) (hxs y ((hm y).2 hy)) (by omega)
theorem hi_unique {xs ys : List Nat} {c d : Nat} (hxs : ∀ x ∈ xs, x < 18446744073709551616) (hm : ∀ x, x ∈ xs ↔ x ∈ ys) (hc : isHi xs c) (hd : isHi ys d) : c = d := by
  obtain ⟨⟨x, hx, rfl⟩, h1⟩ := hc
  obtain ⟨⟨y, hy, rfl⟩, h2⟩ := hd
  have a := h1 y ((hm y).2 hy)
  have b := h2 x ((hm x).1 hx)
  rw [rank_canon] at a b
  exact rank_inj (hxs x hx) (hxs y ((hm y).2 hy)) (by omega)
theorem lo_join {xs ys : List Nat} {c d : Nat} (hc : isLo xs c) (hd : isLo ys d) : isLo (xs ++ ys) (minOf c d) := by
  obtain ⟨⟨x, hx, rfl⟩, h1⟩ := hc
  obtain ⟨⟨y, hy, rfl⟩, h2⟩ := hd
  unfold minOf
  rw [canon_canon, canon_canon]
  split
  · rename_i h
    refine ⟨⟨y, List.mem_append_right _ hy, rfl⟩, fun z hz => ?_⟩
    rcases List.mem_append.1 hz with hz | hz
    · have := h1 z hz; omega
    · exact h2 z hz
  · rename_i h
    refine ⟨⟨x, List.mem_append_left _ hx, rfl⟩, fun z hz => ?_⟩
    rcases List.mem_append.1 hz with hz | hz
    · exact h1 z hz
    · have := h2 z hz; omega
theorem hi_join {xs ys : List Nat} {c d : Nat} (hc : isHi xs c) (hd : isHi ys d) : isHi (xs ++ ys) (maxOf c d) := by
  obtain ⟨⟨x, hx, rfl⟩, h1⟩ := hc
  obtain ⟨⟨y, hy, rfl⟩, h2⟩ := hd
  unfold maxOf
  rw [canon_canon, canon_canon]
  split
  · rename_i h
    refine ⟨⟨y, List.mem_append_right _ hy, rfl⟩, fun z hz => ?_⟩
    rcases List.mem_append.1 hz with hz | hz
    · have := h1 z hz; omega
    · exact h2 z hz
  · rename_i h
    refine ⟨⟨x, List.mem_append_left _ hx, rfl⟩, fun z hz => ?_⟩
    rcases List.mem_append.1 hz with hz | hz
    · exact h1 z hz
    · have := h2 z hz; omega
theorem words_mem {xs : List Nat} (h : Words64 xs) : ∀ x ∈ xs, x < 18446744073709551616 := fun x hx => by
  obtain ⟨i, hi, rfl⟩ := fd_mem hx
  exact h i hi
theorem asOf_join (xs ys : List Nat) (h64 : Words64 (xs ++ ys)) (hl : (xs ++ ys).length < 18446744073709551616) : joinAS (asOf xs) (asOf ys) = asOf (xs ++ ys) := by
  have hl2 := hl
  rw [List.length_append] at hl2
  by_cases hx : xs.length = 0
  · obtain rfl := List.eq_nil_of_length_eq_zero hx
    exact no_join _
  by_cases hy : ys.length = 0
  · obtain rfl := List.eq_nil_of_length_eq_zero hy
    rw [List.append_nil]
    exact join_no xs (by omega)
  · rw [asOf_all xs hx (by omega), asOf_all ys hy (by omega), asOf_all (xs ++ ys) (by rw [List.length_append]; omega) hl]
    unfold joinAS
    simp only
    rw [if_neg hx, if_neg hy, sumOf_append, lo_unique (words_mem h64) (fun _ => Iff.rfl) (lo_join (lo_is xs (by omega)) (lo_is ys (by omega))) (lo_is (xs ++ ys) (by rw [List.length_append]; omega)),
      hi_unique (words_mem h64) (fun _ => Iff.rfl) (hi_join (hi_is xs (by omega)) (hi_is ys (by omega))) (hi_is (xs ++ ys) (by rw [List.length_append]; omega)), List.length_append, Nat.mod_eq_of_lt (by omega)]
theorem asOf_perm {xs ys : List Nat} (h : ys.Perm xs) (h64 : Words64 xs) (hl : xs.length < 18446744073709551616) : asOf ys = asOf xs := by
  have hle := h.length_eq
  by_cases hx : xs.length = 0
  · obtain rfl := List.eq_nil_of_length_eq_zero hx
    obtain rfl := List.eq_nil_of_length_eq_zero (hle.trans hx)
    rfl
  · have hm : ∀ x, x ∈ xs ↔ x ∈ ys := fun x => h.symm.mem_iff
    rw [asOf_all xs hx hl, asOf_all ys (by omega) (by omega), sumOf_perm h, hle, lo_unique (words_mem h64) hm (lo_is xs (by omega)) (lo_is ys (by omega)), hi_unique (words_mem h64) hm (hi_is xs (by omega)) (hi_is ys (by omega)), hle]
theorem asOf_cut (xs ys : List Nat) (h : ys.Perm xs) (h64 : Words64 xs) (hl : xs.length < 18446744073709551616) (k : Nat) : joinAS (asOf (ys.take k)) (asOf (ys.drop k)) = asOf xs := by
  rw [asOf_join _ _ (by rw [List.take_append_drop]; exact h64.perm h) (by rw [List.take_append_drop, h.length_eq]; exact hl), List.take_append_drop]
  exact asOf_perm h h64 hl
theorem as_len {A : Option Addr} {cap n : Nat} {xs : List Nat} {w : World} {R : Ending → World → Prop} (h : xs.length = n) (k : Calls Try.prog 11 #[.slice A xs.length cap] w R) : Calls Try.prog 11 #[.slice A n cap] w R := h ▸ k
set_option maxRecDepth 100000 in
set_option maxHeartbeats 16000000 in
theorem aggOrder_any (A : Option Addr) (cap : Nat) (xs : List Nat) (B : Option Addr) (capb : Nat) (bs : List Int) (c : Int) (w : World) (hcp : xs.length ≤ cap) (hr : FReads w A xs) (h64 : Words64 xs) (hxl : xs.length ≤ 9223372036854775807)
    (hbr : Reads w .u8 B bs) (hb8 : Bytes8 bs) (hbl : bs.length ≤ 9223372036854775807) (hc : 0 ≤ c ∧ c ≤ 255) :
    Calls Try.prog 6 #[.slice A xs.length cap, .slice B bs.length capb, .int .u8 c] w fun e w' => e = .returned (.bool true) ∧ Below w.heap.size w w' := by
  have Hs := Lib.hid sizeState
  have aw := awake12_any
  by_cases h30 : 30 < xs.length
  · go_enter Try.func6, Try.ntmps6
    have hi : (30 : Int) < (xs.length : Int) := by omega
    go_wp2_with (go_at_call 10; (with_reducible refine (aw _).mono ?_); rintro e w1 ⟨rfl, b1⟩)
    go_ret
    exact ⟨rfl, below_trans (by assumption) b1⟩
  have hla := fun w => lay_new (asOf xs) w (asOf_okA xs h64)
  have hte := fun w => tell_as (asOf xs) w (asOf_okA xs h64)
  have hsm := fun w => refAggSame_any (tellAS (asOf xs)) (tellAS (asOf xs)) w (tellAS_ok (asOf_okA xs h64)) (tellAS_ok (asOf_okA xs h64))
  rw [sameAV_self] at hsm
  obtain ⟨L, hL⟩ : ∃ L, L = layAS (asOf xs) := ⟨_, rfl⟩
  rw [← hL] at hla
  clear hL
  obtain ⟨ss, hss⟩ : ∃ ss, ss = strOfNums L := ⟨_, rfl⟩
  have Hss := Lib.hid hss
  obtain ⟨D, hD⟩ : ∃ D, D = avC (tellAS (asOf xs)) := ⟨_, rfl⟩
  rw [← hD] at hte hsm
  obtain ⟨C, hC⟩ : ∃ C, C = asC (asOf xs) := ⟨_, rfl⟩
  have hC1 : C.size = 43 := by rw [hC]; exact asC_size _
  have hC2 : C.all (·.oneCell') = true := by rw [hC]; exact asC_one _
  rw [← hC] at hla hte
  obtain ⟨Z, hZ, zz⟩ : ∃ Z : Array Value, Z.size = 43 ∧ ∀ w, (zeroValue 32).run Try.prog w = .ok (.agg Z) w := ⟨_, asC_size _, zeroState⟩
  clear hss hD
  by_cases h0 : xs.length = 0
  · obtain rfl : xs = [] := List.eq_nil_of_length_eq_zero h0
    clear h0 h30
    have hjoin := fun w1 => join_as (asOf []) (asOf []) w1 (asOf_okA _ h64) (asOf_okA _ h64)
    rw [show joinAS (asOf []) (asOf []) = asOf [] from no_join _, ← hC] at hjoin
    have hofA' := fun w1 (b : Below w.heap.size w w1) => as_len (n := 0) rfl (of_as A cap [] w1 (hr.below b) h64 (by simp))
    have hof := fun w1 => as_len (n := 0) rfl (of_as none 0 [] w1 (FReads.nil w1 none) h64 (by simp))
    rw [← hC] at hofA' hof
    clear h64 hr hxl hcp hc hC
    have hz : bs.length = 0 ∨ 0 < bs.length := by omega
    cases A
    all_goals
      go_enter Try.func6, Try.ntmps6
      go_upto_block 0 with (first
        | (go_at_call 10; (with_reducible refine (aw _).mono ?_); rintro e w1 ⟨rfl, b1⟩))
      go_cut [8] (fun i wr => i = .int .i64 0 ∧ Below w.heap.size w wr)
      case first =>
        go_wp2_with fail
        go_loopw [8] (fun i wr => i = .int .i64 0 ∧ Below w.heap.size w wr) (fun _ _ => 0)
        case atStart => exact ⟨rfl, b1⟩
        case round =>
          obtain ⟨rfl, hb⟩ := hrel
          clear b1
          rcases hz with hz | hz
          all_goals
            go_wp2_with fail
            go_meet
            exact ⟨rfl, hb⟩
      case rest =>
        obtain ⟨rfl, hb⟩ := hcut
        have hofA := hofA' wc hb
        obtain ⟨C1, hC1'⟩ : ∃ C1, C1 = C := ⟨_, rfl⟩
        obtain ⟨C2, hC2'⟩ : ∃ C2, C2 = C := ⟨_, rfl⟩
        have hof1 : ∀ w1, Below wc.heap.size wc w1 → Calls Try.prog 11 #[.slice none 0 0] w1 fun e w' => e = .returned (.agg C1) ∧ Below w1.heap.size w1 w' := fun w1 _ => by rw [hC1']; exact hof w1
        have hof2 : ∀ w1, Below wc.heap.size wc w1 → Calls Try.prog 11 #[.slice none 0 0] w1 fun e w' => e = .returned (.agg C2) ∧ Below w1.heap.size w1 w' := fun w1 _ => by rw [hC2']; exact hof w1
        have hjoin : ∀ w1, Calls Try.prog 22 #[.agg C1, .agg C2] w1 fun e w' => e = .returned (.agg C) ∧ Below w1.heap.size w1 w' := by rw [hC1', hC2']; exact hjoin
        clear hC1' hC2' hof hofA' aw
        go_upto_region 16 with (first
          | (go_at_call 11; (with_reducible refine hofA.mono ?_); rintro e w3 ⟨rfl, b3⟩)
          | (refine at_op (.alloc 32) ?_ rfl; refine wpList_alloc_row rfl _ 32 rfl (some 12) rfl w3.heap.size rfl Z zz ?_)
          | (refine at_op (.store 32 (.tmp 12) (.tmp 70)) ?_ rfl; refine wpList_store_row rfl 32 (.tmp 12) (.tmp 70) rfl w3.heap.size C rfl rfl 32 Z (heap_alloc_new w3 _) (by rw [hC1]; exact Hs.out) (by rw [hZ, hC1]) hC2 ?_; rw [World.setRow_alloc_new]; have hg5 := Lib.hid (heap_alloc_new w3 (.cells C 32)); have bb5 := below_alloc b3 (.cells C 32); generalize w3.heap.size = g5 at *; generalize w3.alloc (.cells C 32) = w4 at *))
        have bbw := below_trans hb bb5
        have hgl5 := heap_lt hg5.out
        have hof1 := fun w1 (b : Below w4.heap.size w4 w1) => hof1 w1 (below_trans bb5 b)
        have hof2 := fun w1 (b : Below w4.heap.size w4 w1) => hof2 w1 (below_trans bb5 b)
        have ZZ := Lib.hid zz
        clear zz hofA b3
        go_frame
        go_cut [13] (fun v wr => ∃ g6, v = .pointer (some ⟨g6, 0, none⟩) ∧ wr.heap[g5]? = some (.cells C 32 (0, 0)) ∧ wr.heap[g6]? = some (.cells C 32 (0, 0)) ∧ Below w.heap.size w wr)
        case first =>
            obtain ⟨CV, hCV⟩ : ∃ CV : Nat → Value, CV = fun j => match j with
              | 0 => .slice none 0 0
              | 1 => .int .i64 0
              | 2 => .slice none 0 0
              | 3 => .agg C1
              | 4 => .slice none 0 0
              | 5 => .int .i64 0
              | 6 => .slice none 0 0
              | 7 => .agg C2
              | 8 => .agg C
              | 9 => undef
              | 10 => undef
              | _ => undef := ⟨_, rfl⟩
            have v0 : CV 0 = .slice none 0 0 := congrFun hCV 0
            have o0 : 0 ≠ 9 ∧ 0 ≠ 9 + 1 := by decide
            have v1 : CV 1 = .int .i64 0 := congrFun hCV 1
            have o1 : 1 ≠ 9 ∧ 1 ≠ 9 + 1 := by decide
            have v2 : CV 2 = .slice none 0 0 := congrFun hCV 2
            have o2 : 2 ≠ 9 ∧ 2 ≠ 9 + 1 := by decide
            have v3 : CV 3 = .agg C1 := congrFun hCV 3
            have o3 : 3 ≠ 9 ∧ 3 ≠ 9 + 1 := by decide
            have v4 : CV 4 = .slice none 0 0 := congrFun hCV 4
            have o4 : 4 ≠ 9 ∧ 4 ≠ 9 + 1 := by decide
            have v5 : CV 5 = .int .i64 0 := congrFun hCV 5
            have o5 : 5 ≠ 9 ∧ 5 ≠ 9 + 1 := by decide
            have v6 : CV 6 = .slice none 0 0 := congrFun hCV 6
            have o6 : 6 ≠ 9 ∧ 6 ≠ 9 + 1 := by decide
            have v7 : CV 7 = .agg C2 := congrFun hCV 7
            have o7 : 7 ≠ 9 ∧ 7 ≠ 9 + 1 := by decide
            have v8 : CV 8 = .agg C := congrFun hCV 8
            have o8 : 8 ≠ 9 ∧ 8 ≠ 9 + 1 := by decide
            have v9 : CV 9 = undef := congrFun hCV 9
            have v10 : CV 10 = undef := congrFun hCV 10
            clear hCV
            have V0 := Lib.hid v0
            have V1 := Lib.hid v1
            have V2 := Lib.hid v2
            have V3 := Lib.hid v3
            have V4 := Lib.hid v4
            have V5 := Lib.hid v5
            have V6 := Lib.hid v6
            have V7 := Lib.hid v7
            have V8 := Lib.hid v8
            have V9 := Lib.hid v9
            have V10 := Lib.hid v10
            clear v0 v1 v2 v3 v4 v5 v6 v7 v8 v9 v10
            refine region_run (RegA w4 9 (Z) (C) 32 CV) (by kernel_rfl) (by kernel_rfl) (by kernel_rfl) (by kernel_rfl) (RegA.start w4 11) ?_ ?_
            · intro listed vals a1 wq i hs hcl hI hR hi hu hr1
              replace hi : i < 11 := hi
              replace hs : listed.size = 11 := hs
              obtain rfl | hi1 : i = 0 ∨ 1 ≤ i := by omega
              · have t7 := hR.fixed 7 (by kernel_rfl) rfl
                clear hof1 hof2 hjoin
                exact wpOp_val rfl rfl (by rw [V0.out]; go_simp) ⟨_, rfl, hI.keep (Below.refl _ _) 0 o0⟩
              obtain rfl | hi1 : i = 1 ∨ 2 ≤ i := by omega
              · have t11 := hR.fixed 11 (by kernel_rfl) rfl
                clear hof1 hof2 hjoin
                exact wpOp_val rfl rfl (by rw [V1.out]; go_simp) ⟨_, rfl, hI.keep (Below.refl _ _) 1 o1⟩
              obtain rfl | hi1 : i = 2 ∨ 3 ≤ i := by omega
              · have t71 : a1.tmps[71]? = some (.slice none 0 0) := hI.get hR hr1 0 o0 (by kernel_rfl) (by decide) rfl V0.out
                have t72 : a1.tmps[72]? = some (.int .i64 0) := hI.get hR hr1 1 o1 (by kernel_rfl) (by decide) rfl V1.out
                clear hof1 hof2 hjoin
                exact wpOp_val rfl rfl (by rw [V2.out]; go_simp) ⟨_, rfl, hI.keep (Below.refl _ _) 2 o2⟩
              obtain rfl | hi1 : i = 3 ∨ 4 ≤ i := by omega
              · have t73 : a1.tmps[73]? = some (.slice none 0 0) := hI.get hR hr1 2 o2 (by kernel_rfl) (by decide) rfl V2.out
                have hc1 := hof1 wq hI.b
                clear hof1 hof2 hjoin
                refine wpOp_calls (f := 11) (args := #[.slice none 0 0]) rfl rfl (by go_simp) (hc1.mono ?_)
                rintro e wz ⟨rfl, b⟩
                exact ⟨_, rfl, _, rfl, hI.keepV b 3 o3 V3.out⟩
              obtain rfl | hi1 : i = 4 ∨ 5 ≤ i := by omega
              · have t7 := hR.fixed 7 (by kernel_rfl) rfl
                clear hof1 hof2 hjoin
                exact wpOp_val rfl rfl (by rw [V4.out]; go_simp) ⟨_, rfl, hI.keep (Below.refl _ _) 4 o4⟩
              obtain rfl | hi1 : i = 5 ∨ 6 ≤ i := by omega
              · have t11 := hR.fixed 11 (by kernel_rfl) rfl
                clear hof1 hof2 hjoin
                exact wpOp_val rfl rfl (by rw [V5.out]; go_simp) ⟨_, rfl, hI.keep (Below.refl _ _) 5 o5⟩
              obtain rfl | hi1 : i = 6 ∨ 7 ≤ i := by omega
              · have t75 : a1.tmps[75]? = some (.slice none 0 0) := hI.get hR hr1 4 o4 (by kernel_rfl) (by decide) rfl V4.out
                have t76 : a1.tmps[76]? = some (.int .i64 0) := hI.get hR hr1 5 o5 (by kernel_rfl) (by decide) rfl V5.out
                clear hof1 hof2 hjoin
                exact wpOp_val rfl rfl (by rw [V6.out]; go_simp) ⟨_, rfl, hI.keep (Below.refl _ _) 6 o6⟩
              obtain rfl | hi1 : i = 7 ∨ 8 ≤ i := by omega
              · have t77 : a1.tmps[77]? = some (.slice none 0 0) := hI.get hR hr1 6 o6 (by kernel_rfl) (by decide) rfl V6.out
                have hc1 := hof2 wq hI.b
                clear hof1 hof2 hjoin
                refine wpOp_calls (f := 11) (args := #[.slice none 0 0]) rfl rfl (by go_simp) (hc1.mono ?_)
                rintro e wz ⟨rfl, b⟩
                exact ⟨_, rfl, _, rfl, hI.keepV b 7 o7 V7.out⟩
              obtain rfl | hi1 : i = 8 ∨ 9 ≤ i := by omega
              · have t74 : a1.tmps[74]? = some (.agg C1) := hI.get hR hr1 3 o3 (by kernel_rfl) (by decide) rfl V3.out
                have t78 : a1.tmps[78]? = some (.agg C2) := hI.get hR hr1 7 o7 (by kernel_rfl) (by decide) rfl V7.out
                have hc1 := hjoin wq
                clear hof1 hof2 hjoin
                refine wpOp_calls (f := 22) (args := #[.agg C1, .agg C2]) rfl rfl (by go_simp) (hc1.mono ?_)
                rintro e wz ⟨rfl, b⟩
                exact ⟨_, rfl, _, rfl, hI.keepV b 8 o8 V8.out⟩
              obtain rfl | hi1 : i = 9 ∨ 10 ≤ i := by omega
              · have hn := unlisted (n := 10) hcl hu (by kernel_rfl)
                exact wpOp_alloc rfl rfl 32 rfl _ ZZ.out ⟨_, rfl, hI.alloc (by omega) hn⟩
              obtain rfl : i = 10 := by omega
              have t79 : a1.tmps[79]? = some (.agg C) := hI.get hR hr1 8 o8 (by kernel_rfl) (by decide) rfl V8.out
              obtain ⟨g6, e6, hg6, hh⟩ := hI.al (dep_of hr1 (by kernel_rfl))
              have t13 : a1.tmps[13]? = some (vals 9) := hR.dep hr1 9 (by kernel_rfl) (by decide) rfl
              rw [e6] at t13
              exact wpOp_of_wp rfl rfl (wp_store_row 32 (.tmp 13) (.tmp 79) rfl g6 (C) (getD_is t13) (getD_is t79) 32 _ hh (by rw [hC1]; exact Hs.out) (by rw [hC1]; split <;> first | exact hC1 | exact hZ) hC2 ⟨undef, rfl, hI.store (by omega) hg6 e6 hh⟩)
            · intro listed vals wq FF hI hall hFF
              obtain ⟨g6, e6, hg6, hh6⟩ := hI.al (hall 9 (by decide))
              rw [if_pos (hall 10 (by decide))] at hh6
              have hF2 : FF = ((((((((((Act.put _ (some 71) (vals 0)).put (some 72) (vals 1)).put (some 73) (vals 2)).put (some 74) (vals 3)).put (some 75) (vals 4)).put (some 76) (vals 5)).put (some 77) (vals 6)).put (some 78) (vals 7)).put (some 79) (vals 8)).put (some 13) (vals 9)).put none (vals 10) := hFF
              simp only [putAll] at hF2
              rw [hF2]
              have bfin := hI.b
              clear hF2 hFF hall
              rw [e6]
              go_frame
              go_wp2_with fail
              go_meet
              exact ⟨g6, rfl, (hI.b.block g5 hgl5).trans hg5.out, hh6, below_trans bbw hI.b⟩
        case rest =>
          obtain ⟨g6, rfl, h5, h6, hb6⟩ := hcut
          have K5 := Lib.hid h5
          have K6 := Lib.hid h6
          clear h5 h6 hof1 hof2 hjoin hg5 hgl5 bbw bb5 ZZ
          go_wp2_with fail
          obtain ⟨CV, hCV⟩ : ∃ CV : Nat → Value, CV = fun j => match j with
            | 0 => .agg C
            | 1 => .agg D
            | 2 => .agg C
            | 3 => .agg D
            | 4 => .bool true
            | 5 => .bool true
            | 6 => .agg C
            | 8 => .string ss
            | 9 => .agg C
            | 11 => .string ss
            | 12 => .bool true
            | 13 => .bool true
            | 14 => .bool true
            | _ => undef := ⟨_, rfl⟩
          obtain ⟨isO, hO⟩ : ∃ isO : Nat → Bool, isO = fun j => match j with
            | 7 => true
            | 10 => true
            | _ => false := ⟨_, rfl⟩
          obtain ⟨BL, hBL⟩ : ∃ BL : Nat → List Int, BL = fun j => match j with
            | 7 => L
            | 10 => L
            | _ => [] := ⟨_, rfl⟩
          have v0 : CV 0 = .agg C := congrFun hCV 0
          have o0 : isO 0 = false := congrFun hO 0
          have v1 : CV 1 = .agg D := congrFun hCV 1
          have o1 : isO 1 = false := congrFun hO 1
          have v2 : CV 2 = .agg C := congrFun hCV 2
          have o2 : isO 2 = false := congrFun hO 2
          have v3 : CV 3 = .agg D := congrFun hCV 3
          have o3 : isO 3 = false := congrFun hO 3
          have v4 : CV 4 = .bool true := congrFun hCV 4
          have o4 : isO 4 = false := congrFun hO 4
          have v5 : CV 5 = .bool true := congrFun hCV 5
          have o5 : isO 5 = false := congrFun hO 5
          have v6 : CV 6 = .agg C := congrFun hCV 6
          have o6 : isO 6 = false := congrFun hO 6
          have o7 : isO 7 = true := congrFun hO 7
          have l7 : BL 7 = L := congrFun hBL 7
          have v8 : CV 8 = .string ss := congrFun hCV 8
          have o8 : isO 8 = false := congrFun hO 8
          have v9 : CV 9 = .agg C := congrFun hCV 9
          have o9 : isO 9 = false := congrFun hO 9
          have o10 : isO 10 = true := congrFun hO 10
          have l10 : BL 10 = L := congrFun hBL 10
          have v11 : CV 11 = .string ss := congrFun hCV 11
          have o11 : isO 11 = false := congrFun hO 11
          have v12 : CV 12 = .bool true := congrFun hCV 12
          have o12 : isO 12 = false := congrFun hO 12
          have v13 : CV 13 = .bool true := congrFun hCV 13
          have o13 : isO 13 = false := congrFun hO 13
          have v14 : CV 14 = .bool true := congrFun hCV 14
          have o14 : isO 14 = false := congrFun hO 14
          clear hCV hO hBL
          have V0 := Lib.hid v0
          have V1 := Lib.hid v1
          have V2 := Lib.hid v2
          have V3 := Lib.hid v3
          have V4 := Lib.hid v4
          have V5 := Lib.hid v5
          have V6 := Lib.hid v6
          have LL7 := Lib.hid l7
          have V8 := Lib.hid v8
          have V9 := Lib.hid v9
          have LL10 := Lib.hid l10
          have V11 := Lib.hid v11
          have V12 := Lib.hid v12
          have V13 := Lib.hid v13
          have V14 := Lib.hid v14
          clear v0 v1 v2 v3 v4 v5 v6 l7 v8 v9 l10 v11 v12 v13 v14
          refine region_run (RegI wc isO BL CV) (by kernel_rfl) (by kernel_rfl) (by kernel_rfl) (by kernel_rfl) (RegI.start wc 15) ?_ ?_
          · intro listed vals a1 wq i hs hcl hI hR hi hu hr1
            replace hi : i < 15 := hi
            obtain rfl | hi1 : i = 0 ∨ 1 ≤ i := by omega
            · have t12 := hR.fixed 12 (by kernel_rfl) rfl
              have kk := (hI.b.block _ (heap_lt K5.out)).trans K5.out
              exact wpOp_of_wp rfl rfl (wp_load_row 32 (.tmp 12) rfl g5 (getD_is t12) 32 C (0, 0) _ kk Try.underlying32 rfl (by rw [hC1]; exact Hs.out) ⟨_, rfl, hI.keepV (Below.refl _ _) 0 o0 V0.out⟩)
            obtain rfl | hi1 : i = 1 ∨ 2 ≤ i := by omega
            · have t80 : a1.tmps[80]? = some (.agg C) := hI.get hR hr1 0 o0 (by kernel_rfl) (by decide) rfl V0.out
              have hc1 := hte wq
              clear hla hte hsm
              refine wpOp_calls (f := 12) (args := #[.agg C]) rfl rfl (by go_simp) (hc1.mono ?_)
              rintro e wz ⟨rfl, b⟩
              exact ⟨_, rfl, _, rfl, hI.keepV b 1 o1 V1.out⟩
            obtain rfl | hi1 : i = 2 ∨ 3 ≤ i := by omega
            · have t13 := hR.fixed 13 (by kernel_rfl) rfl
              have kk := (hI.b.block _ (heap_lt K6.out)).trans K6.out
              exact wpOp_of_wp rfl rfl (wp_load_row 32 (.tmp 13) rfl g6 (getD_is t13) 32 C (0, 0) _ kk Try.underlying32 rfl (by rw [hC1]; exact Hs.out) ⟨_, rfl, hI.keepV (Below.refl _ _) 2 o2 V2.out⟩)
            obtain rfl | hi1 : i = 3 ∨ 4 ≤ i := by omega
            · have t82 : a1.tmps[82]? = some (.agg C) := hI.get hR hr1 2 o2 (by kernel_rfl) (by decide) rfl V2.out
              have hc1 := hte wq
              clear hla hte hsm
              refine wpOp_calls (f := 12) (args := #[.agg C]) rfl rfl (by go_simp) (hc1.mono ?_)
              rintro e wz ⟨rfl, b⟩
              exact ⟨_, rfl, _, rfl, hI.keepV b 3 o3 V3.out⟩
            obtain rfl | hi1 : i = 4 ∨ 5 ≤ i := by omega
            · have t81 : a1.tmps[81]? = some (.agg D) := hI.get hR hr1 1 o1 (by kernel_rfl) (by decide) rfl V1.out
              have t83 : a1.tmps[83]? = some (.agg D) := hI.get hR hr1 3 o3 (by kernel_rfl) (by decide) rfl V3.out
              have hc1 := hsm wq
              clear hla hte hsm
              refine wpOp_calls (f := 17) (args := #[.agg D, .agg D]) rfl rfl (by go_simp) (hc1.mono ?_)
              rintro e wz ⟨rfl, b⟩
              exact ⟨_, rfl, _, rfl, hI.keepV b 4 o4 V4.out⟩
            obtain rfl | hi1 : i = 5 ∨ 6 ≤ i := by omega
            · have t84 : a1.tmps[84]? = some (.bool true) := hI.get hR hr1 4 o4 (by kernel_rfl) (by decide) rfl V4.out
              clear hla hte hsm
              exact wpOp_val rfl rfl (by rw [V5.out]; go_simp) ⟨_, rfl, hI.keep (Below.refl _ _) 5 o5⟩
            obtain rfl | hi1 : i = 6 ∨ 7 ≤ i := by omega
            · have t85 : a1.tmps[85]? = some (.bool true) := hI.get hR hr1 5 o5 (by kernel_rfl) (by decide) rfl V5.out
              have t12 := hR.fixed 12 (by kernel_rfl) rfl
              have kk := (hI.b.block _ (heap_lt K5.out)).trans K5.out
              exact wpOp_of_wp rfl (wanted_yes rfl rfl t85) (wp_load_row 32 (.tmp 12) rfl g5 (getD_is t12) 32 C (0, 0) _ kk Try.underlying32 rfl (by rw [hC1]; exact Hs.out) ⟨_, rfl, hI.keepV (Below.refl _ _) 6 o6 V6.out⟩)
            obtain rfl | hi1 : i = 7 ∨ 8 ≤ i := by omega
            · have t85 : a1.tmps[85]? = some (.bool true) := hI.get hR hr1 5 o5 (by kernel_rfl) (by decide) rfl V5.out
              have t86 : a1.tmps[86]? = some (.agg C) := hI.get hR hr1 6 o6 (by kernel_rfl) (by decide) rfl V6.out
              have hc1 := hla wq
              clear hla hte hsm
              refine wpOp_calls (f := 23) (args := #[.slice none 0 0, .agg C]) rfl (wanted_yes rfl rfl t85) (by go_simp) (hc1.mono ?_)
              rintro e wz ⟨v, rfl, ho, b⟩
              exact ⟨_, rfl, _, rfl, hI.keepB b 7 o7 v (by rw [LL7.out]; exact ho)⟩
            obtain rfl | hi1 : i = 8 ∨ 9 ≤ i := by omega
            · have t85 : a1.tmps[85]? = some (.bool true) := hI.get hR hr1 5 o5 (by kernel_rfl) (by decide) rfl V5.out
              have tv : a1.tmps[87]? = some (vals 7) := hR.dep hr1 7 (by kernel_rfl) (by decide) rfl
              have ho := hI.own 7 o7 (dep_of hr1 (by kernel_rfl))
              rw [LL7.out] at ho
              obtain ⟨A9, c9, e9, _, r9⟩ := ho.form
              rw [e9] at tv
              have hcv := run_string_reads (P := Try.prog) wq 37 9 5 Try.underlying37 Try.underlying5 Try.underlying9 A9 c9 _ r9
              rw [← Hss.out] at hcv
              generalize List.length (L) = n9 at *
              clear e9 ho r9
              clear hla hte hsm
              exact wpOp_val rfl (wanted_yes rfl rfl t85) (by rw [V8.out]; go_simp) ⟨_, rfl, hI.keep (Below.refl _ _) 8 o8⟩
            obtain rfl | hi1 : i = 9 ∨ 10 ≤ i := by omega
            · have t85 : a1.tmps[85]? = some (.bool true) := hI.get hR hr1 5 o5 (by kernel_rfl) (by decide) rfl V5.out
              have t13 := hR.fixed 13 (by kernel_rfl) rfl
              have kk := (hI.b.block _ (heap_lt K6.out)).trans K6.out
              exact wpOp_of_wp rfl (wanted_yes rfl rfl t85) (wp_load_row 32 (.tmp 13) rfl g6 (getD_is t13) 32 C (0, 0) _ kk Try.underlying32 rfl (by rw [hC1]; exact Hs.out) ⟨_, rfl, hI.keepV (Below.refl _ _) 9 o9 V9.out⟩)
            obtain rfl | hi1 : i = 10 ∨ 11 ≤ i := by omega
            · have t85 : a1.tmps[85]? = some (.bool true) := hI.get hR hr1 5 o5 (by kernel_rfl) (by decide) rfl V5.out
              have t89 : a1.tmps[89]? = some (.agg C) := hI.get hR hr1 9 o9 (by kernel_rfl) (by decide) rfl V9.out
              have hc1 := hla wq
              clear hla hte hsm
              refine wpOp_calls (f := 23) (args := #[.slice none 0 0, .agg C]) rfl (wanted_yes rfl rfl t85) (by go_simp) (hc1.mono ?_)
              rintro e wz ⟨v, rfl, ho, b⟩
              exact ⟨_, rfl, _, rfl, hI.keepB b 10 o10 v (by rw [LL10.out]; exact ho)⟩
            obtain rfl | hi1 : i = 11 ∨ 12 ≤ i := by omega
            · have t85 : a1.tmps[85]? = some (.bool true) := hI.get hR hr1 5 o5 (by kernel_rfl) (by decide) rfl V5.out
              have tv : a1.tmps[90]? = some (vals 10) := hR.dep hr1 10 (by kernel_rfl) (by decide) rfl
              have ho := hI.own 10 o10 (dep_of hr1 (by kernel_rfl))
              rw [LL10.out] at ho
              obtain ⟨A9, c9, e9, _, r9⟩ := ho.form
              rw [e9] at tv
              have hcv := run_string_reads (P := Try.prog) wq 37 9 5 Try.underlying37 Try.underlying5 Try.underlying9 A9 c9 _ r9
              rw [← Hss.out] at hcv
              generalize List.length (L) = n9 at *
              clear e9 ho r9
              clear hla hte hsm
              exact wpOp_val rfl (wanted_yes rfl rfl t85) (by rw [V11.out]; go_simp) ⟨_, rfl, hI.keep (Below.refl _ _) 11 o11⟩
            obtain rfl | hi1 : i = 12 ∨ 13 ≤ i := by omega
            · have t85 : a1.tmps[85]? = some (.bool true) := hI.get hR hr1 5 o5 (by kernel_rfl) (by decide) rfl V5.out
              have t88 : a1.tmps[88]? = some (.string ss) := hI.get hR hr1 8 o8 (by kernel_rfl) (by decide) rfl V8.out
              have t91 : a1.tmps[91]? = some (.string ss) := hI.get hR hr1 11 o11 (by kernel_rfl) (by decide) rfl V11.out
              have hse : (ss.toList == ss.toList) = true := beq_self_eq_true _
              clear hla hte hsm
              exact wpOp_val rfl (wanted_yes rfl rfl t85) (by rw [V12.out]; go_simp) ⟨_, rfl, hI.keep (Below.refl _ _) 12 o12⟩
            obtain rfl | hi1 : i = 13 ∨ 14 ≤ i := by omega
            · have t85 : a1.tmps[85]? = some (.bool true) := hI.get hR hr1 5 o5 (by kernel_rfl) (by decide) rfl V5.out
              have t92 : a1.tmps[92]? = some (.bool true) := hI.get hR hr1 12 o12 (by kernel_rfl) (by decide) rfl V12.out
              clear hla hte hsm
              exact wpOp_val rfl rfl (by rw [V13.out]; go_simp) ⟨_, rfl, hI.keep (Below.refl _ _) 13 o13⟩
            obtain rfl : i = 14 := by omega
            have t93 : a1.tmps[93]? = some (.bool true) := hI.get hR hr1 13 o13 (by kernel_rfl) (by decide) rfl V13.out
            clear hla hte hsm
            exact wpOp_val rfl rfl (by rw [V14.out]; go_simp) ⟨_, rfl, hI.keep (Below.refl _ _) 14 o14⟩
          · intro listed vals wq FF hI hall hFF
            have hF2 : FF = ((((((((((((((Act.put _ (some 80) (vals 0)).put (some 81) (vals 1)).put (some 82) (vals 2)).put (some 83) (vals 3)).put (some 84) (vals 4)).put (some 85) (vals 5)).put (some 86) (vals 6)).put (some 87) (vals 7)).put (some 88) (vals 8)).put (some 89) (vals 9)).put (some 90) (vals 10)).put (some 91) (vals 11)).put (some 92) (vals 12)).put (some 93) (vals 13)).put (some 6) (vals 14) := hFF
            simp only [putAll] at hF2
            rw [hF2]
            have e14 := hI.val 14 o14 (hall 14 (by decide))
            rw [V14.out] at e14
            have bfin := hI.b
            clear hF2 hFF hI hall
            rw [e14]
            go_frame
            go_wp2_with fail
            go_ret
            exact ⟨rfl, below_trans hb6 bfin⟩
  · obtain ⟨a, rfl⟩ : ∃ a, A = some a := by
      obtain ⟨a, h, _⟩ := hr 0 (by omega)
      exact ⟨a, h⟩
    obtain ⟨fi, f1, f2, f3, f4⟩ := floatInfo
    have hlm : (xs.map (Value.float .f64)).length = xs.length * 1 := by rw [List.length_map]; omega
    have hnews : ∀ w1, Below w.heap.size w w1 → ∀ j u, (xs.map (Value.float .f64))[j]? = some u → w1.cell? (a.add j) = some u := fun w1 b j u hu => by
      have hj : j < xs.length := by
        rcases Nat.lt_or_ge j xs.length with h | h
        · exact h
        · rw [List.getElem?_eq_none (by rw [List.length_map]; exact h)] at hu; cases hu
      obtain ⟨a', e', hc⟩ := (hr.below b) j hj
      cases e'
      rw [List.getElem?_map, List.getElem?_eq_getElem hj] at hu
      rw [hc, fd_eq xs j hj]; simpa using hu
    have hone : ∀ u ∈ xs.map (Value.float .f64), u.oneCell' = true := fun u hu => by obtain ⟨x, _, rfl⟩ := List.mem_map.1 hu; rfl
    have l1 : 0 + xs.length ≤ maxLen := by unfold maxLen; omega
    have l2 : (0 + xs.length) * 8 ≤ 140737488355328 := by omega
    have hi30 : (xs.length : Int) ≤ 30 := by omega
    have Hla := Lib.hid hla
    have Hte := Lib.hid hte
    have Hsm := Lib.hid hsm
    clear hla hte hsm
    go_enter Try.func6, Try.ntmps6
    go_upto_block 0 with (first
      | (go_at_call 10; (with_reducible refine (aw _).mono ?_); rintro e w1 ⟨rfl, b1⟩; have hn1 := hnews w1 b1; have hbs := b1.size)
      | (at_builtin
         refine wpList_append_row rfl _ (.tmp 22) (.tmp 23) 22 rfl w.heap.size 25 fi (.float .f64 0) 1 8 Try.underlying22 f1 f2 f3 f4 rfl (by decide) (.slice none 0 0) 0 [] rfl (World.ownsRow_nil _ _ _ _) a xs.length cap (xs.map (Value.float .f64)) rfl hlm hn1 hone l1 l2 hbs ?_
         intro v2 w2 ho2 hg2 _))
    replace ho2 : FOwn w2 w.heap.size v2 xs := by
      have : 0 + xs.length = xs.length := by omega
      rw [this] at ho2
      exact ho2
    obtain ⟨g, cp, rfl, hcp2, hgb, hgl⟩ := ho2.form (by omega)
    have b2 : Below w.heap.size w w2 := b1.grown hg2 b1.size (fun k hk => by cases hk)
    clear hn1 hnews hone hg2 b1 hlm l1 l2 hbs aw
    go_cut [8] (fun i wr => ∃ (k : Nat) (ys : List Nat), k ≤ bs.length ∧ i = .int .i64 k ∧ ys.Perm xs ∧ FOwn wr w.heap.size (.slice (some ⟨g, 0, none⟩) xs.length cp) ys ∧ Below w.heap.size w wr)
    case first =>
      go_wp2_with fail
      go_loopw [8] (fun i wr => ∃ (k : Nat) (ys : List Nat), k ≤ bs.length ∧ i = .int .i64 k ∧ ys.Perm xs ∧ FOwn wr w.heap.size (.slice (some ⟨g, 0, none⟩) xs.length cp) ys ∧ Below w.heap.size w wr) (fun i _ => bs.length - (intOf i).toNat)
      case atStart => exact ⟨0, xs, by omega, rfl, List.Perm.refl _, ho2, b2⟩
      case round =>
        obtain ⟨k, ys, hk, rfl, hp, ho, hb⟩ := hrel
        clear ho2 b2 zz
        by_cases hlt : k < bs.length
        · by_cases hlt2 : k < 30
          · have hyl := hp.length_eq
            obtain ⟨ab, rfl, cb⟩ := (hbr.below hb) k hlt
            have hbk := hb8 k hlt
            obtain ⟨q, hq⟩ : ∃ q : Nat, rd bs k = q := ⟨(rd bs k).toNat, by omega⟩
            rw [hq] at cb hbk
            have hqm : q % xs.length < xs.length := Nat.mod_lt _ (by omega)
            have ck := ho.cell (q % xs.length) (by omega)
            have c0 := ho.cell 0 (by omega)
            have fr := ho.frozen (q % xs.length)
            have ho3 := ho.store (q % xs.length) (by omega) (fd ys 0)
            have c03 := ho3.cell 0 (by rw [List.length_set]; omega)
            have f03 := ho3.frozen 0
            have rs1 := run_store_flt (P := Try.prog) (fd ys 0) ck fr
            have rs2 := run_store_flt (P := Try.prog) (fd ys (q % xs.length)) c03 f03
            have ho4 := ho3.store 0 (by rw [List.length_set]; omega) (fd ys (q % xs.length))
            have hp4 := (swap_perm ys (q % xs.length) 0 (by omega) (by omega)).trans hp
            have Ho := Lib.hid ho4
            have Hp := Lib.hid hp4
            have Hb := Lib.hid (((hb.setCell (p := ⟨g, q % xs.length, none⟩) hgb (.float .f64 (fd ys 0))).setCell (p := ⟨g, 0, none⟩) hgb (.float .f64 (fd ys (q % xs.length)))))
            have hcast : ((q : Int) % (xs.length : Int)) = ((q % xs.length : Nat) : Int) := by simp
            have hxp : 0 < xs.length := by omega
            clear hq hbr h64 hr ho hp hyl ho3 ho4 hp4 hb Hla Hte Hsm hC
            generalize q % xs.length = r at *
            generalize fd ys 0 = y0 at *
            generalize fd ys r = yr at *
            clear c03 f03 fr
            go_wp2_with fail
            go_roundw
            case rel => exact ⟨k + 1, _, by omega, by go_num, Hp.out, Ho.out, Hb.out⟩
            case measure => simp [intOf]; omega
          · go_wp2_with fail
            go_meet
            exact ⟨k, ys, hk, rfl, hp, ho, hb⟩
        · go_wp2_with fail
          go_meet
          exact ⟨k, ys, hk, rfl, hp, ho, hb⟩
    case rest =>
      obtain ⟨k, ys, hk, rfl, hp, ho, hb⟩ := hcut
      have hyl := hp.length_eq
      have hwy := h64.perm hp
      have hrd := ho.reads
      obtain ⟨q, hq⟩ : ∃ q : Nat, c = q := ⟨c.toNat, by omega⟩
      subst hq
      have hqm : q % xs.length < xs.length := Nat.mod_lt _ (by omega)
      have hcast : ((q : Int) % (xs.length : Int)) = ((q % xs.length : Nat) : Int) := by simp
      have hxp : 0 < xs.length := by omega
      have hcut2 := asOf_cut xs ys hp h64 (by omega) (q % xs.length)
      have hofA := of_as (some a) cap xs wc (hr.below hb) h64 (by omega)
      have hof1 := fun w1 (b : Below wc.heap.size wc w1) => as_len (n := q % xs.length) (by rw [List.length_take]; omega) (of_as (some ⟨g, 0, none⟩) cp (ys.take (q % xs.length)) w1 ((hrd.below b).take _) (hwy.take _) (by rw [List.length_take]; omega))
      have hof2 := fun w1 (b : Below wc.heap.size wc w1) => as_len (n := ys.length - q % xs.length) List.length_drop (of_as (some ⟨g, q % xs.length, none⟩) (cp - q % xs.length) (ys.drop (q % xs.length)) w1 (by have := (hrd.below b).drop (q % xs.length); rw [Option.map_some, add_plain] at this; exact this) (hwy.drop _) (by rw [List.length_drop]; omega))
      rw [hyl] at hof2
      have hcp3 : ¬ cp = q % xs.length := by omega
      have hcp4 : q % xs.length ≤ cp := by omega
      have hjoin := fun w1 => join_as (asOf (ys.take (q % xs.length))) (asOf (ys.drop (q % xs.length))) w1 (asOf_okA _ (hwy.take _)) (asOf_okA _ (hwy.drop _))
      rw [hcut2, ← hC] at hjoin
      rw [← hC] at hofA
      have hla := Hla.out
      have hte := Hte.out
      have hsm := Hsm.out
      clear hcut2 hp hwy hrd ho hyl hr h64 hbr hb8 ho2 b2 hC Hla Hte Hsm
      generalize asC (asOf (ys.take (q % xs.length))) = C1 at *
      generalize asC (asOf (ys.drop (q % xs.length))) = C2 at *
      generalize q % xs.length = r at *
      go_upto_region 16 with (first
        | (go_at_call 11; (with_reducible refine hofA.mono ?_); rintro e w3 ⟨rfl, b3⟩)
        | (refine at_op (.alloc 32) ?_ rfl; refine wpList_alloc_row rfl _ 32 rfl (some 12) rfl w3.heap.size rfl Z zz ?_)
        | (refine at_op (.store 32 (.tmp 12) (.tmp 70)) ?_ rfl; refine wpList_store_row rfl 32 (.tmp 12) (.tmp 70) rfl w3.heap.size C rfl rfl 32 Z (heap_alloc_new w3 _) (by rw [hC1]; exact Hs.out) (by rw [hZ, hC1]) hC2 ?_; rw [World.setRow_alloc_new]; have hg5 := Lib.hid (heap_alloc_new w3 (.cells C 32)); have bb5 := below_alloc b3 (.cells C 32); generalize w3.heap.size = g5 at *; generalize w3.alloc (.cells C 32) = w4 at *))
      have bbw := below_trans hb bb5
      have hgl5 := heap_lt hg5.out
      have hof1 := fun w1 (b : Below w4.heap.size w4 w1) => hof1 w1 (below_trans bb5 b)
      have hof2 := fun w1 (b : Below w4.heap.size w4 w1) => hof2 w1 (below_trans bb5 b)
      have ZZ := Lib.hid zz
      clear zz hofA b3
      go_frame
      go_cut [13] (fun v wr => ∃ g6, v = .pointer (some ⟨g6, 0, none⟩) ∧ wr.heap[g5]? = some (.cells C 32 (0, 0)) ∧ wr.heap[g6]? = some (.cells C 32 (0, 0)) ∧ Below w.heap.size w wr)
      case first =>
          obtain ⟨CV, hCV⟩ : ∃ CV : Nat → Value, CV = fun j => match j with
            | 0 => .slice (some ⟨g, 0, none⟩) xs.length cp
            | 1 => .int .i64 r
            | 2 => .slice (some ⟨g, 0, none⟩) r cp
            | 3 => .agg C1
            | 4 => .slice (some ⟨g, 0, none⟩) xs.length cp
            | 5 => .int .i64 r
            | 6 => .slice (some ⟨g, r, none⟩) (xs.length - r) (cp - r)
            | 7 => .agg C2
            | 8 => .agg C
            | 9 => undef
            | 10 => undef
            | _ => undef := ⟨_, rfl⟩
          have v0 : CV 0 = .slice (some ⟨g, 0, none⟩) xs.length cp := congrFun hCV 0
          have o0 : 0 ≠ 9 ∧ 0 ≠ 9 + 1 := by decide
          have v1 : CV 1 = .int .i64 r := congrFun hCV 1
          have o1 : 1 ≠ 9 ∧ 1 ≠ 9 + 1 := by decide
          have v2 : CV 2 = .slice (some ⟨g, 0, none⟩) r cp := congrFun hCV 2
          have o2 : 2 ≠ 9 ∧ 2 ≠ 9 + 1 := by decide
          have v3 : CV 3 = .agg C1 := congrFun hCV 3
          have o3 : 3 ≠ 9 ∧ 3 ≠ 9 + 1 := by decide
          have v4 : CV 4 = .slice (some ⟨g, 0, none⟩) xs.length cp := congrFun hCV 4
          have o4 : 4 ≠ 9 ∧ 4 ≠ 9 + 1 := by decide
          have v5 : CV 5 = .int .i64 r := congrFun hCV 5
          have o5 : 5 ≠ 9 ∧ 5 ≠ 9 + 1 := by decide
          have v6 : CV 6 = .slice (some ⟨g, r, none⟩) (xs.length - r) (cp - r) := congrFun hCV 6
          have o6 : 6 ≠ 9 ∧ 6 ≠ 9 + 1 := by decide
          have v7 : CV 7 = .agg C2 := congrFun hCV 7
          have o7 : 7 ≠ 9 ∧ 7 ≠ 9 + 1 := by decide
          have v8 : CV 8 = .agg C := congrFun hCV 8
          have o8 : 8 ≠ 9 ∧ 8 ≠ 9 + 1 := by decide
          have v9 : CV 9 = undef := congrFun hCV 9
          have v10 : CV 10 = undef := congrFun hCV 10
          clear hCV
          have V0 := Lib.hid v0
          have V1 := Lib.hid v1
          have V2 := Lib.hid v2
          have V3 := Lib.hid v3
          have V4 := Lib.hid v4
          have V5 := Lib.hid v5
          have V6 := Lib.hid v6
          have V7 := Lib.hid v7
          have V8 := Lib.hid v8
          have V9 := Lib.hid v9
          have V10 := Lib.hid v10
          clear v0 v1 v2 v3 v4 v5 v6 v7 v8 v9 v10
          refine region_run (RegA w4 9 (Z) (C) 32 CV) (by kernel_rfl) (by kernel_rfl) (by kernel_rfl) (by kernel_rfl) (RegA.start w4 11) ?_ ?_
          · intro listed vals a1 wq i hs hcl hI hR hi hu hr1
            replace hi : i < 11 := hi
            replace hs : listed.size = 11 := hs
            obtain rfl | hi1 : i = 0 ∨ 1 ≤ i := by omega
            · have t7 := hR.fixed 7 (by kernel_rfl) rfl
              clear hof1 hof2 hjoin
              exact wpOp_val rfl rfl (by rw [V0.out]; go_simp) ⟨_, rfl, hI.keep (Below.refl _ _) 0 o0⟩
            obtain rfl | hi1 : i = 1 ∨ 2 ≤ i := by omega
            · have t11 := hR.fixed 11 (by kernel_rfl) rfl
              clear hof1 hof2 hjoin
              exact wpOp_val rfl rfl (by rw [V1.out]; go_simp) ⟨_, rfl, hI.keep (Below.refl _ _) 1 o1⟩
            obtain rfl | hi1 : i = 2 ∨ 3 ≤ i := by omega
            · have t71 : a1.tmps[71]? = some (.slice (some ⟨g, 0, none⟩) xs.length cp) := hI.get hR hr1 0 o0 (by kernel_rfl) (by decide) rfl V0.out
              have t72 : a1.tmps[72]? = some (.int .i64 r) := hI.get hR hr1 1 o1 (by kernel_rfl) (by decide) rfl V1.out
              clear hof1 hof2 hjoin
              exact wpOp_val rfl rfl (by rw [V2.out]; go_simp) ⟨_, rfl, hI.keep (Below.refl _ _) 2 o2⟩
            obtain rfl | hi1 : i = 3 ∨ 4 ≤ i := by omega
            · have t73 : a1.tmps[73]? = some (.slice (some ⟨g, 0, none⟩) r cp) := hI.get hR hr1 2 o2 (by kernel_rfl) (by decide) rfl V2.out
              have hc1 := hof1 wq hI.b
              clear hof1 hof2 hjoin
              refine wpOp_calls (f := 11) (args := #[.slice (some ⟨g, 0, none⟩) r cp]) rfl rfl (by go_simp) (hc1.mono ?_)
              rintro e wz ⟨rfl, b⟩
              exact ⟨_, rfl, _, rfl, hI.keepV b 3 o3 V3.out⟩
            obtain rfl | hi1 : i = 4 ∨ 5 ≤ i := by omega
            · have t7 := hR.fixed 7 (by kernel_rfl) rfl
              clear hof1 hof2 hjoin
              exact wpOp_val rfl rfl (by rw [V4.out]; go_simp) ⟨_, rfl, hI.keep (Below.refl _ _) 4 o4⟩
            obtain rfl | hi1 : i = 5 ∨ 6 ≤ i := by omega
            · have t11 := hR.fixed 11 (by kernel_rfl) rfl
              clear hof1 hof2 hjoin
              exact wpOp_val rfl rfl (by rw [V5.out]; go_simp) ⟨_, rfl, hI.keep (Below.refl _ _) 5 o5⟩
            obtain rfl | hi1 : i = 6 ∨ 7 ≤ i := by omega
            · have t75 : a1.tmps[75]? = some (.slice (some ⟨g, 0, none⟩) xs.length cp) := hI.get hR hr1 4 o4 (by kernel_rfl) (by decide) rfl V4.out
              have t76 : a1.tmps[76]? = some (.int .i64 r) := hI.get hR hr1 5 o5 (by kernel_rfl) (by decide) rfl V5.out
              clear hof1 hof2 hjoin
              exact wpOp_val rfl rfl (by rw [V6.out]; go_simp; intro h; exact absurd h (by omega)) ⟨_, rfl, hI.keep (Below.refl _ _) 6 o6⟩
            obtain rfl | hi1 : i = 7 ∨ 8 ≤ i := by omega
            · have t77 : a1.tmps[77]? = some (.slice (some ⟨g, r, none⟩) (xs.length - r) (cp - r)) := hI.get hR hr1 6 o6 (by kernel_rfl) (by decide) rfl V6.out
              have hc1 := hof2 wq hI.b
              clear hof1 hof2 hjoin
              refine wpOp_calls (f := 11) (args := #[.slice (some ⟨g, r, none⟩) (xs.length - r) (cp - r)]) rfl rfl (by go_simp) (hc1.mono ?_)
              rintro e wz ⟨rfl, b⟩
              exact ⟨_, rfl, _, rfl, hI.keepV b 7 o7 V7.out⟩
            obtain rfl | hi1 : i = 8 ∨ 9 ≤ i := by omega
            · have t74 : a1.tmps[74]? = some (.agg C1) := hI.get hR hr1 3 o3 (by kernel_rfl) (by decide) rfl V3.out
              have t78 : a1.tmps[78]? = some (.agg C2) := hI.get hR hr1 7 o7 (by kernel_rfl) (by decide) rfl V7.out
              have hc1 := hjoin wq
              clear hof1 hof2 hjoin
              refine wpOp_calls (f := 22) (args := #[.agg C1, .agg C2]) rfl rfl (by go_simp) (hc1.mono ?_)
              rintro e wz ⟨rfl, b⟩
              exact ⟨_, rfl, _, rfl, hI.keepV b 8 o8 V8.out⟩
            obtain rfl | hi1 : i = 9 ∨ 10 ≤ i := by omega
            · have hn := unlisted (n := 10) hcl hu (by kernel_rfl)
              exact wpOp_alloc rfl rfl 32 rfl _ ZZ.out ⟨_, rfl, hI.alloc (by omega) hn⟩
            obtain rfl : i = 10 := by omega
            have t79 : a1.tmps[79]? = some (.agg C) := hI.get hR hr1 8 o8 (by kernel_rfl) (by decide) rfl V8.out
            obtain ⟨g6, e6, hg6, hh⟩ := hI.al (dep_of hr1 (by kernel_rfl))
            have t13 : a1.tmps[13]? = some (vals 9) := hR.dep hr1 9 (by kernel_rfl) (by decide) rfl
            rw [e6] at t13
            exact wpOp_of_wp rfl rfl (wp_store_row 32 (.tmp 13) (.tmp 79) rfl g6 (C) (getD_is t13) (getD_is t79) 32 _ hh (by rw [hC1]; exact Hs.out) (by rw [hC1]; split <;> first | exact hC1 | exact hZ) hC2 ⟨undef, rfl, hI.store (by omega) hg6 e6 hh⟩)
          · intro listed vals wq FF hI hall hFF
            obtain ⟨g6, e6, hg6, hh6⟩ := hI.al (hall 9 (by decide))
            rw [if_pos (hall 10 (by decide))] at hh6
            have hF2 : FF = ((((((((((Act.put _ (some 71) (vals 0)).put (some 72) (vals 1)).put (some 73) (vals 2)).put (some 74) (vals 3)).put (some 75) (vals 4)).put (some 76) (vals 5)).put (some 77) (vals 6)).put (some 78) (vals 7)).put (some 79) (vals 8)).put (some 13) (vals 9)).put none (vals 10) := hFF
            simp only [putAll] at hF2
            rw [hF2]
            have bfin := hI.b
            clear hF2 hFF hall
            rw [e6]
            go_frame
            go_wp2_with fail
            go_meet
            exact ⟨g6, rfl, (hI.b.block g5 hgl5).trans hg5.out, hh6, below_trans bbw hI.b⟩
      case rest =>
        obtain ⟨g6, rfl, h5, h6, hb6⟩ := hcut
        have K5 := Lib.hid h5
        have K6 := Lib.hid h6
        clear h5 h6 hof1 hof2 hjoin hg5 hgl5 bbw bb5 ZZ
        go_wp2_with fail
        obtain ⟨CV, hCV⟩ : ∃ CV : Nat → Value, CV = fun j => match j with
          | 0 => .agg C
          | 1 => .agg D
          | 2 => .agg C
          | 3 => .agg D
          | 4 => .bool true
          | 5 => .bool true
          | 6 => .agg C
          | 8 => .string ss
          | 9 => .agg C
          | 11 => .string ss
          | 12 => .bool true
          | 13 => .bool true
          | 14 => .bool true
          | _ => undef := ⟨_, rfl⟩
        obtain ⟨isO, hO⟩ : ∃ isO : Nat → Bool, isO = fun j => match j with
          | 7 => true
          | 10 => true
          | _ => false := ⟨_, rfl⟩
        obtain ⟨BL, hBL⟩ : ∃ BL : Nat → List Int, BL = fun j => match j with
          | 7 => L
          | 10 => L
          | _ => [] := ⟨_, rfl⟩
        have v0 : CV 0 = .agg C := congrFun hCV 0
        have o0 : isO 0 = false := congrFun hO 0
        have v1 : CV 1 = .agg D := congrFun hCV 1
        have o1 : isO 1 = false := congrFun hO 1
        have v2 : CV 2 = .agg C := congrFun hCV 2
        have o2 : isO 2 = false := congrFun hO 2
        have v3 : CV 3 = .agg D := congrFun hCV 3
        have o3 : isO 3 = false := congrFun hO 3
        have v4 : CV 4 = .bool true := congrFun hCV 4
        have o4 : isO 4 = false := congrFun hO 4
        have v5 : CV 5 = .bool true := congrFun hCV 5
        have o5 : isO 5 = false := congrFun hO 5
        have v6 : CV 6 = .agg C := congrFun hCV 6
        have o6 : isO 6 = false := congrFun hO 6
        have o7 : isO 7 = true := congrFun hO 7
        have l7 : BL 7 = L := congrFun hBL 7
        have v8 : CV 8 = .string ss := congrFun hCV 8
        have o8 : isO 8 = false := congrFun hO 8
        have v9 : CV 9 = .agg C := congrFun hCV 9
        have o9 : isO 9 = false := congrFun hO 9
        have o10 : isO 10 = true := congrFun hO 10
        have l10 : BL 10 = L := congrFun hBL 10
        have v11 : CV 11 = .string ss := congrFun hCV 11
        have o11 : isO 11 = false := congrFun hO 11
        have v12 : CV 12 = .bool true := congrFun hCV 12
        have o12 : isO 12 = false := congrFun hO 12
        have v13 : CV 13 = .bool true := congrFun hCV 13
        have o13 : isO 13 = false := congrFun hO 13
        have v14 : CV 14 = .bool true := congrFun hCV 14
        have o14 : isO 14 = false := congrFun hO 14
        clear hCV hO hBL
        have V0 := Lib.hid v0
        have V1 := Lib.hid v1
        have V2 := Lib.hid v2
        have V3 := Lib.hid v3
        have V4 := Lib.hid v4
        have V5 := Lib.hid v5
        have V6 := Lib.hid v6
        have LL7 := Lib.hid l7
        have V8 := Lib.hid v8
        have V9 := Lib.hid v9
        have LL10 := Lib.hid l10
        have V11 := Lib.hid v11
        have V12 := Lib.hid v12
        have V13 := Lib.hid v13
        have V14 := Lib.hid v14
        clear v0 v1 v2 v3 v4 v5 v6 l7 v8 v9 l10 v11 v12 v13 v14
        refine region_run (RegI wc isO BL CV) (by kernel_rfl) (by kernel_rfl) (by kernel_rfl) (by kernel_rfl) (RegI.start wc 15) ?_ ?_
        · intro listed vals a1 wq i hs hcl hI hR hi hu hr1
          replace hi : i < 15 := hi
          obtain rfl | hi1 : i = 0 ∨ 1 ≤ i := by omega
          · have t12 := hR.fixed 12 (by kernel_rfl) rfl
            have kk := (hI.b.block _ (heap_lt K5.out)).trans K5.out
            exact wpOp_of_wp rfl rfl (wp_load_row 32 (.tmp 12) rfl g5 (getD_is t12) 32 C (0, 0) _ kk Try.underlying32 rfl (by rw [hC1]; exact Hs.out) ⟨_, rfl, hI.keepV (Below.refl _ _) 0 o0 V0.out⟩)
          obtain rfl | hi1 : i = 1 ∨ 2 ≤ i := by omega
          · have t80 : a1.tmps[80]? = some (.agg C) := hI.get hR hr1 0 o0 (by kernel_rfl) (by decide) rfl V0.out
            have hc1 := hte wq
            clear hla hte hsm
            refine wpOp_calls (f := 12) (args := #[.agg C]) rfl rfl (by go_simp) (hc1.mono ?_)
            rintro e wz ⟨rfl, b⟩
            exact ⟨_, rfl, _, rfl, hI.keepV b 1 o1 V1.out⟩
          obtain rfl | hi1 : i = 2 ∨ 3 ≤ i := by omega
          · have t13 := hR.fixed 13 (by kernel_rfl) rfl
            have kk := (hI.b.block _ (heap_lt K6.out)).trans K6.out
            exact wpOp_of_wp rfl rfl (wp_load_row 32 (.tmp 13) rfl g6 (getD_is t13) 32 C (0, 0) _ kk Try.underlying32 rfl (by rw [hC1]; exact Hs.out) ⟨_, rfl, hI.keepV (Below.refl _ _) 2 o2 V2.out⟩)
          obtain rfl | hi1 : i = 3 ∨ 4 ≤ i := by omega
          · have t82 : a1.tmps[82]? = some (.agg C) := hI.get hR hr1 2 o2 (by kernel_rfl) (by decide) rfl V2.out
            have hc1 := hte wq
            clear hla hte hsm
            refine wpOp_calls (f := 12) (args := #[.agg C]) rfl rfl (by go_simp) (hc1.mono ?_)
            rintro e wz ⟨rfl, b⟩
            exact ⟨_, rfl, _, rfl, hI.keepV b 3 o3 V3.out⟩
          obtain rfl | hi1 : i = 4 ∨ 5 ≤ i := by omega
          · have t81 : a1.tmps[81]? = some (.agg D) := hI.get hR hr1 1 o1 (by kernel_rfl) (by decide) rfl V1.out
            have t83 : a1.tmps[83]? = some (.agg D) := hI.get hR hr1 3 o3 (by kernel_rfl) (by decide) rfl V3.out
            have hc1 := hsm wq
            clear hla hte hsm
            refine wpOp_calls (f := 17) (args := #[.agg D, .agg D]) rfl rfl (by go_simp) (hc1.mono ?_)
            rintro e wz ⟨rfl, b⟩
            exact ⟨_, rfl, _, rfl, hI.keepV b 4 o4 V4.out⟩
          obtain rfl | hi1 : i = 5 ∨ 6 ≤ i := by omega
          · have t84 : a1.tmps[84]? = some (.bool true) := hI.get hR hr1 4 o4 (by kernel_rfl) (by decide) rfl V4.out
            clear hla hte hsm
            exact wpOp_val rfl rfl (by rw [V5.out]; go_simp) ⟨_, rfl, hI.keep (Below.refl _ _) 5 o5⟩
          obtain rfl | hi1 : i = 6 ∨ 7 ≤ i := by omega
          · have t85 : a1.tmps[85]? = some (.bool true) := hI.get hR hr1 5 o5 (by kernel_rfl) (by decide) rfl V5.out
            have t12 := hR.fixed 12 (by kernel_rfl) rfl
            have kk := (hI.b.block _ (heap_lt K5.out)).trans K5.out
            exact wpOp_of_wp rfl (wanted_yes rfl rfl t85) (wp_load_row 32 (.tmp 12) rfl g5 (getD_is t12) 32 C (0, 0) _ kk Try.underlying32 rfl (by rw [hC1]; exact Hs.out) ⟨_, rfl, hI.keepV (Below.refl _ _) 6 o6 V6.out⟩)
          obtain rfl | hi1 : i = 7 ∨ 8 ≤ i := by omega
          · have t85 : a1.tmps[85]? = some (.bool true) := hI.get hR hr1 5 o5 (by kernel_rfl) (by decide) rfl V5.out
            have t86 : a1.tmps[86]? = some (.agg C) := hI.get hR hr1 6 o6 (by kernel_rfl) (by decide) rfl V6.out
            have hc1 := hla wq
            clear hla hte hsm
            refine wpOp_calls (f := 23) (args := #[.slice none 0 0, .agg C]) rfl (wanted_yes rfl rfl t85) (by go_simp) (hc1.mono ?_)
            rintro e wz ⟨v, rfl, ho, b⟩
            exact ⟨_, rfl, _, rfl, hI.keepB b 7 o7 v (by rw [LL7.out]; exact ho)⟩
          obtain rfl | hi1 : i = 8 ∨ 9 ≤ i := by omega
          · have t85 : a1.tmps[85]? = some (.bool true) := hI.get hR hr1 5 o5 (by kernel_rfl) (by decide) rfl V5.out
            have tv : a1.tmps[87]? = some (vals 7) := hR.dep hr1 7 (by kernel_rfl) (by decide) rfl
            have ho := hI.own 7 o7 (dep_of hr1 (by kernel_rfl))
            rw [LL7.out] at ho
            obtain ⟨A9, c9, e9, _, r9⟩ := ho.form
            rw [e9] at tv
            have hcv := run_string_reads (P := Try.prog) wq 37 9 5 Try.underlying37 Try.underlying5 Try.underlying9 A9 c9 _ r9
            rw [← Hss.out] at hcv
            generalize List.length (L) = n9 at *
            clear e9 ho r9
            clear hla hte hsm
            exact wpOp_val rfl (wanted_yes rfl rfl t85) (by rw [V8.out]; go_simp) ⟨_, rfl, hI.keep (Below.refl _ _) 8 o8⟩
          obtain rfl | hi1 : i = 9 ∨ 10 ≤ i := by omega
          · have t85 : a1.tmps[85]? = some (.bool true) := hI.get hR hr1 5 o5 (by kernel_rfl) (by decide) rfl V5.out
            have t13 := hR.fixed 13 (by kernel_rfl) rfl
            have kk := (hI.b.block _ (heap_lt K6.out)).trans K6.out
            exact wpOp_of_wp rfl (wanted_yes rfl rfl t85) (wp_load_row 32 (.tmp 13) rfl g6 (getD_is t13) 32 C (0, 0) _ kk Try.underlying32 rfl (by rw [hC1]; exact Hs.out) ⟨_, rfl, hI.keepV (Below.refl _ _) 9 o9 V9.out⟩)
          obtain rfl | hi1 : i = 10 ∨ 11 ≤ i := by omega
          · have t85 : a1.tmps[85]? = some (.bool true) := hI.get hR hr1 5 o5 (by kernel_rfl) (by decide) rfl V5.out
            have t89 : a1.tmps[89]? = some (.agg C) := hI.get hR hr1 9 o9 (by kernel_rfl) (by decide) rfl V9.out
            have hc1 := hla wq
            clear hla hte hsm
            refine wpOp_calls (f := 23) (args := #[.slice none 0 0, .agg C]) rfl (wanted_yes rfl rfl t85) (by go_simp) (hc1.mono ?_)
            rintro e wz ⟨v, rfl, ho, b⟩
            exact ⟨_, rfl, _, rfl, hI.keepB b 10 o10 v (by rw [LL10.out]; exact ho)⟩
          obtain rfl | hi1 : i = 11 ∨ 12 ≤ i := by omega
          · have t85 : a1.tmps[85]? = some (.bool true) := hI.get hR hr1 5 o5 (by kernel_rfl) (by decide) rfl V5.out
            have tv : a1.tmps[90]? = some (vals 10) := hR.dep hr1 10 (by kernel_rfl) (by decide) rfl
            have ho := hI.own 10 o10 (dep_of hr1 (by kernel_rfl))
            rw [LL10.out] at ho
            obtain ⟨A9, c9, e9, _, r9⟩ := ho.form
            rw [e9] at tv
            have hcv := run_string_reads (P := Try.prog) wq 37 9 5 Try.underlying37 Try.underlying5 Try.underlying9 A9 c9 _ r9
            rw [← Hss.out] at hcv
            generalize List.length (L) = n9 at *
            clear e9 ho r9
            clear hla hte hsm
            exact wpOp_val rfl (wanted_yes rfl rfl t85) (by rw [V11.out]; go_simp) ⟨_, rfl, hI.keep (Below.refl _ _) 11 o11⟩
          obtain rfl | hi1 : i = 12 ∨ 13 ≤ i := by omega
          · have t85 : a1.tmps[85]? = some (.bool true) := hI.get hR hr1 5 o5 (by kernel_rfl) (by decide) rfl V5.out
            have t88 : a1.tmps[88]? = some (.string ss) := hI.get hR hr1 8 o8 (by kernel_rfl) (by decide) rfl V8.out
            have t91 : a1.tmps[91]? = some (.string ss) := hI.get hR hr1 11 o11 (by kernel_rfl) (by decide) rfl V11.out
            have hse : (ss.toList == ss.toList) = true := beq_self_eq_true _
            clear hla hte hsm
            exact wpOp_val rfl (wanted_yes rfl rfl t85) (by rw [V12.out]; go_simp) ⟨_, rfl, hI.keep (Below.refl _ _) 12 o12⟩
          obtain rfl | hi1 : i = 13 ∨ 14 ≤ i := by omega
          · have t85 : a1.tmps[85]? = some (.bool true) := hI.get hR hr1 5 o5 (by kernel_rfl) (by decide) rfl V5.out
            have t92 : a1.tmps[92]? = some (.bool true) := hI.get hR hr1 12 o12 (by kernel_rfl) (by decide) rfl V12.out
            clear hla hte hsm
            exact wpOp_val rfl rfl (by rw [V13.out]; go_simp) ⟨_, rfl, hI.keep (Below.refl _ _) 13 o13⟩
          obtain rfl : i = 14 := by omega
          have t93 : a1.tmps[93]? = some (.bool true) := hI.get hR hr1 13 o13 (by kernel_rfl) (by decide) rfl V13.out
          clear hla hte hsm
          exact wpOp_val rfl rfl (by rw [V14.out]; go_simp) ⟨_, rfl, hI.keep (Below.refl _ _) 14 o14⟩
        · intro listed vals wq FF hI hall hFF
          have hF2 : FF = ((((((((((((((Act.put _ (some 80) (vals 0)).put (some 81) (vals 1)).put (some 82) (vals 2)).put (some 83) (vals 3)).put (some 84) (vals 4)).put (some 85) (vals 5)).put (some 86) (vals 6)).put (some 87) (vals 7)).put (some 88) (vals 8)).put (some 89) (vals 9)).put (some 90) (vals 10)).put (some 91) (vals 11)).put (some 92) (vals 12)).put (some 93) (vals 13)).put (some 6) (vals 14) := hFF
          simp only [putAll] at hF2
          rw [hF2]
          have e14 := hI.val 14 o14 (hall 14 (by decide))
          rw [V14.out] at e14
          have bfin := hI.b
          clear hF2 hFF hI hall
          rw [e14]
          go_frame
          go_wp2_with fail
          go_ret
          exact ⟨rfl, below_trans hb6 bfin⟩
theorem aggOrder_walk (W : World) (A : Option Addr) (cap : Nat) (xs : List Nat) (hc : xs.length ≤ cap) (hl : cap ≤ maxLen) (hr : FReads W A xs) (hw : Words64 xs)
    (B : Option Addr) (capb : Nat) (bs : List Int) (hcb : bs.length ≤ capb) (hlb : bs.length * 1 ≤ 140737488351232) (hrb : Reads W .u8 B bs) (hwb : ∀ i, i < bs.length → (Lit.int .u8 (rd bs i)).wf = true) (c : Int) (hwc : (Lit.int .u8 c).wf = true) :
    Calls Try.prog 6 #[.slice A xs.length cap, .slice B bs.length capb, .int .u8 c] W fun e w' => e = .returned (.bool true) ∧ Below W.heap.size W w' :=
  aggOrder_any A cap xs B capb bs c W hc hr hw (by unfold maxLen at hl; omega) hrb (wf_bytes hwb) (by omega) (by simp [Lit.wf, IntKind.min, IntKind.max, IntKind.bits, IntKind.signed] at hwc; omega)
end Go.Proofs.Ytjmllggjaplldaa
