import Derived.Test.YtjmllggjaplldaaRd
import Derived.SizedLaws
import Derived.Test.YtjmllggjaplldaaAx
/-! Exact sums: a sum as bytes, and back: the walk of the law. -/
namespace Go.Proofs.Ytjmllggjaplldaa
open Go.RowKit
set_option linter.unusedVariables false
section
open Go.ChangeShapes Go.WideShapes Go.Deep
variable {H : Type} {enc : TypeId × Value → H} {P : Program} {W : World} {base : Nat} {spare : Nat → Bool} {held : Bool}
/-- A slice of numbers that came in, its bytes bounded. -/
theorem open_floats8 {t e : TypeId} {v : Value} {d : DataW H} {ps : List MemPlace} {ts : List TypeId} {ds : List (DataW H)} {j : Nat} {r : Reach} {b0 : Nat}
    (hu : P.underlying t = some (.slice e)) (he : P.underlying e = some (.float .f64)) (hc : P.cellsOf e = 1) (hB : P.bytesOf e = 8) (hv : Value.okWide P W r b0 t v)
    (hsz : (DataW.weightsEach P ts ds).all (· ≤ reachBytes) = true) (hts : ts[j]? = some t) (hds : ds[j]? = some d)
    (h : DataW.Trod enc P W base spare held t v d ps) :
    ∃ A cap, ∃ xs : List Nat, v = .slice A xs.length cap ∧ xs.length ≤ cap ∧ (cap ≤ maxLen ∧ xs.length * 8 ≤ 140737488351232) ∧ FReads W A xs ∧ Words64 xs := by
  have hlen : ∀ A len cap, v = .slice A len cap → len * 8 ≤ 140737488351232 := fun A len cap e => by
    subst e
    obtain ⟨fuel, hf⟩ := h
    rcases open_slice hu hf with ⟨hcs, _⟩ | ⟨x, l, c, m, n, D, Pl, hcs, _, hl, hm, hmm, hx, hall⟩
    · simp [Value.cells] at hcs
      omega
    · simp [Value.cells] at hcs
      obtain ⟨rfl, rfl, rfl⟩ := hcs
      obtain ⟨rfl, _⟩ := Prod.mk.inj hx
      have z := sized_slice hsz hts hds hu
      rw [hB, List.length_map, List.length_map, List.length_range, List.length_range] at z
      have hz : reachBytes = 140737488351232 := rfl
      rw [hz] at z
      omega
  obtain ⟨A, cap, xs, e, h1, h2, h3, h4⟩ := open_floats hu he hc hB hv hsz hts hds h
  exact ⟨A, cap, xs, e, h1, ⟨h2, hlen A xs.length cap e⟩, h3, h4⟩
end
end Go.Proofs.Ytjmllggjaplldaa
/-! A state as bytes, and back: the law. -/
namespace Go.Proofs.Ytjmllggjaplldaa
open Go.RowKit
set_option linter.unusedVariables false
attribute [-simp] Try.isAgg30 Try.sizeOf30 Try.typeInfo30 Try.type30
attribute [-simp] Try.isAgg32 Try.sizeOf32 Try.typeInfo32 Try.type32
attribute [-simp] Try.isAgg27 Try.sizeOf27 Try.typeInfo27 Try.type27

set_option maxRecDepth 100000 in
theorem fltInfo : ∃ i, Try.prog.info? 25 = some i ∧ i.zero = some (.float .f64 0) ∧ i.size = 1 ∧ i.bytes = 8 := ⟨_, rfl, rfl, rfl, rfl⟩
theorem Words64.app {xs ys : List Nat} (h : Words64 xs) (k : Words64 ys) : Words64 (xs ++ ys) := fun i hi => by
  rw [List.length_append] at hi
  unfold fd
  rw [List.getD_eq_getElem?_getD]
  by_cases hl : i < xs.length
  · rw [List.getElem?_append_left hl, ← List.getD_eq_getElem?_getD]; exact h i hl
  · rw [List.getElem?_append_right (by omega), ← List.getD_eq_getElem?_getD]; exact k _ (by omega)
theorem OwnF.setRow {w : World} {base : Nat} {v : Value} {xs : List Nat} (h : OwnF w base v xs) {g : Nat} (hg : g < base) (C : Array Value) : OwnF (w.setRow g C) base v xs := by
  have hb := below_setRow (Below.refl g w) (Nat.le_refl g) C
  refine World.ownsRow.kept (row := some g) h ⟨hb.os, hb.tape, hb.output, hb.size, fun i hi hne => setRow_other w g i C (fun e => hne (by rw [e]))⟩ (.inr fun e => ?_)
  have := (World.ownsRow.lt h g e).1
  omega
theorem below_via {n m : Nat} {w a b : World} (h : Below n w a) (k : Below m a b) (hm : n ≤ m) : Below n w b :=
  ⟨k.os.trans h.os, k.tape.trans h.tape, k.output.trans h.output, Nat.le_trans h.size k.size, fun i hi => (k.block i (Nat.lt_of_lt_of_le hi hm)).trans (h.block i hi)⟩
set_option maxRecDepth 100000 in
set_option maxHeartbeats 16000000 in
theorem aggBack_any (A : Option Addr) (cap : Nat) (xs : List Nat) (B : Option Addr) (capb : Nat) (ys : List Nat) (w : World) (hr : FReads w A xs) (h64 : Words64 xs) (hs : FReads w B ys) (k64 : Words64 ys) (hxl : xs.length ≤ 4611686018427387903) (hyl : ys.length ≤ 4611686018427387903) :
    Calls Try.prog 9 #[.slice A xs.length cap, .slice B ys.length capb] w fun e w' => e = .returned (.bool true) ∧ Below w.heap.size w w' := by
  have Hs := Lib.hid sizeState
  have aw := awake12_any
  by_cases h40 : 40 < xs.length + ys.length
  · go_enter Try.func9, Try.ntmps9
    have hi : (40 : Int) < (xs.length : Int) + (ys.length : Int) := by omega
    go_wp2_with (go_at_call 10; (with_reducible refine (aw _).mono ?_); rintro e w1 ⟨rfl, b1⟩)
    go_ret
    exact ⟨rfl, below_trans (by assumption) b1⟩
  · obtain ⟨Z, hZ, zz⟩ : ∃ Z : Array Value, Z.size = 43 ∧ ∀ w, (zeroValue 32).run Try.prog w = .ok (.agg Z) w := ⟨_, asC_size _, zeroState⟩
    have hof := fun w1 (b : Below w.heap.size w w1) => of_as A cap xs w1 (hr.below b) h64 (by omega)
    have hok := asOf_okA xs h64
    have hft := asOf_fit xs (by omega)
    have hi : ((xs.length : Int) + (ys.length : Int)) ≤ 40 := by omega
    have hla := fun w1 => lay_new (asOf xs) w1 hok
    have hrl := fun w1 (b : Below w.heap.size w w1) => refLay12_any A cap xs w1 (hr.below b) h64 (by omega)
    have htr := fun A5 n5 c5 k Z w1 => try_back_good A5 n5 c5 k (asOf xs) Z w1
    have hstep : ∀ k, k < ys.length → ∀ w1, Calls Try.prog 32 #[.agg (asC (asOf (xs ++ ys.take k))), .float .f64 (fd ys k)] w1 fun e w' => e = .returned (.agg (asC (asOf (xs ++ ys.take (k + 1))))) ∧ Below w1.heap.size w1 w' := fun k hk w1 => by
      have h := add_as (asOf (xs ++ ys.take k)) (fd ys k) w1 (asOf_okA _ (h64.app (fun i hi => by
        rw [List.length_take] at hi
        unfold fd
        rw [List.getD_eq_getElem?_getD, List.getElem?_take_of_lt (by omega), ← List.getD_eq_getElem?_getD]
        exact k64 i (by omega)))) (k64 k hk)
      rwa [← asOf_step xs ys k hk] at h
    have hall := h64.app k64
    have hlen : (xs ++ ys).length ≤ 40 := by rw [List.length_append]; omega
    have hv := fun A9 c9 w1 (h : FReads w1 A9 (xs ++ ys)) => valueR_any A9 c9 (xs ++ ys) w1 h hall (by omega)
    have htl := fun w1 => tell_as (asOf (xs ++ ys)) w1 (asOf_okA _ hall)
    have hsm := fun w1 => refAggSame_any (tellAS (asOf (xs ++ ys))) (valueR (xs ++ ys)) w1 (tellAS_ok (asOf_okA _ hall)) (valueR_ok _ hall (by omega))
    rw [tell_value _ (by omega)] at hsm
    have e0 : xs ++ ys.take 0 = xs := by simp
    have eN : xs ++ ys.take ys.length = xs ++ ys := by rw [List.take_length]
    have E0 := Lib.hid (show asC (asOf (xs ++ ys.take 0)) = asC (asOf xs) by rw [e0])
    have EN := Lib.hid (show asC (asOf (xs ++ ys.take ys.length)) = asC (asOf (xs ++ ys)) by rw [eN])
    have hsz : ∀ k, (asC (asOf (xs ++ ys.take k))).size = 43 := fun k => asC_size _
    have hon : ∀ k, (asC (asOf (xs ++ ys.take k))).all (·.oneCell') = true := fun k => asC_one _
    have h8L := layAS_bytes hok
    clear e0 eN hall h64 k64
    obtain ⟨St_, hSt⟩ : ∃ F : Nat → Array Value, F = fun k => asC (asOf (xs ++ ys.take k)) := ⟨_, rfl⟩
    replace hsz : ∀ k, (St_ k).size = 43 := by rw [hSt]; exact hsz
    replace hon : ∀ k, (St_ k).all (·.oneCell') = true := by rw [hSt]; exact hon
    replace hstep : ∀ k, k < ys.length → ∀ w1, Calls Try.prog 32 #[.agg (St_ k), .float .f64 (fd ys k)] w1 fun e w' => e = .returned (.agg (St_ (k + 1))) ∧ Below w1.heap.size w1 w' := by rw [hSt]; exact hstep
    replace E0 : Hid (St_ 0 = asC (asOf xs)) := Lib.hid (by rw [hSt]; exact E0.out)
    replace EN : Hid (St_ ys.length = asC (asOf (xs ++ ys))) := Lib.hid (by rw [hSt]; exact EN.out)
    clear hSt
    obtain ⟨C, hC⟩ : ∃ C, C = asC (asOf xs) := ⟨_, rfl⟩
    have hC1 : C.size = 43 := by rw [hC]; exact asC_size _
    have hC2 : C.all (·.oneCell') = true := by rw [hC]; exact asC_one _
    rw [← hC] at hof E0 hla htr
    clear hC
    generalize asC (asOf (xs ++ ys)) = CE at *
    generalize avC (tellAS (asOf (xs ++ ys))) = D at *
    generalize avC (valueR (xs ++ ys)) = DV at *
    replace htr := fun A5 n5 c5 k Z w1 h1 h2 h3 h4 h5 h6 h7 => htr A5 n5 c5 k Z w1 h1 h2 h3 h4 h5 h6 h7 hok hft
    clear hok hft
    generalize layAS (asOf xs) = LL at *
    obtain ⟨fi, f1, f2, f3, f4⟩ := fltInfo
    go_enter Try.func9, Try.ntmps9
    go_upto_region 5 with (first
      | (go_at_call 10; (with_reducible refine (aw _).mono ?_); rintro e w1 ⟨rfl, b1⟩)
      | (go_at_call 11; (with_reducible refine (hof _ b1).mono ?_); rintro e w2 ⟨rfl, b2⟩)
      | (refine at_op (.alloc 32) ?_ rfl; refine wpList_alloc_row rfl _ 32 rfl (some 5) rfl w2.heap.size rfl Z zz ?_)
      | (refine at_op (.store 32 (.tmp 5) (.tmp 22)) ?_ rfl; refine wpList_store_row rfl 32 (.tmp 5) (.tmp 22) rfl w2.heap.size C rfl rfl 32 _ (heap_alloc_new w2 _) (by rw [hC1]; exact Hs.out) (by rw [hZ, hC1]) hC2 ?_; rw [World.setRow_alloc_new]; have k3 := Lib.hid (heap_alloc_new w2 (.cells C 32)); have bb3 := below_alloc (below_trans b1 b2) (.cells C 32); generalize w2.heap.size = g3 at *; generalize w2.alloc (.cells C 32) = w3 at *)
      | (refine at_op0 (.load 32 (.tmp 5)) ?_ rfl rfl; refine wpList_load_row rfl 32 (.tmp 5) rfl g3 rfl 32 _ (0, 0) _ k3.out Try.underlying32 rfl (by rw [hC1]; exact Hs.out) ?_)
      | (go_at_call 23; (with_reducible refine (hla _).mono ?_); rintro e w4 ⟨v4, rfl, o4, b4⟩; have bb4 := below_trans bb3 b4))
    obtain ⟨A5, c5, rfl, hc5, r5⟩ := o4.form
    have HL5 := Lib.hid r5
    clear aw hof k3 o4 b4 bb3 b1 b2 hla
    have hrl := fun w1 (b : Below w4.heap.size w4 w1) => hrl w1 (below_trans bb4 b)
    have HSQ : ∀ wq : World, Below w4.heap.size w4 wq → (convert 37 9 (.slice A5 LL.length c5)).run Try.prog wq = .ok (.string (strOfNums LL)) wq := fun wq b => run_string_reads wq _ _ 5 Try.underlying37 Try.underlying5 Try.underlying9 A5 c5 _ (HL5.out.below b)
    obtain ⟨ss, hss⟩ : ∃ ss, ss = strOfNums LL := ⟨_, rfl⟩
    rw [← hss] at HSQ
    have Hss := Lib.hid hss
    clear hss
    have HSE : Hid ((ss.toList == ss.toList) = true) := Lib.hid (beq_self_eq_true _)
    generalize hn5 : LL.length = n5 at *
    have HN5 := Lib.hid hn5
    clear hn5 r5
    obtain ⟨CV, hCV⟩ : ∃ CV : Nat → Value, CV = fun j => match j with
      | 0 => .slice A5 n5 c5
      | 1 => .string ss
      | 2 => .slice A xs.length cap
      | 4 => .string ss
      | 5 => .bool false
      | _ => undef := ⟨_, rfl⟩
    obtain ⟨isO, hO⟩ : ∃ isO : Nat → Bool, isO = fun j => match j with
      | 3 => true
      | _ => false := ⟨_, rfl⟩
    obtain ⟨BL, hBL⟩ : ∃ BL : Nat → List Int, BL = fun j => match j with
      | 3 => LL
      | _ => [] := ⟨_, rfl⟩
    have v0 : CV 0 = .slice A5 n5 c5 := congrFun hCV 0
    have o0 : isO 0 = false := congrFun hO 0
    have v1 : CV 1 = .string ss := congrFun hCV 1
    have o1 : isO 1 = false := congrFun hO 1
    have v2 : CV 2 = .slice A xs.length cap := congrFun hCV 2
    have o2 : isO 2 = false := congrFun hO 2
    have o3 : isO 3 = true := congrFun hO 3
    have l3 : BL 3 = LL := congrFun hBL 3
    have v4 : CV 4 = .string ss := congrFun hCV 4
    have o4 : isO 4 = false := congrFun hO 4
    have v5 : CV 5 = .bool false := congrFun hCV 5
    have o5 : isO 5 = false := congrFun hO 5
    clear hCV hO hBL
    have V0 := Lib.hid v0
    have V1 := Lib.hid v1
    have V2 := Lib.hid v2
    have LL3 := Lib.hid l3
    have V4 := Lib.hid v4
    have V5 := Lib.hid v5
    clear v0 v1 v2 l3 v4 v5
    refine region_run (RegI w4 isO BL CV) (by kernel_rfl) (by kernel_rfl) (by kernel_rfl) (by kernel_rfl) (RegI.start w4 6) ?_ ?_
    · intro listed vals a1 wq i hs hcl hI hR hi hu hr1
      replace hi : i < 6 := hi
      obtain rfl | hi1 : i = 0 ∨ 1 ≤ i := by omega
      · have t6 := hR.fixed 6 (by kernel_rfl) rfl
        clear hrl HSQ htr hstep hv htl hsm
        exact wpOp_val rfl rfl (by rw [V0.out]; go_simp) ⟨_, rfl, hI.keep (Below.refl _ _) 0 o0⟩
      obtain rfl | hi1 : i = 1 ∨ 2 ≤ i := by omega
      · have t25 : a1.tmps[25]? = some (.slice A5 n5 c5) := hI.get hR hr1 0 o0 (by kernel_rfl) (by decide) rfl V0.out
        have hcv := HSQ wq hI.b
        clear hrl HSQ htr hstep hv htl hsm
        exact wpOp_val rfl rfl (by rw [V1.out]; go_simp) ⟨_, rfl, hI.keep (Below.refl _ _) 1 o1⟩
      obtain rfl | hi1 : i = 2 ∨ 3 ≤ i := by omega
      · have t0 := hR.fixed 0 (by kernel_rfl) rfl
        clear hrl HSQ htr hstep hv htl hsm
        exact wpOp_val rfl rfl (by rw [V2.out]; go_simp) ⟨_, rfl, hI.keep (Below.refl _ _) 2 o2⟩
      obtain rfl | hi1 : i = 3 ∨ 4 ≤ i := by omega
      · have t27 : a1.tmps[27]? = some (.slice A xs.length cap) := hI.get hR hr1 2 o2 (by kernel_rfl) (by decide) rfl V2.out
        have hc1 := hrl wq hI.b
        clear hrl HSQ htr hstep hv htl hsm
        refine wpOp_calls (f := 29) (args := #[.slice A xs.length cap]) rfl rfl (by go_simp) (hc1.mono ?_)
        rintro e wz ⟨v, rfl, ho, b⟩
        exact ⟨_, rfl, _, rfl, hI.keepB b 3 o3 v (by rw [LL3.out]; exact ho)⟩
      obtain rfl | hi1 : i = 4 ∨ 5 ≤ i := by omega
      · have tv : a1.tmps[28]? = some (vals 3) := hR.dep hr1 3 (by kernel_rfl) (by decide) rfl
        have ho := hI.own 3 o3 (dep_of hr1 (by kernel_rfl))
        rw [LL3.out] at ho
        obtain ⟨A9, c9, e9, _, r9⟩ := ho.form
        rw [e9] at tv
        have hcv := run_string_reads (P := Try.prog) wq 37 9 5 Try.underlying37 Try.underlying5 Try.underlying9 A9 c9 _ r9
        rw [← Hss.out] at hcv
        generalize List.length (LL) = n9 at *
        clear e9 ho r9
        clear hrl HSQ htr hstep hv htl hsm
        exact wpOp_val rfl rfl (by rw [V4.out]; go_simp) ⟨_, rfl, hI.keep (Below.refl _ _) 4 o4⟩
      obtain rfl : i = 5 := by omega
      have t26 : a1.tmps[26]? = some (.string ss) := hI.get hR hr1 1 o1 (by kernel_rfl) (by decide) rfl V1.out
      have t29 : a1.tmps[29]? = some (.string ss) := hI.get hR hr1 4 o4 (by kernel_rfl) (by decide) rfl V4.out
      have h1 := HSE.out
      clear hrl HSQ htr hstep hv htl hsm
      exact wpOp_val rfl rfl (by rw [V5.out]; go_simp) ⟨_, rfl, hI.keep (Below.refl _ _) 5 o5⟩
    · intro listed vals wq FF hI hall hFF
      have hF2 : FF = (((((Act.put _ (some 25) (vals 0)).put (some 26) (vals 1)).put (some 27) (vals 2)).put (some 28) (vals 3)).put (some 29) (vals 4)).put (some 30) (vals 5) := hFF
      simp only [putAll] at hF2
      rw [hF2]
      have e5 := hI.val 5 o5 (hall 5 (by decide))
      rw [V5.out] at e5
      have bfin := hI.b
      clear hF2 hFF hI hall
      rw [e5]
      go_frame
      generalize vals 0 = x0
      generalize vals 1 = x1
      generalize vals 2 = x2
      generalize vals 3 = x3
      generalize vals 4 = x4
      have bq := below_trans bb4 bfin
      have r6 := HL5.out.below bfin
      have hxa := hr.below bq
      have hya := hs.below bq
      have hBq : ∀ k, wq.heap.size ≤ k → LL ≠ [] → ∀ a, A5 = some a → a.block < k := fun k hk hne a e => Nat.lt_of_lt_of_le (reads_lt r6 hne a e) hk
      have htq : ∀ w1 : World, w1 = wq.alloc (.cells Z 32) → Calls Try.prog 26 #[.slice A5 n5 c5, .func (.func 30) #[] #[.pointer (some ⟨wq.heap.size, 0, none⟩)]] w1 fun e w' => e = .returned (.bool true) ∧ Below wq.heap.size w1 w' ∧ w'.heap[wq.heap.size]? = some (.cells C 32) := fun w1 e => by
        subst e
        exact htr A5 n5 c5 wq.heap.size Z _ rfl hc5 (r6.below (below_alloc (Below.refl _ _) _)) (hBq _ (Nat.le_refl _)) (by simp) (heap_alloc_new _ _) hZ
      have ba := below_alloc (Below.refl wq.heap.size wq) (.cells Z 32)
      have hsza : (wq.alloc (.cells Z 32)).heap.size = wq.heap.size + 1 := by simp
      have Hys := Lib.hid (fun w1 (b : Below w.heap.size w w1) => hs.below b)
      clear htr hBq HSQ hrl r6 HL5 hc5 bfin HSE Hss HN5 hr hs
      have lx : ([] : List Nat).length + xs.length ≤ 1000 := by show 0 + _ ≤ _; omega
      have ly : ([] ++ xs).length + ys.length ≤ 1000 := by show xs.length + _ ≤ _; omega
      go_upto_block 0 with (first
        | (refine at_op (.alloc 32) ?_ rfl; refine wpList_alloc_row rfl _ 32 rfl (some 7) rfl wq.heap.size rfl Z zz ?_; have ht := htq _ rfl)
        | (go_at_call 26; (with_reducible refine ht.mono ?_); rintro e w6 ⟨rfl, b6, k6⟩; have bw6 := below_via ba b6 (Nat.le_refl _); have hx6 := hxa.below bw6; have hy6 := hya.below bw6; have hs6 := b6.size)
        | (at_builtin; first
            | (refine wpList_appendF rfl _ (.tmp 35) (.tmp 36) 22 rfl (wq.heap.size + 1) Try.underlying22 fi f1 f2 f3 f4 (.slice none 0 0) [] rfl (World.ownsRow_nil _ _ _ _) A cap xs rfl hx6 lx (by omega) ?_
               intro v7 w7 o7 g7 n7
               have b7 := below_of_grown g7 (fun k e => by cases e)
               have hy7 := hy6.below b7
               have k7 := (b7.block _ (heap_lt k6)).trans k6
               have hs7 := b7.size)
            | (refine wpList_appendF rfl _ (.tmp 38) (.tmp 39) 22 rfl (wq.heap.size + 1) Try.underlying22 fi f1 f2 f3 f4 v7 ([] ++ xs) rfl o7 B capb ys rfl hy7 ly (by omega) ?_
               intro v8 w8 o8 g8 n8)))
      have k8 := (g8.block _ (heap_lt k7) (fun e => by have := (World.ownsRow.lt o7 _ e.symm).1; omega)).trans k7
      have bb8 := (below_trans (below_trans bq bw6) b7).grown g8 (by have := bq.size; omega) (fun g e => by have := (World.ownsRow.lt o7 g e).1; have := bq.size; omega)
      have hqs := bq.size
      rw [List.nil_append] at o8
      obtain ⟨A8, c8, rfl, hc8, -⟩ := o8.form
      generalize hn8 : (xs ++ ys).length = nn at *
      have HN8 := Lib.hid hn8
      generalize hgq : wq.heap.size = gu at *
      have K0 := E0
      rw [← E0.out] at k8
      clear g8 n8 o7 g7 n7 b7 hy7 k7 hs7 bw6 hx6 hy6 hs6 b6 k6 ht htq ba hsza hxa hya bq lx ly zz E0 K0 hn8 hC1 hC2 hgq f1 f2 f3 f4 hZ
      go_wp2_with fail
      go_loopw [9] (fun i wr => ∃ k : Nat, k ≤ ys.length ∧ i = .int .i64 k ∧ wr.heap[gu]? = some (.cells (St_ k) 32 (0, 0)) ∧ OwnF wr (gu + 1) (.slice A8 nn c8) (xs ++ ys) ∧ Below w.heap.size w wr) (fun i _ => ys.length - (intOf i).toNat)
      case atStart => exact ⟨0, Nat.zero_le _, rfl, k8, o8, bb8⟩
      case round =>
        clear k8 o8 bb8
        obtain ⟨k, hk, rfl, h5, ho, hb⟩ := hrel
        have H5 := Lib.hid h5
        have Ho := Lib.hid ho
        clear h5 ho
        by_cases hlt : k < ys.length
        · obtain ⟨a, rfl, c0⟩ := (Hys.out wr hb) k hlt
          have hadd := hstep k hlt
          have hF1 := hsz k
          have hF2 := hsz (k + 1)
          have hF3 := hon (k + 1)
          have HL := Lib.hid (run_loadCellsFrom_row (P := Try.prog) wr.drew gu 32 (St_ k) (0, 0) H5.out 43 hF1)
          have b5d := fun w4 (b4 : Below wr.drew.heap.size wr.drew w4) => (b4.block _ (heap_lt H5.out)).trans H5.out
          have hki : (k : Int) < (ys.length : Int) := by omega
          generalize St_ k = F at *
          generalize hF' : St_ (k + 1) = F' at *
          have HF' := Lib.hid hF'
          clear hF' hstep hv htl hsm Hys
          go_upto_region 16 with fail
          go_region_with (first
            | (rw [Try.isAgg32]; simp only [Result.andThen_ok, if_true, run_sizeOf_info Hs.out, HL.out])
            | (go_at_call 32; (with_reducible refine (hadd _).mono ?_); rintro e w9 ⟨rfl, b9⟩)
            | (rw [run_sizeOf_info Hs.out]; simp only [Result.andThen_ok, if_true, run_storeCells_row w9 gu 32 F F' (b5d w9 b9) (by rw [hF2]; exact Hs.out) (by rw [hF1, hF2]) hF3]))
          all_goals
            go_wp2_with fail
            exact ⟨⟨k + 1, by omega, by go_num, by rw [HF'.out]; exact setRow_heap _ _ _ _ _ _ (b5d w9 b9), (OwnF.below (OwnF.below Ho.out (Below.refl _ _).drew) b9).setRow (Nat.lt_succ_self gu) F', below_setRow (below_trans hb.drew b9) hqs _⟩, by simp [intOf]; omega⟩
        · obtain rfl : k = ys.length := by omega
          have H5 := H5
          rw [EN.out] at H5
          obtain ⟨A9, c9, e9, -, r9⟩ := OwnF.form Ho.out
          injection e9 with e10 e11 e12
          subst e10 e12
          clear e11
          have hCs : CE.size = 43 := by rw [← EN.out]; exact hsz _
          clear hstep hon Hys
          go_wp2_with (first
            | (refine at_op (.load 32 (.tmp 7)) ?_ rfl; refine wpList_load_row rfl 32 (.tmp 7) rfl gu rfl 32 CE (0, 0) _ H5.out Try.underlying32 rfl (by rw [hCs]; exact Hs.out) ?_)
            | (go_at_call 12; (with_reducible refine (htl _).mono ?_); rintro e w9 ⟨rfl, b9⟩; have r10 := r9.below b9; have hv1 := hv A8 c8 w9 r10)
            | (go_at_call 18; (with_reducible refine hv1.mono ?_); rintro e w10 ⟨rfl, b10⟩)
            | (go_at_call 17; (with_reducible refine (hsm _).mono ?_); rintro e w11 ⟨rfl, b11⟩))
          go_ret
          exact ⟨rfl, below_trans (below_trans (below_trans hb b9) b10) b11⟩
theorem aggBack_walk (W : World) (A : Option Addr) (cap : Nat) (xs : List Nat) (hc : xs.length ≤ cap) (hl : cap ≤ maxLen ∧ xs.length * 8 ≤ 140737488351232) (hr : FReads W A xs) (hw : Words64 xs)
    (B : Option Addr) (capb : Nat) (ys : List Nat) (hcb : ys.length ≤ capb) (hlb : capb ≤ maxLen ∧ ys.length * 8 ≤ 140737488351232) (hrb : FReads W B ys) (hwb : Words64 ys) :
    Calls Try.prog 9 #[.slice A xs.length cap, .slice B ys.length capb] W fun e w' => e = .returned (.bool true) ∧ Below W.heap.size W w' :=
  aggBack_any A cap xs B capb ys W hr hw hrb hwb (by omega) (by omega)
end Go.Proofs.Ytjmllggjaplldaa
