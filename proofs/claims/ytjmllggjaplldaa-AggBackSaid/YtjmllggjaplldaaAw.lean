import Derived.Test.YtjmllggjaplldaaAv
import Derived.Test.YtjmllggjaplldaaAn
import Derived.Deep.MidRow
/-! States read. -/
namespace Go.Proofs.Ytjmllggjaplldaa
open Go.RowKit
set_option linter.unusedVariables false
attribute [-simp] Try.isAgg30 Try.sizeOf30 Try.typeInfo30 Try.type30
attribute [-simp] Try.isAgg32 Try.sizeOf32 Try.typeInfo32 Try.type32

set_option maxRecDepth 100000 in
set_option maxHeartbeats 4000000 in
theorem text_some (g B most : Nat) (ys rest : List Int) (w : World) (h : RdSt w g B (textL ys ++ rest)) (h8 : Bytes8 (textL ys ++ rest)) (hm : most < 9223372036854775808) (hl : ys.length ≤ most) (hne : ys ≠ []) (hL : (ys ++ rest).length ≤ 1000000) :
    Calls Try.prog 59 #[.pointer (some ⟨g, 0, none⟩), .int .i64 (most : Nat)] w fun e w' => e = .returned (.string (strOfNums ys)) ∧ RdSt w' g B rest ∧ w.grownBy w' (some g) := by
  have hk := fun v w => check_ok v w
  have e0 : textL ys ++ rest = uintL ys.length ++ (ys ++ rest) := by unfold textL; rw [List.append_assoc]
  have hu : rdU most 10 0 0 (textL ys ++ rest) = some (ys.length, ys ++ rest) := by rw [e0, rdU_uintL _ _ _ (by omega), if_pos hl]
  have hc := uint_some g B most ys.length _ (ys ++ rest) w h h8 (by omega) hu
  have hln : (ys ++ rest).length = ys.length + rest.length := List.length_append
  rw [hln] at hL
  have hwm : IntKind.u64.wrap (most : Int) = (most : Int) := by rw [IntKind.wrap_u64]; omega
  clear hu h h8
  go_enter Try.func59, Try.ntmps59
  go_upto_region 2 with (go_at_call 54; (with_reducible refine hc.mono ?_); rintro e w1 ⟨rfl, hs, hg⟩)
  obtain ⟨⟨A, cap, hcell, hlc, hr, hn⟩, hf⟩ := hs
  have hfin := RdSt.cut hcell hlc hr hn hf ys.length (by omega)
  rw [List.drop_left, hln, Nat.add_sub_cancel_left] at hfin
  have hg2 := RdSt.grown_trans hg (grown_setCell w1 g 0 (.slice (cutAt A cap ys.length) rest.length (cap - ys.length)))
  have hst := fun c => run_string_reads w1 37 9 5 Try.underlying37 Try.underlying5 Try.underlying9 A c ys (by have := hr.take ys.length; rwa [List.take_left] at this)
  rw [hln] at hcell hlc
  obtain ⟨a, rfl⟩ := hr.some_ (by have := List.length_pos_iff.2 hne; omega)
  obtain ⟨ss, hss⟩ : ∃ ss, ss = strOfNums ys := ⟨_, rfl⟩
  rw [← hss] at hst
  have Hss := Lib.hid hss
  have Hfin := Lib.hid hfin
  have Hg2 := Lib.hid hg2
  clear hfin hg2 hg hr hn hss hc e0
  generalize ys.length = n at *
  generalize rest.length = m at *
  have hd : decide ((n : Int) ≤ IntKind.u64.wrap ((n : Int) + (m : Int))) = true := decide_eq_true (by rw [IntKind.wrap_u64]; omega)
  clear hln hne hwm hL
  go_wp2_with (go_at_call 60; (with_reducible refine (hk _ _).mono ?_); rintro e w2 ⟨rfl, rfl⟩)
  all_goals
    go_ret
    have hf2 := Hfin.out
    have hg3 := Hg2.out
    have hres : Ending.returned (.string ss) = Ending.returned (.string (strOfNums ys)) := by rw [Hss.out]
    by_cases hq : cap = n
    · first
        | (subst hq
           rw [Nat.sub_self] at hf2 hg3
           simp only [cutAt, if_true] at hf2 hg3
           exact ⟨hres, hf2, hg3⟩)
        | (exfalso; omega)
    · first
        | (simp only [cutAt] at hf2 hg3
           rw [if_neg hq] at hf2 hg3
           exact ⟨hres, hf2, hg3⟩)
        | (exfalso; omega)
/-- A state that is sound: its ends have one form each, and it has values just if its sum has. -/
structure AS.fit (a : AS) : Prop where
  n : a.n ≤ 1099511627776
  lo : canon a.lo = a.lo
  hi : canon a.hi = a.hi
  any : decide (0 < a.n) = a.s.any
  none_ : a.n = 0 → a.lo = 0 ∧ a.hi = 0
theorem run_bytes_strC {P : Program} (w : World) (src dst e : TypeId) (ys : List Int) (h8 : Bytes8 ys) (hs : P.underlying src = some .string) (hd : P.underlying dst = some (.slice e)) (he : P.underlying e = some (.int .u8)) :
    ∃ c w2, (convert src dst (.string (strOfNums ys))).run P w = .ok (.slice (some ⟨w.heap.size, 0, none⟩) ys.length c) w2 ∧ Reads w2 .u8 (some ⟨w.heap.size, 0, none⟩) ys ∧ Below w.heap.size w w2 ∧ ys.length ≤ c := by
  have h := run_bytes_of_string (P := P) w src dst e (strOfNums ys) hs hd he
  rw [len_string] at h
  obtain ⟨c, w2, h1, h2, h3⟩ := run_bytes_str (P := P) w src dst e ys h8 hs hd he
  have h4 := h1.symm.trans h
  injection h4 with h5 h6
  injection h5 with h7 h8 h9
  exact ⟨c, w2, h1, h2, h3, by rw [h9]; exact grownCap_ge _ _ _ _⟩
set_option maxRecDepth 100000 in
theorem built_stateN (n : Int) : Try.prog.built 32 [(0, .int .u64 n)] = some ((asC noAS).setIfInBounds 0 (.int .u64 n)) := by
  rw [built_of 32 Try.t32 (asC noAS) _ [(0, 1), (1, 40), (41, 1), (42, 1)] (by kernel_rfl) (by kernel_rfl) Try.underlying32 (by kernel_rfl)]
  rfl
theorem asC_set_n (a : AS) (n : Nat) : (asC a).setIfInBounds 0 (.int .u64 (n : Int)) = asC ⟨n, a.s, a.lo, a.hi⟩ := by
  apply Array.ext_getElem?
  intro i
  by_cases h0 : i = 0
  · subst h0
    rw [Array.getElem?_setIfInBounds_self_of_lt (by rw [asC_size]; decide), asC_n]
  · rw [Array.getElem?_setIfInBounds_ne (Ne.symm h0)]
    unfold asC
    simp [Array.getElem?_append, h0]
theorem asC_fill (n : Nat) (s : St) (lo hi : Nat) : ((setMany (asC ⟨n, noSt, 0, 0⟩) 1 (sumC s).toList).setIfInBounds 41 (.float .f64 lo)).setIfInBounds 42 (.float .f64 hi) = asC ⟨n, s, lo, hi⟩ := by
  have hl : (sumC s).toList.length = 40 := by simp [sumC_size]
  apply Array.ext_getElem?
  intro i
  by_cases h42 : i = 42
  · subst h42
    rw [Array.getElem?_setIfInBounds_self_of_lt (by simp [setMany_size, asC_size]), asC_hi]
  rw [Array.getElem?_setIfInBounds_ne (Ne.symm h42)]
  by_cases h41 : i = 41
  · subst h41
    rw [Array.getElem?_setIfInBounds_self_of_lt (by simp [setMany_size, asC_size]), asC_lo]
  rw [Array.getElem?_setIfInBounds_ne (Ne.symm h41), setMany_at _ _ _ _ (by rw [hl, asC_size]; decide), hl]
  by_cases h1 : 1 ≤ i ∧ i < 1 + 40
  · rw [if_pos h1]
    obtain ⟨j, rfl⟩ : ∃ j, i = 1 + j := ⟨i - 1, by omega⟩
    rw [asC_s _ _ (by omega), Nat.add_sub_cancel_left, Array.getElem?_toList]
  · rw [if_neg h1]
    by_cases h0 : i = 0
    · subst h0; rw [asC_n, asC_n]
    · rw [Array.getElem?_eq_none (by rw [asC_size]; omega), Array.getElem?_eq_none (by rw [asC_size]; omega)]
/-- While a state's parts are laid into it: what each operation left; the world by what is stored. -/
structure RegW (Wf : Bool → Bool → Bool → World) (CV : Nat → Value) (listed : Array Bool) (vals : Nat → Value) (w' : World) : Prop where
  val : ∀ j, listed.getD j false = true → vals j = CV j
  wd : w' = Wf (listed.getD 6 false) (listed.getD 8 false) (listed.getD 10 false)
section
variable {Wf : Bool → Bool → Bool → World} {CV vals : Nat → Value} {listed : Array Bool} {w1 : World}
theorem RegW.start (n : Nat) : RegW Wf CV (Array.replicate n false) (fun _ => undef) (Wf false false false) :=
  ⟨fun j h => absurd h (by rw [getD_replicate_false]; decide), by rw [getD_replicate_false, getD_replicate_false, getD_replicate_false]⟩
theorem RegW.keepVal (h : RegW Wf CV listed vals w1) (i : Nat) {v : Value} (hv : CV i = v) : ∀ j, (listed.setIfInBounds i true).getD j false = true → upd vals i v j = CV j := fun j hl => by
  subst hv
  by_cases e : i = j
  · subst e; simp [upd]
  · rw [getD_set_ne false e] at hl
    simp [upd, Ne.symm e, h.val j hl]
theorem RegW.keep (h : RegW Wf CV listed vals w1) (i : Nat) (h6 : i ≠ 6) (h8 : i ≠ 8) (h10 : i ≠ 10) {v : Value} (hv : CV i = v) : RegW Wf CV (listed.setIfInBounds i true) (upd vals i v) w1 :=
  ⟨h.keepVal i hv, by rw [getD_set_ne false h6, getD_set_ne false h8, getD_set_ne false h10]; exact h.wd⟩
theorem RegW.get (h : RegW Wf CV listed vals w1) {ops : Array Oper} {a0 a : Act} (hR : InRun ops a0 listed vals a) {i : Nat} (hr : i ∈ Region.ready .any ops listed) (j : Nat) (hw : Region.waitsFor .any ops i j = true) {d : Tmp} (hj : j < ops.size) (hd : dstAt ops j = some d) {v : Value} (hv : CV j = v) : a.tmps[d]? = some v := by
  rw [hR.dep hr j hw hj hd, h.val j (dep_of hr hw), hv]
end
set_option maxRecDepth 100000 in
set_option maxHeartbeats 16000000 in
theorem readAgg_good (g B : Nat) (a : AS) (rest : List Int) (w : World) (h : RdSt w g B (layAS a ++ rest)) (h8 : Bytes8 rest) (hB : B ≤ w.heap.size) (hok : a.ok) (hft : a.fit) (hL : rest.length ≤ 1000) :
    Calls Try.prog 31 #[.pointer (some ⟨g, 0, none⟩)] w fun e w' => e = .returned (.agg (asC a)) ∧ RdSt w' g B rest ∧ w.grownBy w' (some g) := by
  have hk := fun v w => check_ok v w
  have e0 : layAS a ++ rest = uintL a.n ++ (textL (bytesOf a.s) ++ (uintL a.lo ++ (uintL a.hi ++ rest))) := by unfold layAS; rw [hft.lo, hft.hi]; simp only [List.append_assoc]
  rw [e0] at h
  have h8c : Bytes8 (uintL a.hi ++ rest) := (uintL_bytes hok.hi).append h8
  have h8b : Bytes8 (uintL a.lo ++ (uintL a.hi ++ rest)) := (uintL_bytes hok.lo).append h8c
  have h8s := bytesOf_bytes a.s
  have hls := bytesOf_len a.s
  have h8a : Bytes8 (textL (bytesOf a.s) ++ (uintL a.lo ++ (uintL a.hi ++ rest))) := (textL_bytes h8s (by omega)).append h8b
  have h80 : Bytes8 (uintL a.n ++ (textL (bytesOf a.s) ++ (uintL a.lo ++ (uintL a.hi ++ rest)))) := (uintL_bytes hok.n).append h8a
  have hl1 := (uintL_len a.lo).2
  have hl2 := (uintL_len a.hi).2
  have c1 := fun w hs => uint_some g B 1099511627776 a.n _ _ w hs h80 (by decide) (by rw [rdU_uintL _ _ _ hok.n, if_pos hft.n])
  have c2 := fun w hs => text_some g B 281 (bytesOf a.s) _ w hs h8a (by decide) hls (by unfold bytesOf; simp) (by simp only [List.length_append]; omega)
  have c3 := fun w hs => uint_some g B 18446744073709551615 a.lo _ _ w hs h8b (by decide) (by rw [rdU_uintL _ _ _ hok.lo, if_pos (Nat.le_of_lt_succ hok.lo)])
  have c4 := fun w hs => uint_some g B 18446744073709551615 a.hi _ _ w hs h8c (by decide) (by rw [rdU_uintL _ _ _ hok.hi, if_pos (Nat.le_of_lt_succ hok.hi)])
  have c1 : ∀ w, RdSt w g B (uintL a.n ++ (textL (bytesOf a.s) ++ (uintL a.lo ++ (uintL a.hi ++ rest)))) → Calls Try.prog 54 #[.pointer (some ⟨g, 0, none⟩), .int .u64 1099511627776] w fun e w' => e = .returned (.int .u64 (a.n : Nat)) ∧ RdSt w' g B (textL (bytesOf a.s) ++ (uintL a.lo ++ (uintL a.hi ++ rest))) ∧ w.grownBy w' (some g) := c1
  have c2 : ∀ w, RdSt w g B (textL (bytesOf a.s) ++ (uintL a.lo ++ (uintL a.hi ++ rest))) → Calls Try.prog 59 #[.pointer (some ⟨g, 0, none⟩), .int .i64 281] w fun e w' => e = .returned (.string (strOfNums (bytesOf a.s))) ∧ RdSt w' g B (uintL a.lo ++ (uintL a.hi ++ rest)) ∧ w.grownBy w' (some g) := c2
  have c3 : ∀ w, RdSt w g B (uintL a.lo ++ (uintL a.hi ++ rest)) → Calls Try.prog 54 #[.pointer (some ⟨g, 0, none⟩), .int .u64 18446744073709551615] w fun e w' => e = .returned (.int .u64 (a.lo : Nat)) ∧ RdSt w' g B (uintL a.hi ++ rest) ∧ w.grownBy w' (some g) := c3
  have c4 : ∀ w, RdSt w g B (uintL a.hi ++ rest) → Calls Try.prog 54 #[.pointer (some ⟨g, 0, none⟩), .int .u64 18446744073709551615] w fun e w' => e = .returned (.int .u64 (a.hi : Nat)) ∧ RdSt w' g B rest ∧ w.grownBy w' (some g) := c4
  have hrb : ∀ A cap (w : World), (bytesOf a.s).length ≤ cap → Reads w .u8 A (bytesOf a.s) → Calls Try.prog 58 #[.slice A (bytesOf a.s).length cap] w fun e w' => e = .returned (.tuple #[.agg (sumC a.s), .int .i64 0]) ∧ Below w.heap.size w w' := fun A cap w hc hr => by
    have := read_any A cap (bytesOf a.s) w hc hr h8s (by omega)
    rw [read_back] at this
    rw [← sum_back a.s]
    exact this
  have o1 := fun w => realOf_any a.lo w
  have o2 := fun w => realOf_any a.hi w
  have b1 := fun w => realBits_any a.lo w
  have b2 := fun w => realBits_any a.hi w
  rw [hft.lo] at o1 b1
  rw [hft.hi] at o2 b2
  have ha := fun w => any_any a.s w
  rw [← hft.any] at ha
  have hnone := hft.none_
  have hnle := hft.n
  have h8sb := h8s
  obtain ⟨n, s, lo, up⟩ := a
  simp only at *
  clear hok hft e0 h8 h8c h8b h8a h80 hl1 hl2 hls hL
  have hbs := fun w1 : World => run_bytes_strC (P := Try.prog) w1 9 37 5 (bytesOf s) h8s Try.underlying9 Try.underlying37 Try.underlying5
  generalize bytesOf s = bs at *
  generalize strOfNums bs = SS at *
  obtain ⟨sl, hsl⟩ : ∃ sl, sl = bs.length := ⟨_, rfl⟩
  have zz := zeroState
  have zs := zero30
  have Hs := Lib.hid sizeState
  have Hs30 := Lib.hid size30
  obtain ⟨Z, hZ⟩ : ∃ Z, Z = asC noAS := ⟨_, rfl⟩
  obtain ⟨C1, hC1⟩ : ∃ C1, C1 = asC ⟨n, noSt, 0, 0⟩ := ⟨_, rfl⟩
  have hbd : Try.prog.built 32 [(0, .int .u64 (n : Int))] = some C1 := by rw [built_stateN, hC1, asC_set_n]; rfl
  have hC1s : C1.size = 43 := by rw [hC1, asC_size]
  have hZs : Z.size = 43 := by rw [hZ, asC_size]
  have hC1o : C1.all (·.oneCell') = true := by rw [hC1]; exact asC_one _
  have hga := grown_alloc (grown_refl w (some g)) (.cells Z 32)
  have hs0 := h.below (below_alloc (Below.refl w.heap.size w) (.cells Z 32))
  have hgl := h.lt
  rw [← hZ] at zz
  have HZ := Lib.hid hZ
  have HC1 := Lib.hid hC1
  clear hC1 hZ h
  have hSs := sumC_size s
  have hSo := sumC_one s
  have hfill := Lib.hid (asC_fill n s lo up)
  have hD := Lib.hid (asC_one ⟨n, s, lo, up⟩)
  generalize hS : sumC s = S at *
  go_enter Try.func31, Try.ntmps31
  go_upto_region 4 with (first
    | (refine at_op (.alloc 32) ?_ rfl; first
        | (refine wpList_alloc_row rfl _ 32 rfl (some 2) rfl w.heap.size rfl Z zz ?_; have hz2 := heap_alloc_new w (.cells Z 32))
        | (refine wpList_alloc_row rfl _ 32 rfl (some 3) rfl w1.heap.size rfl Z zz ?_; have hz3 := heap_alloc_new w1 (.cells Z 32)))
    | (go_at_call 54; ((with_reducible refine (c1 _ hs0).mono ?_); rintro e w1 ⟨rfl, hs1, hg1⟩; have ga1 := RdSt.grown_trans hga hg1; have kz1 := RdSt.row hg1 hz2 (by omega)))
    | (refine run_built4 rfl 32 _ rfl C1 (by simp only [List.map_toArray, List.map_cons, List.map_nil, Act.eval]; exact hbd) ?_)
    | (refine at_op (.store 32 (.tmp 3) (.tmp 10)) ?_ rfl; refine wpList_store_row rfl 32 (.tmp 3) (.tmp 10) rfl w1.heap.size C1 rfl rfl 32 Z hz3 (by rw [hC1s]; exact Hs.out) (by rw [hC1s, hZs]) hC1o ?_; rw [World.setRow_alloc_new]; have k3 := heap_alloc_new w1 (.cells C1 32); have ga2 := grown_alloc ga1 (.cells C1 32); have hs2 := hs1.below (below_alloc (Below.refl w1.heap.size w1) (.cells C1 32)); have hsz2 := ga1.size; have hlt1 := heap_lt kz1; have kz2 := ((below_alloc (Below.refl w1.heap.size w1) (.cells C1 32)).block w.heap.size hlt1).trans kz1)
    | (go_at_call 59; ((with_reducible refine (c2 _ hs2).mono ?_); rintro e w3 ⟨rfl, hs3, hg3⟩; have ga3 := RdSt.grown_trans ga2 hg3; have k33 := RdSt.row hg3 k3 (by omega); have kz3 := RdSt.row hg3 kz2 (by omega); obtain ⟨c9, w4, hcv, hr4, b4, hc4⟩ := hbs w3; have hs4 := hs3.below b4; have ga4 := grown_trans ga3 (grown_of_below b4 none) (fun k e => by cases e); have k34 := (b4.block _ (heap_lt k33)).trans k33; have kz4 := (b4.block _ (heap_lt kz3)).trans kz3; have hrb4 := hrb _ _ w4 hc4 hr4))
    | (go_at_call 58; ((with_reducible refine hrb4.mono ?_); rintro e w5 ⟨rfl, b5⟩; have hs5 := hs4.below b5; have ga5 := grown_trans ga4 (grown_of_below b5 none) (fun k e => by cases e); have k35 := (b5.block _ (heap_lt k34)).trans k34; have kz5 := (b5.block _ (heap_lt kz4)).trans kz4))
    | (refine at_op (.alloc 30) ?_ rfl; refine wpList_alloc_row rfl _ 30 rfl (some 4) rfl w5.heap.size rfl _ zs ?_; have hz5 := heap_alloc_new w5 (.cells (sumC noSt) 30))
    | (refine at_op (.store 30 (.tmp 4) (.tmp 16)) ?_ rfl; refine wpList_store_row rfl 30 (.tmp 4) (.tmp 16) rfl w5.heap.size S rfl rfl 30 _ (heap_alloc_new w5 _) (by rw [hSs]; exact Hs30.out) (by rw [hSs, sumC_size]) hSo ?_; rw [World.setRow_alloc_new])
    | (go_at_call 60; (with_reducible refine (hk _ _).mono ?_); rintro e w6 ⟨rfl, rfl⟩))
  have k46 := heap_alloc_new w5 (.cells S 30)
  have ga6 := grown_alloc ga5 (.cells S 30)
  have bb6 := below_alloc (Below.refl w5.heap.size w5) (.cells S 30)
  have hs6 := hs5.below bb6
  have k36 := (bb6.block _ (heap_lt k35)).trans k35
  have kz6 := (bb6.block _ (heap_lt kz5)).trans kz5
  have hlt3 := heap_lt k35
  have hltz := ga5.size
  have hq3 : w.heap.size < w1.heap.size := hlt1
  have hq4 : w.heap.size < w5.heap.size := by omega
  have hq34 : w1.heap.size < w5.heap.size := hlt3
  generalize w1.heap.size = g3 at *
  generalize w5.heap.size = g4 at *
  generalize w5.alloc (.cells S 30) = w6 at *
  clear hs0 hz2 hga hs1 hg1 ga1 kz1 hz3 k3 ga2 hs2 hsz2 kz2 hs3 hg3 ga3 k33 kz3 hcv hr4 b4 hc4 hs4 ga4 k34 kz4 hrb4 hs5 ga5 k35 kz5 b5 bb6 hbs hrb c1 c2 hlt1 hltz
  clear c1 c2
  go_upto_region 5 with (first
    | (go_at_call 54; first
        | ((with_reducible refine (c3 _ hs6).mono ?_); rintro e w7 ⟨rfl, hs7, hg7⟩; have ga7 := RdSt.grown_trans ga6 hg7; have k37 := RdSt.row hg7 k36 (by omega); have k47 := RdSt.row hg7 k46 (by omega); have kz7 := RdSt.row hg7 kz6 (by omega))
        | ((with_reducible refine (c4 _ hs7).mono ?_); rintro e w8 ⟨rfl, hs8, hg8⟩; have ga8 := RdSt.grown_trans ga7 hg8; have k38 := RdSt.row hg8 k37 (by omega); have k48 := RdSt.row hg8 k47 (by omega); have kz8 := RdSt.row hg8 kz7 (by omega))))
  clear hs6 hs7 hg7 ga6 ga7 k36 k46 kz6 k37 k47 kz7 hg8 c3 c4
  obtain ⟨S1, hS1⟩ : ∃ S1, S1 = setMany C1 1 S.toList := ⟨_, rfl⟩
  have hSl : S.toList.length = 40 := by simp [hSs]
  have hSn : S.toList ≠ [] := fun e => by rw [e] at hSl; cases hSl
  have hW1 : w8.drew.setCells g3 1 S.toList = w8.drew.setRow g3 S1 := by rw [hS1]; exact setCells_eq_setRow S.toList w8.drew g3 1 C1 _ _ k38 hSn
  have hS1s : S1.size = 43 := by rw [hS1, setMany_size, hC1s]
  have k381 := setRow_heap w8.drew g3 _ S1 _ _ k38
  have hW2 : (w8.drew.setRow g3 S1).setCell ⟨g3, 41, none⟩ (.float .f64 lo) = w8.drew.setRow g3 (S1.setIfInBounds 41 (.float .f64 lo)) := by rw [setCell_eq_setRow k381, setRow_setRow]
  have k382 := setRow_heap w8.drew g3 _ (S1.setIfInBounds 41 (.float .f64 lo)) _ _ k38
  have hW3 : (w8.drew.setRow g3 (S1.setIfInBounds 41 (.float .f64 lo))).setCell ⟨g3, 42, none⟩ (.float .f64 up) = w8.drew.setRow g3 (asC ⟨n, s, lo, up⟩) := by
    rw [setCell_eq_setRow k382, setRow_setRow, hS1, HC1.out, hfill.out]
  obtain ⟨u41, H41⟩ : ∃ u, Hid (S1[41]? = some u) := ⟨_, Lib.hid (Array.getElem?_eq_getElem (show 41 < S1.size by omega))⟩
  obtain ⟨u42, H42⟩ : ∃ u, Hid ((S1.setIfInBounds 41 (.float .f64 lo))[42]? = some u) := ⟨_, Lib.hid (Array.getElem?_eq_getElem (show 42 < (S1.setIfInBounds 41 (.float .f64 lo)).size by rw [Array.size_setIfInBounds]; omega))⟩
  obtain ⟨Wf, hWf⟩ : ∃ Wf : Bool → Bool → Bool → World, Wf = fun l6 l8 l10 => if l10 = true then w8.drew.setRow g3 (asC ⟨n, s, lo, up⟩) else if l8 = true then w8.drew.setRow g3 (S1.setIfInBounds 41 (.float .f64 lo)) else if l6 = true then w8.drew.setRow g3 S1 else w8.drew := ⟨_, rfl⟩
  have Hw0 := Lib.hid (show Wf false false false = w8.drew by rw [hWf]; rfl)
  have Hw1 := Lib.hid (show Wf true false false = w8.drew.setCells g3 1 S.toList by rw [hWf, hW1]; rfl)
  have Hw2 := Lib.hid (show Wf true true false = (Wf true false false).setCell ⟨g3, 41, none⟩ (.float .f64 lo) by rw [hWf]; exact hW2.symm)
  have Hw3 := Lib.hid (show Wf true true true = (Wf true true false).setCell ⟨g3, 42, none⟩ (.float .f64 up) by rw [hWf]; exact hW3.symm)
  have Hw4 := Lib.hid (show Wf true true true = w8.drew.setRow g3 (asC ⟨n, s, lo, up⟩) by rw [hWf]; rfl)
  have K31 := Lib.hid (show (Wf true false false).heap[g3]? = some (.cells S1 32 (0, 0)) by rw [hWf]; exact k381)
  have K32 := Lib.hid (show (Wf true true false).heap[g3]? = some (.cells (S1.setIfInBounds 41 (.float .f64 lo)) 32 (0, 0)) by rw [hWf]; exact k382)
  have K3 := Lib.hid (show w8.drew.heap[g3]? = some (.cells C1 32 (0, 0)) from k38)
  have K4 := Lib.hid (show w8.drew.heap[g4]? = some (.cells S 30 (0, 0)) from k48)
  clear hS1 hW1 hW2 hW3 hWf k381 k382 hS1s
  have hz30 : ∀ w, (sizeOf 30).run Try.prog w = .ok 40 w := run_sizeOf_info Hs30.out
  obtain ⟨CV, hCV⟩ : ∃ CV : Nat → Value, CV = fun j => match j with
    | 0 => .agg S
    | 1 => .int .u64 (lo : Int)
    | 2 => .float .f64 lo
    | 3 => .int .u64 (up : Int)
    | 4 => .float .f64 up
    | 5 => .pointer (some ⟨g3, 1, none⟩)
    | 7 => .pointer (some ⟨g3, 41, none⟩)
    | 9 => .pointer (some ⟨g3, 42, none⟩)
    | _ => undef := ⟨_, rfl⟩
  have V0 := Lib.hid (show CV 0 = .agg S from congrFun hCV 0)
  have V1 := Lib.hid (show CV 1 = .int .u64 (lo : Int) from congrFun hCV 1)
  have V2 := Lib.hid (show CV 2 = .float .f64 lo from congrFun hCV 2)
  have V3 := Lib.hid (show CV 3 = .int .u64 (up : Int) from congrFun hCV 3)
  have V4 := Lib.hid (show CV 4 = .float .f64 up from congrFun hCV 4)
  have V5 := Lib.hid (show CV 5 = .pointer (some ⟨g3, 1, none⟩) from congrFun hCV 5)
  have V6 := Lib.hid (show CV 6 = undef from congrFun hCV 6)
  have V7 := Lib.hid (show CV 7 = .pointer (some ⟨g3, 41, none⟩) from congrFun hCV 7)
  have V8 := Lib.hid (show CV 8 = undef from congrFun hCV 8)
  have V9 := Lib.hid (show CV 9 = .pointer (some ⟨g3, 42, none⟩) from congrFun hCV 9)
  have V10 := Lib.hid (show CV 10 = undef from congrFun hCV 10)
  clear hCV
  refine region_run (RegW Wf CV) (by kernel_rfl) (by kernel_rfl) (by kernel_rfl) (by kernel_rfl) (by rw [← Hw0.out]; exact RegW.start 11) ?_ ?_
  · intro listed vals a1 wq i hsz hcl hI hR hi0 hu hr1
    replace hi0 : i < 11 := hi0
    replace hsz : listed.size = 11 := hsz
    obtain rfl | hi1 : i = 0 ∨ 1 ≤ i := by omega
    · have t4 := hR.fixed 4 (by kernel_rfl) rfl
      have h6 := unlisted (n := 6) hcl hu (by kernel_rfl)
      have h8 := unlisted (n := 8) hcl hu (by kernel_rfl)
      have h10 := unlisted (n := 10) hcl hu (by kernel_rfl)
      have hw := hI.wd
      rw [h6, h8, h10, Hw0.out] at hw
      have kk : wq.heap[g4]? = some (.cells S 30 (0, 0)) := by rw [hw]; exact K4.out
      exact wpOp_of_wp rfl rfl (wp_load_row 30 (.tmp 4) rfl g4 (getD_is t4) 30 S (0, 0) _ kk Try.underlying30 rfl (by rw [hSs]; exact Hs30.out) ⟨_, rfl, hI.keep 0 (by decide) (by decide) (by decide) V0.out⟩)
    obtain rfl | hi1 : i = 1 ∨ 2 ≤ i := by omega
    · have t6 := hR.fixed 6 (by kernel_rfl) rfl
      exact wpOp_val rfl rfl (by go_simp) ⟨_, rfl, hI.keep 1 (by decide) (by decide) (by decide) V1.out⟩
    obtain rfl | hi1 : i = 2 ∨ 3 ≤ i := by omega
    · have t27 : a1.tmps[27]? = some (.int .u64 (lo : Int)) := hI.get hR hr1 1 (by kernel_rfl) (by decide) rfl V1.out
      refine wpOp_calls (f := 61) (args := #[.int .u64 (lo : Int)]) rfl rfl (by go_simp) ((o1 wq).mono ?_)
      rintro e wz ⟨rfl, rfl⟩
      exact ⟨_, rfl, _, rfl, hI.keep 2 (by decide) (by decide) (by decide) V2.out⟩
    obtain rfl | hi1 : i = 3 ∨ 4 ≤ i := by omega
    · have t7 := hR.fixed 7 (by kernel_rfl) rfl
      exact wpOp_val rfl rfl (by go_simp) ⟨_, rfl, hI.keep 3 (by decide) (by decide) (by decide) V3.out⟩
    obtain rfl | hi1 : i = 4 ∨ 5 ≤ i := by omega
    · have t29 : a1.tmps[29]? = some (.int .u64 (up : Int)) := hI.get hR hr1 3 (by kernel_rfl) (by decide) rfl V3.out
      refine wpOp_calls (f := 61) (args := #[.int .u64 (up : Int)]) rfl rfl (by go_simp) ((o2 wq).mono ?_)
      rintro e wz ⟨rfl, rfl⟩
      exact ⟨_, rfl, _, rfl, hI.keep 4 (by decide) (by decide) (by decide) V4.out⟩
    obtain rfl | hi1 : i = 5 ∨ 6 ≤ i := by omega
    · have t3 := hR.fixed 3 (by kernel_rfl) rfl
      exact wpOp_val rfl rfl (by go_simp) ⟨_, rfl, hI.keep 5 (by decide) (by decide) (by decide) V5.out⟩
    obtain rfl | hi1 : i = 6 ∨ 7 ≤ i := by omega
    · have t31 : a1.tmps[31]? = some (.pointer (some ⟨g3, 1, none⟩)) := hI.get hR hr1 5 (by kernel_rfl) (by decide) rfl V5.out
      have t26 : a1.tmps[26]? = some (.agg S) := hI.get hR hr1 0 (by kernel_rfl) (by decide) rfl V0.out
      have h8 := unlisted (n := 8) hcl hu (by kernel_rfl)
      have h10 := unlisted (n := 10) hcl hu (by kernel_rfl)
      have hw := hI.wd
      rw [hu, h8, h10, Hw0.out] at hw
      have hth : wq.there g3 1 S.size := fun j hj => by rw [hSs] at hj; exact ⟨by rw [hw, cell_of_row _ _ _ _ _ _ K3.out, Array.getElem?_eq_getElem (by rw [hC1s]; omega)]; rfl, by rw [hw]; exact frozen_of_row K3.out _⟩
      refine wpOp_of_wp rfl rfl (wp_store_mid 30 (.tmp 31) (.tmp 26) rfl g3 1 S (getD_is t31) (getD_is t26) hth (by rw [hSs]; exact Hs30.out) hSo ⟨undef, rfl, hI.keepVal 6 V6.out, ?_⟩)
      rw [getD_set_self listed 6 false (by omega), getD_set_ne false (show 6 ≠ 8 by decide), getD_set_ne false (show 6 ≠ 10 by decide), h8, h10, Hw1.out, hw]
    obtain rfl | hi1 : i = 7 ∨ 8 ≤ i := by omega
    · have t3 := hR.fixed 3 (by kernel_rfl) rfl
      exact wpOp_val rfl rfl (by go_simp) ⟨_, rfl, hI.keep 7 (by decide) (by decide) (by decide) V7.out⟩
    obtain rfl | hi1 : i = 8 ∨ 9 ≤ i := by omega
    · have t32 : a1.tmps[32]? = some (.pointer (some ⟨g3, 41, none⟩)) := hI.get hR hr1 7 (by kernel_rfl) (by decide) rfl V7.out
      have t28 : a1.tmps[28]? = some (.float .f64 lo) := hI.get hR hr1 2 (by kernel_rfl) (by decide) rfl V2.out
      have h6 := dep_of (i := 6) hr1 (by kernel_rfl)
      have h10 := unlisted (n := 10) hcl hu (by kernel_rfl)
      have hw := hI.wd
      rw [hu, h6, h10] at hw
      have hkv := hI.keepVal 8 V8.out
      have kk := K31.out
      rw [← hw] at kk
      have hfz := frozen_of_row kk 41
      have hcc := cell_of_row _ _ 41 _ _ _ kk
      rw [H41.out] at hcc
      have hst := run_store_flt (P := Try.prog) lo hcc hfz
      clear hI kk
      refine wpOp_skip rfl rfl (w' := wq.setCell ⟨g3, 41, none⟩ (.float .f64 lo)) (by clear hw; go_simp) ⟨undef, rfl, hkv, ?_⟩
      rw [getD_set_self listed 8 false (by omega), getD_set_ne false (show 8 ≠ 6 by decide), getD_set_ne false (show 8 ≠ 10 by decide), h6, h10, Hw2.out, hw]
    obtain rfl | hi1 : i = 9 ∨ 10 ≤ i := by omega
    · have t3 := hR.fixed 3 (by kernel_rfl) rfl
      exact wpOp_val rfl rfl (by go_simp) ⟨_, rfl, hI.keep 9 (by decide) (by decide) (by decide) V9.out⟩
    obtain rfl : i = 10 := by omega
    have t33 : a1.tmps[33]? = some (.pointer (some ⟨g3, 42, none⟩)) := hI.get hR hr1 9 (by kernel_rfl) (by decide) rfl V9.out
    have t30 : a1.tmps[30]? = some (.float .f64 up) := hI.get hR hr1 4 (by kernel_rfl) (by decide) rfl V4.out
    have h6 := dep_of (i := 6) hr1 (by kernel_rfl)
    have h8 := dep_of (i := 8) hr1 (by kernel_rfl)
    have hw := hI.wd
    rw [hu, h6, h8] at hw
    have hkv := hI.keepVal 10 V10.out
    have kk := K32.out
    rw [← hw] at kk
    have hfz := frozen_of_row kk 42
    have hcc := cell_of_row _ _ 42 _ _ _ kk
    rw [H42.out] at hcc
    have hst := run_store_flt (P := Try.prog) up hcc hfz
    clear hI kk
    refine wpOp_skip rfl rfl (w' := wq.setCell ⟨g3, 42, none⟩ (.float .f64 up)) (by clear hw; go_simp) ⟨undef, rfl, hkv, ?_⟩
    rw [getD_set_self listed 10 false (by omega), getD_set_ne false (show 10 ≠ 6 by decide), getD_set_ne false (show 10 ≠ 8 by decide), h6, h8, Hw3.out, hw]
  · intro listed vals wq FF hI hall hFF
    have hw := hI.wd
    rw [hall 6 (by decide), hall 8 (by decide), hall 10 (by decide)] at hw
    have hF2 : FF = ((((((((((Act.put _ (some 26) (vals 0)).put (some 27) (vals 1)).put (some 28) (vals 2)).put (some 29) (vals 3)).put (some 30) (vals 4)).put (some 31) (vals 5)).put none (vals 6)).put (some 32) (vals 7)).put none (vals 8)).put (some 33) (vals 9)).put none (vals 10) := hFF
    simp only [putAll] at hF2
    rw [hF2]
    rw [Hw4.out] at hw
    clear hF2 hFF hI hall
    subst hw
    go_frame
    generalize vals 0 = x0
    generalize vals 1 = x1
    generalize vals 2 = x2
    generalize vals 3 = x3
    generalize vals 4 = x4
    generalize vals 5 = x5
    generalize vals 7 = x7
    generalize vals 9 = x9
    have K39 := Lib.hid (setRow_heap w8.drew g3 _ (asC ⟨n, s, lo, up⟩) _ _ K3.out)
    have K49 := Lib.hid ((setRow_other w8.drew g3 g4 (asC ⟨n, s, lo, up⟩) (by omega)).trans K4.out)
    have KZ9 := Lib.hid ((setRow_other w8.drew g3 w.heap.size (asC ⟨n, s, lo, up⟩) (by omega)).trans (show w8.drew.heap[w.heap.size]? = some (.cells Z 32 (0, 0)) from kz8))
    have hs9 := (hs8.drew).setRow (k := g3) (by omega) (by omega) (asC ⟨n, s, lo, up⟩)
    have ga9 := grown_setRowN (grown_trans ga8 (grown_of_below (Below.refl w8.heap.size w8).drew none) (fun k e => by cases e)) (k := g3) (by omega) (asC ⟨n, s, lo, up⟩)
    have KN := Lib.hid ((cell_of_row _ _ 0 _ _ _ K39.out).trans (asC_n ⟨n, s, lo, up⟩))
    have KL := Lib.hid ((cell_of_row _ _ 41 _ _ _ K39.out).trans (asC_lo ⟨n, s, lo, up⟩))
    have KH := Lib.hid ((cell_of_row _ _ 42 _ _ _ K39.out).trans (asC_hi ⟨n, s, lo, up⟩))
    have hDs : (asC ⟨n, s, lo, up⟩).size = 43 := asC_size _
    generalize hDe : asC ⟨n, s, lo, up⟩ = D at *
    have HDe := Lib.hid hDe
    clear hDe
    generalize w8.drew.setRow g3 D = w9 at *
    clear Hw0 Hw1 Hw2 Hw3 Hw4 K31 K32 K3 K4 H41 H42 hs8 ga8 k38 k48 kz8 V0 V1 V2 V3 V4 V5 V6 V7 V8 V9 V10 hfill HC1 o1 o2
    have hSs2 := hSs
    go_upto_region 6 with fail
    by_cases h0 : 0 < n
    · clear hnone
      have hn0 : decide (0 < n) = true := decide_eq_true h0
      rw [hn0] at ha
      clear hn0
      obtain ⟨CV, hCV⟩ : ∃ CV : Nat → Value, CV = fun j => match j with
        | 0 => .pointer (some ⟨g, 0, none⟩)
        | 1 => .pointer (some ⟨g3, 41, none⟩)
        | 2 => .float .f64 lo
        | 3 => .int .u64 (lo : Int)
        | 4 => .int .u64 (lo : Int)
        | 5 => .bool true
        | 6 => .bool true
        | 7 => .pointer (some ⟨g3, 42, none⟩)
        | 8 => .float .f64 up
        | 9 => .int .u64 (up : Int)
        | 10 => .int .u64 (up : Int)
        | 11 => .bool true
        | 12 => .bool true
        | 13 => .bool true
        | 14 => .pointer (some ⟨g3, 0, none⟩)
        | 15 => .int .u64 (n : Int)
        | 16 => .bool true
        | 17 => .agg S
        | 18 => .bool true
        | 19 => .bool true
        | 20 => .bool true
        | 21 => .bool true
        | 22 => .pointer (some ⟨g3, 0, none⟩)
        | 23 => .int .u64 (n : Int)
        | 24 => .bool true
        | 25 => .bool true
        | 26 => undef
        | 27 => undef
        | 28 => undef
        | 29 => undef
        | 30 => .bool true
        | 31 => .bool true
        | 32 => .tuple #[]
        | _ => undef := ⟨_, rfl⟩
      obtain ⟨isO, hO⟩ : ∃ isO : Nat → Bool, isO = fun j => match j with
        | _ => false := ⟨_, rfl⟩
      obtain ⟨BL, hBL⟩ : ∃ BL : Nat → List Int, BL = fun j => match j with
        | _ => [] := ⟨_, rfl⟩
      have v0 : CV 0 = .pointer (some ⟨g, 0, none⟩) := congrFun hCV 0
      have o0 : isO 0 = false := congrFun hO 0
      have v1 : CV 1 = .pointer (some ⟨g3, 41, none⟩) := congrFun hCV 1
      have o1 : isO 1 = false := congrFun hO 1
      have v2 : CV 2 = .float .f64 lo := congrFun hCV 2
      have o2 : isO 2 = false := congrFun hO 2
      have v3 : CV 3 = .int .u64 (lo : Int) := congrFun hCV 3
      have o3 : isO 3 = false := congrFun hO 3
      have v4 : CV 4 = .int .u64 (lo : Int) := congrFun hCV 4
      have o4 : isO 4 = false := congrFun hO 4
      have v5 : CV 5 = .bool true := congrFun hCV 5
      have o5 : isO 5 = false := congrFun hO 5
      have v6 : CV 6 = .bool true := congrFun hCV 6
      have o6 : isO 6 = false := congrFun hO 6
      have v7 : CV 7 = .pointer (some ⟨g3, 42, none⟩) := congrFun hCV 7
      have o7 : isO 7 = false := congrFun hO 7
      have v8 : CV 8 = .float .f64 up := congrFun hCV 8
      have o8 : isO 8 = false := congrFun hO 8
      have v9 : CV 9 = .int .u64 (up : Int) := congrFun hCV 9
      have o9 : isO 9 = false := congrFun hO 9
      have v10 : CV 10 = .int .u64 (up : Int) := congrFun hCV 10
      have o10 : isO 10 = false := congrFun hO 10
      have v11 : CV 11 = .bool true := congrFun hCV 11
      have o11 : isO 11 = false := congrFun hO 11
      have v12 : CV 12 = .bool true := congrFun hCV 12
      have o12 : isO 12 = false := congrFun hO 12
      have v13 : CV 13 = .bool true := congrFun hCV 13
      have o13 : isO 13 = false := congrFun hO 13
      have v14 : CV 14 = .pointer (some ⟨g3, 0, none⟩) := congrFun hCV 14
      have o14 : isO 14 = false := congrFun hO 14
      have v15 : CV 15 = .int .u64 (n : Int) := congrFun hCV 15
      have o15 : isO 15 = false := congrFun hO 15
      have v16 : CV 16 = .bool true := congrFun hCV 16
      have o16 : isO 16 = false := congrFun hO 16
      have v17 : CV 17 = .agg S := congrFun hCV 17
      have o17 : isO 17 = false := congrFun hO 17
      have v18 : CV 18 = .bool true := congrFun hCV 18
      have o18 : isO 18 = false := congrFun hO 18
      have v19 : CV 19 = .bool true := congrFun hCV 19
      have o19 : isO 19 = false := congrFun hO 19
      have v20 : CV 20 = .bool true := congrFun hCV 20
      have o20 : isO 20 = false := congrFun hO 20
      have v21 : CV 21 = .bool true := congrFun hCV 21
      have o21 : isO 21 = false := congrFun hO 21
      have v22 : CV 22 = .pointer (some ⟨g3, 0, none⟩) := congrFun hCV 22
      have o22 : isO 22 = false := congrFun hO 22
      have v23 : CV 23 = .int .u64 (n : Int) := congrFun hCV 23
      have o23 : isO 23 = false := congrFun hO 23
      have v24 : CV 24 = .bool true := congrFun hCV 24
      have o24 : isO 24 = false := congrFun hO 24
      have v25 : CV 25 = .bool true := congrFun hCV 25
      have o25 : isO 25 = false := congrFun hO 25
      have v26 : CV 26 = undef := congrFun hCV 26
      have o26 : isO 26 = false := congrFun hO 26
      have v27 : CV 27 = undef := congrFun hCV 27
      have o27 : isO 27 = false := congrFun hO 27
      have v28 : CV 28 = undef := congrFun hCV 28
      have o28 : isO 28 = false := congrFun hO 28
      have v29 : CV 29 = undef := congrFun hCV 29
      have o29 : isO 29 = false := congrFun hO 29
      have v30 : CV 30 = .bool true := congrFun hCV 30
      have o30 : isO 30 = false := congrFun hO 30
      have v31 : CV 31 = .bool true := congrFun hCV 31
      have o31 : isO 31 = false := congrFun hO 31
      have v32 : CV 32 = .tuple #[] := congrFun hCV 32
      have o32 : isO 32 = false := congrFun hO 32
      clear hCV hO hBL
      have V0 := Lib.hid v0
      have V1 := Lib.hid v1
      have V2 := Lib.hid v2
      have V3 := Lib.hid v3
      have V4 := Lib.hid v4
      have V5 := Lib.hid v5
      have V6 := Lib.hid v6
      have V7 := Lib.hid v7
      have V8 := Lib.hid v8
      have V9 := Lib.hid v9
      have V10 := Lib.hid v10
      have V11 := Lib.hid v11
      have V12 := Lib.hid v12
      have V13 := Lib.hid v13
      have V14 := Lib.hid v14
      have V15 := Lib.hid v15
      have V16 := Lib.hid v16
      have V17 := Lib.hid v17
      have V18 := Lib.hid v18
      have V19 := Lib.hid v19
      have V20 := Lib.hid v20
      have V21 := Lib.hid v21
      have V22 := Lib.hid v22
      have V23 := Lib.hid v23
      have V24 := Lib.hid v24
      have V25 := Lib.hid v25
      have V26 := Lib.hid v26
      have V27 := Lib.hid v27
      have V28 := Lib.hid v28
      have V29 := Lib.hid v29
      have V30 := Lib.hid v30
      have V31 := Lib.hid v31
      have V32 := Lib.hid v32
      clear v0 v1 v2 v3 v4 v5 v6 v7 v8 v9 v10 v11 v12 v13 v14 v15 v16 v17 v18 v19 v20 v21 v22 v23 v24 v25 v26 v27 v28 v29 v30 v31 v32
      refine region_run (RegI w9 isO BL CV) (by kernel_rfl) (by kernel_rfl) (by kernel_rfl) (by kernel_rfl) (RegI.start w9 33) ?_ ?_
      · intro listed vals a1 wq i hs hcl hI hR hi hu hr1
        replace hi : i < 33 := hi
        obtain rfl | hi1 : i = 0 ∨ 1 ≤ i := by omega
        · have t0 := hR.fixed 0 (by kernel_rfl) rfl
          clear b1 b2 ha hk hs9 ga9
          exact wpOp_val rfl rfl (by rw [V0.out]; go_simp) ⟨_, rfl, hI.keep (Below.refl _ _) 0 o0⟩
        obtain rfl | hi1 : i = 1 ∨ 2 ≤ i := by omega
        · have t3 := hR.fixed 3 (by kernel_rfl) rfl
          clear b1 b2 ha hk hs9 ga9
          exact wpOp_val rfl rfl (by rw [V1.out]; go_simp) ⟨_, rfl, hI.keep (Below.refl _ _) 1 o1⟩
        obtain rfl | hi1 : i = 2 ∨ 3 ≤ i := by omega
        · have t35 : a1.tmps[35]? = some (.pointer (some ⟨g3, 41, none⟩)) := hI.get hR hr1 1 o1 (by kernel_rfl) (by decide) rfl V1.out
          have cc := cell_below hI.b KL.out
          clear b1 b2 ha hk hs9 ga9
          exact wpOp_val rfl rfl (by rw [V2.out]; go_simp) ⟨_, rfl, hI.keep (Below.refl _ _) 2 o2⟩
        obtain rfl | hi1 : i = 3 ∨ 4 ≤ i := by omega
        · have t36 : a1.tmps[36]? = some (.float .f64 lo) := hI.get hR hr1 2 o2 (by kernel_rfl) (by decide) rfl V2.out
          have hc1 := b1 wq
          clear b1 b2 ha hk hs9 ga9
          refine wpOp_calls (f := 47) (args := #[.float .f64 lo]) rfl rfl (by go_simp) (hc1.mono ?_)
          rintro e wz ⟨rfl, rfl⟩
          exact ⟨_, rfl, _, rfl, hI.keepV (Below.refl _ _) 3 o3 V3.out⟩
        obtain rfl | hi1 : i = 4 ∨ 5 ≤ i := by omega
        · have t6 := hR.fixed 6 (by kernel_rfl) rfl
          clear b1 b2 ha hk hs9 ga9
          exact wpOp_val rfl rfl (by rw [V4.out]; go_simp) ⟨_, rfl, hI.keep (Below.refl _ _) 4 o4⟩
        obtain rfl | hi1 : i = 5 ∨ 6 ≤ i := by omega
        · have t37 : a1.tmps[37]? = some (.int .u64 (lo : Int)) := hI.get hR hr1 3 o3 (by kernel_rfl) (by decide) rfl V3.out
          have t38 : a1.tmps[38]? = some (.int .u64 (lo : Int)) := hI.get hR hr1 4 o4 (by kernel_rfl) (by decide) rfl V4.out
          clear b1 b2 ha hk hs9 ga9
          exact wpOp_val rfl rfl (by rw [V5.out]; go_simp) ⟨_, rfl, hI.keep (Below.refl _ _) 5 o5⟩
        obtain rfl | hi1 : i = 6 ∨ 7 ≤ i := by omega
        · have t39 : a1.tmps[39]? = some (.bool true) := hI.get hR hr1 5 o5 (by kernel_rfl) (by decide) rfl V5.out
          clear b1 b2 ha hk hs9 ga9
          exact wpOp_val rfl rfl (by rw [V6.out]; go_simp) ⟨_, rfl, hI.keep (Below.refl _ _) 6 o6⟩
        obtain rfl | hi1 : i = 7 ∨ 8 ≤ i := by omega
        · have t40 : a1.tmps[40]? = some (.bool true) := hI.get hR hr1 6 o6 (by kernel_rfl) (by decide) rfl V6.out
          have t3 := hR.fixed 3 (by kernel_rfl) rfl
          clear b1 b2 ha hk hs9 ga9
          exact wpOp_val rfl (wanted_yes rfl rfl t40) (by rw [V7.out]; go_simp) ⟨_, rfl, hI.keep (Below.refl _ _) 7 o7⟩
        obtain rfl | hi1 : i = 8 ∨ 9 ≤ i := by omega
        · have t40 : a1.tmps[40]? = some (.bool true) := hI.get hR hr1 6 o6 (by kernel_rfl) (by decide) rfl V6.out
          have t41 : a1.tmps[41]? = some (.pointer (some ⟨g3, 42, none⟩)) := hI.get hR hr1 7 o7 (by kernel_rfl) (by decide) rfl V7.out
          have cc := cell_below hI.b KH.out
          clear b1 b2 ha hk hs9 ga9
          exact wpOp_val rfl (wanted_yes rfl rfl t40) (by rw [V8.out]; go_simp) ⟨_, rfl, hI.keep (Below.refl _ _) 8 o8⟩
        obtain rfl | hi1 : i = 9 ∨ 10 ≤ i := by omega
        · have t40 : a1.tmps[40]? = some (.bool true) := hI.get hR hr1 6 o6 (by kernel_rfl) (by decide) rfl V6.out
          have t42 : a1.tmps[42]? = some (.float .f64 up) := hI.get hR hr1 8 o8 (by kernel_rfl) (by decide) rfl V8.out
          have hc1 := b2 wq
          clear b1 b2 ha hk hs9 ga9
          refine wpOp_calls (f := 47) (args := #[.float .f64 up]) rfl (wanted_yes rfl rfl t40) (by go_simp) (hc1.mono ?_)
          rintro e wz ⟨rfl, rfl⟩
          exact ⟨_, rfl, _, rfl, hI.keepV (Below.refl _ _) 9 o9 V9.out⟩
        obtain rfl | hi1 : i = 10 ∨ 11 ≤ i := by omega
        · have t40 : a1.tmps[40]? = some (.bool true) := hI.get hR hr1 6 o6 (by kernel_rfl) (by decide) rfl V6.out
          have t7 := hR.fixed 7 (by kernel_rfl) rfl
          clear b1 b2 ha hk hs9 ga9
          exact wpOp_val rfl (wanted_yes rfl rfl t40) (by rw [V10.out]; go_simp) ⟨_, rfl, hI.keep (Below.refl _ _) 10 o10⟩
        obtain rfl | hi1 : i = 11 ∨ 12 ≤ i := by omega
        · have t40 : a1.tmps[40]? = some (.bool true) := hI.get hR hr1 6 o6 (by kernel_rfl) (by decide) rfl V6.out
          have t43 : a1.tmps[43]? = some (.int .u64 (up : Int)) := hI.get hR hr1 9 o9 (by kernel_rfl) (by decide) rfl V9.out
          have t44 : a1.tmps[44]? = some (.int .u64 (up : Int)) := hI.get hR hr1 10 o10 (by kernel_rfl) (by decide) rfl V10.out
          clear b1 b2 ha hk hs9 ga9
          exact wpOp_val rfl (wanted_yes rfl rfl t40) (by rw [V11.out]; go_simp) ⟨_, rfl, hI.keep (Below.refl _ _) 11 o11⟩
        obtain rfl | hi1 : i = 12 ∨ 13 ≤ i := by omega
        · have t40 : a1.tmps[40]? = some (.bool true) := hI.get hR hr1 6 o6 (by kernel_rfl) (by decide) rfl V6.out
          have t45 : a1.tmps[45]? = some (.bool true) := hI.get hR hr1 11 o11 (by kernel_rfl) (by decide) rfl V11.out
          clear b1 b2 ha hk hs9 ga9
          exact wpOp_val rfl rfl (by rw [V12.out]; go_simp) ⟨_, rfl, hI.keep (Below.refl _ _) 12 o12⟩
        obtain rfl | hi1 : i = 13 ∨ 14 ≤ i := by omega
        · have t46 : a1.tmps[46]? = some (.bool true) := hI.get hR hr1 12 o12 (by kernel_rfl) (by decide) rfl V12.out
          clear b1 b2 ha hk hs9 ga9
          exact wpOp_val rfl rfl (by rw [V13.out]; go_simp) ⟨_, rfl, hI.keep (Below.refl _ _) 13 o13⟩
        obtain rfl | hi1 : i = 14 ∨ 15 ≤ i := by omega
        · have t47 : a1.tmps[47]? = some (.bool true) := hI.get hR hr1 13 o13 (by kernel_rfl) (by decide) rfl V13.out
          have t3 := hR.fixed 3 (by kernel_rfl) rfl
          clear b1 b2 ha hk hs9 ga9
          exact wpOp_val rfl (wanted_yes rfl rfl t47) (by rw [V14.out]; go_simp) ⟨_, rfl, hI.keep (Below.refl _ _) 14 o14⟩
        obtain rfl | hi1 : i = 15 ∨ 16 ≤ i := by omega
        · have t47 : a1.tmps[47]? = some (.bool true) := hI.get hR hr1 13 o13 (by kernel_rfl) (by decide) rfl V13.out
          have t48 : a1.tmps[48]? = some (.pointer (some ⟨g3, 0, none⟩)) := hI.get hR hr1 14 o14 (by kernel_rfl) (by decide) rfl V14.out
          have cc := cell_below hI.b KN.out
          clear b1 b2 ha hk hs9 ga9
          exact wpOp_val rfl (wanted_yes rfl rfl t47) (by rw [V15.out]; go_simp) ⟨_, rfl, hI.keep (Below.refl _ _) 15 o15⟩
        obtain rfl | hi1 : i = 16 ∨ 17 ≤ i := by omega
        · have t47 : a1.tmps[47]? = some (.bool true) := hI.get hR hr1 13 o13 (by kernel_rfl) (by decide) rfl V13.out
          have t49 : a1.tmps[49]? = some (.int .u64 (n : Int)) := hI.get hR hr1 15 o15 (by kernel_rfl) (by decide) rfl V15.out
          clear b1 b2 ha hk hs9 ga9
          exact wpOp_val rfl (wanted_yes rfl rfl t47) (by rw [V16.out]; go_simp) ⟨_, rfl, hI.keep (Below.refl _ _) 16 o16⟩
        obtain rfl | hi1 : i = 17 ∨ 18 ≤ i := by omega
        · have t47 : a1.tmps[47]? = some (.bool true) := hI.get hR hr1 13 o13 (by kernel_rfl) (by decide) rfl V13.out
          have t4 := hR.fixed 4 (by kernel_rfl) rfl
          have kk := (hI.b.block _ (heap_lt K49.out)).trans K49.out
          exact wpOp_of_wp rfl (wanted_yes rfl rfl t47) (wp_load_row 30 (.tmp 4) rfl g4 (getD_is t4) 30 S (0, 0) _ kk Try.underlying30 rfl (by rw [hSs2]; exact Hs30.out) ⟨_, rfl, hI.keepV (Below.refl _ _) 17 o17 V17.out⟩)
        obtain rfl | hi1 : i = 18 ∨ 19 ≤ i := by omega
        · have t47 : a1.tmps[47]? = some (.bool true) := hI.get hR hr1 13 o13 (by kernel_rfl) (by decide) rfl V13.out
          have t51 : a1.tmps[51]? = some (.agg S) := hI.get hR hr1 17 o17 (by kernel_rfl) (by decide) rfl V17.out
          have hc1 := ha wq
          clear b1 b2 ha hk hs9 ga9
          refine wpOp_calls (f := 62) (args := #[.agg S]) rfl (wanted_yes rfl rfl t47) (by go_simp) (hc1.mono ?_)
          rintro e wz ⟨rfl, b⟩
          exact ⟨_, rfl, _, rfl, hI.keepV b 18 o18 V18.out⟩
        obtain rfl | hi1 : i = 19 ∨ 20 ≤ i := by omega
        · have t47 : a1.tmps[47]? = some (.bool true) := hI.get hR hr1 13 o13 (by kernel_rfl) (by decide) rfl V13.out
          have t50 : a1.tmps[50]? = some (.bool true) := hI.get hR hr1 16 o16 (by kernel_rfl) (by decide) rfl V16.out
          have t52 : a1.tmps[52]? = some (.bool true) := hI.get hR hr1 18 o18 (by kernel_rfl) (by decide) rfl V18.out
          clear b1 b2 ha hk hs9 ga9
          exact wpOp_val rfl (wanted_yes rfl rfl t47) (by rw [V19.out]; go_simp) ⟨_, rfl, hI.keep (Below.refl _ _) 19 o19⟩
        obtain rfl | hi1 : i = 20 ∨ 21 ≤ i := by omega
        · have t47 : a1.tmps[47]? = some (.bool true) := hI.get hR hr1 13 o13 (by kernel_rfl) (by decide) rfl V13.out
          have t53 : a1.tmps[53]? = some (.bool true) := hI.get hR hr1 19 o19 (by kernel_rfl) (by decide) rfl V19.out
          clear b1 b2 ha hk hs9 ga9
          exact wpOp_val rfl rfl (by rw [V20.out]; go_simp) ⟨_, rfl, hI.keep (Below.refl _ _) 20 o20⟩
        obtain rfl | hi1 : i = 21 ∨ 22 ≤ i := by omega
        · have t54 : a1.tmps[54]? = some (.bool true) := hI.get hR hr1 20 o20 (by kernel_rfl) (by decide) rfl V20.out
          clear b1 b2 ha hk hs9 ga9
          exact wpOp_val rfl rfl (by rw [V21.out]; go_simp) ⟨_, rfl, hI.keep (Below.refl _ _) 21 o21⟩
        obtain rfl | hi1 : i = 22 ∨ 23 ≤ i := by omega
        · have t55 : a1.tmps[55]? = some (.bool true) := hI.get hR hr1 21 o21 (by kernel_rfl) (by decide) rfl V21.out
          have t3 := hR.fixed 3 (by kernel_rfl) rfl
          clear b1 b2 ha hk hs9 ga9
          exact wpOp_val rfl (wanted_yes rfl rfl t55) (by rw [V22.out]; go_simp) ⟨_, rfl, hI.keep (Below.refl _ _) 22 o22⟩
        obtain rfl | hi1 : i = 23 ∨ 24 ≤ i := by omega
        · have t55 : a1.tmps[55]? = some (.bool true) := hI.get hR hr1 21 o21 (by kernel_rfl) (by decide) rfl V21.out
          have t56 : a1.tmps[56]? = some (.pointer (some ⟨g3, 0, none⟩)) := hI.get hR hr1 22 o22 (by kernel_rfl) (by decide) rfl V22.out
          have cc := cell_below hI.b KN.out
          clear b1 b2 ha hk hs9 ga9
          exact wpOp_val rfl (wanted_yes rfl rfl t55) (by rw [V23.out]; go_simp) ⟨_, rfl, hI.keep (Below.refl _ _) 23 o23⟩
        obtain rfl | hi1 : i = 24 ∨ 25 ≤ i := by omega
        · have t55 : a1.tmps[55]? = some (.bool true) := hI.get hR hr1 21 o21 (by kernel_rfl) (by decide) rfl V21.out
          have t57 : a1.tmps[57]? = some (.int .u64 (n : Int)) := hI.get hR hr1 23 o23 (by kernel_rfl) (by decide) rfl V23.out
          clear b1 b2 ha hk hs9 ga9
          exact wpOp_val rfl (wanted_yes rfl rfl t55) (by rw [V24.out]; go_simp) ⟨_, rfl, hI.keep (Below.refl _ _) 24 o24⟩
        obtain rfl | hi1 : i = 25 ∨ 26 ≤ i := by omega
        · have t55 : a1.tmps[55]? = some (.bool true) := hI.get hR hr1 21 o21 (by kernel_rfl) (by decide) rfl V21.out
          have t58 : a1.tmps[58]? = some (.bool true) := hI.get hR hr1 24 o24 (by kernel_rfl) (by decide) rfl V24.out
          clear b1 b2 ha hk hs9 ga9
          exact wpOp_val rfl (wanted_yes rfl rfl t55) (by rw [V25.out]; go_simp) ⟨_, rfl, hI.keep (Below.refl _ _) 25 o25⟩
        obtain rfl | hi1 : i = 26 ∨ 27 ≤ i := by omega
        · have t59 : a1.tmps[59]? = some (.bool true) := hI.get hR hr1 25 o25 (by kernel_rfl) (by decide) rfl V25.out
          exact wpOp_skipped rfl (wanted_no rfl rfl t59) ⟨_, rfl, hI.keepV (Below.refl _ _) 26 o26 V26.out⟩
        obtain rfl | hi1 : i = 27 ∨ 28 ≤ i := by omega
        · have t59 : a1.tmps[59]? = some (.bool true) := hI.get hR hr1 25 o25 (by kernel_rfl) (by decide) rfl V25.out
          exact wpOp_skipped rfl (wanted_no rfl rfl t59) ⟨_, rfl, hI.keepV (Below.refl _ _) 27 o27 V27.out⟩
        obtain rfl | hi1 : i = 28 ∨ 29 ≤ i := by omega
        · have t59 : a1.tmps[59]? = some (.bool true) := hI.get hR hr1 25 o25 (by kernel_rfl) (by decide) rfl V25.out
          exact wpOp_skipped rfl (wanted_no rfl rfl t59) ⟨_, rfl, hI.keepV (Below.refl _ _) 28 o28 V28.out⟩
        obtain rfl | hi1 : i = 29 ∨ 30 ≤ i := by omega
        · have t59 : a1.tmps[59]? = some (.bool true) := hI.get hR hr1 25 o25 (by kernel_rfl) (by decide) rfl V25.out
          exact wpOp_skipped rfl (wanted_no rfl rfl t59) ⟨_, rfl, hI.keepV (Below.refl _ _) 29 o29 V29.out⟩
        obtain rfl | hi1 : i = 30 ∨ 31 ≤ i := by omega
        · have t55 : a1.tmps[55]? = some (.bool true) := hI.get hR hr1 21 o21 (by kernel_rfl) (by decide) rfl V21.out
          have t59 : a1.tmps[59]? = some (.bool true) := hI.get hR hr1 25 o25 (by kernel_rfl) (by decide) rfl V25.out
          have t63 : a1.tmps[63]? = some (undef) := hI.get hR hr1 29 o29 (by kernel_rfl) (by decide) rfl V29.out
          clear b1 b2 ha hk hs9 ga9
          exact wpOp_val rfl (wanted_yes rfl rfl t55) (by rw [V30.out]; go_simp) ⟨_, rfl, hI.keep (Below.refl _ _) 30 o30⟩
        obtain rfl | hi1 : i = 31 ∨ 32 ≤ i := by omega
        · have t55 : a1.tmps[55]? = some (.bool true) := hI.get hR hr1 21 o21 (by kernel_rfl) (by decide) rfl V21.out
          have t64 : a1.tmps[64]? = some (.bool true) := hI.get hR hr1 30 o30 (by kernel_rfl) (by decide) rfl V30.out
          clear b1 b2 ha hk hs9 ga9
          exact wpOp_val rfl rfl (by rw [V31.out]; go_simp) ⟨_, rfl, hI.keep (Below.refl _ _) 31 o31⟩
        obtain rfl : i = 32 := by omega
        have t34 : a1.tmps[34]? = some (.pointer (some ⟨g, 0, none⟩)) := hI.get hR hr1 0 o0 (by kernel_rfl) (by decide) rfl V0.out
        have t65 : a1.tmps[65]? = some (.bool true) := hI.get hR hr1 31 o31 (by kernel_rfl) (by decide) rfl V31.out
        have hc1 := hk (.pointer (some ⟨g, 0, none⟩)) wq
        clear b1 b2 ha hk hs9 ga9
        refine wpOp_calls (f := 60) (args := #[.pointer (some ⟨g, 0, none⟩), .bool true]) rfl rfl (by go_simp) (hc1.mono ?_)
        rintro e wz ⟨rfl, rfl⟩
        exact ⟨_, rfl, _, rfl, hI.keepV (Below.refl _ _) 32 o32 V32.out⟩
      · intro listed vals wq FF hI hall hFF
        have hF2 : FF = ((((((((((((((((((((((((((((((((Act.put _ (some 34) (vals 0)).put (some 35) (vals 1)).put (some 36) (vals 2)).put (some 37) (vals 3)).put (some 38) (vals 4)).put (some 39) (vals 5)).put (some 40) (vals 6)).put (some 41) (vals 7)).put (some 42) (vals 8)).put (some 43) (vals 9)).put (some 44) (vals 10)).put (some 45) (vals 11)).put (some 46) (vals 12)).put (some 47) (vals 13)).put (some 48) (vals 14)).put (some 49) (vals 15)).put (some 50) (vals 16)).put (some 51) (vals 17)).put (some 52) (vals 18)).put (some 53) (vals 19)).put (some 54) (vals 20)).put (some 55) (vals 21)).put (some 56) (vals 22)).put (some 57) (vals 23)).put (some 58) (vals 24)).put (some 59) (vals 25)).put (some 60) (vals 26)).put (some 61) (vals 27)).put (some 62) (vals 28)).put (some 63) (vals 29)).put (some 64) (vals 30)).put (some 65) (vals 31)).put (some 66) (vals 32) := hFF
        simp only [putAll] at hF2
        rw [hF2]
        have e32 := hI.val 32 o32 (hall 32 (by decide))
        rw [V32.out] at e32
        have bfin := hI.b
        clear hF2 hFF hI hall
        rw [e32]
        go_frame
        go_wp2_with (first
          | (refine at_op (.load 32 (.tmp 3)) ?_ rfl; refine wpList_load_row rfl 32 (.tmp 3) rfl g3 rfl 32 D (0, 0) _ ((bfin.block _ (heap_lt K39.out)).trans K39.out) Try.underlying32 rfl (by rw [hDs]; exact Hs.out) ?_)
          | (refine at_op (.store 32 (.tmp 2) (.tmp 67)) ?_ rfl; refine wpList_store_row rfl 32 (.tmp 2) (.tmp 67) rfl w.heap.size D rfl rfl 32 Z ((bfin.block _ (heap_lt KZ9.out)).trans KZ9.out) (by rw [hDs]; exact Hs.out) (by rw [hDs, hZs]) hD.out ?_))
        exact bodyPost_ret (results_cell_row rfl _ _ w.heap.size 32 D (0, 0) _ rfl (setRow_heap wq w.heap.size Z D _ _ ((bfin.block _ (heap_lt KZ9.out)).trans KZ9.out)) Try.underlying32 rfl (by rw [hDs]; exact Hs.out)) rfl ⟨by rw [HDe.out], (hs9.below bfin).setRow (by omega) (by omega) D, grown_setRowN (grown_trans ga9 (grown_of_below bfin none) (fun k e => by cases e)) (by omega) D⟩
    · obtain rfl : n = 0 := by omega
      obtain ⟨rfl, rfl⟩ := hnone rfl
      clear hnone h0
      have hn0 : decide (0 < 0) = false := rfl
      rw [hn0] at ha
      clear hn0
      obtain ⟨CV, hCV⟩ : ∃ CV : Nat → Value, CV = fun j => match j with
        | 0 => .pointer (some ⟨g, 0, none⟩)
        | 1 => .pointer (some ⟨g3, 41, none⟩)
        | 2 => .float .f64 0
        | 3 => .int .u64 0
        | 4 => .int .u64 0
        | 5 => .bool true
        | 6 => .bool true
        | 7 => .pointer (some ⟨g3, 42, none⟩)
        | 8 => .float .f64 0
        | 9 => .int .u64 0
        | 10 => .int .u64 0
        | 11 => .bool true
        | 12 => .bool true
        | 13 => .bool true
        | 14 => .pointer (some ⟨g3, 0, none⟩)
        | 15 => .int .u64 0
        | 16 => .bool false
        | 17 => .agg S
        | 18 => .bool false
        | 19 => .bool true
        | 20 => .bool true
        | 21 => .bool true
        | 22 => .pointer (some ⟨g3, 0, none⟩)
        | 23 => .int .u64 0
        | 24 => .bool false
        | 25 => .bool false
        | 26 => .int .u64 0
        | 27 => .int .u64 0
        | 28 => .int .u64 0
        | 29 => .bool true
        | 30 => .bool true
        | 31 => .bool true
        | 32 => .tuple #[]
        | _ => undef := ⟨_, rfl⟩
      obtain ⟨isO, hO⟩ : ∃ isO : Nat → Bool, isO = fun j => match j with
        | _ => false := ⟨_, rfl⟩
      obtain ⟨BL, hBL⟩ : ∃ BL : Nat → List Int, BL = fun j => match j with
        | _ => [] := ⟨_, rfl⟩
      have v0 : CV 0 = .pointer (some ⟨g, 0, none⟩) := congrFun hCV 0
      have o0 : isO 0 = false := congrFun hO 0
      have v1 : CV 1 = .pointer (some ⟨g3, 41, none⟩) := congrFun hCV 1
      have o1 : isO 1 = false := congrFun hO 1
      have v2 : CV 2 = .float .f64 0 := congrFun hCV 2
      have o2 : isO 2 = false := congrFun hO 2
      have v3 : CV 3 = .int .u64 0 := congrFun hCV 3
      have o3 : isO 3 = false := congrFun hO 3
      have v4 : CV 4 = .int .u64 0 := congrFun hCV 4
      have o4 : isO 4 = false := congrFun hO 4
      have v5 : CV 5 = .bool true := congrFun hCV 5
      have o5 : isO 5 = false := congrFun hO 5
      have v6 : CV 6 = .bool true := congrFun hCV 6
      have o6 : isO 6 = false := congrFun hO 6
      have v7 : CV 7 = .pointer (some ⟨g3, 42, none⟩) := congrFun hCV 7
      have o7 : isO 7 = false := congrFun hO 7
      have v8 : CV 8 = .float .f64 0 := congrFun hCV 8
      have o8 : isO 8 = false := congrFun hO 8
      have v9 : CV 9 = .int .u64 0 := congrFun hCV 9
      have o9 : isO 9 = false := congrFun hO 9
      have v10 : CV 10 = .int .u64 0 := congrFun hCV 10
      have o10 : isO 10 = false := congrFun hO 10
      have v11 : CV 11 = .bool true := congrFun hCV 11
      have o11 : isO 11 = false := congrFun hO 11
      have v12 : CV 12 = .bool true := congrFun hCV 12
      have o12 : isO 12 = false := congrFun hO 12
      have v13 : CV 13 = .bool true := congrFun hCV 13
      have o13 : isO 13 = false := congrFun hO 13
      have v14 : CV 14 = .pointer (some ⟨g3, 0, none⟩) := congrFun hCV 14
      have o14 : isO 14 = false := congrFun hO 14
      have v15 : CV 15 = .int .u64 0 := congrFun hCV 15
      have o15 : isO 15 = false := congrFun hO 15
      have v16 : CV 16 = .bool false := congrFun hCV 16
      have o16 : isO 16 = false := congrFun hO 16
      have v17 : CV 17 = .agg S := congrFun hCV 17
      have o17 : isO 17 = false := congrFun hO 17
      have v18 : CV 18 = .bool false := congrFun hCV 18
      have o18 : isO 18 = false := congrFun hO 18
      have v19 : CV 19 = .bool true := congrFun hCV 19
      have o19 : isO 19 = false := congrFun hO 19
      have v20 : CV 20 = .bool true := congrFun hCV 20
      have o20 : isO 20 = false := congrFun hO 20
      have v21 : CV 21 = .bool true := congrFun hCV 21
      have o21 : isO 21 = false := congrFun hO 21
      have v22 : CV 22 = .pointer (some ⟨g3, 0, none⟩) := congrFun hCV 22
      have o22 : isO 22 = false := congrFun hO 22
      have v23 : CV 23 = .int .u64 0 := congrFun hCV 23
      have o23 : isO 23 = false := congrFun hO 23
      have v24 : CV 24 = .bool false := congrFun hCV 24
      have o24 : isO 24 = false := congrFun hO 24
      have v25 : CV 25 = .bool false := congrFun hCV 25
      have o25 : isO 25 = false := congrFun hO 25
      have v26 : CV 26 = .int .u64 0 := congrFun hCV 26
      have o26 : isO 26 = false := congrFun hO 26
      have v27 : CV 27 = .int .u64 0 := congrFun hCV 27
      have o27 : isO 27 = false := congrFun hO 27
      have v28 : CV 28 = .int .u64 0 := congrFun hCV 28
      have o28 : isO 28 = false := congrFun hO 28
      have v29 : CV 29 = .bool true := congrFun hCV 29
      have o29 : isO 29 = false := congrFun hO 29
      have v30 : CV 30 = .bool true := congrFun hCV 30
      have o30 : isO 30 = false := congrFun hO 30
      have v31 : CV 31 = .bool true := congrFun hCV 31
      have o31 : isO 31 = false := congrFun hO 31
      have v32 : CV 32 = .tuple #[] := congrFun hCV 32
      have o32 : isO 32 = false := congrFun hO 32
      clear hCV hO hBL
      have V0 := Lib.hid v0
      have V1 := Lib.hid v1
      have V2 := Lib.hid v2
      have V3 := Lib.hid v3
      have V4 := Lib.hid v4
      have V5 := Lib.hid v5
      have V6 := Lib.hid v6
      have V7 := Lib.hid v7
      have V8 := Lib.hid v8
      have V9 := Lib.hid v9
      have V10 := Lib.hid v10
      have V11 := Lib.hid v11
      have V12 := Lib.hid v12
      have V13 := Lib.hid v13
      have V14 := Lib.hid v14
      have V15 := Lib.hid v15
      have V16 := Lib.hid v16
      have V17 := Lib.hid v17
      have V18 := Lib.hid v18
      have V19 := Lib.hid v19
      have V20 := Lib.hid v20
      have V21 := Lib.hid v21
      have V22 := Lib.hid v22
      have V23 := Lib.hid v23
      have V24 := Lib.hid v24
      have V25 := Lib.hid v25
      have V26 := Lib.hid v26
      have V27 := Lib.hid v27
      have V28 := Lib.hid v28
      have V29 := Lib.hid v29
      have V30 := Lib.hid v30
      have V31 := Lib.hid v31
      have V32 := Lib.hid v32
      clear v0 v1 v2 v3 v4 v5 v6 v7 v8 v9 v10 v11 v12 v13 v14 v15 v16 v17 v18 v19 v20 v21 v22 v23 v24 v25 v26 v27 v28 v29 v30 v31 v32
      refine region_run (RegI w9 isO BL CV) (by kernel_rfl) (by kernel_rfl) (by kernel_rfl) (by kernel_rfl) (RegI.start w9 33) ?_ ?_
      · intro listed vals a1 wq i hs hcl hI hR hi hu hr1
        replace hi : i < 33 := hi
        obtain rfl | hi1 : i = 0 ∨ 1 ≤ i := by omega
        · have t0 := hR.fixed 0 (by kernel_rfl) rfl
          clear b1 b2 ha hk hs9 ga9
          exact wpOp_val rfl rfl (by rw [V0.out]; go_simp) ⟨_, rfl, hI.keep (Below.refl _ _) 0 o0⟩
        obtain rfl | hi1 : i = 1 ∨ 2 ≤ i := by omega
        · have t3 := hR.fixed 3 (by kernel_rfl) rfl
          clear b1 b2 ha hk hs9 ga9
          exact wpOp_val rfl rfl (by rw [V1.out]; go_simp) ⟨_, rfl, hI.keep (Below.refl _ _) 1 o1⟩
        obtain rfl | hi1 : i = 2 ∨ 3 ≤ i := by omega
        · have t35 : a1.tmps[35]? = some (.pointer (some ⟨g3, 41, none⟩)) := hI.get hR hr1 1 o1 (by kernel_rfl) (by decide) rfl V1.out
          have cc := cell_below hI.b KL.out
          clear b1 b2 ha hk hs9 ga9
          exact wpOp_val rfl rfl (by rw [V2.out]; go_simp) ⟨_, rfl, hI.keep (Below.refl _ _) 2 o2⟩
        obtain rfl | hi1 : i = 3 ∨ 4 ≤ i := by omega
        · have t36 : a1.tmps[36]? = some (.float .f64 0) := hI.get hR hr1 2 o2 (by kernel_rfl) (by decide) rfl V2.out
          have hc1 := b1 wq
          clear b1 b2 ha hk hs9 ga9
          refine wpOp_calls (f := 47) (args := #[.float .f64 0]) rfl rfl (by go_simp) (hc1.mono ?_)
          rintro e wz ⟨rfl, rfl⟩
          exact ⟨_, rfl, _, rfl, hI.keepV (Below.refl _ _) 3 o3 V3.out⟩
        obtain rfl | hi1 : i = 4 ∨ 5 ≤ i := by omega
        · have t6 := hR.fixed 6 (by kernel_rfl) rfl
          clear b1 b2 ha hk hs9 ga9
          exact wpOp_val rfl rfl (by rw [V4.out]; go_simp) ⟨_, rfl, hI.keep (Below.refl _ _) 4 o4⟩
        obtain rfl | hi1 : i = 5 ∨ 6 ≤ i := by omega
        · have t37 : a1.tmps[37]? = some (.int .u64 0) := hI.get hR hr1 3 o3 (by kernel_rfl) (by decide) rfl V3.out
          have t38 : a1.tmps[38]? = some (.int .u64 0) := hI.get hR hr1 4 o4 (by kernel_rfl) (by decide) rfl V4.out
          clear b1 b2 ha hk hs9 ga9
          exact wpOp_val rfl rfl (by rw [V5.out]; go_simp) ⟨_, rfl, hI.keep (Below.refl _ _) 5 o5⟩
        obtain rfl | hi1 : i = 6 ∨ 7 ≤ i := by omega
        · have t39 : a1.tmps[39]? = some (.bool true) := hI.get hR hr1 5 o5 (by kernel_rfl) (by decide) rfl V5.out
          clear b1 b2 ha hk hs9 ga9
          exact wpOp_val rfl rfl (by rw [V6.out]; go_simp) ⟨_, rfl, hI.keep (Below.refl _ _) 6 o6⟩
        obtain rfl | hi1 : i = 7 ∨ 8 ≤ i := by omega
        · have t40 : a1.tmps[40]? = some (.bool true) := hI.get hR hr1 6 o6 (by kernel_rfl) (by decide) rfl V6.out
          have t3 := hR.fixed 3 (by kernel_rfl) rfl
          clear b1 b2 ha hk hs9 ga9
          exact wpOp_val rfl (wanted_yes rfl rfl t40) (by rw [V7.out]; go_simp) ⟨_, rfl, hI.keep (Below.refl _ _) 7 o7⟩
        obtain rfl | hi1 : i = 8 ∨ 9 ≤ i := by omega
        · have t40 : a1.tmps[40]? = some (.bool true) := hI.get hR hr1 6 o6 (by kernel_rfl) (by decide) rfl V6.out
          have t41 : a1.tmps[41]? = some (.pointer (some ⟨g3, 42, none⟩)) := hI.get hR hr1 7 o7 (by kernel_rfl) (by decide) rfl V7.out
          have cc := cell_below hI.b KH.out
          clear b1 b2 ha hk hs9 ga9
          exact wpOp_val rfl (wanted_yes rfl rfl t40) (by rw [V8.out]; go_simp) ⟨_, rfl, hI.keep (Below.refl _ _) 8 o8⟩
        obtain rfl | hi1 : i = 9 ∨ 10 ≤ i := by omega
        · have t40 : a1.tmps[40]? = some (.bool true) := hI.get hR hr1 6 o6 (by kernel_rfl) (by decide) rfl V6.out
          have t42 : a1.tmps[42]? = some (.float .f64 0) := hI.get hR hr1 8 o8 (by kernel_rfl) (by decide) rfl V8.out
          have hc1 := b2 wq
          clear b1 b2 ha hk hs9 ga9
          refine wpOp_calls (f := 47) (args := #[.float .f64 0]) rfl (wanted_yes rfl rfl t40) (by go_simp) (hc1.mono ?_)
          rintro e wz ⟨rfl, rfl⟩
          exact ⟨_, rfl, _, rfl, hI.keepV (Below.refl _ _) 9 o9 V9.out⟩
        obtain rfl | hi1 : i = 10 ∨ 11 ≤ i := by omega
        · have t40 : a1.tmps[40]? = some (.bool true) := hI.get hR hr1 6 o6 (by kernel_rfl) (by decide) rfl V6.out
          have t7 := hR.fixed 7 (by kernel_rfl) rfl
          clear b1 b2 ha hk hs9 ga9
          exact wpOp_val rfl (wanted_yes rfl rfl t40) (by rw [V10.out]; go_simp) ⟨_, rfl, hI.keep (Below.refl _ _) 10 o10⟩
        obtain rfl | hi1 : i = 11 ∨ 12 ≤ i := by omega
        · have t40 : a1.tmps[40]? = some (.bool true) := hI.get hR hr1 6 o6 (by kernel_rfl) (by decide) rfl V6.out
          have t43 : a1.tmps[43]? = some (.int .u64 0) := hI.get hR hr1 9 o9 (by kernel_rfl) (by decide) rfl V9.out
          have t44 : a1.tmps[44]? = some (.int .u64 0) := hI.get hR hr1 10 o10 (by kernel_rfl) (by decide) rfl V10.out
          clear b1 b2 ha hk hs9 ga9
          exact wpOp_val rfl (wanted_yes rfl rfl t40) (by rw [V11.out]; go_simp) ⟨_, rfl, hI.keep (Below.refl _ _) 11 o11⟩
        obtain rfl | hi1 : i = 12 ∨ 13 ≤ i := by omega
        · have t40 : a1.tmps[40]? = some (.bool true) := hI.get hR hr1 6 o6 (by kernel_rfl) (by decide) rfl V6.out
          have t45 : a1.tmps[45]? = some (.bool true) := hI.get hR hr1 11 o11 (by kernel_rfl) (by decide) rfl V11.out
          clear b1 b2 ha hk hs9 ga9
          exact wpOp_val rfl rfl (by rw [V12.out]; go_simp) ⟨_, rfl, hI.keep (Below.refl _ _) 12 o12⟩
        obtain rfl | hi1 : i = 13 ∨ 14 ≤ i := by omega
        · have t46 : a1.tmps[46]? = some (.bool true) := hI.get hR hr1 12 o12 (by kernel_rfl) (by decide) rfl V12.out
          clear b1 b2 ha hk hs9 ga9
          exact wpOp_val rfl rfl (by rw [V13.out]; go_simp) ⟨_, rfl, hI.keep (Below.refl _ _) 13 o13⟩
        obtain rfl | hi1 : i = 14 ∨ 15 ≤ i := by omega
        · have t47 : a1.tmps[47]? = some (.bool true) := hI.get hR hr1 13 o13 (by kernel_rfl) (by decide) rfl V13.out
          have t3 := hR.fixed 3 (by kernel_rfl) rfl
          clear b1 b2 ha hk hs9 ga9
          exact wpOp_val rfl (wanted_yes rfl rfl t47) (by rw [V14.out]; go_simp) ⟨_, rfl, hI.keep (Below.refl _ _) 14 o14⟩
        obtain rfl | hi1 : i = 15 ∨ 16 ≤ i := by omega
        · have t47 : a1.tmps[47]? = some (.bool true) := hI.get hR hr1 13 o13 (by kernel_rfl) (by decide) rfl V13.out
          have t48 : a1.tmps[48]? = some (.pointer (some ⟨g3, 0, none⟩)) := hI.get hR hr1 14 o14 (by kernel_rfl) (by decide) rfl V14.out
          have cc := cell_below hI.b KN.out
          clear b1 b2 ha hk hs9 ga9
          exact wpOp_val rfl (wanted_yes rfl rfl t47) (by rw [V15.out]; go_simp) ⟨_, rfl, hI.keep (Below.refl _ _) 15 o15⟩
        obtain rfl | hi1 : i = 16 ∨ 17 ≤ i := by omega
        · have t47 : a1.tmps[47]? = some (.bool true) := hI.get hR hr1 13 o13 (by kernel_rfl) (by decide) rfl V13.out
          have t49 : a1.tmps[49]? = some (.int .u64 0) := hI.get hR hr1 15 o15 (by kernel_rfl) (by decide) rfl V15.out
          clear b1 b2 ha hk hs9 ga9
          exact wpOp_val rfl (wanted_yes rfl rfl t47) (by rw [V16.out]; go_simp) ⟨_, rfl, hI.keep (Below.refl _ _) 16 o16⟩
        obtain rfl | hi1 : i = 17 ∨ 18 ≤ i := by omega
        · have t47 : a1.tmps[47]? = some (.bool true) := hI.get hR hr1 13 o13 (by kernel_rfl) (by decide) rfl V13.out
          have t4 := hR.fixed 4 (by kernel_rfl) rfl
          have kk := (hI.b.block _ (heap_lt K49.out)).trans K49.out
          exact wpOp_of_wp rfl (wanted_yes rfl rfl t47) (wp_load_row 30 (.tmp 4) rfl g4 (getD_is t4) 30 S (0, 0) _ kk Try.underlying30 rfl (by rw [hSs2]; exact Hs30.out) ⟨_, rfl, hI.keepV (Below.refl _ _) 17 o17 V17.out⟩)
        obtain rfl | hi1 : i = 18 ∨ 19 ≤ i := by omega
        · have t47 : a1.tmps[47]? = some (.bool true) := hI.get hR hr1 13 o13 (by kernel_rfl) (by decide) rfl V13.out
          have t51 : a1.tmps[51]? = some (.agg S) := hI.get hR hr1 17 o17 (by kernel_rfl) (by decide) rfl V17.out
          have hc1 := ha wq
          clear b1 b2 ha hk hs9 ga9
          refine wpOp_calls (f := 62) (args := #[.agg S]) rfl (wanted_yes rfl rfl t47) (by go_simp) (hc1.mono ?_)
          rintro e wz ⟨rfl, b⟩
          exact ⟨_, rfl, _, rfl, hI.keepV b 18 o18 V18.out⟩
        obtain rfl | hi1 : i = 19 ∨ 20 ≤ i := by omega
        · have t47 : a1.tmps[47]? = some (.bool true) := hI.get hR hr1 13 o13 (by kernel_rfl) (by decide) rfl V13.out
          have t50 : a1.tmps[50]? = some (.bool false) := hI.get hR hr1 16 o16 (by kernel_rfl) (by decide) rfl V16.out
          have t52 : a1.tmps[52]? = some (.bool false) := hI.get hR hr1 18 o18 (by kernel_rfl) (by decide) rfl V18.out
          clear b1 b2 ha hk hs9 ga9
          exact wpOp_val rfl (wanted_yes rfl rfl t47) (by rw [V19.out]; go_simp) ⟨_, rfl, hI.keep (Below.refl _ _) 19 o19⟩
        obtain rfl | hi1 : i = 20 ∨ 21 ≤ i := by omega
        · have t47 : a1.tmps[47]? = some (.bool true) := hI.get hR hr1 13 o13 (by kernel_rfl) (by decide) rfl V13.out
          have t53 : a1.tmps[53]? = some (.bool true) := hI.get hR hr1 19 o19 (by kernel_rfl) (by decide) rfl V19.out
          clear b1 b2 ha hk hs9 ga9
          exact wpOp_val rfl rfl (by rw [V20.out]; go_simp) ⟨_, rfl, hI.keep (Below.refl _ _) 20 o20⟩
        obtain rfl | hi1 : i = 21 ∨ 22 ≤ i := by omega
        · have t54 : a1.tmps[54]? = some (.bool true) := hI.get hR hr1 20 o20 (by kernel_rfl) (by decide) rfl V20.out
          clear b1 b2 ha hk hs9 ga9
          exact wpOp_val rfl rfl (by rw [V21.out]; go_simp) ⟨_, rfl, hI.keep (Below.refl _ _) 21 o21⟩
        obtain rfl | hi1 : i = 22 ∨ 23 ≤ i := by omega
        · have t55 : a1.tmps[55]? = some (.bool true) := hI.get hR hr1 21 o21 (by kernel_rfl) (by decide) rfl V21.out
          have t3 := hR.fixed 3 (by kernel_rfl) rfl
          clear b1 b2 ha hk hs9 ga9
          exact wpOp_val rfl (wanted_yes rfl rfl t55) (by rw [V22.out]; go_simp) ⟨_, rfl, hI.keep (Below.refl _ _) 22 o22⟩
        obtain rfl | hi1 : i = 23 ∨ 24 ≤ i := by omega
        · have t55 : a1.tmps[55]? = some (.bool true) := hI.get hR hr1 21 o21 (by kernel_rfl) (by decide) rfl V21.out
          have t56 : a1.tmps[56]? = some (.pointer (some ⟨g3, 0, none⟩)) := hI.get hR hr1 22 o22 (by kernel_rfl) (by decide) rfl V22.out
          have cc := cell_below hI.b KN.out
          clear b1 b2 ha hk hs9 ga9
          exact wpOp_val rfl (wanted_yes rfl rfl t55) (by rw [V23.out]; go_simp) ⟨_, rfl, hI.keep (Below.refl _ _) 23 o23⟩
        obtain rfl | hi1 : i = 24 ∨ 25 ≤ i := by omega
        · have t55 : a1.tmps[55]? = some (.bool true) := hI.get hR hr1 21 o21 (by kernel_rfl) (by decide) rfl V21.out
          have t57 : a1.tmps[57]? = some (.int .u64 0) := hI.get hR hr1 23 o23 (by kernel_rfl) (by decide) rfl V23.out
          clear b1 b2 ha hk hs9 ga9
          exact wpOp_val rfl (wanted_yes rfl rfl t55) (by rw [V24.out]; go_simp) ⟨_, rfl, hI.keep (Below.refl _ _) 24 o24⟩
        obtain rfl | hi1 : i = 25 ∨ 26 ≤ i := by omega
        · have t55 : a1.tmps[55]? = some (.bool true) := hI.get hR hr1 21 o21 (by kernel_rfl) (by decide) rfl V21.out
          have t58 : a1.tmps[58]? = some (.bool false) := hI.get hR hr1 24 o24 (by kernel_rfl) (by decide) rfl V24.out
          clear b1 b2 ha hk hs9 ga9
          exact wpOp_val rfl (wanted_yes rfl rfl t55) (by rw [V25.out]; go_simp) ⟨_, rfl, hI.keep (Below.refl _ _) 25 o25⟩
        obtain rfl | hi1 : i = 26 ∨ 27 ≤ i := by omega
        · have t59 : a1.tmps[59]? = some (.bool false) := hI.get hR hr1 25 o25 (by kernel_rfl) (by decide) rfl V25.out
          have t6 := hR.fixed 6 (by kernel_rfl) rfl
          clear b1 b2 ha hk hs9 ga9
          exact wpOp_val rfl (wanted_yes rfl rfl t59) (by rw [V26.out]; go_simp) ⟨_, rfl, hI.keep (Below.refl _ _) 26 o26⟩
        obtain rfl | hi1 : i = 27 ∨ 28 ≤ i := by omega
        · have t59 : a1.tmps[59]? = some (.bool false) := hI.get hR hr1 25 o25 (by kernel_rfl) (by decide) rfl V25.out
          have t7 := hR.fixed 7 (by kernel_rfl) rfl
          clear b1 b2 ha hk hs9 ga9
          exact wpOp_val rfl (wanted_yes rfl rfl t59) (by rw [V27.out]; go_simp) ⟨_, rfl, hI.keep (Below.refl _ _) 27 o27⟩
        obtain rfl | hi1 : i = 28 ∨ 29 ≤ i := by omega
        · have t59 : a1.tmps[59]? = some (.bool false) := hI.get hR hr1 25 o25 (by kernel_rfl) (by decide) rfl V25.out
          have t60 : a1.tmps[60]? = some (.int .u64 0) := hI.get hR hr1 26 o26 (by kernel_rfl) (by decide) rfl V26.out
          have t61 : a1.tmps[61]? = some (.int .u64 0) := hI.get hR hr1 27 o27 (by kernel_rfl) (by decide) rfl V27.out
          have h00 : bits .or .u64 0 0 = 0 := by decide
          clear b1 b2 ha hk hs9 ga9
          exact wpOp_val rfl (wanted_yes rfl rfl t59) (by rw [V28.out]; go_simp) ⟨_, rfl, hI.keep (Below.refl _ _) 28 o28⟩
        obtain rfl | hi1 : i = 29 ∨ 30 ≤ i := by omega
        · have t59 : a1.tmps[59]? = some (.bool false) := hI.get hR hr1 25 o25 (by kernel_rfl) (by decide) rfl V25.out
          have t62 : a1.tmps[62]? = some (.int .u64 0) := hI.get hR hr1 28 o28 (by kernel_rfl) (by decide) rfl V28.out
          clear b1 b2 ha hk hs9 ga9
          exact wpOp_val rfl (wanted_yes rfl rfl t59) (by rw [V29.out]; go_simp) ⟨_, rfl, hI.keep (Below.refl _ _) 29 o29⟩
        obtain rfl | hi1 : i = 30 ∨ 31 ≤ i := by omega
        · have t55 : a1.tmps[55]? = some (.bool true) := hI.get hR hr1 21 o21 (by kernel_rfl) (by decide) rfl V21.out
          have t59 : a1.tmps[59]? = some (.bool false) := hI.get hR hr1 25 o25 (by kernel_rfl) (by decide) rfl V25.out
          have t63 : a1.tmps[63]? = some (.bool true) := hI.get hR hr1 29 o29 (by kernel_rfl) (by decide) rfl V29.out
          clear b1 b2 ha hk hs9 ga9
          exact wpOp_val rfl (wanted_yes rfl rfl t55) (by rw [V30.out]; go_simp) ⟨_, rfl, hI.keep (Below.refl _ _) 30 o30⟩
        obtain rfl | hi1 : i = 31 ∨ 32 ≤ i := by omega
        · have t55 : a1.tmps[55]? = some (.bool true) := hI.get hR hr1 21 o21 (by kernel_rfl) (by decide) rfl V21.out
          have t64 : a1.tmps[64]? = some (.bool true) := hI.get hR hr1 30 o30 (by kernel_rfl) (by decide) rfl V30.out
          clear b1 b2 ha hk hs9 ga9
          exact wpOp_val rfl rfl (by rw [V31.out]; go_simp) ⟨_, rfl, hI.keep (Below.refl _ _) 31 o31⟩
        obtain rfl : i = 32 := by omega
        have t34 : a1.tmps[34]? = some (.pointer (some ⟨g, 0, none⟩)) := hI.get hR hr1 0 o0 (by kernel_rfl) (by decide) rfl V0.out
        have t65 : a1.tmps[65]? = some (.bool true) := hI.get hR hr1 31 o31 (by kernel_rfl) (by decide) rfl V31.out
        have hc1 := hk (.pointer (some ⟨g, 0, none⟩)) wq
        clear b1 b2 ha hk hs9 ga9
        refine wpOp_calls (f := 60) (args := #[.pointer (some ⟨g, 0, none⟩), .bool true]) rfl rfl (by go_simp) (hc1.mono ?_)
        rintro e wz ⟨rfl, rfl⟩
        exact ⟨_, rfl, _, rfl, hI.keepV (Below.refl _ _) 32 o32 V32.out⟩
      · intro listed vals wq FF hI hall hFF
        have hF2 : FF = ((((((((((((((((((((((((((((((((Act.put _ (some 34) (vals 0)).put (some 35) (vals 1)).put (some 36) (vals 2)).put (some 37) (vals 3)).put (some 38) (vals 4)).put (some 39) (vals 5)).put (some 40) (vals 6)).put (some 41) (vals 7)).put (some 42) (vals 8)).put (some 43) (vals 9)).put (some 44) (vals 10)).put (some 45) (vals 11)).put (some 46) (vals 12)).put (some 47) (vals 13)).put (some 48) (vals 14)).put (some 49) (vals 15)).put (some 50) (vals 16)).put (some 51) (vals 17)).put (some 52) (vals 18)).put (some 53) (vals 19)).put (some 54) (vals 20)).put (some 55) (vals 21)).put (some 56) (vals 22)).put (some 57) (vals 23)).put (some 58) (vals 24)).put (some 59) (vals 25)).put (some 60) (vals 26)).put (some 61) (vals 27)).put (some 62) (vals 28)).put (some 63) (vals 29)).put (some 64) (vals 30)).put (some 65) (vals 31)).put (some 66) (vals 32) := hFF
        simp only [putAll] at hF2
        rw [hF2]
        have e32 := hI.val 32 o32 (hall 32 (by decide))
        rw [V32.out] at e32
        have bfin := hI.b
        clear hF2 hFF hI hall
        rw [e32]
        go_frame
        go_wp2_with (first
          | (refine at_op (.load 32 (.tmp 3)) ?_ rfl; refine wpList_load_row rfl 32 (.tmp 3) rfl g3 rfl 32 D (0, 0) _ ((bfin.block _ (heap_lt K39.out)).trans K39.out) Try.underlying32 rfl (by rw [hDs]; exact Hs.out) ?_)
          | (refine at_op (.store 32 (.tmp 2) (.tmp 67)) ?_ rfl; refine wpList_store_row rfl 32 (.tmp 2) (.tmp 67) rfl w.heap.size D rfl rfl 32 Z ((bfin.block _ (heap_lt KZ9.out)).trans KZ9.out) (by rw [hDs]; exact Hs.out) (by rw [hDs, hZs]) hD.out ?_))
        exact bodyPost_ret (results_cell_row rfl _ _ w.heap.size 32 D (0, 0) _ rfl (setRow_heap wq w.heap.size Z D _ _ ((bfin.block _ (heap_lt KZ9.out)).trans KZ9.out)) Try.underlying32 rfl (by rw [hDs]; exact Hs.out)) rfl ⟨by rw [HDe.out], (hs9.below bfin).setRow (by omega) (by omega) D, grown_setRowN (grown_trans ga9 (grown_of_below bfin none) (fun k e => by cases e)) (by omega) D⟩
end Go.Proofs.Ytjmllggjaplldaa
