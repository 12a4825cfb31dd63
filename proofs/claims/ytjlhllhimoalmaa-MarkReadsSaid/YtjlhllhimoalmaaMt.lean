import Derived.Test.YtjlhllhimoalmaaMr
/-! Any bytes as marks. -/
namespace Go.Proofs.Ytjlhllhimoalmaa
open Go.RowKit
set_option linter.unusedVariables false
attribute [-simp] Try.isAgg27 Try.sizeOf27 Try.typeInfo27 Try.type27

theorem below_via {n m : Nat} {w a b : World} (h : Below n w a) (k : Below m a b) (hm : n ≤ m) : Below n w b :=
  ⟨k.os.trans h.os, k.tape.trans h.tape, k.output.trans h.output, Nat.le_trans h.size k.size, fun i hi => (k.block i (Nat.lt_of_lt_of_le hi hm)).trans (h.block i hi)⟩
set_option maxRecDepth 100000 in
theorem mark_bad (g B k : Nat) (xs : List Int) (w : World) (h : RdSt w g B xs) (h8 : Bytes8 xs) (hB : B ≤ w.heap.size) (hr : rdMarks xs = none) :
    Calls Try.prog 15 #[.pointer (some ⟨g, 0, none⟩), .pointer (some ⟨k, 0, none⟩)] w fun e w' => e = badP ∧ w.grownBy w' (some g) := by
  have hc := readMarks_any g B xs w h h8 hB
  rw [hr] at hc
  have hc : Calls Try.prog 16 #[.pointer (some ⟨g, 0, none⟩)] w fun e w' => e = badP ∧ w.grownBy w' (some g) := hc.mono fun e w' ⟨h1, h2⟩ => by
    rcases h2 with ⟨_, h3⟩ | ⟨n, f, rest, h3, _⟩
    · exact ⟨h3, h1⟩
    · cases h3
  clear h h8 hB hr
  go_enter Try.func15, Try.ntmps15
  go_wp2_with (go_at_call 16; (with_reducible refine hc.mono ?_); rintro e w1 ⟨rfl, hg⟩)
  exact ⟨rfl, rfl, hg⟩
set_option maxRecDepth 100000 in
theorem mark_good (g B k n : Nat) (f : Nat → Option Int) (xs rest : List Int) (Z : Array Value) (w : World) (h : RdSt w g B xs) (h8 : Bytes8 xs) (hB : B ≤ w.heap.size) (hk : w.heap[k]? = some (.cells Z 27)) (hZ : Z.size = 17) (hkg : k ≠ g) (hBk : B ≤ k) (hr : rdMarks xs = some ((n, f), rest)) :
    Calls Try.prog 15 #[.pointer (some ⟨g, 0, none⟩), .pointer (some ⟨k, 0, none⟩)] w fun e w' => e = .returned (.tuple #[]) ∧ RdSt w' g B rest ∧ ∃ w1, w.grownBy w1 (some g) ∧ w' = w1.setRow k (mkC (n : Nat) f) := by
  have hc := readMarks_any g B xs w h h8 hB
  rw [hr] at hc
  have Hs := Lib.hid size27
  have hc : Calls Try.prog 16 #[.pointer (some ⟨g, 0, none⟩)] w fun e w' => e = .returned (.agg (mkC (n : Nat) f)) ∧ RdSt w' g B rest ∧ w.grownBy w' (some g) := hc.mono fun e w' ⟨h1, h2⟩ => by
    rcases h2 with ⟨h3, _⟩ | ⟨n2, f2, r2, h3, h4, h5⟩
    · cases h3
    · injection h3 with h3
      injection h3 with h6 h7
      injection h6 with h8 h9
      subst h7 h8 h9
      exact ⟨h4, h5, h1⟩
  have hD := mkC_one (n : Nat) f
  have hDs : (mkC (n : Nat) f).size = 17 := rfl
  generalize mkC (n : Nat) f = D at *
  clear h h8 hB hr
  go_enter Try.func15, Try.ntmps15
  go_wp2_with (first
    | (go_at_call 16; (with_reducible refine hc.mono ?_); rintro e w1 ⟨rfl, hs, hg⟩)
    | (refine at_op (.store 27 (.tmp 1) (.tmp 4)) ?_ rfl; refine wpList_store_row rfl 27 (.tmp 1) (.tmp 4) rfl k D rfl rfl 27 Z (RdSt.row hg hk hkg) (by rw [hDs]; exact Hs.out) (by rw [hDs, hZ]) hD ?_))
  go_end0
  exact ⟨rfl, hs.setRow hBk hkg _, w1, hg, rfl⟩
set_option maxRecDepth 100000 in
theorem hcf_mark (a : Array Value) (w : World) : (callFunc 15 a).run Try.prog w = .ok (.enter 15 a) w := by kernel_rfl
set_option maxRecDepth 100000 in
theorem try_mark_bad (A : Option Addr) (n c k : Nat) (ys : List Int) (w : World) (hn : ys.length = n) (hc : n ≤ c) (hr : Reads w .u8 A ys) (h8 : Bytes8 ys) (hB : ys ≠ [] → ∀ a, A = some a → a.block < k) (hkw : k < w.heap.size)
    (hv : rdMarks ys = none) :
    Calls Try.prog 14 #[.slice A n c, .func (.func 15) #[] #[.pointer (some ⟨k, 0, none⟩)]] w fun e w' => e = .returned (.bool false) ∧ Below w.heap.size w w' := by
  have hs := rdSt_new hn hc hr hB (Nat.le_of_lt hkw) (.cells #[.bool false] 4)
  subst hn
  have hg0 := heap_alloc_new w (.cells #[.bool false] 4)
  have hsz : ((w.alloc (.cells #[.bool false] 4)).alloc (.cells #[.slice A ys.length c] 53)).heap.size = w.heap.size + 2 := by simp
  have hg1 := ((below_alloc (Below.refl (w.alloc (.cells #[.bool false] 4)).heap.size (w.alloc (.cells #[.bool false] 4))) (.cells #[.slice A ys.length c] 53)).block w.heap.size (by simp)).trans hg0
  have hbb := below_alloc (below_alloc (Below.refl w.heap.size w) (.cells #[.bool false] 4)) (.cells #[.slice A ys.length c] 53)
  have ht := mark_bad (w.heap.size + 1) k k ys _ hs h8 (by omega) hv
  refine (try_bad 15 #[.pointer (some ⟨k, 0, none⟩)] A c ys w (fun w2 => ((w.alloc (.cells #[.bool false] 4)).alloc (.cells #[.slice A ys.length c] 53)).grownBy w2 (some (w.heap.size + 1))) hcf_mark ?_ ht).mono ?_
  · intro w2 hg
    have hrow := RdSt.row hg hg1 (by omega)
    exact ⟨cell_of_row _ _ 0 _ _ _ hrow, frozen_of_row hrow 0⟩
  · rintro e w' ⟨w2, hg, rfl, rfl⟩
    have hb2 : Below w.heap.size w w2 := hbb.grown hg hbb.size (fun g e => by injection e with e; omega)
    exact ⟨rfl, (below_alloc hb2 _).setCell (p := ⟨w.heap.size, 0, none⟩) (Nat.le_refl _) _⟩
set_option maxRecDepth 100000 in
theorem try_mark_good (A : Option Addr) (n c k : Nat) (ys : List Int) (m : Nat) (f : Nat → Option Int) (rest : List Int) (Z : Array Value) (w : World) (hn : ys.length = n) (hc : n ≤ c) (hr : Reads w .u8 A ys) (h8 : Bytes8 ys) (hB : ys ≠ [] → ∀ a, A = some a → a.block < k) (hkw : k < w.heap.size)
    (hk : w.heap[k]? = some (.cells Z 27)) (hZ : Z.size = 17) (hv : rdMarks ys = some ((m, f), rest)) :
    Calls Try.prog 14 #[.slice A n c, .func (.func 15) #[] #[.pointer (some ⟨k, 0, none⟩)]] w fun e w' => e = .returned (.bool ((rest.length : Int) == 0)) ∧ Below k w w' ∧ w'.heap[k]? = some (.cells (mkC (m : Nat) f) 27) := by
  have hs := rdSt_new hn hc hr hB (Nat.le_of_lt hkw) (.cells #[.bool false] 4)
  subst hn
  have hg0 := heap_alloc_new w (.cells #[.bool false] 4)
  have hsz : ((w.alloc (.cells #[.bool false] 4)).alloc (.cells #[.slice A ys.length c] 53)).heap.size = w.heap.size + 2 := by simp
  have hg1 := ((below_alloc (Below.refl (w.alloc (.cells #[.bool false] 4)).heap.size (w.alloc (.cells #[.bool false] 4))) (.cells #[.slice A ys.length c] 53)).block w.heap.size (by simp)).trans hg0
  have hbb := below_alloc (below_alloc (Below.refl w.heap.size w) (.cells #[.bool false] 4)) (.cells #[.slice A ys.length c] 53)
  have hk1 := (hbb.block k hkw).trans hk
  have ht := mark_good (w.heap.size + 1) k k m f ys rest Z _ hs h8 (by omega) hk1 hZ (by omega) (Nat.le_refl _) hv
  refine (try_good 15 #[.pointer (some ⟨k, 0, none⟩)] A c ys w k rest (fun w2 => ∃ w1, ((w.alloc (.cells #[.bool false] 4)).alloc (.cells #[.slice A ys.length c] 53)).grownBy w1 (some (w.heap.size + 1)) ∧ w2 = w1.setRow k (mkC (m : Nat) f)) hcf_mark ?_ ht).mono ?_
  · rintro w2 ⟨w1, hg, rfl⟩
    have hrow := (setRow_other w1 k w.heap.size (mkC (m : Nat) f) (by omega)).trans (RdSt.row hg hg1 (by omega))
    exact ⟨cell_of_row _ _ 0 _ _ _ hrow, frozen_of_row hrow 0⟩
  · rintro e w' ⟨w2, ⟨w1, hg, rfl⟩, rfl, rfl⟩
    have hb1 : Below w.heap.size w w1 := hbb.grown hg hbb.size (fun g e => by injection e with e; omega)
    have hb2 : Below k w w1 := hb1.mono (Nat.le_of_lt hkw)
    have hrow := setRow_heap w1 k Z (mkC (m : Nat) f) _ _ ((hb1.block k hkw).trans hk)
    exact ⟨rfl, (below_setRow hb2 (Nat.le_refl k) _).setCell (p := ⟨w.heap.size, 0, none⟩) (Nat.le_of_lt hkw) _, (Below.heap_setCell _ ⟨w.heap.size, 0, none⟩ _ k (by simp; omega)).trans hrow⟩
set_option maxRecDepth 100000 in
set_option maxHeartbeats 16000000 in
theorem markReads_any (P : Option Addr) (cap : Nat) (xs : List Int) (w : World) (hr : Reads w .u8 P xs) (h8 : Bytes8 xs) (hcx : xs.length ≤ cap) :
    Calls Try.prog 5 #[.slice P xs.length cap] w fun e w' => e = .returned (.bool true) ∧ Below w.heap.size w w' := by
  have Hs := Lib.hid size27
  have aw := awake_any
  have zz := zero27
  by_cases h3 : 300 < xs.length
  · have hi : (300 : Int) < (xs.length : Int) := by omega
    go_enter Try.func5, Try.ntmps5
    go_wp2_with (go_at_call 6; first
      | ((with_reducible refine (aw _).mono ?_); rintro e w1 ⟨rfl, b1⟩))
    go_ret
    exact ⟨rfl, below_trans (by assumption) b1⟩
  · have hi : (xs.length : Int) ≤ 300 := by omega
    have hBP : ∀ k, w.heap.size ≤ k → xs ≠ [] → ∀ a, P = some a → a.block < k := fun k hk hne a e => Nat.lt_of_lt_of_le (reads_lt hr hne a e) hk
    cases hm : rdMarks xs with
    | none =>
      have htr := fun k (w : World) (hk : k < w.heap.size) (hr : Reads w .u8 P xs) hB => try_mark_bad P xs.length cap k xs w rfl hcx hr h8 hB hk hm
      clear hm h8
      go_enter Try.func5, Try.ntmps5
      go_upto_region 5 with (first
        | (go_at_call 6; ((with_reducible refine (aw _).mono ?_); rintro e w1 ⟨rfl, b1⟩))
        | (refine at_op (.alloc 27) ?_ rfl; refine wpList_alloc_row rfl _ 27 rfl (some 3) rfl w1.heap.size rfl (mkC 0 f0) zz ?_; have ht := htr w1.heap.size (w1.alloc (.cells (mkC 0 f0) 27)) (by simp) (hr.below (below_alloc b1 _)) (hBP _ b1.size))
        | (go_at_call 14; (with_reducible refine ht.mono ?_); rintro e w3 ⟨rfl, b3⟩))
      have bb := below_trans (below_alloc b1 (.cells (mkC 0 f0) 27)) b3
      clear htr ht zz aw
      go_region
      all_goals
        go_wp2
        go_ret
        exact ⟨rfl, bb.drew⟩
    | some p =>
      obtain ⟨⟨m, f⟩, rest⟩ := p
      have htr := fun k Z (w : World) (hk : k < w.heap.size) hZ (hZs : Z.size = 17) (hr : Reads w .u8 P xs) hB => try_mark_good P xs.length cap k xs m f rest Z w rfl hcx hr h8 hB hk hZ hZs hm
      cases rest with
      | cons y ys =>
        have hne : (((y :: ys).length : Int) == 0) = false := by rw [beq_eq_false_iff_ne, List.length_cons]; omega
        rw [hne] at htr
        clear hm h8 hne
        go_enter Try.func5, Try.ntmps5
        go_upto_region 5 with (first
          | (go_at_call 6; ((with_reducible refine (aw _).mono ?_); rintro e w1 ⟨rfl, b1⟩))
          | (refine at_op (.alloc 27) ?_ rfl; refine wpList_alloc_row rfl _ 27 rfl (some 3) rfl w1.heap.size rfl (mkC 0 f0) zz ?_; have ht := htr w1.heap.size (mkC 0 f0) (w1.alloc (.cells (mkC 0 f0) 27)) (by simp) (heap_alloc_new _ _) rfl (hr.below (below_alloc b1 _)) (hBP _ b1.size))
          | (go_at_call 14; (with_reducible refine ht.mono ?_); rintro e w3 ⟨rfl, b3, k3⟩))
        have bb := below_via (below_alloc b1 (.cells (mkC 0 f0) 27)) b3 b1.size
        clear htr ht zz aw k3
        go_region
        all_goals
          go_wp2
          go_ret
          exact ⟨rfl, bb.drew⟩
      | nil =>
        have hne : (((([] : List Int)).length : Int) == 0) = true := rfl
        rw [hne] at htr
        obtain ⟨hm8, hxs, hf⟩ := rdMarks_lay h8 hm
        have hly := fun w => layMarks_any m f w hm8 hf
        rw [← hxs] at hly
        clear hxs hf hm hne
        have hDs : (mkC (m : Nat) f).size = 17 := rfl
        generalize mkC (m : Nat) f = D at *
        go_enter Try.func5, Try.ntmps5
        go_upto_region 5 with (first
          | (go_at_call 6; ((with_reducible refine (aw _).mono ?_); rintro e w1 ⟨rfl, b1⟩))
          | (refine at_op (.alloc 27) ?_ rfl; refine wpList_alloc_row rfl _ 27 rfl (some 3) rfl w1.heap.size rfl (mkC 0 f0) zz ?_; have ht := htr w1.heap.size (mkC 0 f0) (w1.alloc (.cells (mkC 0 f0) 27)) (by simp) (heap_alloc_new _ _) rfl (hr.below (below_alloc b1 _)) (hBP _ b1.size))
          | (go_at_call 14; (with_reducible refine ht.mono ?_); rintro e w3 ⟨rfl, b3, k3⟩))
        have bb := below_via (below_alloc b1 (.cells (mkC 0 f0) 27)) b3 b1.size
        have hr3 := hr.below bb
        have K3 := Lib.hid k3
        generalize w1.heap.size = g at *
        clear htr ht zz aw k3 b3 hr hBP h8 b1
        have HSP : ∀ wq : World, Below w3.heap.size w3 wq → (convert 42 9 (.slice P xs.length cap)).run Try.prog wq = .ok (.string (strOfNums xs)) wq := fun wq b => run_string_reads wq _ _ 5 Try.underlying42 Try.underlying5 Try.underlying9 P cap _ (hr3.below b)
        clear hr3
        obtain ⟨sp, hsp⟩ : ∃ sp, sp = strOfNums xs := ⟨_, rfl⟩
        have Hss := Lib.hid hsp
        rw [← hsp] at HSP
        clear hsp
        have HSE : Hid ((sp.toList == sp.toList) = true) := Lib.hid (beq_self_eq_true _)
        obtain ⟨CV, hCV⟩ : ∃ CV : Nat → Value, CV = fun j => match j with
          | 0 => .bool true
          | 1 => .bool false
          | 2 => .bool false
          | 3 => .agg D
          | 5 => .string sp
          | 6 => .slice P xs.length cap
          | 7 => .string sp
          | 8 => .bool true
          | 9 => .bool true
          | 10 => .bool true
          | _ => undef := ⟨_, rfl⟩
        obtain ⟨isO, hO⟩ : ∃ isO : Nat → Bool, isO = fun j => match j with
          | 4 => true
          | _ => false := ⟨_, rfl⟩
        obtain ⟨BL, hBL⟩ : ∃ BL : Nat → List Int, BL = fun j => match j with
          | 4 => xs
          | _ => [] := ⟨_, rfl⟩
        have v0 : CV 0 = .bool true := congrFun hCV 0
        have o0 : isO 0 = false := congrFun hO 0
        have v1 : CV 1 = .bool false := congrFun hCV 1
        have o1 : isO 1 = false := congrFun hO 1
        have v2 : CV 2 = .bool false := congrFun hCV 2
        have o2 : isO 2 = false := congrFun hO 2
        have v3 : CV 3 = .agg D := congrFun hCV 3
        have o3 : isO 3 = false := congrFun hO 3
        have o4 : isO 4 = true := congrFun hO 4
        have l4 : BL 4 = xs := congrFun hBL 4
        have v5 : CV 5 = .string sp := congrFun hCV 5
        have o5 : isO 5 = false := congrFun hO 5
        have v6 : CV 6 = .slice P xs.length cap := congrFun hCV 6
        have o6 : isO 6 = false := congrFun hO 6
        have v7 : CV 7 = .string sp := congrFun hCV 7
        have o7 : isO 7 = false := congrFun hO 7
        have v8 : CV 8 = .bool true := congrFun hCV 8
        have o8 : isO 8 = false := congrFun hO 8
        have v9 : CV 9 = .bool true := congrFun hCV 9
        have o9 : isO 9 = false := congrFun hO 9
        have v10 : CV 10 = .bool true := congrFun hCV 10
        have o10 : isO 10 = false := congrFun hO 10
        clear hCV hO hBL
        have V0 := Lib.hid v0
        have V1 := Lib.hid v1
        have V2 := Lib.hid v2
        have V3 := Lib.hid v3
        have LL4 := Lib.hid l4
        have V5 := Lib.hid v5
        have V6 := Lib.hid v6
        have V7 := Lib.hid v7
        have V8 := Lib.hid v8
        have V9 := Lib.hid v9
        have V10 := Lib.hid v10
        clear v0 v1 v2 v3 l4 v5 v6 v7 v8 v9 v10
        refine region_run (RegI w3 isO BL CV) (by kernel_rfl) (by kernel_rfl) (by kernel_rfl) (by kernel_rfl) (RegI.start w3 11) ?_ ?_
        · intro listed vals a1 wq i hs hcl hI hR hi hu hr1
          replace hi : i < 11 := hi
          obtain rfl | hi1 : i = 0 ∨ 1 ≤ i := by omega
          · have t4 := hR.fixed 4 (by kernel_rfl) rfl
            clear hly HSP
            exact wpOp_val rfl rfl (by rw [V0.out]; go_simp) ⟨_, rfl, hI.keep (Below.refl _ _) 0 o0⟩
          obtain rfl | hi1 : i = 1 ∨ 2 ≤ i := by omega
          · have t16 : a1.tmps[16]? = some (.bool true) := hI.get hR hr1 0 o0 (by kernel_rfl) (by decide) rfl V0.out
            clear hly HSP
            exact wpOp_val rfl rfl (by rw [V1.out]; go_simp) ⟨_, rfl, hI.keep (Below.refl _ _) 1 o1⟩
          obtain rfl | hi1 : i = 2 ∨ 3 ≤ i := by omega
          · have t17 : a1.tmps[17]? = some (.bool false) := hI.get hR hr1 1 o1 (by kernel_rfl) (by decide) rfl V1.out
            clear hly HSP
            exact wpOp_val rfl rfl (by rw [V2.out]; go_simp) ⟨_, rfl, hI.keep (Below.refl _ _) 2 o2⟩
          obtain rfl | hi1 : i = 3 ∨ 4 ≤ i := by omega
          · have t18 : a1.tmps[18]? = some (.bool false) := hI.get hR hr1 2 o2 (by kernel_rfl) (by decide) rfl V2.out
            have t3 := hR.fixed 3 (by kernel_rfl) rfl
            have kk := (hI.b.block _ (heap_lt K3.out)).trans K3.out
            exact wpOp_of_wp rfl (wanted_yes rfl rfl t18) (wp_load_row 27 (.tmp 3) rfl g (getD_is t3) 27 D (0, 0) _ kk Try.underlying27 rfl (by rw [hDs]; exact Hs.out) ⟨_, rfl, hI.keepV (Below.refl _ _) 3 o3 V3.out⟩)
          obtain rfl | hi1 : i = 4 ∨ 5 ≤ i := by omega
          · have t18 : a1.tmps[18]? = some (.bool false) := hI.get hR hr1 2 o2 (by kernel_rfl) (by decide) rfl V2.out
            have t19 : a1.tmps[19]? = some (.agg D) := hI.get hR hr1 3 o3 (by kernel_rfl) (by decide) rfl V3.out
            have hc1 := hly wq
            clear hly HSP
            refine wpOp_calls (f := 17) (args := #[.slice none 0 0, .agg D]) rfl (wanted_yes rfl rfl t18) (by go_simp) (hc1.mono ?_)
            rintro e wz ⟨v, rfl, ho, b⟩
            exact ⟨_, rfl, _, rfl, hI.keepB b 4 o4 v (by rw [LL4.out]; exact ho)⟩
          obtain rfl | hi1 : i = 5 ∨ 6 ≤ i := by omega
          · have t18 : a1.tmps[18]? = some (.bool false) := hI.get hR hr1 2 o2 (by kernel_rfl) (by decide) rfl V2.out
            have tv : a1.tmps[20]? = some (vals 4) := hR.dep hr1 4 (by kernel_rfl) (by decide) rfl
            have ho := hI.own 4 o4 (dep_of hr1 (by kernel_rfl))
            rw [LL4.out] at ho
            obtain ⟨A9, c9, e9, _, r9⟩ := ho.form
            rw [e9] at tv
            have hcv := run_string_reads (P := Try.prog) wq 42 9 5 Try.underlying42 Try.underlying5 Try.underlying9 A9 c9 _ r9
            rw [← Hss.out] at hcv
            generalize List.length (xs) = n9 at *
            clear e9 ho r9
            clear hly HSP
            exact wpOp_val rfl (wanted_yes rfl rfl t18) (by rw [V5.out]; go_simp) ⟨_, rfl, hI.keep (Below.refl _ _) 5 o5⟩
          obtain rfl | hi1 : i = 6 ∨ 7 ≤ i := by omega
          · have t18 : a1.tmps[18]? = some (.bool false) := hI.get hR hr1 2 o2 (by kernel_rfl) (by decide) rfl V2.out
            have t0 := hR.fixed 0 (by kernel_rfl) rfl
            clear hly HSP
            exact wpOp_val rfl (wanted_yes rfl rfl t18) (by rw [V6.out]; go_simp) ⟨_, rfl, hI.keep (Below.refl _ _) 6 o6⟩
          obtain rfl | hi1 : i = 7 ∨ 8 ≤ i := by omega
          · have t18 : a1.tmps[18]? = some (.bool false) := hI.get hR hr1 2 o2 (by kernel_rfl) (by decide) rfl V2.out
            have t22 : a1.tmps[22]? = some (.slice P xs.length cap) := hI.get hR hr1 6 o6 (by kernel_rfl) (by decide) rfl V6.out
            have hcv := HSP wq hI.b
            clear hly HSP
            exact wpOp_val rfl (wanted_yes rfl rfl t18) (by rw [V7.out]; go_simp) ⟨_, rfl, hI.keep (Below.refl _ _) 7 o7⟩
          obtain rfl | hi1 : i = 8 ∨ 9 ≤ i := by omega
          · have t18 : a1.tmps[18]? = some (.bool false) := hI.get hR hr1 2 o2 (by kernel_rfl) (by decide) rfl V2.out
            have t21 : a1.tmps[21]? = some (.string sp) := hI.get hR hr1 5 o5 (by kernel_rfl) (by decide) rfl V5.out
            have t23 : a1.tmps[23]? = some (.string sp) := hI.get hR hr1 7 o7 (by kernel_rfl) (by decide) rfl V7.out
            have h1 := HSE.out
            clear hly HSP
            exact wpOp_val rfl (wanted_yes rfl rfl t18) (by rw [V8.out]; go_simp) ⟨_, rfl, hI.keep (Below.refl _ _) 8 o8⟩
          obtain rfl | hi1 : i = 9 ∨ 10 ≤ i := by omega
          · have t18 : a1.tmps[18]? = some (.bool false) := hI.get hR hr1 2 o2 (by kernel_rfl) (by decide) rfl V2.out
            have t24 : a1.tmps[24]? = some (.bool true) := hI.get hR hr1 8 o8 (by kernel_rfl) (by decide) rfl V8.out
            clear hly HSP
            exact wpOp_val rfl rfl (by rw [V9.out]; go_simp) ⟨_, rfl, hI.keep (Below.refl _ _) 9 o9⟩
          obtain rfl : i = 10 := by omega
          have t25 : a1.tmps[25]? = some (.bool true) := hI.get hR hr1 9 o9 (by kernel_rfl) (by decide) rfl V9.out
          clear hly HSP
          exact wpOp_val rfl rfl (by rw [V10.out]; go_simp) ⟨_, rfl, hI.keep (Below.refl _ _) 10 o10⟩
        · intro listed vals wq FF hI hall hFF
          have hF2 : FF = ((((((((((Act.put _ (some 16) (vals 0)).put (some 17) (vals 1)).put (some 18) (vals 2)).put (some 19) (vals 3)).put (some 20) (vals 4)).put (some 21) (vals 5)).put (some 22) (vals 6)).put (some 23) (vals 7)).put (some 24) (vals 8)).put (some 25) (vals 9)).put (some 2) (vals 10) := hFF
          simp only [putAll] at hF2
          rw [hF2]
          have e10 := hI.val 10 o10 (hall 10 (by decide))
          rw [V10.out] at e10
          have bfin := hI.b
          clear hF2 hFF hI hall
          rw [e10]
          go_frame
          go_wp2
          go_ret
          exact ⟨rfl, below_trans bb bfin⟩
theorem markReads_walk (W : World)
    (B : Option Addr) (capb : Nat) (bs : List Int) (hcb : bs.length ≤ capb) (hlb : bs.length * 1 ≤ 140737488351232) (hrb : Reads W .u8 B bs) (hwb : ∀ i, i < bs.length → (Lit.int .u8 (rd bs i)).wf = true) :
    Calls Try.prog 5 #[.slice B bs.length capb] W fun e w' => e = .returned (.bool true) ∧ Below W.heap.size W w' :=
  markReads_any B capb bs W hrb (wf_bytes hwb) hcb
end Go.Proofs.Ytjlhllhimoalmaa
