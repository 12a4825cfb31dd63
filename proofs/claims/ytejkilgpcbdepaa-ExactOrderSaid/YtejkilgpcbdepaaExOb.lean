import Derived.Test.YtejkilgpcbdepaaExOa
import Derived.Test.YtejkilgpcbdepaaExRun
import Derived.Test.YtejkilgpcbdepaaExV
import Derived.Deep.DeepCutAuto
import Derived.Deep.CutBlock
/-! Exact sums: in whichever order numbers come: the walk of the law. -/
namespace Go.Proofs.Ytejkilgpcbdepaa
open Go.RowKit
set_option linter.unusedVariables false
attribute [-simp] Try.isAgg30 Try.sizeOf30 Try.typeInfo30 Try.type30

theorem run_store_f {P : Program} {w : World} {a : Addr} {u : Value} (x : Nat) (hc : w.cell? a = some u) (hf : w.frozen? a = false) : (store a (.float .f64 x)).run P w = .ok () (w.setCell a (.float .f64 x)) := by
  rw [run_store P w a _ _ rfl, hc]
  simp only [hf]
  rfl
section
variable {P : Program} {ops : Array Oper} {Q : Exit → Act → World → Prop} {i : Nat} {o : Oper} {K : Act → World → Prop} {a : Act} {w : World}
theorem wp_alloc_row (t : TypeId) (ho : o.op = .alloc t) (z : Array Value) (hz : ∀ w, (zeroValue t).run P w = .ok (.agg z) w) (h : K (a.put o.dst (.pointer (some ⟨w.heap.size, 0, none⟩))) (w.alloc (.cells z t))) : o.wp P a w K Q := by
  unfold Oper.wp execOp
  simp only [ho, Instr.alloc, Sem.run_bind, hz, Result.andThen_ok]
  exact h
theorem wpOp_call {f : FuncId} {args : Array Value} (hi : ops[i]? = some o) (hw : Region.wanted o (yielded ops a.tmps) = true) (hx : (execOp a.eval o).run P w = .ok (.enter f args) w)
    (hc : Calls P f args w fun e w' => ∃ v, e = .returned v ∧ K (a.put o.dst v) w') : wpOp P ops Q i K a w := by
  refine wpOp_of_wp hi hw ?_
  unfold Oper.wp
  rw [hx]
  exact hc.mono fun e w' ⟨v, he, hk⟩ => by subst he; exact hk
theorem getD_of {a : Act} {t : Tmp} {v : Value} (h : a.tmps[t]? = some v) : a.tmps.getD t undef = v := by rw [Array.getD_eq_getD_getElem?, h]; rfl
end
/-- What is known while two sums are joined and laid into a row of their own. -/
structure JoinI (wc w4 : World) (Z C : Array Value) (CV : Nat → Value) (listed : Array Bool) (vals : Nat → Value) (w' : World) : Prop where
  b : Below wc.heap.size wc w'
  b4 : Below w4.heap.size w4 w'
  val : ∀ j, j < 9 → listed.getD j false = true → vals j = CV j
  al : listed.getD 9 false = true → ∃ g6, vals 9 = .pointer (some ⟨g6, 0, none⟩) ∧ w4.heap.size ≤ g6 ∧ w'.heap[g6]? = some (.cells (if listed.getD 10 false = true then C else Z) 30 (0, 0))
section
variable {wc w4 w1 w2 : World} {Z C : Array Value} {CV vals : Nat → Value} {listed : Array Bool}
theorem JoinI.keep (h : JoinI wc w4 Z C CV listed vals w1) (b : Below w1.heap.size w1 w2) (i : Nat) (hi : i < 9) : JoinI wc w4 Z C CV (listed.setIfInBounds i true) (upd vals i (CV i)) w2 := by
  refine ⟨below_trans h.b b, below_trans h.b4 b, fun j hj hl => ?_, fun hl => ?_⟩
  · by_cases e : i = j
    · subst e; simp [upd]
    · rw [getD_set_ne false e] at hl
      simp [upd, Ne.symm e, h.val j hj hl]
  · rw [getD_set_ne false (by omega)] at hl
    obtain ⟨g6, e, hg, hh⟩ := h.al hl
    refine ⟨g6, ?_, hg, ?_⟩
    · have : (9 : Nat) ≠ i := by omega
      simp [upd, this, e]
    · rw [getD_set_ne false (by omega)]
      exact (b.block g6 (heap_lt hh)).trans hh
theorem JoinI.alloc (h : JoinI wc w4 Z C CV listed vals w1) (hc : listed.getD 10 false = false) (h49 : listed.size = 11) :
    JoinI wc w4 Z C CV (listed.setIfInBounds 9 true) (upd vals 9 (.pointer (some ⟨w1.heap.size, 0, none⟩))) (w1.alloc (.cells Z 30)) := by
  refine ⟨below_alloc h.b _, below_alloc h.b4 _, fun j hj hl => ?_, fun _ => ⟨w1.heap.size, by simp [upd], h.b4.size, ?_⟩⟩
  · rw [getD_set_ne false (by omega)] at hl
    have : j ≠ 9 := by omega
    simp [upd, this, h.val j hj hl]
  · rw [getD_set_ne false (by decide), hc, if_neg (by decide)]
    exact heap_alloc_new _ _
theorem JoinI.store (h : JoinI wc w4 Z C CV listed vals w1) (h49 : listed.size = 11) (g6 : Nat) (e : vals 9 = .pointer (some ⟨g6, 0, none⟩)) (hg : w4.heap.size ≤ g6) (D : Array Value)
    (hh : w1.heap[g6]? = some (.cells D 30 (0, 0))) (hw : wc.heap.size ≤ w4.heap.size) :
    JoinI wc w4 Z C CV (listed.setIfInBounds 10 true) (upd vals 10 undef) (w1.setRow g6 C) := by
  refine ⟨below_setRow h.b (by omega) _, below_setRow h.b4 hg _, fun j hj hl => ?_, fun hl => ⟨g6, ?_, hg, ?_⟩⟩
  · rw [getD_set_ne false (by omega)] at hl
    have : j ≠ 10 := by omega
    simp [upd, this, h.val j hj hl]
  · simp [upd, e]
  · rw [getD_set_self _ _ _ (by omega), if_pos rfl]
    exact setRow_heap _ _ _ _ _ _ hh
theorem JoinI.get (h : JoinI wc w4 Z C CV listed vals w1) {ops : Array Oper} {a0 a : Act} (hR : InRun ops a0 listed vals a) {i : Nat} (hr : i ∈ Region.ready .any ops listed) (j : Nat) (hj9 : j < 9) (hw : Region.waitsFor .any ops i j = true) {d : Tmp} (hj : j < ops.size) (hd : dstAt ops j = some d) : a.tmps[d]? = some (CV j) := by
  rw [hR.dep hr j hw hj hd, h.val j hj9 (dep_of hr hw)]
end
/-- What is known while two sums that are one are compared. -/
structure SameI (w8 : World) (bl : List Int) (CV : Nat → Value) (listed : Array Bool) (vals : Nat → Value) (w' : World) : Prop where
  b : Below w8.heap.size w8 w'
  val : ∀ j, j < 25 → j ≠ 17 → j ≠ 20 → listed.getD j false = true → vals j = CV j
  own : ∀ j, j = 17 ∨ j = 20 → listed.getD j false = true → Own w' w8.heap.size 5 .u8 (vals j) bl
section
variable {w8 w1 w2 : World} {bl : List Int} {CV vals : Nat → Value} {listed : Array Bool}
theorem SameI.keep (h : SameI w8 bl CV listed vals w1) (b : Below w1.heap.size w1 w2) (i : Nat) (h17 : i ≠ 17) (h20 : i ≠ 20) : SameI w8 bl CV (listed.setIfInBounds i true) (upd vals i (CV i)) w2 := by
  refine ⟨below_trans h.b b, fun j hj k1 k2 hl => ?_, fun j hj hl => ?_⟩
  · by_cases e : i = j
    · subst e; simp [upd]
    · rw [getD_set_ne false e] at hl
      simp [upd, Ne.symm e, h.val j hj k1 k2 hl]
  · rw [getD_set_ne false (by omega)] at hl
    have : j ≠ i := by omega
    simp only [upd, if_neg this]
    exact (h.own j hj hl).below b
theorem SameI.keepB (h : SameI w8 bl CV listed vals w1) (b : Below w1.heap.size w1 w2) (i : Nat) (hi : i = 17 ∨ i = 20) (v : Value) (hv : Own w2 w1.heap.size 5 .u8 v bl) : SameI w8 bl CV (listed.setIfInBounds i true) (upd vals i v) w2 := by
  refine ⟨below_trans h.b b, fun j hj k1 k2 hl => ?_, fun j hj hl => ?_⟩
  · rw [getD_set_ne false (by omega)] at hl
    have : j ≠ i := by omega
    simp [upd, this, h.val j hj k1 k2 hl]
  · by_cases e : j = i
    · subst e
      simp only [upd]
      exact hv.mono h.b.size
    · rw [getD_set_ne false (Ne.symm e)] at hl
      simp only [upd, if_neg e]
      exact (h.own j hj hl).below b
theorem SameI.get (h : SameI w8 bl CV listed vals w1) {ops : Array Oper} {a0 a : Act} (hR : InRun ops a0 listed vals a) {i : Nat} (hr : i ∈ Region.ready .any ops listed) (j : Nat) (hj9 : j < 25) (k1 : j ≠ 17) (k2 : j ≠ 20) (hw : Region.waitsFor .any ops i j = true) {d : Tmp} (hj : j < ops.size) (hd : dstAt ops j = some d) : a.tmps[d]? = some (CV j) := by
  rw [hR.dep hr j hw hj hd, h.val j hj9 k1 k2 (dep_of hr hw)]
end
theorem valSt_lt (s : St) : (valSt s).1 < 18446744073709551616 := by
  unfold valSt
  split
  · cases s.nan <;> cases s.pos <;> cases s.neg <;> decide
  · exact (valOf_low _ _ _ _).2
theorem lawSame_any (y : Nat) (ov : Bool) (w : World) (hy : y < 18446744073709551616) : Calls Try.prog 30 #[.float .f64 y, .bool ov, .float .f64 y, .bool ov] w fun e w' => e = .returned (.bool true) ∧ w = w' := by
  have hs := refSame_any y y w hy hy
  rw [show decide (canon y = canon y) = true by simp] at hs
  cases ov
  all_goals
    go_enter Try.func30, Try.ntmps30
    go_wp2_with (go_at_call 18; (with_reducible refine hs.mono ?_); rintro e w1 ⟨rfl, rfl⟩)
    go_ret
    exact ⟨rfl, rfl⟩
theorem of_len {A : Option Addr} {cap n : Nat} {xs : List Nat} {w : World} {R : Ending → World → Prop} (h : xs.length = n) (k : Calls Try.prog 16 #[.slice A xs.length cap] w R) : Calls Try.prog 16 #[.slice A n cap] w R := h ▸ k
set_option maxRecDepth 100000 in
set_option maxHeartbeats 8000000 in
theorem order_any (A : Option Addr) (cap : Nat) (xs : List Nat) (B : Option Addr) (capb : Nat) (bs : List Int) (c : Int) (w : World) (hcp : xs.length ≤ cap) (hr : FReads w A xs) (h64 : Words64 xs) (hxl : xs.length ≤ 9223372036854775807)
    (hbr : Reads w .u8 B bs) (hb8 : Bytes8 bs) (hbl : bs.length ≤ 9223372036854775807) (hc : 0 ≤ c ∧ c ≤ 255) :
    Calls Try.prog 10 #[.slice A xs.length cap, .slice B bs.length capb, .int .u8 c] w fun e w' => e = .returned (.bool true) ∧ Below w.heap.size w w' := by
  have Hs := Lib.hid size30
  have aw := awake_any
  by_cases h40 : 40 < xs.length
  · go_enter Try.func10, Try.ntmps10
    go_wp2_with (go_at_call 13; (with_reducible refine (aw _).mono ?_); rintro e w1 ⟨rfl, b1⟩)
    go_ret
    exact ⟨rfl, below_trans (by assumption) b1⟩
  · by_cases h0 : xs.length = 0
    · obtain rfl : xs = [] := List.eq_nil_of_length_eq_zero h0
      clear h0 h40
      have hcut2 : joinSt (sumOf ([] : List Nat)) (sumOf []) = sumOf [] := by rw [sumOf_append]; rfl
      have hjoin := fun w1 => join_any (sumOf []) (sumOf []) w1
      rw [hcut2] at hjoin
      have hofA' := fun w1 (b : Below w.heap.size w w1) => of_len (n := 0) rfl (of_list A cap [] w1 (hr.below b) h64 (by simp))
      have hof := fun w1 => of_len (n := 0) rfl (of_list none 0 [] w1 (FReads.nil w1 none) h64 (by simp))
      clear hcut2 h64 hr hxl hcp hc
      generalize sumOf [] = S at *
      have hz : bs.length = 0 ∨ 0 < bs.length := by omega
      cases A
      all_goals
        go_enter Try.func10, Try.ntmps10
        go_upto_block 0 with (first
          | (go_at_call 13; (with_reducible refine (aw _).mono ?_); rintro e w1 ⟨rfl, b1⟩))
        go_cut [8] (fun i wr => i = .int .i64 0 ∧ Below w.heap.size w wr)
        case first =>
          go_wp2_with fail
          go_loopw [8] (fun i wr => i = .int .i64 0 ∧ Below w.heap.size w wr) (fun _ _ => 0)
          case atStart => exact ⟨rfl, b1⟩
          case round =>
            obtain ⟨rfl, hb⟩ := hrel
            clear b1
            rcases hz with hz | hz
            all_goals
              go_wp2_with fail
              go_meet
              exact ⟨rfl, hb⟩
        case rest =>
          obtain ⟨rfl, hb⟩ := hcut
          have hofA := hofA' wc hb
          have hof1 := fun w1 (_ : Below wc.heap.size wc w1) => hof w1
          have hof2 := fun w1 (_ : Below wc.heap.size wc w1) => hof w1
          obtain ⟨S1, hS1⟩ : ∃ S1, S1 = S := ⟨_, rfl⟩
          obtain ⟨S2, hS2⟩ : ∃ S2, S2 = S := ⟨_, rfl⟩
          have hof1 : ∀ w1, Below wc.heap.size wc w1 → Calls Try.prog 16 #[.slice none 0 0] w1 fun e w' => e = .returned (.agg (sumC S1)) ∧ Below w1.heap.size w1 w' := hS1 ▸ hof1
          have hof2 : ∀ w1, Below wc.heap.size wc w1 → Calls Try.prog 16 #[.slice none 0 0] w1 fun e w' => e = .returned (.agg (sumC S2)) ∧ Below w1.heap.size w1 w' := hS2 ▸ hof2
          have hjoin : ∀ w1, Calls Try.prog 33 #[.agg (sumC S1), .agg (sumC S2)] w1 fun e w' => e = .returned (.agg (sumC S)) ∧ Below w1.heap.size w1 w' := by rw [hS1, hS2]; exact hjoin
          clear hS1 hS2 hof hofA'
          obtain ⟨Z, hZ, zz⟩ : ∃ Z : Array Value, Z.size = 40 ∧ ∀ w, (zeroValue 30).run Try.prog w = .ok (.agg Z) w := ⟨_, sumC_size _, zero30⟩
          go_upto_region 16 with (first
            | (go_at_call 16; (with_reducible refine hofA.mono ?_); rintro e w3 ⟨rfl, b3⟩)
            | (refine at_op (.alloc 30) ?_ rfl; refine wpList_alloc_row rfl _ 30 rfl (some 12) rfl w3.heap.size rfl Z zz ?_)
            | (refine at_op (.store 30 (.tmp 12) (.tmp 74)) ?_ rfl; refine wpList_store_row rfl 30 (.tmp 12) (.tmp 74) rfl w3.heap.size (sumC S) rfl rfl 30 Z (heap_alloc_new w3 _) (by rw [sumC_size]; exact Hs.out) (by rw [hZ, sumC_size]) (sumC_one _) ?_; rw [World.setRow_alloc_new]; have hg5 := Lib.hid (heap_alloc_new w3 (.cells (sumC S) 30)); have bb5 := below_alloc b3 (.cells (sumC S) 30); generalize w3.heap.size = g5 at *; generalize w3.alloc (.cells (sumC S) 30) = w4 at *))
          have bbw := below_trans hb bb5
          have hgl5 := heap_lt hg5.out
          go_frame
          go_cut [13] (fun v wr => ∃ g6, v = .pointer (some ⟨g6, 0, none⟩) ∧ wr.heap[g5]? = some (.cells (sumC S) 30 (0, 0)) ∧ wr.heap[g6]? = some (.cells (sumC S) 30 (0, 0)) ∧ Below w.heap.size w wr)
          case first =>
            obtain ⟨C, hC⟩ : ∃ C, C = sumC S := ⟨_, rfl⟩
            have hC1 : C.size = 40 := by rw [hC]; exact sumC_size _
            have hC2 : C.all (·.oneCell') = true := by rw [hC]; exact sumC_one _
            obtain ⟨CV, hCV⟩ : ∃ CV : Nat → Value, CV = fun j => match j with
              | 0 => .slice none 0 0
              | 1 => .int .i64 0
              | 2 => .slice none 0 0
              | 3 => .agg (sumC S1)
              | 4 => .slice none 0 0
              | 5 => .int .i64 0
              | 6 => .slice none 0 0
              | 7 => .agg (sumC S2)
              | _ => .agg C := ⟨_, rfl⟩
            have v0 : CV 0 = .slice none 0 0 := congrFun hCV 0
            have v1 : CV 1 = .int .i64 0 := congrFun hCV 1
            have v2 : CV 2 = .slice none 0 0 := congrFun hCV 2
            have v3 : CV 3 = .agg (sumC S1) := congrFun hCV 3
            have v4 : CV 4 = .slice none 0 0 := congrFun hCV 4
            have v5 : CV 5 = .int .i64 0 := congrFun hCV 5
            have v6 : CV 6 = .slice none 0 0 := congrFun hCV 6
            have v7 : CV 7 = .agg (sumC S2) := congrFun hCV 7
            have v8 : CV 8 = .agg C := congrFun hCV 8
            clear hCV
            rw [← hC] at hjoin
            have HC := Lib.hid hC
            clear hC
            have hw4 := bb5.size
            refine region_run (JoinI wc w4 Z C CV) (by kernel_rfl) (by kernel_rfl) (by kernel_rfl) (by kernel_rfl) ⟨bb5.drew, (Below.refl w4.heap.size w4).drew, fun j _ h => absurd h (by rw [getD_replicate_false]; decide), fun h => absurd h (by rw [getD_replicate_false]; decide)⟩ ?_ ?_
            · intro listed vals a1 w1 i hs hcl hI hR hi hu hr1
              replace hi : i < 11 := hi
              replace hs : listed.size = 11 := hs
              have ZZ := Lib.hid zz
              clear hg5 hofA bbw zz hgl5 b3
              obtain rfl | hi1 : i = 0 ∨ 1 ≤ i := by omega
              · have t7 := hR.fixed 7 (by kernel_rfl) rfl
                exact wpOp_val rfl rfl (by rw [v0]; go_simp) ⟨_, rfl, hI.keep (Below.refl _ _) 0 (by decide)⟩
              obtain rfl | hi1 : i = 1 ∨ 2 ≤ i := by omega
              · have t11 := hR.fixed 11 (by kernel_rfl) rfl
                exact wpOp_val rfl rfl (by rw [v1]; go_simp) ⟨_, rfl, hI.keep (Below.refl _ _) 1 (by decide)⟩
              obtain rfl | hi1 : i = 2 ∨ 3 ≤ i := by omega
              · have t75 : a1.tmps[75]? = some (Value.slice none 0 0) := (by have := hI.get hR hr1 0 (by decide) (by kernel_rfl) (by decide) rfl; rw [v0] at this; exact this)
                have t76 : a1.tmps[76]? = some (.int .i64 0) := (by have := hI.get hR hr1 1 (by decide) (by kernel_rfl) (by decide) rfl; rw [v1] at this; exact this)
                exact wpOp_val rfl rfl (by rw [v2]; go_simp) ⟨_, rfl, hI.keep (Below.refl _ _) 2 (by decide)⟩
              obtain rfl | hi1 : i = 3 ∨ 4 ≤ i := by omega
              · have t77 : a1.tmps[77]? = some (.slice none 0 0) := (by have := hI.get hR hr1 2 (by decide) (by kernel_rfl) (by decide) rfl; rw [v2] at this; exact this)
                have hc1 := hof1 w1 hI.b
                clear hof1 hof2 hjoin
                refine wpOp_call (f := 16) (args := #[.slice none 0 0]) rfl rfl (by go_simp) (hc1.mono ?_)
                rintro e w5 ⟨rfl, b⟩
                exact ⟨_, rfl, _, rfl, by have := hI.keep b 3 (by decide); rw [v3] at this; exact this⟩
              obtain rfl | hi1 : i = 4 ∨ 5 ≤ i := by omega
              · have t7 := hR.fixed 7 (by kernel_rfl) rfl
                exact wpOp_val rfl rfl (by rw [v4]; go_simp) ⟨_, rfl, hI.keep (Below.refl _ _) 4 (by decide)⟩
              obtain rfl | hi1 : i = 5 ∨ 6 ≤ i := by omega
              · have t11 := hR.fixed 11 (by kernel_rfl) rfl
                exact wpOp_val rfl rfl (by rw [v5]; go_simp) ⟨_, rfl, hI.keep (Below.refl _ _) 5 (by decide)⟩
              obtain rfl | hi1 : i = 6 ∨ 7 ≤ i := by omega
              · have t75 : a1.tmps[79]? = some (Value.slice none 0 0) := (by have := hI.get hR hr1 4 (by decide) (by kernel_rfl) (by decide) rfl; rw [v4] at this; exact this)
                have t76 : a1.tmps[80]? = some (.int .i64 0) := (by have := hI.get hR hr1 5 (by decide) (by kernel_rfl) (by decide) rfl; rw [v5] at this; exact this)
                exact wpOp_val rfl rfl (by rw [v6]; go_simp) ⟨_, rfl, hI.keep (Below.refl _ _) 6 (by decide)⟩
              obtain rfl | hi1 : i = 7 ∨ 8 ≤ i := by omega
              · have t77 : a1.tmps[81]? = some (.slice none 0 0) := (by have := hI.get hR hr1 6 (by decide) (by kernel_rfl) (by decide) rfl; rw [v6] at this; exact this)
                have hc1 := hof2 w1 hI.b
                clear hof1 hof2 hjoin
                refine wpOp_call (f := 16) (args := #[.slice none 0 0]) rfl rfl (by go_simp) (hc1.mono ?_)
                rintro e w5 ⟨rfl, b⟩
                exact ⟨_, rfl, _, rfl, by have := hI.keep b 7 (by decide); rw [v7] at this; exact this⟩
              obtain rfl | hi1 : i = 8 ∨ 9 ≤ i := by omega
              · have t78 : a1.tmps[78]? = some (.agg (sumC S1)) := (by have := hI.get hR hr1 3 (by decide) (by kernel_rfl) (by decide) rfl; rw [v3] at this; exact this)
                have t82 : a1.tmps[82]? = some (.agg (sumC S2)) := (by have := hI.get hR hr1 7 (by decide) (by kernel_rfl) (by decide) rfl; rw [v7] at this; exact this)
                have hc1 := hjoin w1
                clear hof1 hof2 hjoin
                refine wpOp_call (f := 33) (args := #[.agg (sumC S1), .agg (sumC S2)]) rfl rfl (by go_simp) (hc1.mono ?_)
                rintro e w5 ⟨rfl, b⟩
                exact ⟨_, rfl, _, rfl, by have := hI.keep b 8 (by decide); rw [v8] at this; exact this⟩
              obtain rfl | hi1 : i = 9 ∨ 10 ≤ i := by omega
              · have h10 : listed.getD 10 false = false := by
                  cases hq : listed.getD 10 false with
                  | false => rfl
                  | true => have := hcl 10 9 (by kernel_rfl) hq; rw [hu] at this; cases this
                exact wpOp_of_wp rfl rfl (wp_alloc_row 30 rfl Z ZZ.out ⟨_, rfl, hI.alloc h10 hs⟩)
              obtain rfl : i = 10 := by omega
              obtain ⟨g6, e9, hg6, hh⟩ := hI.al (dep_of hr1 (by kernel_rfl))
              have t13 : a1.tmps[13]? = some (vals 9) := hR.dep hr1 9 (by kernel_rfl) (by decide) rfl
              rw [e9] at t13
              have t83 : a1.tmps[83]? = some (.agg C) := (by have := hI.get hR hr1 8 (by decide) (by kernel_rfl) (by decide) rfl; rw [v8] at this; exact this)
              exact wpOp_of_wp rfl rfl (wp_store_row 30 (.tmp 13) (.tmp 83) rfl g6 C (getD_of t13) (getD_of t83) 30 _ hh (by rw [hC1]; exact Hs.out) (by split <;> omega) hC2 ⟨undef, rfl, hI.store hs g6 e9 hg6 _ hh hw4⟩)
            · intro listed vals w1 FF hI hall hFF
              obtain ⟨g6, e9, hg6, hh⟩ := hI.al (hall 9 (by decide))
              rw [if_pos (hall 10 (by decide)), HC.out] at hh
              have hb4 := hI.b4
              have hbc := hI.b
              clear hof1 hof2 hjoin hofA zz hI hall
              have hF2 : FF = ((((((((((Act.put _ (some 75) (vals 0)).put (some 76) (vals 1)).put (some 77) (vals 2)).put (some 78) (vals 3)).put (some 79) (vals 4)).put (some 80) (vals 5)).put (some 81) (vals 6)).put (some 82) (vals 7)).put (some 83) (vals 8)).put (some 13) (vals 9)).put none (vals 10) := hFF
              simp only [putAll] at hF2
              rw [hF2]
              clear hF2 hFF
              go_frame
              go_wp2_with fail
              go_meet
              exact ⟨g6, e9, (hb4.block g5 hgl5).trans hg5.out, hh, below_trans hb hbc⟩
          case rest =>
            obtain ⟨g6, rfl, h5, h6, hb6⟩ := hcut
            have hva := fun w => value_any S w
            have hyl := valSt_lt S
            generalize (valSt S).1 = y at *
            generalize (valSt S).2 = ov at *
            have H5 := Lib.hid h5
            have H6 := Lib.hid h6
            clear h5 h6 hof1 hof2 hjoin hofA
            go_upto_region 19 with (first
              | (refine at_op0 (.load 30 (.tmp 12)) ?_ rfl rfl; refine wpList_load_row rfl 30 (.tmp 12) rfl g5 rfl 30 _ (0, 0) _ H5.out Try.underlying30 rfl (by rw [sumC_size]; exact Hs.out) ?_)
              | (refine at_op0 (.load 30 (.tmp 13)) ?_ rfl rfl; refine wpList_load_row rfl 30 (.tmp 13) rfl g6 rfl 30 _ (0, 0) _ J6.out Try.underlying30 rfl (by rw [sumC_size]; exact Hs.out) ?_)
              | (go_at_call 17; first
                  | ((with_reducible refine (hva wc).mono ?_); rintro e w7 ⟨rfl, b7⟩; have J5 := Lib.hid ((b7.block g5 (heap_lt H5.out)).trans H5.out); have J6 := Lib.hid ((b7.block g6 (heap_lt H6.out)).trans H6.out); have hb7 := below_trans hb6 b7; clear b7)
                  | ((with_reducible refine (hva _).mono ?_); rintro e w8 ⟨rfl, b8⟩; have L5 := Lib.hid ((b8.block g5 (heap_lt J5.out)).trans J5.out); have L6 := Lib.hid ((b8.block g6 (heap_lt J6.out)).trans J6.out); have hb8 := below_trans hb7 b8; clear b8)))
            obtain ⟨C, hC⟩ : ∃ C, C = sumC S := ⟨_, rfl⟩
            have hC1 : C.size = 40 := by rw [hC]; exact sumC_size _
            obtain ⟨ss, hss⟩ : ∃ ss, ss = strOfNums (bytesOf S) := ⟨_, rfl⟩
            have hsame := fun w => same_any S S rfl w
            have hbyt := fun w => bytes_any S w
            have hlaw := fun w => lawSame_any y ov w hyl
            rw [← hC] at hsame hbyt
            have HL5 := L5.out
            have HL6 := L6.out
            rw [← hC] at HL5 HL6
            have L5 := Lib.hid HL5
            have L6 := Lib.hid HL6
            have Hss := Lib.hid hss
            clear hC hss HL5 HL6 H5 H6 J5 J6 hva hyl
            obtain ⟨CV, hCV⟩ : ∃ CV : Nat → Value, CV = fun j => match j with
              | 0 => .agg C
              | 1 => .agg C
              | 2 => .bool true
              | 3 => .bool true
              | 4 => .agg C
              | 5 => .agg C
              | 6 => .bool true
              | 7 => .bool true
              | 8 => .bool true
              | 9 => .float .f64 y
              | 10 => .bool ov
              | 11 => .float .f64 y
              | 12 => .bool ov
              | 13 => .bool true
              | 14 => .bool true
              | 15 => .bool true
              | 16 => .agg C
              | 18 => .string ss
              | 19 => .agg C
              | 21 => .string ss
              | 22 => .bool true
              | 23 => .bool true
              | _ => .bool true := ⟨_, rfl⟩
            have v0 : CV 0 = .agg C := congrFun hCV 0
            have v1 : CV 1 = .agg C := congrFun hCV 1
            have v2 : CV 2 = .bool true := congrFun hCV 2
            have v3 : CV 3 = .bool true := congrFun hCV 3
            have v4 : CV 4 = .agg C := congrFun hCV 4
            have v5 : CV 5 = .agg C := congrFun hCV 5
            have v6 : CV 6 = .bool true := congrFun hCV 6
            have v7 : CV 7 = .bool true := congrFun hCV 7
            have v8 : CV 8 = .bool true := congrFun hCV 8
            have v9 : CV 9 = .float .f64 y := congrFun hCV 9
            have v10 : CV 10 = .bool ov := congrFun hCV 10
            have v11 : CV 11 = .float .f64 y := congrFun hCV 11
            have v12 : CV 12 = .bool ov := congrFun hCV 12
            have v13 : CV 13 = .bool true := congrFun hCV 13
            have v14 : CV 14 = .bool true := congrFun hCV 14
            have v15 : CV 15 = .bool true := congrFun hCV 15
            have v16 : CV 16 = .agg C := congrFun hCV 16
            have v18 : CV 18 = .string ss := congrFun hCV 18
            have v19 : CV 19 = .agg C := congrFun hCV 19
            have v21 : CV 21 = .string ss := congrFun hCV 21
            have v22 : CV 22 = .bool true := congrFun hCV 22
            have v23 : CV 23 = .bool true := congrFun hCV 23
            have v24 : CV 24 = .bool true := congrFun hCV 24
            clear hCV
            refine region_run (SameI w8 (bytesOf S) CV) (by kernel_rfl) (by kernel_rfl) (by kernel_rfl) (by kernel_rfl) ⟨(Below.refl w8.heap.size w8).drew, fun j _ _ _ h => absurd h (by rw [getD_replicate_false]; decide), fun j _ h => absurd h (by rw [getD_replicate_false]; decide)⟩ ?_ ?_
            · intro listed vals a1 w9 i hs hcl hI hR hi hu hr1
              replace hi : i < 25 := hi
              replace hs : listed.size = 25 := hs
              have k5 := Lib.hid ((hI.b.block g5 (heap_lt L5.out)).trans L5.out)
              have k6 := Lib.hid ((hI.b.block g6 (heap_lt L6.out)).trans L6.out)
              clear zz
              obtain rfl | hi1 : i = 0 ∨ 1 ≤ i := by omega
              · have t12 := hR.fixed 12 (by kernel_rfl) rfl
                exact wpOp_of_wp rfl rfl (wp_load_row 30 (.tmp 12) rfl g5 (getD_of t12) 30 C (0, 0) _ k5.out Try.underlying30 rfl (by rw [hC1]; exact Hs.out) ⟨_, rfl, by have := hI.keep (Below.refl _ _) 0 (by decide) (by decide); rw [v0] at this; exact this⟩)
              obtain rfl | hi1 : i = 1 ∨ 2 ≤ i := by omega
              · have t13 := hR.fixed 13 (by kernel_rfl) rfl
                exact wpOp_of_wp rfl rfl (wp_load_row 30 (.tmp 13) rfl g6 (getD_of t13) 30 C (0, 0) _ k6.out Try.underlying30 rfl (by rw [hC1]; exact Hs.out) ⟨_, rfl, by have := hI.keep (Below.refl _ _) 1 (by decide) (by decide); rw [v1] at this; exact this⟩)
              obtain rfl | hi1 : i = 2 ∨ 3 ≤ i := by omega
              · have t94 : a1.tmps[94]? = some (.agg C) := (by have := hI.get hR hr1 0 (by decide) (by decide) (by decide) (by kernel_rfl) (by decide) rfl; rw [v0] at this; exact this)
                have t95 : a1.tmps[95]? = some (.agg C) := (by have := hI.get hR hr1 1 (by decide) (by decide) (by decide) (by kernel_rfl) (by decide) rfl; rw [v1] at this; exact this)
                have hc1 := hsame w9
                clear hsame hbyt hlaw
                refine wpOp_call (f := 22) (args := #[.agg C, .agg C]) rfl rfl (by go_simp) (hc1.mono ?_)
                rintro e w10 ⟨rfl, b⟩
                exact ⟨_, rfl, _, rfl, by have := hI.keep b 2 (by decide) (by decide); rw [v2] at this; exact this⟩
              obtain rfl | hi1 : i = 3 ∨ 4 ≤ i := by omega
              · have t96 : a1.tmps[96]? = some (.bool true) := (by have := hI.get hR hr1 2 (by decide) (by decide) (by decide) (by kernel_rfl) (by decide) rfl; rw [v2] at this; exact this)
                clear hsame hbyt hlaw
                exact wpOp_val rfl rfl (by rw [v3]; go_simp) ⟨_, rfl, hI.keep (Below.refl _ _) 3 (by decide) (by decide)⟩
              obtain rfl | hi1 : i = 4 ∨ 5 ≤ i := by omega
              · have t97 : a1.tmps[97]? = some (.bool true) := (by have := hI.get hR hr1 3 (by decide) (by decide) (by decide) (by kernel_rfl) (by decide) rfl; rw [v3] at this; exact this)
                have t13 := hR.fixed 13 (by kernel_rfl) rfl
                exact wpOp_of_wp rfl (wanted_true rfl rfl t97) (wp_load_row 30 (.tmp 13) rfl g6 (getD_of t13) 30 C (0, 0) _ k6.out Try.underlying30 rfl (by rw [hC1]; exact Hs.out) ⟨_, rfl, by have := hI.keep (Below.refl _ _) 4 (by decide) (by decide); rw [v4] at this; exact this⟩)
              obtain rfl | hi1 : i = 5 ∨ 6 ≤ i := by omega
              · have t97 : a1.tmps[97]? = some (.bool true) := (by have := hI.get hR hr1 3 (by decide) (by decide) (by decide) (by kernel_rfl) (by decide) rfl; rw [v3] at this; exact this)
                have t12 := hR.fixed 12 (by kernel_rfl) rfl
                exact wpOp_of_wp rfl (wanted_true rfl rfl t97) (wp_load_row 30 (.tmp 12) rfl g5 (getD_of t12) 30 C (0, 0) _ k5.out Try.underlying30 rfl (by rw [hC1]; exact Hs.out) ⟨_, rfl, by have := hI.keep (Below.refl _ _) 5 (by decide) (by decide); rw [v5] at this; exact this⟩)
              obtain rfl | hi1 : i = 6 ∨ 7 ≤ i := by omega
              · have t97 : a1.tmps[97]? = some (.bool true) := (by have := hI.get hR hr1 3 (by decide) (by decide) (by decide) (by kernel_rfl) (by decide) rfl; rw [v3] at this; exact this)
                have t98 : a1.tmps[98]? = some (.agg C) := (by have := hI.get hR hr1 4 (by decide) (by decide) (by decide) (by kernel_rfl) (by decide) rfl; rw [v4] at this; exact this)
                have t99 : a1.tmps[99]? = some (.agg C) := (by have := hI.get hR hr1 5 (by decide) (by decide) (by decide) (by kernel_rfl) (by decide) rfl; rw [v5] at this; exact this)
                have hc1 := hsame w9
                clear hsame hbyt hlaw
                refine wpOp_call (f := 22) (args := #[.agg C, .agg C]) rfl (wanted_true rfl rfl t97) (by go_simp) (hc1.mono ?_)
                rintro e w10 ⟨rfl, b⟩
                exact ⟨_, rfl, _, rfl, by have := hI.keep b 6 (by decide) (by decide); rw [v6] at this; exact this⟩
              obtain rfl | hi1 : i = 7 ∨ 8 ≤ i := by omega
              · have t97 : a1.tmps[97]? = some (.bool true) := (by have := hI.get hR hr1 3 (by decide) (by decide) (by decide) (by kernel_rfl) (by decide) rfl; rw [v3] at this; exact this)
                have t100 : a1.tmps[100]? = some (.bool true) := (by have := hI.get hR hr1 6 (by decide) (by decide) (by decide) (by kernel_rfl) (by decide) rfl; rw [v6] at this; exact this)
                clear hsame hbyt hlaw
                exact wpOp_val rfl rfl (by rw [v7]; go_simp) ⟨_, rfl, hI.keep (Below.refl _ _) 7 (by decide) (by decide)⟩
              obtain rfl | hi1 : i = 8 ∨ 9 ≤ i := by omega
              · have t101 : a1.tmps[101]? = some (.bool true) := (by have := hI.get hR hr1 7 (by decide) (by decide) (by decide) (by kernel_rfl) (by decide) rfl; rw [v7] at this; exact this)
                clear hsame hbyt hlaw
                exact wpOp_val rfl rfl (by rw [v8]; go_simp) ⟨_, rfl, hI.keep (Below.refl _ _) 8 (by decide) (by decide)⟩
              obtain rfl | hi1 : i = 9 ∨ 10 ≤ i := by omega
              · have t102 : a1.tmps[102]? = some (.bool true) := (by have := hI.get hR hr1 8 (by decide) (by decide) (by decide) (by kernel_rfl) (by decide) rfl; rw [v8] at this; exact this)
                have t14 := hR.fixed 14 (by kernel_rfl) rfl
                clear hsame hbyt hlaw
                exact wpOp_val rfl (wanted_true rfl rfl t102) (by rw [v9]; go_simp) ⟨_, rfl, hI.keep (Below.refl _ _) 9 (by decide) (by decide)⟩
              obtain rfl | hi1 : i = 10 ∨ 11 ≤ i := by omega
              · have t102 : a1.tmps[102]? = some (.bool true) := (by have := hI.get hR hr1 8 (by decide) (by decide) (by decide) (by kernel_rfl) (by decide) rfl; rw [v8] at this; exact this)
                have t15 := hR.fixed 15 (by kernel_rfl) rfl
                clear hsame hbyt hlaw
                exact wpOp_val rfl (wanted_true rfl rfl t102) (by rw [v10]; go_simp) ⟨_, rfl, hI.keep (Below.refl _ _) 10 (by decide) (by decide)⟩
              obtain rfl | hi1 : i = 11 ∨ 12 ≤ i := by omega
              · have t102 : a1.tmps[102]? = some (.bool true) := (by have := hI.get hR hr1 8 (by decide) (by decide) (by decide) (by kernel_rfl) (by decide) rfl; rw [v8] at this; exact this)
                have t16 := hR.fixed 16 (by kernel_rfl) rfl
                clear hsame hbyt hlaw
                exact wpOp_val rfl (wanted_true rfl rfl t102) (by rw [v11]; go_simp) ⟨_, rfl, hI.keep (Below.refl _ _) 11 (by decide) (by decide)⟩
              obtain rfl | hi1 : i = 12 ∨ 13 ≤ i := by omega
              · have t102 : a1.tmps[102]? = some (.bool true) := (by have := hI.get hR hr1 8 (by decide) (by decide) (by decide) (by kernel_rfl) (by decide) rfl; rw [v8] at this; exact this)
                have t17 := hR.fixed 17 (by kernel_rfl) rfl
                clear hsame hbyt hlaw
                exact wpOp_val rfl (wanted_true rfl rfl t102) (by rw [v12]; go_simp) ⟨_, rfl, hI.keep (Below.refl _ _) 12 (by decide) (by decide)⟩
              obtain rfl | hi1 : i = 13 ∨ 14 ≤ i := by omega
              · have t102 : a1.tmps[102]? = some (.bool true) := (by have := hI.get hR hr1 8 (by decide) (by decide) (by decide) (by kernel_rfl) (by decide) rfl; rw [v8] at this; exact this)
                have t103 : a1.tmps[103]? = some (.float .f64 y) := (by have := hI.get hR hr1 9 (by decide) (by decide) (by decide) (by kernel_rfl) (by decide) rfl; rw [v9] at this; exact this)
                have t104 : a1.tmps[104]? = some (.bool ov) := (by have := hI.get hR hr1 10 (by decide) (by decide) (by decide) (by kernel_rfl) (by decide) rfl; rw [v10] at this; exact this)
                have t105 : a1.tmps[105]? = some (.float .f64 y) := (by have := hI.get hR hr1 11 (by decide) (by decide) (by decide) (by kernel_rfl) (by decide) rfl; rw [v11] at this; exact this)
                have t106 : a1.tmps[106]? = some (.bool ov) := (by have := hI.get hR hr1 12 (by decide) (by decide) (by decide) (by kernel_rfl) (by decide) rfl; rw [v12] at this; exact this)
                have hc1 := hlaw w9
                clear hsame hbyt hlaw
                refine wpOp_call (f := 30) (args := #[.float .f64 y, .bool ov, .float .f64 y, .bool ov]) rfl (wanted_true rfl rfl t102) (by go_simp) (hc1.mono ?_)
                rintro e w10 ⟨rfl, rfl⟩
                exact ⟨_, rfl, _, rfl, by have := hI.keep (Below.refl _ _) 13 (by decide) (by decide); rw [v13] at this; exact this⟩
              obtain rfl | hi1 : i = 14 ∨ 15 ≤ i := by omega
              · have t102 : a1.tmps[102]? = some (.bool true) := (by have := hI.get hR hr1 8 (by decide) (by decide) (by decide) (by kernel_rfl) (by decide) rfl; rw [v8] at this; exact this)
                have t107 : a1.tmps[107]? = some (.bool true) := (by have := hI.get hR hr1 13 (by decide) (by decide) (by decide) (by kernel_rfl) (by decide) rfl; rw [v13] at this; exact this)
                clear hsame hbyt hlaw
                exact wpOp_val rfl rfl (by rw [v14]; go_simp) ⟨_, rfl, hI.keep (Below.refl _ _) 14 (by decide) (by decide)⟩
              obtain rfl | hi1 : i = 15 ∨ 16 ≤ i := by omega
              · have t108 : a1.tmps[108]? = some (.bool true) := (by have := hI.get hR hr1 14 (by decide) (by decide) (by decide) (by kernel_rfl) (by decide) rfl; rw [v14] at this; exact this)
                clear hsame hbyt hlaw
                exact wpOp_val rfl rfl (by rw [v15]; go_simp) ⟨_, rfl, hI.keep (Below.refl _ _) 15 (by decide) (by decide)⟩
              obtain rfl | hi1 : i = 16 ∨ 17 ≤ i := by omega
              · have t109 : a1.tmps[109]? = some (.bool true) := (by have := hI.get hR hr1 15 (by decide) (by decide) (by decide) (by kernel_rfl) (by decide) rfl; rw [v15] at this; exact this)
                have t12 := hR.fixed 12 (by kernel_rfl) rfl
                exact wpOp_of_wp rfl (wanted_true rfl rfl t109) (wp_load_row 30 (.tmp 12) rfl g5 (getD_of t12) 30 C (0, 0) _ k5.out Try.underlying30 rfl (by rw [hC1]; exact Hs.out) ⟨_, rfl, by have := hI.keep (Below.refl _ _) 16 (by decide) (by decide); rw [v16] at this; exact this⟩)
              obtain rfl | hi1 : i = 17 ∨ 18 ≤ i := by omega
              · have t109 : a1.tmps[109]? = some (.bool true) := (by have := hI.get hR hr1 15 (by decide) (by decide) (by decide) (by kernel_rfl) (by decide) rfl; rw [v15] at this; exact this)
                have t110 : a1.tmps[110]? = some (.agg C) := (by have := hI.get hR hr1 16 (by decide) (by decide) (by decide) (by kernel_rfl) (by decide) rfl; rw [v16] at this; exact this)
                have hc1 := hbyt w9
                clear hsame hbyt hlaw
                refine wpOp_call (f := 31) (args := #[.agg C]) rfl (wanted_true rfl rfl t109) (by go_simp) (hc1.mono ?_)
                rintro e w10 ⟨v, rfl, ho, b⟩
                exact ⟨_, rfl, _, rfl, hI.keepB b 17 (.inl rfl) v ho⟩
              obtain rfl | hi1 : i = 18 ∨ 19 ≤ i := by omega
              · have t109 : a1.tmps[109]? = some (.bool true) := (by have := hI.get hR hr1 15 (by decide) (by decide) (by decide) (by kernel_rfl) (by decide) rfl; rw [v15] at this; exact this)
                have tv : a1.tmps[111]? = some (vals 17) := hR.dep hr1 17 (by kernel_rfl) (by decide) rfl
                have ho := hI.own 17 (.inl rfl) (dep_of hr1 (by kernel_rfl))
                obtain ⟨A9, c9, e9, _, r9⟩ := ho.form
                rw [e9] at tv
                have hcv := run_string_reads (P := Try.prog) w9 47 9 5 Try.underlying47 Try.underlying5 Try.underlying9 A9 c9 _ r9
                rw [← Hss.out] at hcv
                generalize (bytesOf S).length = n9 at *
                clear hsame hbyt hlaw e9 ho r9
                exact wpOp_val rfl (wanted_true rfl rfl t109) (by rw [v18]; go_simp) ⟨_, rfl, hI.keep (Below.refl _ _) 18 (by decide) (by decide)⟩
              obtain rfl | hi1 : i = 19 ∨ 20 ≤ i := by omega
              · have t109 : a1.tmps[109]? = some (.bool true) := (by have := hI.get hR hr1 15 (by decide) (by decide) (by decide) (by kernel_rfl) (by decide) rfl; rw [v15] at this; exact this)
                have t13 := hR.fixed 13 (by kernel_rfl) rfl
                exact wpOp_of_wp rfl (wanted_true rfl rfl t109) (wp_load_row 30 (.tmp 13) rfl g6 (getD_of t13) 30 C (0, 0) _ k6.out Try.underlying30 rfl (by rw [hC1]; exact Hs.out) ⟨_, rfl, by have := hI.keep (Below.refl _ _) 19 (by decide) (by decide); rw [v19] at this; exact this⟩)
              obtain rfl | hi1 : i = 20 ∨ 21 ≤ i := by omega
              · have t109 : a1.tmps[109]? = some (.bool true) := (by have := hI.get hR hr1 15 (by decide) (by decide) (by decide) (by kernel_rfl) (by decide) rfl; rw [v15] at this; exact this)
                have t113 : a1.tmps[113]? = some (.agg C) := (by have := hI.get hR hr1 19 (by decide) (by decide) (by decide) (by kernel_rfl) (by decide) rfl; rw [v19] at this; exact this)
                have hc1 := hbyt w9
                clear hsame hbyt hlaw
                refine wpOp_call (f := 31) (args := #[.agg C]) rfl (wanted_true rfl rfl t109) (by go_simp) (hc1.mono ?_)
                rintro e w10 ⟨v, rfl, ho, b⟩
                exact ⟨_, rfl, _, rfl, hI.keepB b 20 (.inr rfl) v ho⟩
              obtain rfl | hi1 : i = 21 ∨ 22 ≤ i := by omega
              · have t109 : a1.tmps[109]? = some (.bool true) := (by have := hI.get hR hr1 15 (by decide) (by decide) (by decide) (by kernel_rfl) (by decide) rfl; rw [v15] at this; exact this)
                have tv : a1.tmps[114]? = some (vals 20) := hR.dep hr1 20 (by kernel_rfl) (by decide) rfl
                have ho := hI.own 20 (.inr rfl) (dep_of hr1 (by kernel_rfl))
                obtain ⟨A9, c9, e9, _, r9⟩ := ho.form
                rw [e9] at tv
                have hcv := run_string_reads (P := Try.prog) w9 47 9 5 Try.underlying47 Try.underlying5 Try.underlying9 A9 c9 _ r9
                rw [← Hss.out] at hcv
                generalize (bytesOf S).length = n9 at *
                clear hsame hbyt hlaw e9 ho r9
                exact wpOp_val rfl (wanted_true rfl rfl t109) (by rw [v21]; go_simp) ⟨_, rfl, hI.keep (Below.refl _ _) 21 (by decide) (by decide)⟩
              obtain rfl | hi1 : i = 22 ∨ 23 ≤ i := by omega
              · have t109 : a1.tmps[109]? = some (.bool true) := (by have := hI.get hR hr1 15 (by decide) (by decide) (by decide) (by kernel_rfl) (by decide) rfl; rw [v15] at this; exact this)
                have t112 : a1.tmps[112]? = some (.string ss) := (by have := hI.get hR hr1 18 (by decide) (by decide) (by decide) (by kernel_rfl) (by decide) rfl; rw [v18] at this; exact this)
                have t115 : a1.tmps[115]? = some (.string ss) := (by have := hI.get hR hr1 21 (by decide) (by decide) (by decide) (by kernel_rfl) (by decide) rfl; rw [v21] at this; exact this)
                have hse : (ss.toList == ss.toList) = true := beq_self_eq_true _
                clear hsame hbyt hlaw
                exact wpOp_val rfl (wanted_true rfl rfl t109) (by rw [v22]; go_simp) ⟨_, rfl, hI.keep (Below.refl _ _) 22 (by decide) (by decide)⟩
              obtain rfl | hi1 : i = 23 ∨ 24 ≤ i := by omega
              · have t109 : a1.tmps[109]? = some (.bool true) := (by have := hI.get hR hr1 15 (by decide) (by decide) (by decide) (by kernel_rfl) (by decide) rfl; rw [v15] at this; exact this)
                have t116 : a1.tmps[116]? = some (.bool true) := (by have := hI.get hR hr1 22 (by decide) (by decide) (by decide) (by kernel_rfl) (by decide) rfl; rw [v22] at this; exact this)
                clear hsame hbyt hlaw
                exact wpOp_val rfl rfl (by rw [v23]; go_simp) ⟨_, rfl, hI.keep (Below.refl _ _) 23 (by decide) (by decide)⟩
              obtain rfl : i = 24 := by omega
              have t117 : a1.tmps[117]? = some (.bool true) := (by have := hI.get hR hr1 23 (by decide) (by decide) (by decide) (by kernel_rfl) (by decide) rfl; rw [v23] at this; exact this)
              clear hsame hbyt hlaw
              exact wpOp_val rfl rfl (by rw [v24]; go_simp) ⟨_, rfl, hI.keep (Below.refl _ _) 24 (by decide) (by decide)⟩
            · intro listed vals w9 FF hI hall hFF
              have hF2 : FF = ((((((((((((((((((((((((Act.put _ (some 94) (vals 0)).put (some 95) (vals 1)).put (some 96) (vals 2)).put (some 97) (vals 3)).put (some 98) (vals 4)).put (some 99) (vals 5)).put (some 100) (vals 6)).put (some 101) (vals 7)).put (some 102) (vals 8)).put (some 103) (vals 9)).put (some 104) (vals 10)).put (some 105) (vals 11)).put (some 106) (vals 12)).put (some 107) (vals 13)).put (some 108) (vals 14)).put (some 109) (vals 15)).put (some 110) (vals 16)).put (some 111) (vals 17)).put (some 112) (vals 18)).put (some 113) (vals 19)).put (some 114) (vals 20)).put (some 115) (vals 21)).put (some 116) (vals 22)).put (some 117) (vals 23)).put (some 6) (vals 24) := hFF
              simp only [putAll] at hF2
              rw [hF2]
              have e24 := hI.val 24 (by decide) (by decide) (by decide) (hall 24 (by decide))
              rw [v24] at e24
              have bfin := below_trans hb8 hI.b
              clear hF2 hFF hsame hbyt hlaw zz hI hall
              rw [e24]
              go_frame
              go_wp2_with fail
              go_ret
              exact ⟨rfl, bfin⟩
    · obtain ⟨a, rfl⟩ : ∃ a, A = some a := by
        obtain ⟨a, h, _⟩ := hr 0 (by omega)
        exact ⟨a, h⟩
      obtain ⟨fi, f1, f2, f3, f4⟩ := floatInfo
      have hlm : (xs.map (Value.float .f64)).length = xs.length * 1 := by rw [List.length_map]; omega
      have hnews : ∀ w1, Below w.heap.size w w1 → ∀ j u, (xs.map (Value.float .f64))[j]? = some u → w1.cell? (a.add j) = some u := fun w1 b j u hu => by
        have hj : j < xs.length := by
          rcases Nat.lt_or_ge j xs.length with h | h
          · exact h
          · rw [List.getElem?_eq_none (by rw [List.length_map]; exact h)] at hu; cases hu
        obtain ⟨a', e', hc⟩ := (hr.below b) j hj
        cases e'
        rw [List.getElem?_map, List.getElem?_eq_getElem hj] at hu
        rw [hc, fd_eq xs j hj]; simpa using hu
      have hone : ∀ u ∈ xs.map (Value.float .f64), u.oneCell' = true := fun u hu => by obtain ⟨x, _, rfl⟩ := List.mem_map.1 hu; rfl
      have l1 : 0 + xs.length ≤ maxLen := by unfold maxLen; omega
      have l2 : (0 + xs.length) * 8 ≤ 140737488355328 := by omega
      have hof := fun w1 (b : Below w.heap.size w w1) => of_list (some a) cap xs w1 (hr.below b) h64 (by omega)
      go_enter Try.func10, Try.ntmps10
      go_upto_block 0 with (first
        | (go_at_call 13; (with_reducible refine (aw _).mono ?_); rintro e w1 ⟨rfl, b1⟩; have hn1 := hnews w1 b1; have hbs := b1.size)
        | (at_builtin
           refine wpList_append_row rfl _ (.tmp 26) (.tmp 27) 32 rfl w.heap.size 22 fi (.float .f64 0) 1 8 Try.underlying32 f1 f2 f3 f4 rfl (by decide) (.slice none 0 0) 0 [] rfl (World.ownsRow_nil _ _ _ _) a xs.length cap (xs.map (Value.float .f64)) rfl hlm hn1 hone l1 l2 hbs ?_
           intro v2 w2 ho2 hg2 _))
      replace ho2 : FOwn w2 w.heap.size v2 xs := by
        have : 0 + xs.length = xs.length := by omega
        rw [this] at ho2
        exact ho2
      obtain ⟨g, cp, rfl, hcp2, hgb, hgl⟩ := ho2.form (by omega)
      have b2 : Below w.heap.size w w2 := b1.grown hg2 b1.size (fun k hk => by cases hk)
      clear hn1 hnews hone hg2 b1 hlm l1 l2 hbs
      go_cut [8] (fun i wr => ∃ (k : Nat) (ys : List Nat), k ≤ bs.length ∧ i = .int .i64 k ∧ ys.Perm xs ∧ FOwn wr w.heap.size (.slice (some ⟨g, 0, none⟩) xs.length cp) ys ∧ Below w.heap.size w wr)
      case first =>
        go_wp2_with fail
        go_loopw [8] (fun i wr => ∃ (k : Nat) (ys : List Nat), k ≤ bs.length ∧ i = .int .i64 k ∧ ys.Perm xs ∧ FOwn wr w.heap.size (.slice (some ⟨g, 0, none⟩) xs.length cp) ys ∧ Below w.heap.size w wr) (fun i _ => bs.length - (intOf i).toNat)
        case atStart => exact ⟨0, xs, by omega, rfl, List.Perm.refl _, ho2, b2⟩
        case round =>
          obtain ⟨k, ys, hk, rfl, hp, ho, hb⟩ := hrel
          clear ho2 b2
          by_cases hlt : k < bs.length
          · by_cases hlt2 : k < 40
            · have hyl := hp.length_eq
              obtain ⟨ab, rfl, cb⟩ := (hbr.below hb) k hlt
              have hbk := hb8 k hlt
              obtain ⟨q, hq⟩ : ∃ q : Nat, rd bs k = q := ⟨(rd bs k).toNat, by omega⟩
              rw [hq] at cb hbk
              have hqm : q % xs.length < xs.length := Nat.mod_lt _ (by omega)
              have ck := ho.cell (q % xs.length) (by omega)
              have c0 := ho.cell 0 (by omega)
              have fr := ho.frozen (q % xs.length)
              have ho3 := ho.store (q % xs.length) (by omega) (fd ys 0)
              have c03 := ho3.cell 0 (by rw [List.length_set]; omega)
              have f03 := ho3.frozen 0
              have rs1 := run_store_f (P := Try.prog) (fd ys 0) ck fr
              have rs2 := run_store_f (P := Try.prog) (fd ys (q % xs.length)) c03 f03
              have ho4 := ho3.store 0 (by rw [List.length_set]; omega) (fd ys (q % xs.length))
              have hp4 := (swap_perm ys (q % xs.length) 0 (by omega) (by omega)).trans hp
              have Ho := Lib.hid ho4
              have Hp := Lib.hid hp4
              have Hb := Lib.hid (((hb.setCell (p := ⟨g, q % xs.length, none⟩) hgb (.float .f64 (fd ys 0))).setCell (p := ⟨g, 0, none⟩) hgb (.float .f64 (fd ys (q % xs.length)))))
              have hcast : ((q : Int) % (xs.length : Int)) = ((q % xs.length : Nat) : Int) := by simp
              have hxp : 0 < xs.length := by omega
              clear hq hbr hof h64 hr ho hp hyl ho3 ho4 hp4 hb
              generalize q % xs.length = r at *
              generalize fd ys 0 = y0 at *
              generalize fd ys r = yr at *
              clear c03 f03 fr
              go_wp2_with fail
              go_roundw
              case rel => exact ⟨k + 1, _, by omega, by go_num, Hp.out, Ho.out, Hb.out⟩
              case measure => simp [intOf]; omega
            · go_wp2_with fail
              go_meet
              exact ⟨k, ys, hk, rfl, hp, ho, hb⟩
          · go_wp2_with fail
            go_meet
            exact ⟨k, ys, hk, rfl, hp, ho, hb⟩
      case rest =>
        obtain ⟨k, ys, hk, rfl, hp, ho, hb⟩ := hcut
        have hyl := hp.length_eq
        have hwy := h64.perm hp
        have hrd := ho.reads
        obtain ⟨q, hq⟩ : ∃ q : Nat, c = q := ⟨c.toNat, by omega⟩
        subst hq
        have hqm : q % xs.length < xs.length := Nat.mod_lt _ (by omega)
        have hcast : ((q : Int) % (xs.length : Int)) = ((q % xs.length : Nat) : Int) := by simp
        have hxp : 0 < xs.length := by omega
        have hcut2 := sumOf_cut xs ys hp (q % xs.length)
        have hofA := of_list (some a) cap xs wc (hr.below hb) h64 (by omega)
        have hof1 := fun w1 (b : Below wc.heap.size wc w1) => of_len (n := q % xs.length) (by rw [List.length_take]; omega) (of_list (some ⟨g, 0, none⟩) cp (ys.take (q % xs.length)) w1 ((hrd.below b).take _) (hwy.take _) (by rw [List.length_take]; omega))
        have hof2 := fun w1 (b : Below wc.heap.size wc w1) => of_len (n := ys.length - q % xs.length) List.length_drop (of_list (some ⟨g, q % xs.length, none⟩) (cp - q % xs.length) (ys.drop (q % xs.length)) w1 (by have := (hrd.below b).drop (q % xs.length); rw [Option.map_some, add_plain] at this; exact this) (hwy.drop _) (by rw [List.length_drop]; omega))
        rw [hyl] at hof2
        have hcp3 : ¬ cp = q % xs.length := by omega
        have hcp4 : q % xs.length ≤ cp := by omega
        have hjoin := fun w1 => join_any (sumOf (ys.take (q % xs.length))) (sumOf (ys.drop (q % xs.length))) w1
        rw [hcut2] at hjoin
        clear hcut2 hp hwy hrd ho hyl hof hr h64 hbr hb8 ho2 b2
        generalize sumOf (ys.take (q % xs.length)) = S1 at *
        generalize sumOf (ys.drop (q % xs.length)) = S2 at *
        generalize sumOf xs = S at *
        have hw1 := wc.heap.size
        generalize q % xs.length = r at *
        obtain ⟨Z, hZ, zz⟩ : ∃ Z : Array Value, Z.size = 40 ∧ ∀ w, (zeroValue 30).run Try.prog w = .ok (.agg Z) w := ⟨_, sumC_size _, zero30⟩
        go_upto_region 16 with (first
          | (go_at_call 16; (with_reducible refine hofA.mono ?_); rintro e w3 ⟨rfl, b3⟩)
          | (refine at_op (.alloc 30) ?_ rfl; refine wpList_alloc_row rfl _ 30 rfl (some 12) rfl w3.heap.size rfl Z zz ?_)
          | (refine at_op (.store 30 (.tmp 12) (.tmp 74)) ?_ rfl; refine wpList_store_row rfl 30 (.tmp 12) (.tmp 74) rfl w3.heap.size (sumC S) rfl rfl 30 Z (heap_alloc_new w3 _) (by rw [sumC_size]; exact Hs.out) (by rw [hZ, sumC_size]) (sumC_one _) ?_; rw [World.setRow_alloc_new]; have hg5 := Lib.hid (heap_alloc_new w3 (.cells (sumC S) 30)); have bb5 := below_alloc b3 (.cells (sumC S) 30); generalize w3.heap.size = g5 at *; generalize w3.alloc (.cells (sumC S) 30) = w4 at *))
        have bbw := below_trans hb bb5
        have hgl5 := heap_lt hg5.out
        go_frame
        go_cut [13] (fun v wr => ∃ g6, v = .pointer (some ⟨g6, 0, none⟩) ∧ wr.heap[g5]? = some (.cells (sumC S) 30 (0, 0)) ∧ wr.heap[g6]? = some (.cells (sumC S) 30 (0, 0)) ∧ Below w.heap.size w wr)
        case first =>
          obtain ⟨C, hC⟩ : ∃ C, C = sumC S := ⟨_, rfl⟩
          have hC1 : C.size = 40 := by rw [hC]; exact sumC_size _
          have hC2 : C.all (·.oneCell') = true := by rw [hC]; exact sumC_one _
          obtain ⟨CV, hCV⟩ : ∃ CV : Nat → Value, CV = fun j => match j with
            | 0 => .slice (some ⟨g, 0, none⟩) xs.length cp
            | 1 => .int .i64 r
            | 2 => .slice (some ⟨g, 0, none⟩) r cp
            | 3 => .agg (sumC S1)
            | 4 => .slice (some ⟨g, 0, none⟩) xs.length cp
            | 5 => .int .i64 r
            | 6 => .slice (some ⟨g, r, none⟩) (xs.length - r) (cp - r)
            | 7 => .agg (sumC S2)
            | _ => .agg C := ⟨_, rfl⟩
          have v0 : CV 0 = .slice (some ⟨g, 0, none⟩) xs.length cp := congrFun hCV 0
          have v1 : CV 1 = .int .i64 r := congrFun hCV 1
          have v2 : CV 2 = .slice (some ⟨g, 0, none⟩) r cp := congrFun hCV 2
          have v3 : CV 3 = .agg (sumC S1) := congrFun hCV 3
          have v4 : CV 4 = .slice (some ⟨g, 0, none⟩) xs.length cp := congrFun hCV 4
          have v5 : CV 5 = .int .i64 r := congrFun hCV 5
          have v6 : CV 6 = .slice (some ⟨g, r, none⟩) (xs.length - r) (cp - r) := congrFun hCV 6
          have v7 : CV 7 = .agg (sumC S2) := congrFun hCV 7
          have v8 : CV 8 = .agg C := congrFun hCV 8
          clear hCV
          rw [← hC] at hjoin
          have HC := Lib.hid hC
          clear hC
          have hw4 := bb5.size
          refine region_run (JoinI wc w4 Z C CV) (by kernel_rfl) (by kernel_rfl) (by kernel_rfl) (by kernel_rfl) ⟨bb5.drew, (Below.refl w4.heap.size w4).drew, fun j _ h => absurd h (by rw [getD_replicate_false]; decide), fun h => absurd h (by rw [getD_replicate_false]; decide)⟩ ?_ ?_
          · intro listed vals a1 w1 i hs hcl hI hR hi hu hr1
            replace hi : i < 11 := hi
            replace hs : listed.size = 11 := hs
            have ZZ := Lib.hid zz
            clear hg5 hofA bbw zz hgl5 b3
            obtain rfl | hi1 : i = 0 ∨ 1 ≤ i := by omega
            · have t7 := hR.fixed 7 (by kernel_rfl) rfl
              exact wpOp_val rfl rfl (by rw [v0]; go_simp) ⟨_, rfl, hI.keep (Below.refl _ _) 0 (by decide)⟩
            obtain rfl | hi1 : i = 1 ∨ 2 ≤ i := by omega
            · have t11 := hR.fixed 11 (by kernel_rfl) rfl
              exact wpOp_val rfl rfl (by rw [v1]; go_simp) ⟨_, rfl, hI.keep (Below.refl _ _) 1 (by decide)⟩
            obtain rfl | hi1 : i = 2 ∨ 3 ≤ i := by omega
            · have t75 : a1.tmps[75]? = some (Value.slice (some ⟨g, 0, none⟩) xs.length cp) := (by have := hI.get hR hr1 0 (by decide) (by kernel_rfl) (by decide) rfl; rw [v0] at this; exact this)
              have t76 : a1.tmps[76]? = some (.int .i64 r) := (by have := hI.get hR hr1 1 (by decide) (by kernel_rfl) (by decide) rfl; rw [v1] at this; exact this)
              exact wpOp_val rfl rfl (by rw [v2]; go_simp) ⟨_, rfl, hI.keep (Below.refl _ _) 2 (by decide)⟩
            obtain rfl | hi1 : i = 3 ∨ 4 ≤ i := by omega
            · have t77 : a1.tmps[77]? = some (.slice (some ⟨g, 0, none⟩) r cp) := (by have := hI.get hR hr1 2 (by decide) (by kernel_rfl) (by decide) rfl; rw [v2] at this; exact this)
              have hc1 := hof1 w1 hI.b
              clear hof1 hof2 hjoin
              refine wpOp_call (f := 16) (args := #[.slice (some ⟨g, 0, none⟩) r cp]) rfl rfl (by go_simp) (hc1.mono ?_)
              rintro e w5 ⟨rfl, b⟩
              exact ⟨_, rfl, _, rfl, by have := hI.keep b 3 (by decide); rw [v3] at this; exact this⟩
            obtain rfl | hi1 : i = 4 ∨ 5 ≤ i := by omega
            · have t7 := hR.fixed 7 (by kernel_rfl) rfl
              exact wpOp_val rfl rfl (by rw [v4]; go_simp) ⟨_, rfl, hI.keep (Below.refl _ _) 4 (by decide)⟩
            obtain rfl | hi1 : i = 5 ∨ 6 ≤ i := by omega
            · have t11 := hR.fixed 11 (by kernel_rfl) rfl
              exact wpOp_val rfl rfl (by rw [v5]; go_simp) ⟨_, rfl, hI.keep (Below.refl _ _) 5 (by decide)⟩
            obtain rfl | hi1 : i = 6 ∨ 7 ≤ i := by omega
            · have t75 : a1.tmps[79]? = some (Value.slice (some ⟨g, 0, none⟩) xs.length cp) := (by have := hI.get hR hr1 4 (by decide) (by kernel_rfl) (by decide) rfl; rw [v4] at this; exact this)
              have t76 : a1.tmps[80]? = some (.int .i64 r) := (by have := hI.get hR hr1 5 (by decide) (by kernel_rfl) (by decide) rfl; rw [v5] at this; exact this)
              exact wpOp_val rfl rfl (by rw [v6]; go_simp; intro h; exact absurd h (by omega)) ⟨_, rfl, hI.keep (Below.refl _ _) 6 (by decide)⟩
            obtain rfl | hi1 : i = 7 ∨ 8 ≤ i := by omega
            · have t77 : a1.tmps[81]? = some (.slice (some ⟨g, r, none⟩) (xs.length - r) (cp - r)) := (by have := hI.get hR hr1 6 (by decide) (by kernel_rfl) (by decide) rfl; rw [v6] at this; exact this)
              have hc1 := hof2 w1 hI.b
              clear hof1 hof2 hjoin
              refine wpOp_call (f := 16) (args := #[.slice (some ⟨g, r, none⟩) (xs.length - r) (cp - r)]) rfl rfl (by go_simp) (hc1.mono ?_)
              rintro e w5 ⟨rfl, b⟩
              exact ⟨_, rfl, _, rfl, by have := hI.keep b 7 (by decide); rw [v7] at this; exact this⟩
            obtain rfl | hi1 : i = 8 ∨ 9 ≤ i := by omega
            · have t78 : a1.tmps[78]? = some (.agg (sumC S1)) := (by have := hI.get hR hr1 3 (by decide) (by kernel_rfl) (by decide) rfl; rw [v3] at this; exact this)
              have t82 : a1.tmps[82]? = some (.agg (sumC S2)) := (by have := hI.get hR hr1 7 (by decide) (by kernel_rfl) (by decide) rfl; rw [v7] at this; exact this)
              have hc1 := hjoin w1
              clear hof1 hof2 hjoin
              refine wpOp_call (f := 33) (args := #[.agg (sumC S1), .agg (sumC S2)]) rfl rfl (by go_simp) (hc1.mono ?_)
              rintro e w5 ⟨rfl, b⟩
              exact ⟨_, rfl, _, rfl, by have := hI.keep b 8 (by decide); rw [v8] at this; exact this⟩
            obtain rfl | hi1 : i = 9 ∨ 10 ≤ i := by omega
            · have h10 : listed.getD 10 false = false := by
                cases hq : listed.getD 10 false with
                | false => rfl
                | true => have := hcl 10 9 (by kernel_rfl) hq; rw [hu] at this; cases this
              exact wpOp_of_wp rfl rfl (wp_alloc_row 30 rfl Z ZZ.out ⟨_, rfl, hI.alloc h10 hs⟩)
            obtain rfl : i = 10 := by omega
            obtain ⟨g6, e9, hg6, hh⟩ := hI.al (dep_of hr1 (by kernel_rfl))
            have t13 : a1.tmps[13]? = some (vals 9) := hR.dep hr1 9 (by kernel_rfl) (by decide) rfl
            rw [e9] at t13
            have t83 : a1.tmps[83]? = some (.agg C) := (by have := hI.get hR hr1 8 (by decide) (by kernel_rfl) (by decide) rfl; rw [v8] at this; exact this)
            exact wpOp_of_wp rfl rfl (wp_store_row 30 (.tmp 13) (.tmp 83) rfl g6 C (getD_of t13) (getD_of t83) 30 _ hh (by rw [hC1]; exact Hs.out) (by split <;> omega) hC2 ⟨undef, rfl, hI.store hs g6 e9 hg6 _ hh hw4⟩)
          · intro listed vals w1 FF hI hall hFF
            obtain ⟨g6, e9, hg6, hh⟩ := hI.al (hall 9 (by decide))
            rw [if_pos (hall 10 (by decide)), HC.out] at hh
            have hb4 := hI.b4
            have hbc := hI.b
            clear hof1 hof2 hjoin hofA zz hI hall
            have hF2 : FF = ((((((((((Act.put _ (some 75) (vals 0)).put (some 76) (vals 1)).put (some 77) (vals 2)).put (some 78) (vals 3)).put (some 79) (vals 4)).put (some 80) (vals 5)).put (some 81) (vals 6)).put (some 82) (vals 7)).put (some 83) (vals 8)).put (some 13) (vals 9)).put none (vals 10) := hFF
            simp only [putAll] at hF2
            rw [hF2]
            clear hF2 hFF
            go_frame
            go_wp2_with fail
            go_meet
            exact ⟨g6, e9, (hb4.block g5 hgl5).trans hg5.out, hh, below_trans hb hbc⟩
        case rest =>
          obtain ⟨g6, rfl, h5, h6, hb6⟩ := hcut
          have hva := fun w => value_any S w
          have hyl := valSt_lt S
          generalize (valSt S).1 = y at *
          generalize (valSt S).2 = ov at *
          have H5 := Lib.hid h5
          have H6 := Lib.hid h6
          clear h5 h6 hof1 hof2 hjoin hofA
          go_upto_region 19 with (first
            | (refine at_op0 (.load 30 (.tmp 12)) ?_ rfl rfl; refine wpList_load_row rfl 30 (.tmp 12) rfl g5 rfl 30 _ (0, 0) _ H5.out Try.underlying30 rfl (by rw [sumC_size]; exact Hs.out) ?_)
            | (refine at_op0 (.load 30 (.tmp 13)) ?_ rfl rfl; refine wpList_load_row rfl 30 (.tmp 13) rfl g6 rfl 30 _ (0, 0) _ J6.out Try.underlying30 rfl (by rw [sumC_size]; exact Hs.out) ?_)
            | (go_at_call 17; first
                | ((with_reducible refine (hva wc).mono ?_); rintro e w7 ⟨rfl, b7⟩; have J5 := Lib.hid ((b7.block g5 (heap_lt H5.out)).trans H5.out); have J6 := Lib.hid ((b7.block g6 (heap_lt H6.out)).trans H6.out); have hb7 := below_trans hb6 b7; clear b7)
                | ((with_reducible refine (hva _).mono ?_); rintro e w8 ⟨rfl, b8⟩; have L5 := Lib.hid ((b8.block g5 (heap_lt J5.out)).trans J5.out); have L6 := Lib.hid ((b8.block g6 (heap_lt J6.out)).trans J6.out); have hb8 := below_trans hb7 b8; clear b8)))
          obtain ⟨C, hC⟩ : ∃ C, C = sumC S := ⟨_, rfl⟩
          have hC1 : C.size = 40 := by rw [hC]; exact sumC_size _
          obtain ⟨ss, hss⟩ : ∃ ss, ss = strOfNums (bytesOf S) := ⟨_, rfl⟩
          have hsame := fun w => same_any S S rfl w
          have hbyt := fun w => bytes_any S w
          have hlaw := fun w => lawSame_any y ov w hyl
          rw [← hC] at hsame hbyt
          have HL5 := L5.out
          have HL6 := L6.out
          rw [← hC] at HL5 HL6
          have L5 := Lib.hid HL5
          have L6 := Lib.hid HL6
          have Hss := Lib.hid hss
          clear hC hss HL5 HL6 H5 H6 J5 J6 hva hyl
          obtain ⟨CV, hCV⟩ : ∃ CV : Nat → Value, CV = fun j => match j with
            | 0 => .agg C
            | 1 => .agg C
            | 2 => .bool true
            | 3 => .bool true
            | 4 => .agg C
            | 5 => .agg C
            | 6 => .bool true
            | 7 => .bool true
            | 8 => .bool true
            | 9 => .float .f64 y
            | 10 => .bool ov
            | 11 => .float .f64 y
            | 12 => .bool ov
            | 13 => .bool true
            | 14 => .bool true
            | 15 => .bool true
            | 16 => .agg C
            | 18 => .string ss
            | 19 => .agg C
            | 21 => .string ss
            | 22 => .bool true
            | 23 => .bool true
            | _ => .bool true := ⟨_, rfl⟩
          have v0 : CV 0 = .agg C := congrFun hCV 0
          have v1 : CV 1 = .agg C := congrFun hCV 1
          have v2 : CV 2 = .bool true := congrFun hCV 2
          have v3 : CV 3 = .bool true := congrFun hCV 3
          have v4 : CV 4 = .agg C := congrFun hCV 4
          have v5 : CV 5 = .agg C := congrFun hCV 5
          have v6 : CV 6 = .bool true := congrFun hCV 6
          have v7 : CV 7 = .bool true := congrFun hCV 7
          have v8 : CV 8 = .bool true := congrFun hCV 8
          have v9 : CV 9 = .float .f64 y := congrFun hCV 9
          have v10 : CV 10 = .bool ov := congrFun hCV 10
          have v11 : CV 11 = .float .f64 y := congrFun hCV 11
          have v12 : CV 12 = .bool ov := congrFun hCV 12
          have v13 : CV 13 = .bool true := congrFun hCV 13
          have v14 : CV 14 = .bool true := congrFun hCV 14
          have v15 : CV 15 = .bool true := congrFun hCV 15
          have v16 : CV 16 = .agg C := congrFun hCV 16
          have v18 : CV 18 = .string ss := congrFun hCV 18
          have v19 : CV 19 = .agg C := congrFun hCV 19
          have v21 : CV 21 = .string ss := congrFun hCV 21
          have v22 : CV 22 = .bool true := congrFun hCV 22
          have v23 : CV 23 = .bool true := congrFun hCV 23
          have v24 : CV 24 = .bool true := congrFun hCV 24
          clear hCV
          refine region_run (SameI w8 (bytesOf S) CV) (by kernel_rfl) (by kernel_rfl) (by kernel_rfl) (by kernel_rfl) ⟨(Below.refl w8.heap.size w8).drew, fun j _ _ _ h => absurd h (by rw [getD_replicate_false]; decide), fun j _ h => absurd h (by rw [getD_replicate_false]; decide)⟩ ?_ ?_
          · intro listed vals a1 w9 i hs hcl hI hR hi hu hr1
            replace hi : i < 25 := hi
            replace hs : listed.size = 25 := hs
            have k5 := Lib.hid ((hI.b.block g5 (heap_lt L5.out)).trans L5.out)
            have k6 := Lib.hid ((hI.b.block g6 (heap_lt L6.out)).trans L6.out)
            clear zz
            obtain rfl | hi1 : i = 0 ∨ 1 ≤ i := by omega
            · have t12 := hR.fixed 12 (by kernel_rfl) rfl
              exact wpOp_of_wp rfl rfl (wp_load_row 30 (.tmp 12) rfl g5 (getD_of t12) 30 C (0, 0) _ k5.out Try.underlying30 rfl (by rw [hC1]; exact Hs.out) ⟨_, rfl, by have := hI.keep (Below.refl _ _) 0 (by decide) (by decide); rw [v0] at this; exact this⟩)
            obtain rfl | hi1 : i = 1 ∨ 2 ≤ i := by omega
            · have t13 := hR.fixed 13 (by kernel_rfl) rfl
              exact wpOp_of_wp rfl rfl (wp_load_row 30 (.tmp 13) rfl g6 (getD_of t13) 30 C (0, 0) _ k6.out Try.underlying30 rfl (by rw [hC1]; exact Hs.out) ⟨_, rfl, by have := hI.keep (Below.refl _ _) 1 (by decide) (by decide); rw [v1] at this; exact this⟩)
            obtain rfl | hi1 : i = 2 ∨ 3 ≤ i := by omega
            · have t94 : a1.tmps[94]? = some (.agg C) := (by have := hI.get hR hr1 0 (by decide) (by decide) (by decide) (by kernel_rfl) (by decide) rfl; rw [v0] at this; exact this)
              have t95 : a1.tmps[95]? = some (.agg C) := (by have := hI.get hR hr1 1 (by decide) (by decide) (by decide) (by kernel_rfl) (by decide) rfl; rw [v1] at this; exact this)
              have hc1 := hsame w9
              clear hsame hbyt hlaw
              refine wpOp_call (f := 22) (args := #[.agg C, .agg C]) rfl rfl (by go_simp) (hc1.mono ?_)
              rintro e w10 ⟨rfl, b⟩
              exact ⟨_, rfl, _, rfl, by have := hI.keep b 2 (by decide) (by decide); rw [v2] at this; exact this⟩
            obtain rfl | hi1 : i = 3 ∨ 4 ≤ i := by omega
            · have t96 : a1.tmps[96]? = some (.bool true) := (by have := hI.get hR hr1 2 (by decide) (by decide) (by decide) (by kernel_rfl) (by decide) rfl; rw [v2] at this; exact this)
              clear hsame hbyt hlaw
              exact wpOp_val rfl rfl (by rw [v3]; go_simp) ⟨_, rfl, hI.keep (Below.refl _ _) 3 (by decide) (by decide)⟩
            obtain rfl | hi1 : i = 4 ∨ 5 ≤ i := by omega
            · have t97 : a1.tmps[97]? = some (.bool true) := (by have := hI.get hR hr1 3 (by decide) (by decide) (by decide) (by kernel_rfl) (by decide) rfl; rw [v3] at this; exact this)
              have t13 := hR.fixed 13 (by kernel_rfl) rfl
              exact wpOp_of_wp rfl (wanted_true rfl rfl t97) (wp_load_row 30 (.tmp 13) rfl g6 (getD_of t13) 30 C (0, 0) _ k6.out Try.underlying30 rfl (by rw [hC1]; exact Hs.out) ⟨_, rfl, by have := hI.keep (Below.refl _ _) 4 (by decide) (by decide); rw [v4] at this; exact this⟩)
            obtain rfl | hi1 : i = 5 ∨ 6 ≤ i := by omega
            · have t97 : a1.tmps[97]? = some (.bool true) := (by have := hI.get hR hr1 3 (by decide) (by decide) (by decide) (by kernel_rfl) (by decide) rfl; rw [v3] at this; exact this)
              have t12 := hR.fixed 12 (by kernel_rfl) rfl
              exact wpOp_of_wp rfl (wanted_true rfl rfl t97) (wp_load_row 30 (.tmp 12) rfl g5 (getD_of t12) 30 C (0, 0) _ k5.out Try.underlying30 rfl (by rw [hC1]; exact Hs.out) ⟨_, rfl, by have := hI.keep (Below.refl _ _) 5 (by decide) (by decide); rw [v5] at this; exact this⟩)
            obtain rfl | hi1 : i = 6 ∨ 7 ≤ i := by omega
            · have t97 : a1.tmps[97]? = some (.bool true) := (by have := hI.get hR hr1 3 (by decide) (by decide) (by decide) (by kernel_rfl) (by decide) rfl; rw [v3] at this; exact this)
              have t98 : a1.tmps[98]? = some (.agg C) := (by have := hI.get hR hr1 4 (by decide) (by decide) (by decide) (by kernel_rfl) (by decide) rfl; rw [v4] at this; exact this)
              have t99 : a1.tmps[99]? = some (.agg C) := (by have := hI.get hR hr1 5 (by decide) (by decide) (by decide) (by kernel_rfl) (by decide) rfl; rw [v5] at this; exact this)
              have hc1 := hsame w9
              clear hsame hbyt hlaw
              refine wpOp_call (f := 22) (args := #[.agg C, .agg C]) rfl (wanted_true rfl rfl t97) (by go_simp) (hc1.mono ?_)
              rintro e w10 ⟨rfl, b⟩
              exact ⟨_, rfl, _, rfl, by have := hI.keep b 6 (by decide) (by decide); rw [v6] at this; exact this⟩
            obtain rfl | hi1 : i = 7 ∨ 8 ≤ i := by omega
            · have t97 : a1.tmps[97]? = some (.bool true) := (by have := hI.get hR hr1 3 (by decide) (by decide) (by decide) (by kernel_rfl) (by decide) rfl; rw [v3] at this; exact this)
              have t100 : a1.tmps[100]? = some (.bool true) := (by have := hI.get hR hr1 6 (by decide) (by decide) (by decide) (by kernel_rfl) (by decide) rfl; rw [v6] at this; exact this)
              clear hsame hbyt hlaw
              exact wpOp_val rfl rfl (by rw [v7]; go_simp) ⟨_, rfl, hI.keep (Below.refl _ _) 7 (by decide) (by decide)⟩
            obtain rfl | hi1 : i = 8 ∨ 9 ≤ i := by omega
            · have t101 : a1.tmps[101]? = some (.bool true) := (by have := hI.get hR hr1 7 (by decide) (by decide) (by decide) (by kernel_rfl) (by decide) rfl; rw [v7] at this; exact this)
              clear hsame hbyt hlaw
              exact wpOp_val rfl rfl (by rw [v8]; go_simp) ⟨_, rfl, hI.keep (Below.refl _ _) 8 (by decide) (by decide)⟩
            obtain rfl | hi1 : i = 9 ∨ 10 ≤ i := by omega
            · have t102 : a1.tmps[102]? = some (.bool true) := (by have := hI.get hR hr1 8 (by decide) (by decide) (by decide) (by kernel_rfl) (by decide) rfl; rw [v8] at this; exact this)
              have t14 := hR.fixed 14 (by kernel_rfl) rfl
              clear hsame hbyt hlaw
              exact wpOp_val rfl (wanted_true rfl rfl t102) (by rw [v9]; go_simp) ⟨_, rfl, hI.keep (Below.refl _ _) 9 (by decide) (by decide)⟩
            obtain rfl | hi1 : i = 10 ∨ 11 ≤ i := by omega
            · have t102 : a1.tmps[102]? = some (.bool true) := (by have := hI.get hR hr1 8 (by decide) (by decide) (by decide) (by kernel_rfl) (by decide) rfl; rw [v8] at this; exact this)
              have t15 := hR.fixed 15 (by kernel_rfl) rfl
              clear hsame hbyt hlaw
              exact wpOp_val rfl (wanted_true rfl rfl t102) (by rw [v10]; go_simp) ⟨_, rfl, hI.keep (Below.refl _ _) 10 (by decide) (by decide)⟩
            obtain rfl | hi1 : i = 11 ∨ 12 ≤ i := by omega
            · have t102 : a1.tmps[102]? = some (.bool true) := (by have := hI.get hR hr1 8 (by decide) (by decide) (by decide) (by kernel_rfl) (by decide) rfl; rw [v8] at this; exact this)
              have t16 := hR.fixed 16 (by kernel_rfl) rfl
              clear hsame hbyt hlaw
              exact wpOp_val rfl (wanted_true rfl rfl t102) (by rw [v11]; go_simp) ⟨_, rfl, hI.keep (Below.refl _ _) 11 (by decide) (by decide)⟩
            obtain rfl | hi1 : i = 12 ∨ 13 ≤ i := by omega
            · have t102 : a1.tmps[102]? = some (.bool true) := (by have := hI.get hR hr1 8 (by decide) (by decide) (by decide) (by kernel_rfl) (by decide) rfl; rw [v8] at this; exact this)
              have t17 := hR.fixed 17 (by kernel_rfl) rfl
              clear hsame hbyt hlaw
              exact wpOp_val rfl (wanted_true rfl rfl t102) (by rw [v12]; go_simp) ⟨_, rfl, hI.keep (Below.refl _ _) 12 (by decide) (by decide)⟩
            obtain rfl | hi1 : i = 13 ∨ 14 ≤ i := by omega
            · have t102 : a1.tmps[102]? = some (.bool true) := (by have := hI.get hR hr1 8 (by decide) (by decide) (by decide) (by kernel_rfl) (by decide) rfl; rw [v8] at this; exact this)
              have t103 : a1.tmps[103]? = some (.float .f64 y) := (by have := hI.get hR hr1 9 (by decide) (by decide) (by decide) (by kernel_rfl) (by decide) rfl; rw [v9] at this; exact this)
              have t104 : a1.tmps[104]? = some (.bool ov) := (by have := hI.get hR hr1 10 (by decide) (by decide) (by decide) (by kernel_rfl) (by decide) rfl; rw [v10] at this; exact this)
              have t105 : a1.tmps[105]? = some (.float .f64 y) := (by have := hI.get hR hr1 11 (by decide) (by decide) (by decide) (by kernel_rfl) (by decide) rfl; rw [v11] at this; exact this)
              have t106 : a1.tmps[106]? = some (.bool ov) := (by have := hI.get hR hr1 12 (by decide) (by decide) (by decide) (by kernel_rfl) (by decide) rfl; rw [v12] at this; exact this)
              have hc1 := hlaw w9
              clear hsame hbyt hlaw
              refine wpOp_call (f := 30) (args := #[.float .f64 y, .bool ov, .float .f64 y, .bool ov]) rfl (wanted_true rfl rfl t102) (by go_simp) (hc1.mono ?_)
              rintro e w10 ⟨rfl, rfl⟩
              exact ⟨_, rfl, _, rfl, by have := hI.keep (Below.refl _ _) 13 (by decide) (by decide); rw [v13] at this; exact this⟩
            obtain rfl | hi1 : i = 14 ∨ 15 ≤ i := by omega
            · have t102 : a1.tmps[102]? = some (.bool true) := (by have := hI.get hR hr1 8 (by decide) (by decide) (by decide) (by kernel_rfl) (by decide) rfl; rw [v8] at this; exact this)
              have t107 : a1.tmps[107]? = some (.bool true) := (by have := hI.get hR hr1 13 (by decide) (by decide) (by decide) (by kernel_rfl) (by decide) rfl; rw [v13] at this; exact this)
              clear hsame hbyt hlaw
              exact wpOp_val rfl rfl (by rw [v14]; go_simp) ⟨_, rfl, hI.keep (Below.refl _ _) 14 (by decide) (by decide)⟩
            obtain rfl | hi1 : i = 15 ∨ 16 ≤ i := by omega
            · have t108 : a1.tmps[108]? = some (.bool true) := (by have := hI.get hR hr1 14 (by decide) (by decide) (by decide) (by kernel_rfl) (by decide) rfl; rw [v14] at this; exact this)
              clear hsame hbyt hlaw
              exact wpOp_val rfl rfl (by rw [v15]; go_simp) ⟨_, rfl, hI.keep (Below.refl _ _) 15 (by decide) (by decide)⟩
            obtain rfl | hi1 : i = 16 ∨ 17 ≤ i := by omega
            · have t109 : a1.tmps[109]? = some (.bool true) := (by have := hI.get hR hr1 15 (by decide) (by decide) (by decide) (by kernel_rfl) (by decide) rfl; rw [v15] at this; exact this)
              have t12 := hR.fixed 12 (by kernel_rfl) rfl
              exact wpOp_of_wp rfl (wanted_true rfl rfl t109) (wp_load_row 30 (.tmp 12) rfl g5 (getD_of t12) 30 C (0, 0) _ k5.out Try.underlying30 rfl (by rw [hC1]; exact Hs.out) ⟨_, rfl, by have := hI.keep (Below.refl _ _) 16 (by decide) (by decide); rw [v16] at this; exact this⟩)
            obtain rfl | hi1 : i = 17 ∨ 18 ≤ i := by omega
            · have t109 : a1.tmps[109]? = some (.bool true) := (by have := hI.get hR hr1 15 (by decide) (by decide) (by decide) (by kernel_rfl) (by decide) rfl; rw [v15] at this; exact this)
              have t110 : a1.tmps[110]? = some (.agg C) := (by have := hI.get hR hr1 16 (by decide) (by decide) (by decide) (by kernel_rfl) (by decide) rfl; rw [v16] at this; exact this)
              have hc1 := hbyt w9
              clear hsame hbyt hlaw
              refine wpOp_call (f := 31) (args := #[.agg C]) rfl (wanted_true rfl rfl t109) (by go_simp) (hc1.mono ?_)
              rintro e w10 ⟨v, rfl, ho, b⟩
              exact ⟨_, rfl, _, rfl, hI.keepB b 17 (.inl rfl) v ho⟩
            obtain rfl | hi1 : i = 18 ∨ 19 ≤ i := by omega
            · have t109 : a1.tmps[109]? = some (.bool true) := (by have := hI.get hR hr1 15 (by decide) (by decide) (by decide) (by kernel_rfl) (by decide) rfl; rw [v15] at this; exact this)
              have tv : a1.tmps[111]? = some (vals 17) := hR.dep hr1 17 (by kernel_rfl) (by decide) rfl
              have ho := hI.own 17 (.inl rfl) (dep_of hr1 (by kernel_rfl))
              obtain ⟨A9, c9, e9, _, r9⟩ := ho.form
              rw [e9] at tv
              have hcv := run_string_reads (P := Try.prog) w9 47 9 5 Try.underlying47 Try.underlying5 Try.underlying9 A9 c9 _ r9
              rw [← Hss.out] at hcv
              generalize (bytesOf S).length = n9 at *
              clear hsame hbyt hlaw e9 ho r9
              exact wpOp_val rfl (wanted_true rfl rfl t109) (by rw [v18]; go_simp) ⟨_, rfl, hI.keep (Below.refl _ _) 18 (by decide) (by decide)⟩
            obtain rfl | hi1 : i = 19 ∨ 20 ≤ i := by omega
            · have t109 : a1.tmps[109]? = some (.bool true) := (by have := hI.get hR hr1 15 (by decide) (by decide) (by decide) (by kernel_rfl) (by decide) rfl; rw [v15] at this; exact this)
              have t13 := hR.fixed 13 (by kernel_rfl) rfl
              exact wpOp_of_wp rfl (wanted_true rfl rfl t109) (wp_load_row 30 (.tmp 13) rfl g6 (getD_of t13) 30 C (0, 0) _ k6.out Try.underlying30 rfl (by rw [hC1]; exact Hs.out) ⟨_, rfl, by have := hI.keep (Below.refl _ _) 19 (by decide) (by decide); rw [v19] at this; exact this⟩)
            obtain rfl | hi1 : i = 20 ∨ 21 ≤ i := by omega
            · have t109 : a1.tmps[109]? = some (.bool true) := (by have := hI.get hR hr1 15 (by decide) (by decide) (by decide) (by kernel_rfl) (by decide) rfl; rw [v15] at this; exact this)
              have t113 : a1.tmps[113]? = some (.agg C) := (by have := hI.get hR hr1 19 (by decide) (by decide) (by decide) (by kernel_rfl) (by decide) rfl; rw [v19] at this; exact this)
              have hc1 := hbyt w9
              clear hsame hbyt hlaw
              refine wpOp_call (f := 31) (args := #[.agg C]) rfl (wanted_true rfl rfl t109) (by go_simp) (hc1.mono ?_)
              rintro e w10 ⟨v, rfl, ho, b⟩
              exact ⟨_, rfl, _, rfl, hI.keepB b 20 (.inr rfl) v ho⟩
            obtain rfl | hi1 : i = 21 ∨ 22 ≤ i := by omega
            · have t109 : a1.tmps[109]? = some (.bool true) := (by have := hI.get hR hr1 15 (by decide) (by decide) (by decide) (by kernel_rfl) (by decide) rfl; rw [v15] at this; exact this)
              have tv : a1.tmps[114]? = some (vals 20) := hR.dep hr1 20 (by kernel_rfl) (by decide) rfl
              have ho := hI.own 20 (.inr rfl) (dep_of hr1 (by kernel_rfl))
              obtain ⟨A9, c9, e9, _, r9⟩ := ho.form
              rw [e9] at tv
              have hcv := run_string_reads (P := Try.prog) w9 47 9 5 Try.underlying47 Try.underlying5 Try.underlying9 A9 c9 _ r9
              rw [← Hss.out] at hcv
              generalize (bytesOf S).length = n9 at *
              clear hsame hbyt hlaw e9 ho r9
              exact wpOp_val rfl (wanted_true rfl rfl t109) (by rw [v21]; go_simp) ⟨_, rfl, hI.keep (Below.refl _ _) 21 (by decide) (by decide)⟩
            obtain rfl | hi1 : i = 22 ∨ 23 ≤ i := by omega
            · have t109 : a1.tmps[109]? = some (.bool true) := (by have := hI.get hR hr1 15 (by decide) (by decide) (by decide) (by kernel_rfl) (by decide) rfl; rw [v15] at this; exact this)
              have t112 : a1.tmps[112]? = some (.string ss) := (by have := hI.get hR hr1 18 (by decide) (by decide) (by decide) (by kernel_rfl) (by decide) rfl; rw [v18] at this; exact this)
              have t115 : a1.tmps[115]? = some (.string ss) := (by have := hI.get hR hr1 21 (by decide) (by decide) (by decide) (by kernel_rfl) (by decide) rfl; rw [v21] at this; exact this)
              have hse : (ss.toList == ss.toList) = true := beq_self_eq_true _
              clear hsame hbyt hlaw
              exact wpOp_val rfl (wanted_true rfl rfl t109) (by rw [v22]; go_simp) ⟨_, rfl, hI.keep (Below.refl _ _) 22 (by decide) (by decide)⟩
            obtain rfl | hi1 : i = 23 ∨ 24 ≤ i := by omega
            · have t109 : a1.tmps[109]? = some (.bool true) := (by have := hI.get hR hr1 15 (by decide) (by decide) (by decide) (by kernel_rfl) (by decide) rfl; rw [v15] at this; exact this)
              have t116 : a1.tmps[116]? = some (.bool true) := (by have := hI.get hR hr1 22 (by decide) (by decide) (by decide) (by kernel_rfl) (by decide) rfl; rw [v22] at this; exact this)
              clear hsame hbyt hlaw
              exact wpOp_val rfl rfl (by rw [v23]; go_simp) ⟨_, rfl, hI.keep (Below.refl _ _) 23 (by decide) (by decide)⟩
            obtain rfl : i = 24 := by omega
            have t117 : a1.tmps[117]? = some (.bool true) := (by have := hI.get hR hr1 23 (by decide) (by decide) (by decide) (by kernel_rfl) (by decide) rfl; rw [v23] at this; exact this)
            clear hsame hbyt hlaw
            exact wpOp_val rfl rfl (by rw [v24]; go_simp) ⟨_, rfl, hI.keep (Below.refl _ _) 24 (by decide) (by decide)⟩
          · intro listed vals w9 FF hI hall hFF
            have hF2 : FF = ((((((((((((((((((((((((Act.put _ (some 94) (vals 0)).put (some 95) (vals 1)).put (some 96) (vals 2)).put (some 97) (vals 3)).put (some 98) (vals 4)).put (some 99) (vals 5)).put (some 100) (vals 6)).put (some 101) (vals 7)).put (some 102) (vals 8)).put (some 103) (vals 9)).put (some 104) (vals 10)).put (some 105) (vals 11)).put (some 106) (vals 12)).put (some 107) (vals 13)).put (some 108) (vals 14)).put (some 109) (vals 15)).put (some 110) (vals 16)).put (some 111) (vals 17)).put (some 112) (vals 18)).put (some 113) (vals 19)).put (some 114) (vals 20)).put (some 115) (vals 21)).put (some 116) (vals 22)).put (some 117) (vals 23)).put (some 6) (vals 24) := hFF
            simp only [putAll] at hF2
            rw [hF2]
            have e24 := hI.val 24 (by decide) (by decide) (by decide) (hall 24 (by decide))
            rw [v24] at e24
            have bfin := below_trans hb8 hI.b
            clear hF2 hFF hsame hbyt hlaw zz hI hall
            rw [e24]
            go_frame
            go_wp2_with fail
            go_ret
            exact ⟨rfl, bfin⟩
theorem order_walk (W : World) (A : Option Addr) (cap : Nat) (xs : List Nat) (hc : xs.length ≤ cap) (hl : cap ≤ maxLen) (hr : FReads W A xs) (hw : Words64 xs)
    (B : Option Addr) (capb : Nat) (bs : List Int) (hcb : bs.length ≤ capb) (hlb : bs.length * 1 ≤ 140737488351232) (hrb : Reads W .u8 B bs) (hwb : ∀ i, i < bs.length → (Lit.int .u8 (rd bs i)).wf = true)
    (a2 : Int) (wa2 : (Lit.int .u8 a2).wf = true) :
    Calls Try.prog 10 #[.slice A xs.length cap, .slice B bs.length capb, .int .u8 a2] W fun e w' => e = .returned (.bool true) ∧ Below W.heap.size W w' := by
  unfold maxLen at hl
  simp [Lit.wf, IntKind.min, IntKind.max, IntKind.bits, IntKind.signed] at wa2
  exact order_any A cap xs B capb bs a2 W hc hr hw (by omega) hrb (wf_bytes hwb) (by omega) (by omega)
end Go.Proofs.Ytejkilgpcbdepaa
