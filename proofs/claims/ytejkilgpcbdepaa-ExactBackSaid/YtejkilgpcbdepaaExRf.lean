import Derived.Test.YtejkilgpcbdepaaExRe
import Derived.Test.YtejkilgpcbdepaaExN
/-! Exact sums: any bytes as a sum: the walk of the law. -/
namespace Go.Proofs.Ytejkilgpcbdepaa
open Go.RowKit
set_option linter.unusedVariables false
attribute [-simp] Try.isAgg30 Try.sizeOf30 Try.typeInfo30 Try.type30

section
variable {P : Program} {o : Oper} {a : Act} {ops : Array Oper} {rest : List Oper} {Q : Exit → Act → World → Prop} {w : World}
theorem wpList_buildG (hw : Region.wanted o (yielded ops a.tmps) = true) (t : TypeId) (parts : Array (Nat × Operand)) (ho : o.op = .build t parts) (cells : Array Value) (hf : P.built t (parts.map fun (i, x) => (i, a.eval x)).toList = some cells)
    (h : wpList P ops Q rest (a.put o.dst (.agg cells)) w) : wpList P ops Q (o :: rest) a w :=
  BigFrame.wpList_want hw fun K hK => wp_build t parts ho (by rw [hf]; rfl) (hK _ _ (by rw [hf]; exact h))
end
theorem readR_cases (p : List Int) : (∃ S, readR p = (S, 0) ∧ bytesOf S = p) ∨ readR p = (noSt, 3) := by
  unfold readR
  split
  · exact .inr rfl
  · split
    · rename_i h; exact .inl ⟨_, rfl, h⟩
    · exact .inr rfl
theorem read_len {A : Option Addr} {cap n : Nat} {p : List Int} {w : World} {R : Ending → World → Prop} (h : p.length = n) (k : Calls Try.prog 34 #[.slice A p.length cap] w R) : Calls Try.prog 34 #[.slice A n cap] w R := h ▸ k
set_option maxHeartbeats 4000000 in
theorem reads_any (A : Option Addr) (cap : Nat) (p : List Int) (w : World) (hcp : p.length ≤ cap) (hr : Reads w .u8 A p) (h8 : Bytes8 p) (hl : p.length ≤ 9223372036854775807) :
    Calls Try.prog 12 #[.slice A p.length cap] w fun e w' => e = .returned (.bool true) ∧ Below w.heap.size w w' := by
  have Hs := Lib.hid size30
  have aw := awake_any
  by_cases h600 : 600 < p.length
  · go_enter Try.func12, Try.ntmps12
    go_wp2_with (go_at_call 13; (with_reducible refine (aw _).mono ?_); rintro e w1 ⟨rfl, b1⟩)
    go_ret
    exact ⟨rfl, below_trans (by assumption) b1⟩
  · have zz : ∀ w, (zeroValue 30).run Try.prog w = .ok (.agg (sumC noSt)) w := zero30
    have hrd := fun w1 (b : Below w.heap.size w w1) => read_any A cap p w1 hcp (hr.below b) h8 hl
    have hz : noSt.any = false := rfl
    rcases readR_cases p with ⟨S, hS, hb⟩ | hS
    · rw [hS] at hrd
      have hbyt := fun w => bytes_any S w
      rw [hb] at hbyt
      have Hr := Lib.hid hr
      have hse := str_eq p
      clear hS hb hr h8 hl hcp
      generalize hsp : strOfNums p = sp at *
      have Hsp := Lib.hid hsp
      clear hsp
      go_enter Try.func12, Try.ntmps12
      go_upto_region 6 with (first
        | (go_at_call 13; (with_reducible refine (aw _).mono ?_); rintro e w1 ⟨rfl, b1⟩)
        | (go_at_call 34; refine (hrd _ b1).mono ?_; rintro e w2 ⟨rfl, b2⟩)
        | (refine at_op (.alloc 30) ?_ rfl; refine wpList_alloc_row rfl _ 30 rfl (some 3) rfl w2.heap.size rfl _ zz ?_)
        | (refine at_op (.store 30 (.tmp 3) (.tmp 16)) ?_ rfl; refine wpList_store_row rfl 30 (.tmp 3) (.tmp 16) rfl w2.heap.size (sumC S) rfl rfl 30 _ (heap_alloc_new w2 _) (by rw [sumC_size]; exact Hs.out) (by simp only [sumC_size]) (sumC_one _) ?_; rw [World.setRow_alloc_new]; have hg5 := Lib.hid (heap_alloc_new w2 (.cells (sumC S) 30)); have bb5 := below_alloc (below_trans b1 b2) (.cells (sumC S) 30); generalize w2.heap.size = g5 at *; generalize w2.alloc (.cells (sumC S) 30) = w4 at *))
      have HL := Lib.hid (run_loadCellsFrom_row (P := Try.prog) w4.drew g5 30 (sumC S) (0, 0) hg5.out 40 (sumC_size _))
      have r4 : Reads w4.drew .u8 A p := (Hr.out.below bb5.drew)
      have R4 := Lib.hid r4
      have hcp0 := run_string_reads (P := Try.prog) w4.drew 47 9 5 Try.underlying47 Try.underlying5 Try.underlying9 A cap p r4
      rw [Hsp.out] at hcp0
      clear r4 hrd aw zz
      go_region_with (first
        | (rw [Try.isAgg30]; simp only [Result.andThen_ok, if_true, run_sizeOf_info Hs.out, HL.out])
        | (go_at_call 31; (with_reducible refine (hbyt _).mono ?_); rintro e w10 ⟨v, rfl, ho, b10⟩; obtain ⟨A9, c9, rfl, _, q9⟩ := ho.form; have hcp1 := run_string_reads (P := Try.prog) w10 47 9 5 Try.underlying47 Try.underlying5 Try.underlying9 A cap p (R4.out.below b10); have hcp2 := run_string_reads (P := Try.prog) w10 47 9 5 Try.underlying47 Try.underlying5 Try.underlying9 A9 c9 p q9; rw [Hsp.out] at hcp1 hcp2; have Hb10 := Lib.hid (below_trans bb5.drew b10); clear ho q9))
      all_goals
        go_wp2_with fail
        go_ret
        exact ⟨rfl, Hb10.out⟩
    · rw [hS] at hrd
      have hany := fun w => any_any noSt w
      rw [hz] at hany
      have hsame := fun w => same_any noSt noSt rfl w
      clear hS hr h8 hl hcp hz
      go_enter Try.func12, Try.ntmps12
      go_wp2_with (first
        | (go_at_call 13; (with_reducible refine (aw _).mono ?_); rintro e w1 ⟨rfl, b1⟩)
        | (go_at_call 34; refine (hrd _ b1).mono ?_; rintro e w2 ⟨rfl, b2⟩)
        | (refine at_op (.alloc 30) ?_ rfl; refine wpList_alloc_row rfl _ 30 rfl (some 3) rfl w2.heap.size rfl _ zz ?_)
        | (refine at_op (.store 30 (.tmp 3) (.tmp 16)) ?_ rfl; refine wpList_store_row rfl 30 (.tmp 3) (.tmp 16) rfl w2.heap.size (sumC noSt) rfl rfl 30 _ (heap_alloc_new w2 _) (by rw [sumC_size]; exact Hs.out) (by simp only [sumC_size]) (sumC_one _) ?_; rw [World.setRow_alloc_new]; have hg5 := Lib.hid (heap_alloc_new w2 (.cells (sumC noSt) 30)); have bb5 := below_alloc (below_trans b1 b2) (.cells (sumC noSt) 30); generalize w2.heap.size = g5 at *; generalize w2.alloc (.cells (sumC noSt) 30) = w4 at *)
        | (refine at_opG (.load 30 (.tmp 3)) (some (2, true)) ?_ rfl rfl; refine wpList_load_rowG rfl 30 (.tmp 3) rfl g5 rfl 30 _ (0, 0) _ hg5.out Try.underlying30 rfl (by rw [sumC_size]; exact Hs.out) ?_)
        | (go_at_call 25; (with_reducible refine (hany _).mono ?_); rintro e w5 ⟨rfl, b5⟩; have hg6 := Lib.hid ((b5.block g5 (heap_lt hg5.out)).trans hg5.out))
        | (refine at_opG (.load 30 (.tmp 3)) (some (7, true)) ?_ rfl rfl; refine wpList_load_rowG rfl 30 (.tmp 3) rfl g5 rfl 30 _ (0, 0) _ hg6.out Try.underlying30 rfl (by rw [sumC_size]; exact Hs.out) ?_)
        | (refine at_opG (.build 30 #[]) (some (7, true)) ?_ rfl rfl; refine wpList_buildG rfl 30 #[] rfl (sumC noSt) (by kernel_rfl) ?_)
        | (go_at_call 22; (with_reducible refine (hsame _).mono ?_); rintro e w6 ⟨rfl, b6⟩))
      go_ret
      exact ⟨rfl, below_trans (below_trans bb5 b5) b6⟩
theorem reads_walk (W : World) (A : Option Addr) (cap : Nat) (p : List Int) (hc : p.length ≤ cap) (hl : p.length * 1 ≤ 140737488351232) (hr : Reads W .u8 A p) (hw : ∀ i, i < p.length → (Lit.int .u8 (rd p i)).wf = true) :
    Calls Try.prog 12 #[.slice A p.length cap] W fun e w' => e = .returned (.bool true) ∧ Below W.heap.size W w' :=
  reads_any A cap p W hc hr (wf_bytes hw) (by omega)
end Go.Proofs.Ytejkilgpcbdepaa
