import Derived.Test.YthplelglifnhoaaWh
/-! The example of the statements. -/
namespace Go.Proofs.Ythplelglifnhoaa
open Go.Shelf Go.RowKit Go.Lib Go.Sort
set_option linter.unusedVariables false
set_option linter.unusedSimpArgs false
attribute [-simp] Try.isAgg63 Try.sizeOf63 Try.typeInfo63 Try.type63
attribute [-simp] Try.isAgg36 Try.sizeOf36 Try.typeInfo36 Try.type36
attribute [-simp] Try.isAgg28 Try.sizeOf28 Try.typeInfo28 Try.type28

def awT : Nat → Int | 0 => 1 | 1 => 4 | 2 => 8 | _ => 20
def awE (i : Nat) : Ev := ⟨0, 0, awT i, ⟨#[]⟩, 4607182418800017408⟩
def awEs : List Ev := [awE 0, awE 1, awE 2, awE 3]
def awC : Cg := ⟨⟨2, 5, 0⟩, 0, 0, 1, 0⟩
theorem awC_ok : awC.ok := ⟨⟨by decide, by decide, fun h => by cases h⟩, by decide⟩
theorem awEs_ok : EvsOk awEs := ⟨by decide, fun e he => by
  simp only [awEs, List.mem_cons, List.mem_nil_iff, or_false] at he
  rcases he with rfl | rfl | rfl | rfl <;> decide, fun e he => by
  simp only [awEs, List.mem_cons, List.mem_nil_iff, or_false] at he
  rcases he with rfl | rfl | rfl | rfl <;> decide⟩
theorem aw_le (i j : Nat) (h : awT i ≤ awT j) : EvLe (awE i) (awE j) := ⟨bl_irrefl _, fun _ => h⟩
theorem awEs_sorted : awEs.Pairwise EvLe := by
  unfold awEs
  refine List.Pairwise.cons ?_ (List.Pairwise.cons ?_ (List.Pairwise.cons ?_ (List.pairwise_singleton _ _)))
  all_goals
    intro x hx
    simp only [List.mem_cons, List.mem_nil_iff, or_false] at hx
  · rcases hx with rfl | rfl | rfl <;> exact aw_le _ _ (by decide)
  · rcases hx with rfl | rfl <;> exact aw_le _ _ (by decide)
  · rcases hx with rfl; exact aw_le _ _ (by decide)
set_option maxRecDepth 100000 in
theorem aw_names : (gsOf awC.cf awEs []).map (·.nm) = [⟨⟨#[]⟩, 1, 13⟩, ⟨⟨#[]⟩, 20, 25⟩] := by kernel_rfl
theorem aw_groups {gs : List Gr} {P : List (Nm × Nat)} (hP : PairsOf awC.cf awEs P) (hG : Grp P gs) : ∃ a b : Gr, gs = [a, b] ∧ a.nm = ⟨⟨#[]⟩, 1, 13⟩ ∧ b.nm = ⟨⟨#[]⟩, 20, 25⟩ := by
  obtain ⟨P0, h0, hG0⟩ := groups_are awC_ok.cf awEs_sorted
  have e := hG.names hG0 (hP.perm awC_ok.cf h0 (List.Perm.refl _))
  rw [aw_names] at e
  match gs, e with
  | [a, b], e =>
    simp only [List.map_cons, List.map_nil, List.cons.injEq, and_true] at e
    exact ⟨a, b, rfl, e.1, e.2⟩
  | [], e => cases e
  | [a], e => simp at e
  | a :: b :: c :: l, e => simp at e
set_option maxRecDepth 100000 in
theorem built_ev2 (t : Int) : Try.prog.built 36 [(2, .int .i64 t), (4, .float .f64 4607182418800017408)] = some (evL ⟨0, 0, t, ⟨#[]⟩, 4607182418800017408⟩).toArray := by kernel_rfl
set_option maxRecDepth 100000 in
theorem built_awC : Try.prog.built 28 [(0, .int .u8 2), (1, .int .i64 5), (5, .int .i64 1)] = some (cgC awC) := by kernel_rfl
set_option maxRecDepth 100000 in
set_option maxHeartbeats 8000000 in
theorem awake_any (w : World) : Calls Try.prog 12 #[] w fun en w' => en = .returned (.bool true) ∧ Below w.heap.size w w' := by
  have z36 : ∀ w, (sizeOf 36).run Try.prog w = .ok 5 w := run_sizeOf_info sizeEv
  have z63 : ∀ w, (sizeOf 63).run Try.prog w = .ok 8 w := run_sizeOf_info sizePane
  have hpn := fun v w1 (h : OwnE w1 (w.heap.size + 1) 36 5 evL v awEs) => panes_any awC awC_ok (w.heap.size + 1) v awEs w1 h awEs_ok
  have hbc := built_awC
  generalize cgC awC = CC at hpn hbc
  have HPN := Lib.hid hpn
  have HBC := Lib.hid hbc
  clear hpn hbc
  go_enter Try.func12, Try.ntmps12
  go_wp2_with fail
  have hT := heap_alloc_new w (.cells #[.int .i64 1, .int .i64 4, .int .i64 8, .int .i64 20] 2)
  have hb := below_alloc (Below.refl w.heap.size w) (.cells #[.int .i64 1, .int .i64 4, .int .i64 8, .int .i64 20] 2)
  have HT := Lib.hid hT
  have HB := Lib.hid hb
  clear hT hb
  generalize w.alloc (.cells #[.int .i64 1, .int .i64 4, .int .i64 8, .int .i64 20] 2) = w1 at *
  go_loopg [1, 3] 4 (fun kx v1 v3 wr => ∃ i : Nat, v3 = .int .i64 i ∧ i ≤ 4 ∧ 4 - i ≤ kx ∧ Hid (Below w.heap.size w wr) ∧ Hid (wr.heap[w.heap.size]? = some (.cells #[.int .i64 1, .int .i64 4, .int .i64 8, .int .i64 20] 2 (0, 0))) ∧ Hid (OwnE wr (w.heap.size + 1) 36 5 evL v1 (awEs.take i)))
  case atStart => exact ⟨0, rfl, Nat.zero_le _, Nat.le_refl _, HB, HT, Lib.hid (OwnE.nil _ _)⟩
  case round =>
    clear HB HT
    obtain ⟨i, rfl, hin, hkx, HB, HT, HO⟩ := hrel
    generalize hw4 : wr = w4 at *
    clear hw4
    by_cases hlt : i < 4
    · have hlz : (i : Int) < 4 := by omega
      have htk : awEs.take (i + 1) = awEs.take i ++ [awE i] := by
        have : i = 0 ∨ i = 1 ∨ i = 2 ∨ i = 3 := by omega
        rcases this with rfl | rfl | rfl | rfl <;> rfl
      have hc : w4.cell? ⟨w.heap.size, i, none⟩ = some (.int .i64 (awT i)) := by
        rw [cell_of_row _ _ i _ _ _ HT.out]
        have : i = 0 ∨ i = 1 ∨ i = 2 ∨ i = 3 := by omega
        rcases this with rfl | rfl | rfl | rfl <;> rfl
      have hbe := built_ev2 (awT i)
      obtain ⟨x, hx⟩ : ∃ x, x = awE i := ⟨_, rfl⟩
      have hbe : Try.prog.built 36 [(2, .int .i64 (awT i)), (4, .float .f64 4607182418800017408)] = some (evL x).toArray := by rw [hx]; exact hbe
      rw [← hx] at htk
      generalize awT i = t at hc hbe
      have HTK := Lib.hid htk
      have HBE := Lib.hid hbe
      have ba := below_alloc (Below.refl w4.heap.size w4) (.cells (evL x).toArray 36)
      have hrow := RowsAt.one (enc := evL) (y := x) (heap_alloc_new w4 (.cells (evL x).toArray 36))
      have hoa := HO.out.below ba
      have hxa := (ba.block _ (heap_lt HT.out)).trans HT.out
      have hszb : w.heap.size + 1 ≤ (w4.alloc (.cells (evL x).toArray 36)).heap.size := Nat.le_trans (heap_lt HT.out) ba.size
      have hlen : (awEs.take i).length = i := by rw [List.length_take]; show min i 4 = i; omega
      have hl1 : (awEs.take i).length + 1 ≤ maxLen := by rw [hlen]; exact Nat.le_trans (show i + 1 ≤ 5 by omega) (by decide)
      have hl2 : ((awEs.take i).length + 1) * 48 ≤ 140737488355328 := by rw [hlen]; omega
      have HXA := Lib.hid hxa
      have HBA := Lib.hid (below_trans HB.out ba)
      obtain ⟨A1, c1, e1, _, hr1⟩ := HO.out.form
      clear hr1 hx htk hbe hxa ba HB HT HO
      subst e1
      generalize hLL : awEs.take i = LL at *
      have ek : ((i : Int)).toNat = i := by omega
      have kp : (0 : Int) ≤ (i : Int) := by omega
      go_wp2_with (first
        | (refine at_op (.build 36 #[(2, .tmp 14), (4, .const (.float .f64 4607182418800017408))]) ?_ rfl; refine run_builtK rfl 36 _ rfl (evL x).toArray (by simp only [List.map_toArray, List.map_cons, List.map_nil, Act.eval]; exact HBE.out) ?_)
        | (refine at_op (.buildSlice 30 1 #[(0, .tmp 15)]) ?_ rfl; refine wpList_buildOne encEv (by decide) rfl w4 30 (.tmp 15) rfl (some 16) rfl w4.heap.size rfl rfl x rfl ?_)
        | (refine at_op (.call { callee := .builtin .append, args := #[.tmp 10, .tmp 16], argTypes := #[30, 30] }) ?_ rfl; refine wpList_appendE encEv rfl _ (.tmp 10) (.tmp 16) 30 rfl (w.heap.size + 1) rfl _ LL rfl hoa (some ⟨w4.heap.size, 0, none⟩) 1 [x] rfl hrow hl1 hl2 hszb ?_; intro u9 w11 hO11 hG11 hB11; have HX11 := Lib.hid (cells_keepT hoa HXA.out (by decide) hG11); have HB11 := Lib.hid (below_grown2 HBA.out hG11 (fun g q => by have := (hoa.lt g q).1; omega)); have HO11 := Lib.hid hO11; clear hO11 hG11 hoa hrow))
      go_roundg (4 - (i + 1))
      case measure => omega
      case rel => exact ⟨i + 1, by go_num, by omega, Nat.le_refl _, HB11, HX11, Lib.hid (by rw [HTK.out]; exact HO11.out)⟩
    · obtain rfl : i = 4 := by omega
      have HO4 : Hid (OwnE w4 (w.heap.size + 1) 36 5 evL u1 awEs) := HO
      have hp := HPN.out u1 w4 HO4.out
      have HP := Lib.hid hp
      obtain ⟨A1, c1, e1, _, hr1⟩ := HO4.out.form
      clear hr1 hp HO HO4
      subst e1
      generalize awEs.length = n4 at *
      have hnum : ¬ ((4 : Nat) : Int) < 4 := by decide
      go_upto_region 8 with (first
        | (refine at_op (.build 28 #[(0, .const (.int .u8 2)), (1, .const (.int .i64 5)), (5, .const (.int .i64 1))]) ?_ rfl; refine run_builtK rfl 28 _ rfl CC (by simp only [List.map_toArray, List.map_cons, List.map_nil, Act.eval]; exact HBC.out) ?_)
        | (go_at_call 21; (with_reducible refine HP.out.mono ?_); rintro en w5 ⟨u5, gs, P, rfl, hPP, hG, hW, hL, ho5, hb5⟩; obtain ⟨a, b, rfl, ha, hbn⟩ := aw_groups hPP hG; have HO5 := Lib.hid ho5; have HB5 := Lib.hid hb5; clear hPP hG hW hL ho5 hb5))
      have hA : ∃ g cp, u5 = .slice (some ⟨g, 0, none⟩) 2 cp := by
        rcases HO5.out.2 with ⟨_, h1⟩ | ⟨g, cp, _, h1, _⟩
        · cases h1
        · exact ⟨g, cp, h1⟩
      obtain ⟨g, cp, rfl⟩ := hA
      obtain ⟨hr0, _⟩ := OwnE.row encPane HO5.out (i := 0) (x := tellG a) rfl
      obtain ⟨hr1, _⟩ := OwnE.row encPane HO5.out (i := 1) (x := tellG b) rfl
      have e1 : w5.cell? ⟨g, 1, none⟩ = some (.int .i64 1) := by have := hr0 1 _ rfl; rw [show (tellG a).nm = a.nm from rfl, ha] at this; exact this
      have e2 : w5.cell? ⟨g, 2, none⟩ = some (.int .i64 13) := by have := hr0 2 _ rfl; rw [show (tellG a).nm = a.nm from rfl, ha] at this; exact this
      have e9 : w5.cell? ⟨g, 9, none⟩ = some (.int .i64 20) := by have := hr1 1 _ rfl; rw [show (tellG b).nm = b.nm from rfl, hbn] at this; exact this
      have e10 : w5.cell? ⟨g, 10, none⟩ = some (.int .i64 25) := by have := hr1 2 _ rfl; rw [show (tellG b).nm = b.nm from rfl, hbn] at this; exact this
      have HBF := Lib.hid (below_trans HB.out HB5.out)
      clear hr0 hr1 HO5 HB5 HB HT HP ha hbn
      go_wp2_with fail
      go_ret
      exact ⟨rfl, HBF.out⟩
end Go.Proofs.Ythplelglifnhoaa
