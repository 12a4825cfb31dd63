import Derived.Test.YtgpfoamhcoipgaaLr
import Derived.Test.YtgpfoamhcoipgaaLf
/-! The document's answers about changes: Add. -/
namespace Go.Proofs.Ytgpfoamhcoipgaa
open Go.RowKit Go.Sort Go.ChangeMaps
set_option linter.unusedVariables false
set_option linter.unusedSectionVars false
attribute [-simp] Try.isAgg36 Try.sizeOf36 Try.typeInfo36 Try.type36
attribute [-simp] Try.isAgg38 Try.sizeOf38 Try.typeInfo38 Try.type38

/-- Changes behind others, as the document has it. -/
def addR (L : List Ch) : List Ch → Option (List Ch)
  | [] => some L
  | c :: l => if nextR L c = true then addR (L ++ [c]) l else none
theorem addR_is : ∀ {l L L' : List Ch}, addR L l = some L' → L' = L ++ l
  | [], L, L', h => by injection h with h; rw [← h, List.append_nil]
  | c :: l, L, L', h => by
    rw [addR] at h
    split at h
    · rw [addR_is h, List.append_assoc]; rfl
    · cases h
def RAddPost (A : Option Addr) (cap : Nat) (L : List Ch) (w : World) : Option (List Ch) → Ending → World → Prop
  | none, e, w' => e = .returned (.tuple #[.slice A L.length cap, .bool false]) ∧ Below w.heap.size w w'
  | some L', e, w' => ∃ u, e = .returned (.tuple #[u, .bool true]) ∧ OwnE w' w.heap.size 38 10 chL u L' ∧ Below w.heap.size w w'
set_option maxRecDepth 100000 in
set_option maxHeartbeats 8000000 in
theorem radd_any (A B : Option Addr) (cap cap2 : Nat) (L more : List Ch) (w : World) (hr : RowsAt w chL A L) (hr2 : RowsAt w chL B more) (hL : ∀ c ∈ L, c.ok) (hM : ∀ c ∈ more, c.ok) (hl : L.length + more.length ≤ 1000) :
    Calls Try.prog 9 #[.slice A L.length cap, .slice B more.length cap2] w (RAddPost A cap L w (addR L more)) := by
  have Hc := Lib.hid sizeCh
  have z1 : ∀ w, (sizeOf 38).run Try.prog w = .ok 10 w := run_sizeOf_info sizeCh
  obtain ⟨R, hR⟩ : ∃ R, R = addR L more := ⟨_, rfl⟩
  rw [← hR]
  have HR := Lib.hid hR
  clear hR
  go_enter Try.func9, Try.ntmps9
  go_upto_block 0 with (refine at_op (.call { callee := .builtin .append, args := #[.tmp 8, .tmp 9], argTypes := #[24, 24] }) ?_ rfl; refine wpList_appendE encCh rfl w (.tmp 8) (.tmp 9) 24 rfl w.heap.size rfl (.slice none 0 0) [] rfl (OwnE.nil _ _) A cap L rfl hr (by rw [List.length_nil, Nat.zero_add]; exact Nat.le_trans (Nat.le_trans (Nat.le_add_right _ _) hl) (by decide)) (by rw [List.length_nil, Nat.zero_add]; exact Nat.le_trans (Nat.mul_le_mul_right 88 (Nat.le_trans (Nat.le_add_right _ _) hl)) (by decide)) (Nat.le_refl _) ?_; intro v6 w6 hO hG hB; rw [List.nil_append] at hO)
  have hb6 : Below w.heap.size w w6 := below_of_grown hG (fun k e => by cases e)
  clear hG hB
  go_wp2_with fail
  go_loopw [6, 7] (fun v i wr => ∃ j : Nat, i = .int .i64 (j : Nat) ∧ j ≤ more.length ∧ R = addR (L ++ more.take j) (more.drop j) ∧ OwnE wr w.heap.size 38 10 chL v (L ++ more.take j) ∧ Below w.heap.size w wr) (fun _ i _ => more.length - (intOf i).toNat)
  case atStart => exact ⟨0, rfl, Nat.zero_le _, by rw [List.take_zero, List.append_nil, List.drop_zero]; exact HR.out, by rw [List.take_zero, List.append_nil]; exact hO, hb6⟩
  case round =>
    clear hO hb6 HR
    obtain ⟨j, rfl, hj, hR, hO, hb⟩ := hrel
    by_cases hlt : j < more.length
    · obtain ⟨d, hd⟩ : ∃ d, more[j]? = some d := ⟨_, List.getElem?_eq_getElem hlt⟩
      obtain ⟨g, off, rfl, hrow⟩ := RowsAt.row encCh (hr2.below hb) hd
      have hdo := hM d (List.mem_of_getElem? hd)
      have hdr : more.drop j = d :: more.drop (j + 1) := by rw [List.drop_eq_getElem_cons hlt]; congr 1; rw [List.getElem?_eq_getElem hlt] at hd; exact Option.some.inj hd
      have htk : more.take (j + 1) = more.take j ++ [d] := by rw [List.take_add_one, hd]; rfl
      rw [hdr, addR] at hR
      have hlen : (L ++ more.take j).length + 1 ≤ 1000 := by rw [List.length_append, List.length_take]; omega
      have hlo : ∀ c ∈ L ++ more.take j, c.ok := fun c hc => by
        rcases List.mem_append.1 hc with h | h
        · exact hL c h
        · exact hM c (List.mem_of_mem_take h)
      have hji : (j : Int) < (more.length : Int) := by omega
      have HJ := Lib.hid (show j + 1 ≤ more.length from hlt)
      have htk2 : L ++ more.take (j + 1) = (L ++ more.take j) ++ [d] := by rw [htk, List.append_assoc]
      have HTK := Lib.hid htk2
      clear hdr hd htk htk2 hL hM hr hr2
      generalize L ++ more.take j = X at *
      obtain ⟨A6, c6, rfl, _, hrX⟩ := hO.form
      have hnx := fun A cap w hr => next_any A cap X d w hr hlo hdo (by omega)
      have hN := hnx A6 c6 wr hrX
      have hrow : wr.rangeAt g (off + j * 10) (chA d).toList := hrow
      have hdA : (chL d).toArray = chA d := rfl
      obtain ⟨D, hD⟩ : ∃ D, D = chA d := ⟨_, rfl⟩
      have hDs : D.size = 10 := by rw [hD]; rfl
      rw [← hD] at hrow hN hdA
      have HDA := Lib.hid hdA
      have HX := Lib.hid hO
      have HRW := Lib.hid hrow
      have HRR := Lib.hid hR
      have HHB := Lib.hid hb
      generalize hXn : X.length = n at *
      clear hnx hrX hlo hD hdA hO hrow hR hb
      cases hq : nextR X d
      · rw [hq] at hN
        go_wp2_with (first
          | (refine at_op (.load 38 (.tmp 20)) ?_ rfl; refine wpList_load_mid rfl 38 (.tmp 20) rfl g (off + j * 10) rfl D.toList _ HRW.out Try.underlying38 rfl (by rw [Array.length_toList, hDs]; exact Hc.out) ?_; rw [Array.toArray_toList])
          | (go_at_call 18; (with_reducible refine hN.mono ?_); rintro e w5 ⟨rfl, b5⟩))
        go_ret2
        rw [HRR.out, hq]
        exact ⟨rfl, below_trans HHB.out b5⟩
      · rw [hq] at hN
        go_upto_region 8 with (first
          | (refine at_op (.load 38 (.tmp 20)) ?_ rfl; refine wpList_load_mid rfl 38 (.tmp 20) rfl g (off + j * 10) rfl D.toList _ HRW.out Try.underlying38 rfl (by rw [Array.length_toList, hDs]; exact Hc.out) ?_; rw [Array.toArray_toList])
          | (go_at_call 18; (with_reducible refine hN.mono ?_); rintro e w5 ⟨rfl, b5⟩))
        have HX5 := Lib.hid (HX.out.below b5)
        have HR5 := Lib.hid (range_below b5 HRW.out)
        have hb5 := Lib.hid (below_trans HHB.out b5)
        clear b5 HX HRW HHB
        have ba := below_alloc (Below.refl w5.heap.size w5) (.cells D 38)
        have hO9 := HX5.out.below ba
        have hb9 := Lib.hid (below_trans hb5.out ba)
        have hrowD := RowsAt.one (enc := chL) (y := d) (w := w5.alloc (.cells D 38)) (by rw [HDA.out]; exact heap_alloc_new w5 (.cells D 38))
        have HOO := Lib.hid hO9
        have HRD := Lib.hid hrowD
        clear ba hO9 hrowD
        go_wp2_with (first
          | (refine at_op (.load 38 (.tmp 28)) ?_ rfl; refine wpList_load_mid rfl 38 (.tmp 28) rfl g (off + j * 10) rfl D.toList _ HR5.out Try.underlying38 rfl (by rw [Array.length_toList, hDs]; exact Hc.out) ?_; rw [Array.toArray_toList])
          | (refine at_op (.buildSlice 24 1 #[(0, .tmp 29)]) ?_ rfl; refine wpList_buildOne encCh (by decide) rfl w5 24 (.tmp 29) rfl (some 30) rfl w5.heap.size rfl rfl d (congrArg Value.agg HDA.out.symm) ?_; rw [HDA.out])
          | (refine at_op (.call { callee := .builtin .append, args := #[.tmp 25, .tmp 30], argTypes := #[24, 24] }) ?_ rfl; refine wpList_appendE encCh rfl _ (.tmp 25) (.tmp 30) 24 rfl w.heap.size rfl (.slice A6 n c6) X rfl HOO.out (some ⟨w5.heap.size, 0, none⟩) 1 [d] rfl HRD.out (by rw [List.length_singleton, hXn]; exact Nat.le_trans hlen (by decide)) (by rw [List.length_singleton, hXn]; exact Nat.le_trans (Nat.mul_le_mul_right 88 hlen) (by decide)) hb9.out.size ?_; intro u9 w11 hO11 hG11 hB11))
        exact ⟨⟨j + 1, by go_num, HJ.out, by rw [HRR.out, if_pos hq, HTK.out], by rw [HTK.out]; exact hO11, below_grown2 hb9.out hG11 (fun q e => (HOO.out.lt q e).1)⟩, by simp [intOf]; omega⟩
    · obtain rfl : j = more.length := by omega
      rw [List.take_length, List.drop_length, addR] at hR
      rw [List.take_length] at hO
      go_wp2_with fail
      go_ret2
      rw [hR]
      exact ⟨_, rfl, hO, hb⟩
end Go.Proofs.Ytgpfoamhcoipgaa
