import Derived.Test.YtjmllggjaplldaaAs
import Derived.Test.YtjmllggjaplldaaCt
/-! The reference's LayValue; the closure that reads a telling. -/
namespace Go.Proofs.Ytjmllggjaplldaa
open Go.RowKit
set_option linter.unusedVariables false
attribute [-simp] Try.isAgg27 Try.sizeOf27 Try.typeInfo27 Try.type27

set_option maxRecDepth 100000 in
theorem tell_bad (g B k : Nat) (xs : List Int) (w : World) (h : RdSt w g B xs) (h8 : Bytes8 xs) (hB : B ≤ w.heap.size) (hr : rdVal xs = none) :
    Calls Try.prog 27 #[.pointer (some ⟨g, 0, none⟩), .pointer (some ⟨k, 0, none⟩)] w fun e w' => e = badP ∧ w.grownBy w' (some g) := by
  have hc := readValue_any g B xs w h h8 hB
  rw [hr] at hc
  have hc : Calls Try.prog 28 #[.pointer (some ⟨g, 0, none⟩)] w fun e w' => e = badP ∧ w.grownBy w' (some g) := hc.mono fun e w' ⟨h1, h2⟩ => by
    rcases h2 with ⟨_, h3⟩ | ⟨n, rest, h3, _⟩
    · exact ⟨h3, h1⟩
    · cases h3
  clear h h8 hB hr
  go_enter Try.func27, Try.ntmps27
  go_wp2_with (go_at_call 28; (with_reducible refine hc.mono ?_); rintro e w1 ⟨rfl, hg⟩)
  exact ⟨rfl, rfl, hg⟩
set_option maxRecDepth 100000 in
theorem tell_good (g B k : Nat) (xs rest : List Int) (v : AV) (Z : Array Value) (w : World) (h : RdSt w g B xs) (h8 : Bytes8 xs) (hB : B ≤ w.heap.size) (hk : w.heap[k]? = some (.cells Z 27)) (hZ : Z.size = 5) (hkg : k ≠ g) (hBk : B ≤ k) (hr : rdVal xs = some (v, rest)) :
    Calls Try.prog 27 #[.pointer (some ⟨g, 0, none⟩), .pointer (some ⟨k, 0, none⟩)] w fun e w' => e = .returned (.tuple #[]) ∧ RdSt w' g B rest ∧ ∃ w1, w.grownBy w1 (some g) ∧ w' = w1.setRow k (avC v) := by
  have hc := readValue_any g B xs w h h8 hB
  rw [hr] at hc
  have Hs := Lib.hid sizeAgg
  have hc : Calls Try.prog 28 #[.pointer (some ⟨g, 0, none⟩)] w fun e w' => e = .returned (.agg (avC v)) ∧ RdSt w' g B rest ∧ w.grownBy w' (some g) := hc.mono fun e w' ⟨h1, h2⟩ => by
    rcases h2 with ⟨h3, _⟩ | ⟨n, r2, h3, h4, h5⟩
    · cases h3
    · injection h3 with h3
      injection h3 with h6 h7
      subst h6 h7
      exact ⟨h4, h5, h1⟩
  have hD := avC_one v
  have hDs : (avC v).size = 5 := rfl
  generalize avC v = D at *
  clear h h8 hB hr
  go_enter Try.func27, Try.ntmps27
  go_wp2_with (first
    | (go_at_call 28; (with_reducible refine hc.mono ?_); rintro e w1 ⟨rfl, hs, hg⟩)
    | (refine at_op (.store 27 (.tmp 1) (.tmp 4)) ?_ rfl; refine wpList_store_row rfl 27 (.tmp 1) (.tmp 4) rfl k D rfl rfl 27 Z (RdSt.row hg hk hkg) (by rw [hDs]; exact Hs.out) (by rw [hDs, hZ]) hD ?_))
  go_end0
  exact ⟨rfl, hs.setRow hBk hkg _, w1, hg, rfl⟩
/-- State of the reference's LayValue. -/
structure RefLay (w1 wx : World) (p : Value) (xs : List Int) : Prop where
  own : Own wx w1.heap.size 5 .u8 p xs
  below : Below w1.heap.size w1 wx
theorem RefLay.start {w1 wx : World} {p : Value} {xs : List Int} (ho : Own wx w1.heap.size 5 .u8 p xs) (hb : Below w1.heap.size w1 wx) : RefLay w1 wx p xs := ⟨ho, hb⟩
theorem RefLay.next {w1 wx wy : World} {p : Value} {xs : List Int} (h : RefLay w1 wx p xs) (b : Below wx.heap.size wx wy) : RefLay w1 wy p xs := ⟨h.own.below b, below_trans h.below b⟩
theorem RefLay.app {w1 wx wy : World} {p q : Value} {xs ys : List Int} (h : RefLay w1 wx p xs) (ho : Own wy w1.heap.size 5 .u8 q ys) (hg : wx.grownBy wy p.ownBlock) : RefLay w1 wy q ys :=
  ⟨ho, h.below.grown hg h.below.size (fun g hg => by have := (h.own.lt g hg).1; omega)⟩
theorem ovL (b : Bool) : uintL (ovN b) = [if b = true then 1 else 0] := by cases b <;> rfl
set_option maxRecDepth 100000 in
set_option maxHeartbeats 16000000 in
theorem refLayValue_any (a : AV) (w : World) (hok : a.ok) :
    Calls Try.prog 25 #[.agg (avC a)] w fun e w' => ∃ v, e = .returned v ∧ Own w' w.heap.size 5 .u8 v (layVL a) ∧ Below w.heap.size w w' := by
  have h1 := heap_alloc_new w (.cells (avC a) 27)
  obtain ⟨a0, a1, a2, a3, a4⟩ := avC_cells a
  have c0 := (cell_of_row _ _ 0 _ _ _ h1).trans a0
  have c1 := (cell_of_row _ _ 1 _ _ _ h1).trans a1
  have c2 := (cell_of_row _ _ 2 _ _ _ h1).trans a2
  have c3 := (cell_of_row _ _ 3 _ _ _ h1).trans a3
  have c4 := (cell_of_row _ _ 4 _ _ _ h1).trans a4
  have hba := below_alloc (Below.refl w.heap.size w) (.cells (avC a) 27)
  have e1 := (uintL_len a.n).2
  have e2 := (uintL_len (canon a.x)).2
  have e4 := (uintL_len (canon a.lo)).2
  have e5 := (uintL_len (canon a.hi)).2
  have hu1 := fun w => refUint_any a.n w hok.n
  have hu2 := fun w => refUint_any (canon a.x) w (canon_lt hok.x)
  have hu4 := fun w => refUint_any (canon a.lo) w (canon_lt hok.lo)
  have hu5 := fun w => refUint_any (canon a.hi) w (canon_lt hok.hi)
  have hbx := fun w => refBits_any a.x w hok.x
  have hbl := fun w => refBits_any a.lo w hok.lo
  have hbh := fun w => refBits_any a.hi w hok.hi
  have HF : Hid (layVL a = uintL a.n ++ uintL (canon a.x) ++ [if a.ov = true then 1 else 0] ++ uintL (canon a.lo) ++ uintL (canon a.hi)) := Lib.hid (by rw [← ovL]; rfl)
  generalize layVL a = FF at *
  generalize avC a = A at *
  clear a0 a1 a2 a3 a4 hok h1
  generalize uintL a.n = U1 at *
  generalize uintL (canon a.x) = U2 at *
  generalize uintL (canon a.lo) = U4 at *
  generalize uintL (canon a.hi) = U5 at *
  generalize canon a.x = x at *
  generalize canon a.lo = lo at *
  generalize canon a.hi = hi at *
  have E1 := Lib.hid e1
  have E2 := Lib.hid e2
  have E4 := Lib.hid e4
  have E5 := Lib.hid e5
  clear e1 e2 e4 e5
  have HL1 : Hid (U1.length + U2.length ≤ maxLen ∧ (U1.length + U2.length) * 1 ≤ 140737488355328) := Lib.hid (by have := E1.out; have := E2.out; unfold maxLen; omega)
  have HL2 : ∀ z : Int, Hid ((U1 ++ U2).length + [z].length ≤ maxLen ∧ ((U1 ++ U2).length + [z].length) * 1 ≤ 140737488355328) := fun z => Lib.hid (by have := E1.out; have := E2.out; rw [List.length_append]; show _ + 1 ≤ _ ∧ (_ + 1) * 1 ≤ _; unfold maxLen; omega)
  have HL3 : ∀ z : Int, Hid ((U1 ++ U2 ++ [z]).length + U4.length ≤ maxLen ∧ ((U1 ++ U2 ++ [z]).length + U4.length) * 1 ≤ 140737488355328) := fun z => Lib.hid (by have := E1.out; have := E2.out; have := E4.out; rw [List.length_append, List.length_append]; show _ + 1 + _ ≤ _ ∧ (_ + 1 + _) * 1 ≤ _; unfold maxLen; omega)
  have HL4 : ∀ z : Int, Hid ((U1 ++ U2 ++ [z] ++ U4).length + U5.length ≤ maxLen ∧ ((U1 ++ U2 ++ [z] ++ U4).length + U5.length) * 1 ≤ 140737488355328) := fun z => Lib.hid (by have := E1.out; have := E2.out; have := E4.out; have := E5.out; rw [List.length_append, List.length_append, List.length_append]; show _ + 1 + _ + _ ≤ _ ∧ (_ + 1 + _ + _) * 1 ≤ _; unfold maxLen; omega)
  clear E1 E2 E4 E5
  go_enter Try.func25, Try.ntmps25
  go_upto_region 1 with fail
  generalize w.alloc (.cells A 27) = w1 at *
  go_upto_region 2 with (first
    | (go_at_call 24; (with_reducible refine (hu1 _).mono ?_); rintro e w2 ⟨v2, rfl, o2, b2⟩))
  have s2 := RefLay.start o2 b2
  clear o2 b2 hu1
  have C2 := Lib.hid c2
  have C3 := Lib.hid c3
  have C4 := Lib.hid c4
  have c1 := cell_below s2.below c1
  clear c2 c3 c4 c0

  obtain ⟨l1, l2⟩ := HL1.out
  go_upto_region 3 with (first
    | (go_at_call 35; (with_reducible refine (hbx _).mono ?_); rintro e w3 ⟨rfl, rfl⟩)
    | (go_at_call 24; (with_reducible refine (hu2 _).mono ?_); rintro e w3 ⟨v3, rfl, o3, b3⟩; have s3 := s2.next b3; obtain ⟨A9, c9, rfl, hc9, r9⟩ := o3.form; have z3 := s3.below.size)
    | (at_builtin
       refine wpList_append rfl _ (.tmp 7) (.tmp 11) 37 rfl w1.heap.size 5 .u8 1 Try.underlying37 infoU8 _ U1 rfl s3.own A9 c9 U2 rfl r9 l1 l2 z3 ?_
       intro v4 w4 o4 g4 n4))
  have s4 := s3.app o4 g4
  clear o4 g4 n4 l1 l2 s3 s2 o3 b3 r9 hc9 z3 hu2 hbx c1
  have c2 := cell_below s4.below C2.out
  generalize a.ov = ov at *
  have hrd : ∀ (w5 : World) (z : Int), Reads (w5.alloc (.cells #[.int .u8 z] 5)) .u8 (some ⟨w5.heap.size, 0, none⟩) [z] := fun w5 z => Reads.new (C := #[.int .u8 z]) fun i hi => by
    have : i = 0 := by simp at hi; exact hi
    subst this; rfl
  cases ov
  · have s5 := s4.next (below_alloc (Below.refl w4.heap.size w4) (.cells #[.int .u8 0] 5))
    have r5 := hrd w4 0
    have z5 := s5.below.size
    obtain ⟨l1, l2⟩ := (HL2 0).out
    have HFz : Hid (FF = U1 ++ U2 ++ [0] ++ U4 ++ U5) := Lib.hid HF.out
    clear HF
    go_upto_region 6 with (
        (at_builtin
         refine wpList_append rfl _ (.tmp 18) (.tmp 19) 37 rfl w1.heap.size 5 .u8 1 Try.underlying37 infoU8 _ (U1 ++ U2) rfl s5.own (some ⟨w4.heap.size, 0, none⟩) 1 [0] rfl r5 l1 l2 z5 ?_
         intro v6 w6 o6 g6 n6))
    have s6 := s5.app o6 g6
    clear o6 g6 n6 s5 s4 r5 z5 l1 l2 hrd c2
    have c3 := cell_below s6.below C3.out
    obtain ⟨l1, l2⟩ := (HL3 0).out
    go_upto_region 7 with (first
      | (go_at_call 35; (with_reducible refine (hbl _).mono ?_); rintro e w7 ⟨rfl, rfl⟩)
      | (go_at_call 24; (with_reducible refine (hu4 _).mono ?_); rintro e w7 ⟨v7, rfl, o7, b7⟩; have s7 := s6.next b7; obtain ⟨A9, c9, rfl, hc9, r9⟩ := o7.form; have z7 := s7.below.size)
      | (at_builtin
         refine wpList_append rfl _ (.tmp 21) (.tmp 25) 37 rfl w1.heap.size 5 .u8 1 Try.underlying37 infoU8 _ (U1 ++ U2 ++ [0]) rfl s7.own A9 c9 U4 rfl r9 l1 l2 z7 ?_
         intro v8 w8 o8 g8 n8))
    have s8 := s7.app o8 g8
    clear o8 g8 n8 l1 l2 s7 s6 o7 b7 r9 hc9 z7 hu4 hbl c3
    have c4 := cell_below s8.below C4.out
    obtain ⟨l1, l2⟩ := (HL4 0).out
    go_wp2_with (first
      | (go_at_call 35; (with_reducible refine (hbh _).mono ?_); rintro e w9 ⟨rfl, rfl⟩)
      | (go_at_call 24; (with_reducible refine (hu5 _).mono ?_); rintro e w9 ⟨v9, rfl, o9, b9⟩; have s9 := s8.next b9; obtain ⟨A10, c10, rfl, hc10, r10⟩ := o9.form; have z9 := s9.below.size)
      | (at_builtin
         refine wpList_append rfl _ (.tmp 27) (.tmp 31) 37 rfl w1.heap.size 5 .u8 1 Try.underlying37 infoU8 _ (U1 ++ U2 ++ [0] ++ U4) rfl s9.own A10 c10 U5 rfl r10 l1 l2 z9 ?_
         intro v11 w11 o11 g11 n11))
    have s11 := s9.app o11 g11
    go_ret
    exact ⟨v11, rfl, by rw [HFz.out]; exact s11.own.mono hba.size, below_trans hba s11.below⟩
  · have s5 := s4.next (below_alloc (Below.refl w4.heap.size w4) (.cells #[.int .u8 1] 5))
    have r5 := hrd w4 1
    have z5 := s5.below.size
    obtain ⟨l1, l2⟩ := (HL2 1).out
    have HFz : Hid (FF = U1 ++ U2 ++ [1] ++ U4 ++ U5) := Lib.hid HF.out
    clear HF
    go_upto_region 6 with (
        (at_builtin
         refine wpList_append rfl _ (.tmp 15) (.tmp 16) 37 rfl w1.heap.size 5 .u8 1 Try.underlying37 infoU8 _ (U1 ++ U2) rfl s5.own (some ⟨w4.heap.size, 0, none⟩) 1 [1] rfl r5 l1 l2 z5 ?_
         intro v6 w6 o6 g6 n6))
    have s6 := s5.app o6 g6
    clear o6 g6 n6 s5 s4 r5 z5 l1 l2 hrd c2
    have c3 := cell_below s6.below C3.out
    obtain ⟨l1, l2⟩ := (HL3 1).out
    go_upto_region 7 with (first
      | (go_at_call 35; (with_reducible refine (hbl _).mono ?_); rintro e w7 ⟨rfl, rfl⟩)
      | (go_at_call 24; (with_reducible refine (hu4 _).mono ?_); rintro e w7 ⟨v7, rfl, o7, b7⟩; have s7 := s6.next b7; obtain ⟨A9, c9, rfl, hc9, r9⟩ := o7.form; have z7 := s7.below.size)
      | (at_builtin
         refine wpList_append rfl _ (.tmp 21) (.tmp 25) 37 rfl w1.heap.size 5 .u8 1 Try.underlying37 infoU8 _ (U1 ++ U2 ++ [1]) rfl s7.own A9 c9 U4 rfl r9 l1 l2 z7 ?_
         intro v8 w8 o8 g8 n8))
    have s8 := s7.app o8 g8
    clear o8 g8 n8 l1 l2 s7 s6 o7 b7 r9 hc9 z7 hu4 hbl c3
    have c4 := cell_below s8.below C4.out
    obtain ⟨l1, l2⟩ := (HL4 1).out
    go_wp2_with (first
      | (go_at_call 35; (with_reducible refine (hbh _).mono ?_); rintro e w9 ⟨rfl, rfl⟩)
      | (go_at_call 24; (with_reducible refine (hu5 _).mono ?_); rintro e w9 ⟨v9, rfl, o9, b9⟩; have s9 := s8.next b9; obtain ⟨A10, c10, rfl, hc10, r10⟩ := o9.form; have z9 := s9.below.size)
      | (at_builtin
         refine wpList_append rfl _ (.tmp 27) (.tmp 31) 37 rfl w1.heap.size 5 .u8 1 Try.underlying37 infoU8 _ (U1 ++ U2 ++ [1] ++ U4) rfl s9.own A10 c10 U5 rfl r10 l1 l2 z9 ?_
         intro v11 w11 o11 g11 n11))
    have s11 := s9.app o11 g11
    go_ret
    exact ⟨v11, rfl, by rw [HFz.out]; exact s11.own.mono hba.size, below_trans hba s11.below⟩
end Go.Proofs.Ytjmllggjaplldaa
