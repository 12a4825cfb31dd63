import Derived.Test.YtnpdamahennojaaDoorPgA
namespace Go.Proofs.YtnpdamahennojaaDoor
open Go.RowKit

def head (kind : Int) (body : List Int) : List Int := le4 body.length ++ [kind] ++ body
def pageOf (kind : Int) (body : List Int) : List Int := head kind body ++ le4 (crc32 (head kind body))
theorem le4_length (n : Int) : (le4 n).length = 4 := rfl
theorem le4_bytes (n : Int) (h : 0 ≤ n ∧ n ≤ 4294967295) : Bytes8 (le4 n) :=
  Bytes8.cons (by omega) (Bytes8.cons (by omega) (Bytes8.cons (by omega) (Bytes8.cons (by omega) Bytes8.nil)))
theorem head_length (kind : Int) (body : List Int) : (head kind body).length = body.length + 5 := by simp [head, le4_length]; omega
theorem head_bytes (kind : Int) (body : List Int) (hk : 0 ≤ kind ∧ kind ≤ 255) (hb : Bytes8 body) (hl : body.length ≤ 1000000) : Bytes8 (head kind body) :=
  (((le4_bytes _ (by omega)).append (Bytes8.cons hk Bytes8.nil))).append hb
theorem crc32_range (l : List Int) : 0 ≤ crc32 l ∧ crc32 l ≤ 4294967295 := toI_range _

theorem Own.ne_row {w : World} {base : Nat} {e : TypeId} {k : IntKind} {A : Option Addr} {n c : Nat} {xs : List Int} (h : Own w base e k (.slice A n c) xs) {r : Option Nat} (hr : ∀ g, r = some g → g < base) : ∀ a, A = some a → some a.block ≠ r := by
  rintro a rfl e
  have h1 := (h.lt a.block rfl).1
  have h2 := hr _ e.symm
  omega

theorem HasTab.grown {w w' : World} (h : HasTab w) {r : Option Nat} (hg : w.grownBy w' r) (hr : r ≠ some 0) : HasTab w' := fun i hi => hg.cell (h i hi) (fun e => hr e.symm)

set_option maxHeartbeats 1000000 in
theorem lay_any (base : Nat) (pv : Value) (ps : List Int) (kind : Int) (A : Option Addr) (cap : Nat) (body : List Int) (w : World) (hown : Own w base 5 .u8 pv ps) (hb : Reads w .u8 A body) (h8 : Bytes8 body)
    (hk : 0 ≤ kind ∧ kind ≤ 255) (hl : body.length ≤ 1000000) (hp : ps.length ≤ 1000000000) (ht : HasTab w) (hbase : base ≤ w.heap.size) (h0 : 0 < base) :
    Calls Tryd.prog 12 #[pv, .int .u8 kind, .slice A body.length cap] w fun e w' => ∃ v, e = .returned v ∧ Own w' base 5 .u8 v (ps ++ pageOf kind body) ∧ w.grownBy w' pv.ownBlock := by
  have hpos := ht.pos
  have hpv := hown.lt
  go_enter Tryd.func12, Tryd.ntmps12
  go_wp2_with fail
  refine (four_any body.length (by omega) w).mono ?_
  rintro e w1 ⟨v1, rfl, ho1, hb1⟩
  have hs1 := hb1.size
  have l1 : (le4 body.length).length + [kind].length ≤ maxLen := by show 4 + 1 ≤ maxLen; unfold maxLen; omega
  have l2 : ((le4 body.length).length + [kind].length) * 1 ≤ 140737488355328 := by show (4 + 1) * 1 ≤ 140737488355328; omega
  have l3 : w.heap.size ≤ (w1.alloc (.cells #[.int .u8 kind] 5)).heap.size := by simp; omega
  have o1 := ho1.alloc (.cells #[.int .u8 kind] 5)
  have r1 := Reads.one w1 5 .u8 kind
  have b1 := below_alloc hb1 (.cells #[.int .u8 kind] 5)
  clear ho1
  have l4 : (le4 body.length ++ [kind]).length + body.length ≤ maxLen := by simp [le4_length]; unfold maxLen; omega
  have l5 : ((le4 body.length ++ [kind]).length + body.length) * 1 ≤ 140737488355328 := by simp [le4_length]; omega
  have l6 : ps.length + (head kind body).length ≤ maxLen := by rw [head_length]; unfold maxLen; omega
  have l7 : (ps.length + (head kind body).length) * 1 ≤ 140737488355328 := by rw [head_length]; omega
  have l8 : (head kind body).length ≤ 140737488351232 := by rw [head_length]; omega
  have l9 : (ps ++ head kind body).length + (le4 (crc32 (head kind body))).length ≤ maxLen := by rw [List.length_append, head_length, le4_length]; unfold maxLen; omega
  have l10 : ((ps ++ head kind body).length + (le4 (crc32 (head kind body))).length) * 1 ≤ 140737488355328 := by rw [List.length_append, head_length, le4_length]; omega
  go_wp2_with (first
    | (at_builtin
       refine wpList_append rfl _ (.tmp 11) (.tmp 13) 22 rfl w.heap.size 5 .u8 1 Tryd.underlying22 Tryd.info5 v1 (le4 body.length) rfl o1 _ 1 [kind] rfl r1 l1 l2 l3 ?_
       intro v2 w2 ho2 hg2 _
       have b2 := b1.grown hg2 b1.size (fun g hg => (o1.lt g hg).1)
       have r2 := hb.below b2
       clear o1 r1 l1 l2 hg2 b1)
    | (at_builtin
       refine wpList_append rfl _ (.tmp 14) (.tmp 15) 22 rfl w.heap.size 5 .u8 1 Tryd.underlying22 Tryd.info5 v2 (le4 body.length ++ [kind]) rfl ho2 A cap body rfl r2 l4 l5 b2.size ?_
       intro v3 w3 ho3 hg3 _
       have b3 := b2.grown hg3 b2.size (fun g hg => (ho2.lt g hg).1)
       have own3 := hown.below b3
       have hb3 := Nat.le_trans hbase b3.size
       replace ho3 : Own w3 w.heap.size 5 .u8 v3 (head kind body) := ho3
       obtain ⟨A3, c3, rfl, _, r3⟩ := ho3.form
       clear ho2 r2 l4 l5 hg3 b2 hb)
    | (at_builtin
       refine wpList_append rfl _ (.tmp 17) (.tmp 18) 22 rfl base 5 .u8 1 Tryd.underlying22 Tryd.info5 pv ps rfl own3 A3 c3 (head kind body) rfl r3 l6 l7 hb3 ?_
       intro v4 w4 ho4 hg4 ha4
       have r4 := r3.grown hg4 (ho3.ne_row fun g hg => (hpv g hg).2)
       have g4 := grown_trans (grown_of_below b3 pv.ownBlock) hg4 (fun g hg => .inl hg)
       have t4 := ht.grown g4 (fun e => by have := (hpv 0 e).1; omega)
       clear r3 l6 l7)
    | (go_at_call 10; refine (sum_says A3 c3 (head kind body) w4 l8 (head_bytes kind body hk h8 hl) r4 t4).mono ?_; rintro e w' ⟨rfl, rfl⟩)
    | (go_at_call 18; refine (four_any (crc32 (head kind body)) (crc32_range _) w4).mono ?_; rintro e w5 ⟨v5, rfl, ho5, b5⟩; obtain ⟨A5, c5, rfl, _, r5⟩ := ho5.form; have own5 := ho4.below b5; have hb5 : base ≤ w5.heap.size := Nat.le_trans hbase (Nat.le_trans g4.size b5.size))
    | (at_builtin
       refine wpList_append rfl _ (.tmp 19) (.tmp 22) 22 rfl base 5 .u8 1 Tryd.underlying22 Tryd.info5 v4 (ps ++ head kind body) rfl own5 A5 c5 (le4 (crc32 (head kind body))) rfl r5 l9 l10 hb5 ?_
       intro v6 w6 ho6 hg6 _))
  go_ret
  refine ⟨v6, rfl, by rw [List.append_assoc] at ho6; exact ho6, ?_⟩
  refine grown_trans (grown_trans g4 (grown_of_below b5 none) (fun k hk => by cases hk)) hg6 (fun k hk => ?_)
  rcases ha4 with h | h
  · exact .inl (h ▸ hk)
  · rw [h] at hk; cases hk; exact .inr b3.size

set_option maxHeartbeats 1000000 in
theorem ref_lay_any (kind : Int) (A : Option Addr) (cap : Nat) (body : List Int) (w : World) (hb : Reads w .u8 A body) (h8 : Bytes8 body)
    (hk : 0 ≤ kind ∧ kind ≤ 255) (hl : body.length ≤ 1000000) :
    Calls Tryd.prog 17 #[.int .u8 kind, .slice A body.length cap] w fun e w' => ∃ v, e = .returned v ∧ Own w' w.heap.size 5 .u8 v (pageOf kind body) ∧ Below w.heap.size w w' := by
  go_enter Tryd.func17, Tryd.ntmps17
  go_wp2_with fail
  refine (ref_four_any body.length (by omega) w).mono ?_
  rintro e w1 ⟨v1, rfl, ho1, hb1⟩
  have hs1 := hb1.size
  have l1 : (le4 body.length).length + [kind].length ≤ maxLen := by show 4 + 1 ≤ maxLen; unfold maxLen; omega
  have l2 : ((le4 body.length).length + [kind].length) * 1 ≤ 140737488355328 := by show (4 + 1) * 1 ≤ 140737488355328; omega
  have l3 : w.heap.size ≤ (w1.alloc (.cells #[.int .u8 kind] 5)).heap.size := by simp; omega
  have o1 := ho1.alloc (.cells #[.int .u8 kind] 5)
  have r1 := Reads.one w1 5 .u8 kind
  have b1 := below_alloc hb1 (.cells #[.int .u8 kind] 5)
  clear ho1
  have l4 : (le4 body.length ++ [kind]).length + body.length ≤ maxLen := by simp [le4_length]; unfold maxLen; omega
  have l5 : ((le4 body.length ++ [kind]).length + body.length) * 1 ≤ 140737488355328 := by simp [le4_length]; omega
  have l8 : (head kind body).length ≤ 140737488351232 := by rw [head_length]; omega
  have l9 : (head kind body).length + (le4 (crc32 (head kind body))).length ≤ maxLen := by rw [head_length, le4_length]; unfold maxLen; omega
  have l10 : ((head kind body).length + (le4 (crc32 (head kind body))).length) * 1 ≤ 140737488355328 := by rw [head_length, le4_length]; omega
  go_wp2_with (first
    | (at_builtin
       refine wpList_append rfl _ (.tmp 10) (.tmp 12) 22 rfl w.heap.size 5 .u8 1 Tryd.underlying22 Tryd.info5 v1 (le4 body.length) rfl o1 _ 1 [kind] rfl r1 l1 l2 l3 ?_
       intro v2 w2 ho2 hg2 _
       have b2 := b1.grown hg2 b1.size (fun g hg => (o1.lt g hg).1)
       have r2 := hb.below b2
       clear o1 r1 l1 l2 hg2 b1)
    | (at_builtin
       refine wpList_append rfl _ (.tmp 14) (.tmp 15) 22 rfl w.heap.size 5 .u8 1 Tryd.underlying22 Tryd.info5 v2 (le4 body.length ++ [kind]) rfl ho2 A cap body rfl r2 l4 l5 b2.size ?_
       intro v3 w3 ho3 hg3 _
       have b3 := b2.grown hg3 b2.size (fun g hg => (ho2.lt g hg).1)
       replace ho3 : Own w3 w.heap.size 5 .u8 v3 (head kind body) := ho3
       obtain ⟨A3, c3, rfl, _, r3⟩ := ho3.form
       clear ho2 r2 l4 l5 hg3 b2 hb)
    | (go_at_call 11; refine (ref_sum_says A3 c3 (head kind body) w3 l8 (head_bytes kind body hk h8 hl) r3).mono ?_; rintro e w' ⟨rfl, rfl⟩)
    | (go_at_call 21; refine (ref_four_any (crc32 (head kind body)) (crc32_range _) w3).mono ?_; rintro e w5 ⟨v5, rfl, ho5, b5⟩; obtain ⟨A5, c5, rfl, _, r5⟩ := ho5.form; have own5 := ho3.below b5; have b5' := b3.trans (b5.mono b3.size))
    | (at_builtin
       refine wpList_append rfl _ (.tmp 17) (.tmp 20) 22 rfl w.heap.size 5 .u8 1 Tryd.underlying22 Tryd.info5 (.slice A3 (head kind body).length c3) (head kind body) rfl own5 A5 c5 (le4 (crc32 (head kind body))) rfl r5 l9 l10 b5'.size ?_
       intro v6 w6 ho6 hg6 _))
  go_ret
  exact ⟨v6, rfl, ho6, b5'.grown hg6 b5'.size (fun g hg => (own5.lt g hg).1)⟩
end Go.Proofs.YtnpdamahennojaaDoor
