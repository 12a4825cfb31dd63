import Derived.Test.YtnpdamahennojaaDoorPgF
import Derived.Test.YtnpdamahennojaaDoorOwn2
namespace Go.Proofs.YtnpdamahennojaaDoor
open Go.RowKit
set_option linter.unusedVariables false

/-- A page whose length is written over. -/
def relen (n : Int) (pg : List Int) : List Int := (((pg.set 0 (n % 256)).set 1 (n / 256 % 256)).set 2 (n / 65536 % 256)).set 3 (n / 16777216)
theorem relen_length (n : Int) (pg : List Int) : (relen n pg).length = pg.length := by simp [relen]
theorem relen_bytes (n : Int) (hn : 0 ≤ n ∧ n ≤ 4294967295) (pg : List Int) (h : Bytes8 pg) : Bytes8 (relen n pg) :=
  (((h.set 0 _ (by omega)).set 1 _ (by omega)).set 2 _ (by omega)).set 3 _ (by omega)
theorem relen_num (n : Int) (hn : 0 ≤ n ∧ n ≤ 4294967295) (pg : List Int) (h : Bytes8 pg) (h4 : 4 ≤ pg.length) : num4 (relen n pg) = n := by
  rw [num4_eq _ (relen_bytes n hn pg h) (by rw [relen_length]; exact h4)]
  have l1 : 0 < pg.length := by omega
  have l2 : 1 < (pg.set 0 (n % 256)).length := by rw [List.length_set]; omega
  have l3 : 2 < ((pg.set 0 (n % 256)).set 1 (n / 256 % 256)).length := by rw [List.length_set, List.length_set]; omega
  have l4 : 3 < (((pg.set 0 (n % 256)).set 1 (n / 256 % 256)).set 2 (n / 65536 % 256)).length := by rw [List.length_set, List.length_set, List.length_set]; omega
  have e0 : rd (relen n pg) 0 = n % 256 := by unfold relen; rw [rd_set _ 3 0 _ l4, rd_set _ 2 0 _ l3, rd_set _ 1 0 _ l2, rd_set _ 0 0 _ l1]; rfl
  have e1 : rd (relen n pg) 1 = n / 256 % 256 := by unfold relen; rw [rd_set _ 3 1 _ l4, rd_set _ 2 1 _ l3, rd_set _ 1 1 _ l2]; rfl
  have e2 : rd (relen n pg) 2 = n / 65536 % 256 := by unfold relen; rw [rd_set _ 3 2 _ l4, rd_set _ 2 2 _ l3]; rfl
  have e3 : rd (relen n pg) 3 = n / 16777216 := by unfold relen; rw [rd_set _ 3 3 _ l4]; rfl
  rw [e0, e1, e2, e3]; omega
theorem relen_long (n : Int) (hn : 0 ≤ n ∧ n ≤ 4294967295) (pg : List Int) (h : Bytes8 pg) (h9 : 9 ≤ pg.length) (hl : (pg.length : Int) < 9 + n) : pgRead (relen n pg) 0 = (0, [], 0, 3) := by
  have hm := relen_num n hn pg h (by omega)
  have hL := relen_length n pg
  unfold pgRead
  rw [if_neg (by omega)]
  simp only [Int.toNat_zero, List.drop_zero, hm]
  rw [if_neg (by omega), if_pos (by omega)]

set_option maxRecDepth 100000 in
set_option maxHeartbeats 1000000 in
theorem pageLengths_any (kind : Int) (B : Option Addr) (capb : Nat) (body : List Int) (n : Int) (w : World) (hk : 0 ≤ kind ∧ kind ≤ 255) (hcb : body.length ≤ capb) (hb8 : Bytes8 body) (hb : Reads w .u8 B body) (hn : 0 ≤ n ∧ n ≤ 4294967295) (ht : HasTab w) (l2 : body.length ≤ 140737488351232) :
    Calls Tryd.prog 5 #[.int .u8 kind, .slice B body.length capb, .int .u32 n] w fun e w' => e = .returned (.bool true) ∧ Below w.heap.size w w' := by
  have hpos := ht.pos
  have haw := fun w1 (b : Below w.heap.size w w1) => awake_any w1 (ht.below hpos b)
  have Haw := Lib.hid haw
  clear haw
  by_cases hl : 300 < body.length
  · clear hb
    go_enter Tryd.func5, Tryd.ntmps5
    go_wp2_with fail
    refine (Haw.out w (Below.refl _ _)).mono ?_
    rintro e w1 ⟨rfl, b1⟩
    go_wp2_with fail
    refine (Haw.out w1 b1).mono ?_
    rintro e w2 ⟨rfl, b2⟩
    go_wp2
    go_ret
    exact ⟨rfl, below_trans b1 b2⟩
  by_cases he : n = body.length
  · subst he
    clear hb
    go_enter Tryd.func5, Tryd.ntmps5
    go_wp2_with fail
    refine (Haw.out w (Below.refl _ _)).mono ?_
    rintro e w1 ⟨rfl, b1⟩
    go_wp2_with fail
    refine (Haw.out w1 b1).mono ?_
    rintro e w2 ⟨rfl, b2⟩
    go_wp2
    go_ret
    exact ⟨rfl, below_trans b1 b2⟩
  · have he' : (n == (body.length : Int)) = false := by rw [beq_eq_false_iff_ne]; exact he
    have lp : (pageOf kind body).length = body.length + 9 := pageOf_length kind body
    have p8 := pageOf_bytes kind body hk hb8 (by omega)
    have r8 := relen_bytes n hn _ p8
    have rl : (relen n (pageOf kind body)).length = body.length + 9 := by rw [relen_length, lp]
    have hlay := fun (w' : World) (h : Below w.heap.size w w') => lay_any w.heap.size (.slice none 0 0) [] kind B capb body w' (Own.nil _ _ _ _) (hb.below h) hb8 hk (by omega) (by simp) (ht.below hpos h) h.size hpos
    have hread := fun (w' : World) (h : Below w.heap.size w w') Aq cq (hq : Reads w' .u8 Aq (relen n (pageOf kind body))) (hcq : (relen n (pageOf kind body)).length ≤ cq) => calls_lenv rl (read_any Aq cq (relen n (pageOf kind body)) 0 w' (by omega) hcq r8 hq (ht.below hpos h))
    have hrref := fun (w' : World) (h : Below w.heap.size w w') Aq cq (hq : Reads w' .u8 Aq (relen n (pageOf kind body))) (hcq : (relen n (pageOf kind body)).length ≤ cq) => calls_lenv rl (rref_any Aq cq (relen n (pageOf kind body)) 0 w' (by omega) hcq r8 hq)
    have hlong := fun h => relen_long n hn _ p8 (by omega) h
    rw [lp] at hlong
    have hset : ∀ (w' : World) (g cap : Nat), Own w' w.heap.size 5 .u8 (.slice (some ⟨g, 0, none⟩) (body.length + 9) cap) (pageOf kind body) →
        Own ((((w'.setCell ⟨g, 0, none⟩ (.int .u8 (n % 256))).setCell ⟨g, 1, none⟩ (.int .u8 (n / 256 % 256))).setCell ⟨g, 2, none⟩ (.int .u8 (n / 65536 % 256))).setCell ⟨g, 3, none⟩ (.int .u8 (n / 16777216))) w.heap.size 5 .u8 (.slice (some ⟨g, 0, none⟩) (body.length + 9) cap) (relen n (pageOf kind body)) :=
      fun w' g cap h => (((h.store 0 (by omega) _).store 1 (by rw [List.length_set]; omega) _).store 2 (by rw [List.length_set, List.length_set]; omega) _).store 3 (by rw [List.length_set, List.length_set, List.length_set]; omega) _
    unfold ReadPost at hread hrref
    generalize relen n (pageOf kind body) = q at *
    generalize pageOf kind body = pg at *
    generalize pgRead q 0 = R at *
    obtain ⟨K, bd, E, err⟩ := R
    simp only at hread hrref
    have Hlay := Lib.hid hlay
    have Hread := Lib.hid hread
    have Hrref := Lib.hid hrref
    have Hlong := Lib.hid hlong
    have Hset := Lib.hid hset
    have Hlp := Lib.hid lp
    have Hrl := Lib.hid rl
    clear hlay hread hrref hlong hset lp rl hb
    go_enter Tryd.func5, Tryd.ntmps5
    go_wp2_with fail
    refine (Haw.out w (Below.refl _ _)).mono ?_
    rintro e w1 ⟨rfl, b1⟩
    go_wp2_with fail
    refine (Hlay.out w1 b1).mono ?_
    rintro e w3 ⟨v3, rfl, ho3, hg3⟩
    have b3 := b1.grown hg3 b1.size (fun g hg => by simp [Value.ownBlock] at hg)
    rw [List.nil_append] at ho3
    obtain ⟨g, cap, rfl, hc3, hgb, hgl⟩ := ho3.form1 (by have := Hlp.out; omega)
    rw [Hlp.out] at ho3 ⊢
    have c0 := ho3.cell 0 (by have := Hlp.out; omega)
    have c1 := ho3.cell 1 (by have := Hlp.out; omega)
    have c2 := ho3.cell 2 (by have := Hlp.out; omega)
    have c3 := ho3.cell 3 (by have := Hlp.out; omega)
    have f0 := ho3.frozen 0
    have f1 := ho3.frozen 1
    have f2 := ho3.frozen 2
    have f3 := ho3.frozen 3
    have i0 : (0 : Int) < ((body.length + 9 : Nat) : Int) := by omega
    have i1 : (1 : Int) < ((body.length + 9 : Nat) : Int) := by omega
    have i2 : (2 : Int) < ((body.length + 9 : Nat) : Int) := by omega
    have i3 : (3 : Int) < ((body.length + 9 : Nat) : Int) := by omega
    have ho4 := Hset.out w3 g cap ho3
    go_wp2_with fail
    generalize hw4 : (((w3.setCell ⟨g, 0, none⟩ (.int .u8 (n % 256))).setCell ⟨g, 1, none⟩ (.int .u8 (n / 256 % 256))).setCell ⟨g, 2, none⟩ (.int .u8 (n / 65536 % 256))).setCell ⟨g, 3, none⟩ (.int .u8 (n / 16777216)) = w4 at ho4 ⊢
    have b4 : Below w.heap.size w w4 := by
      rw [← hw4]
      exact (((b3.setCell (p := ⟨g, 0, none⟩) hgb _).setCell (p := ⟨g, 1, none⟩) hgb _).setCell (p := ⟨g, 2, none⟩) hgb _).setCell (p := ⟨g, 3, none⟩) hgb _
    clear hw4 c0 c1 c2 c3 f0 f1 f2 f3
    have hq : Reads w4 .u8 (some ⟨g, 0, none⟩) q := fun i hi => ⟨_, rfl, by rw [add_plain]; exact ho4.cell i hi⟩
    have hqc : q.length ≤ cap := by have := Hrl.out; have := Hlp.out; omega
    refine (Hread.out w4 b4 _ _ hq hqc).mono ?_
    rintro e w5 ⟨A5, c5, rfl, _, _, b5⟩
    have b5' := below_trans b4 b5
    go_wp2_with fail
    refine (Hrref.out w5 b5' _ _ (hq.below b5) hqc).mono ?_
    rintro e w6 ⟨A6, c6, rfl, _, _, b6⟩
    have b6' := below_trans b5' b6
    by_cases hlt : (body.length : Int) < n
    · have h3 := Hlong.out (by omega)
      simp only [Prod.mk.injEq] at h3
      obtain ⟨_, _, _, rfl⟩ := h3
      go_wp2
      go_ret
      exact ⟨rfl, b6'⟩
    · go_wp2
      go_ret
      exact ⟨rfl, b6'⟩

theorem wf_u32 {k : Int} (h : (Lit.int .u32 k).wf = true) : 0 ≤ k ∧ k ≤ 4294967295 := by
  simp [Lit.wf, IntKind.min, IntKind.max, IntKind.bits, IntKind.signed] at h
  omega
theorem wf_u8' {k : Int} (h : (Lit.int .u8 k).wf = true) : 0 ≤ k ∧ k ≤ 255 := by
  simp [Lit.wf, IntKind.min, IntKind.max, IntKind.bits, IntKind.signed] at h
  omega
/-- The walk of PageLengths. -/
theorem pageLengths_walk (W : World) (kind : Int) (hk : (Lit.int .u8 kind).wf = true) (B : Option Addr) (capb : Nat) (body : List Int) (hcb : body.length ≤ capb) (h2 : body.length * 1 ≤ 140737488351232) (hrb : Reads W .u8 B body) (hwb : Wf8 body)
    (n : Int) (hn : (Lit.int .u32 n).wf = true) (hL : Laid W) :
    Calls Tryd.prog 5 #[.int .u8 kind, .slice B body.length capb, .int .u32 n] W fun e w' => e = .returned (.bool true) ∧ Below W.heap.size W w' :=
  pageLengths_any kind B capb body n W (wf_u8' hk) hcb (wf_bytes hwb) hrb (wf_u32 hn) (tab_of_laid hL) (by omega)
end Go.Proofs.YtnpdamahennojaaDoor
