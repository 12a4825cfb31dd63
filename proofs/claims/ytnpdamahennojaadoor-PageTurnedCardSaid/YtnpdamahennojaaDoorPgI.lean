import Derived.Test.YtnpdamahennojaaDoorPgBits
import Derived.Test.YtnpdamahennojaaDoorPgF
namespace Go.Proofs.YtnpdamahennojaaDoor
open Go.RowKit
set_option linter.unusedVariables false

theorem and1_u32 (x : Int) (h : 0 ≤ x ∧ x ≤ 4294967295) : bits .and .u32 x 1 = x % 2 := by
  obtain ⟨n, rfl⟩ := Int.eq_ofNat_of_zero_le h.1
  have := u32_and_nat n 1 (by omega) (by omega)
  rw [show ((1 : Int)) = ((1 : Nat) : Int) from rfl, this, nat_mask1]; simp
theorem xor_pow (b : Int) (r : Nat) (h : 0 ≤ b ∧ b ≤ 255) (hr : r < 8) : bits .xor .u8 b (2 ^ r % 256) = ((b.toNat ^^^ 2 ^ r : Nat) : Int) := by
  have h2 : (2 : Nat) ^ r < 256 := Nat.lt_of_lt_of_le (Nat.pow_lt_pow_right (by omega) hr) (by omega)
  have e : ((2 : Int) ^ r % 256) = ((2 ^ r : Nat) : Int) := by
    have h3 : ((2 : Int) ^ r) = ((2 ^ r : Nat) : Int) := by rw [Int.natCast_pow]; rfl
    rw [h3]
    generalize (2 : Nat) ^ r = p at *
    omega
  obtain ⟨n, rfl⟩ := Int.eq_ofNat_of_zero_le h.1
  rw [e, u8_xor_nat n _ (by omega) h2]
  simp
theorem shr_le (pat : Int) (h : 0 ≤ pat ∧ pat ≤ 4294967295) (m : Nat) : 0 ≤ pat / 2 ^ m ∧ pat / 2 ^ m ≤ 4294967295 :=
  ⟨Int.ediv_nonneg h.1 (Int.pow_nonneg (by omega)), Int.le_trans (Int.ediv_le_self _ h.1) h.2⟩

set_option maxRecDepth 100000 in
set_option maxHeartbeats 2000000 in
theorem pageTurned_any (kind : Int) (B : Option Addr) (capb : Nat) (body : List Int) (at_ pat : Int) (w : World) (hk : 0 ≤ kind ∧ kind ≤ 255) (hcb : body.length ≤ capb) (hb8 : Bytes8 body) (hb : Reads w .u8 B body) (hat : 0 ≤ at_ ∧ at_ ≤ 65535) (hpat : 0 ≤ pat ∧ pat ≤ 4294967295) (ht : HasTab w) (l2 : body.length ≤ 140737488351232) :
    Calls Tryd.prog 4 #[.int .u8 kind, .slice B body.length capb, .int .u16 at_, .int .u32 pat] w fun e w' => e = .returned (.bool true) ∧ Below w.heap.size w w' := by
  have hpos := ht.pos
  have haw := fun w1 (b : Below w.heap.size w w1) => awake_any w1 (ht.below hpos b)
  have Haw := Lib.hid haw
  clear haw
  by_cases hl : 2000 < body.length
  · clear hb
    go_enter Tryd.func4, Tryd.ntmps4
    go_wp2_with fail
    refine (Haw.out w (Below.refl _ _)).mono ?_
    rintro e w1 ⟨rfl, b1⟩
    go_wp2_with fail
    refine (Haw.out w1 b1).mono ?_
    rintro e w2 ⟨rfl, b2⟩
    go_wp2
    go_ret
    exact ⟨rfl, below_trans b1 b2⟩
  · have lp : (pageOf kind body).length = body.length + 9 := pageOf_length kind body
    have p8 := pageOf_bytes kind body hk hb8 (by omega)
    have hlay := fun (w' : World) (h : Below w.heap.size w w') => lay_any w.heap.size (.slice none 0 0) [] kind B capb body w' (Own.nil _ _ _ _) (hb.below h) hb8 hk (by omega) (by simp) (ht.below hpos h) h.size hpos
    have hread := fun (w' : World) (h : Below w.heap.size w w') Aq cq (q : List Int) (n : Nat) (hn : q.length = n) (hl : q.length ≤ 1000000000) (q8 : Bytes8 q) (hq : Reads w' .u8 Aq q) (hcq : q.length ≤ cq) => calls_lenv hn (read_any Aq cq q 0 w' hl hcq q8 hq (ht.below hpos h))
    have hlaw := fun q a i ha hi hai h => turned_read kind body q hk hb8 (by omega) a i (BitVec.ofInt 32 pat) ha hi hai h
    have hbit : ∀ m, (bits .and .u32 (pat / 2 ^ m) 1 == 1) = (BitVec.ofInt 32 pat).getLsbD m := fun m => by
      rw [word_bit pat hpat m, and1_u32 _ (shr_le pat hpat m)]
      rfl
    generalize hL : body.length + 9 = L at lp
    rw [lp] at hlaw
    generalize hpg : pageOf kind body = pg at *
    have Hlay := Lib.hid hlay
    have Hread := Lib.hid hread
    have Hlaw := Lib.hid hlaw
    have Hlp := Lib.hid lp
    have Hbit := Lib.hid hbit
    have hL1 : 9 ≤ L := by omega
    have hL2 : L ≤ 2009 := by omega
    clear hlay hread hlaw lp hb hL hpg hbit
    generalize BitVec.ofInt 32 pat = P at *
    go_enter Tryd.func4, Tryd.ntmps4
    go_wp2_with fail
    refine (Haw.out w (Below.refl _ _)).mono ?_
    rintro e w1 ⟨rfl, b1⟩
    go_wp2_with fail
    refine (Hlay.out w1 b1).mono ?_
    rintro e w3 ⟨v3, rfl, ho3, hg3⟩
    have b3 := b1.grown hg3 b1.size (fun g hg => by simp [Value.ownBlock] at hg)
    rw [List.nil_append] at ho3
    obtain ⟨g, cap, rfl, hc3, hgb, hgl⟩ := ho3.form1 (by have := Hlp.out; omega)
    rw [Hlp.out] at ho3 hc3 ⊢
    have hm1 : (0 : Int) < 8 * (L : Int) - 32 := by omega
    have hm2 := Int.emod_nonneg at_ (show 8 * (L : Int) - 32 ≠ 0 by omega)
    have hm3 := Int.emod_lt_of_pos at_ hm1
    obtain ⟨k, hk'⟩ : ∃ k : Nat, at_ % (8 * (L : Int) - 32) = k := ⟨(at_ % (8 * (L : Int) - 32)).toNat, by omega⟩
    go_wp2
    rw [hk']
    have hk1 : 32 + k < 8 * L := by omega
    have hst := Turned.start pg p8 (32 + k) P
    clear hm1 hm2 hm3 hk' hat
    have HL := Lib.hid (rfl : L = L)
    go_loopw [11, 12] (fun t i wr => ∃ (m : Nat) (q : List Int) (tb : Bool), m ≤ 32 ∧ 32 + k + m ≤ 8 * L ∧ i = .int .i64 m ∧ t = .bool tb ∧ Own wr w.heap.size 5 .u8 (.slice (some ⟨g, 0, none⟩) L cap) q ∧ Turned pg q (32 + k) P m ∧
        Hid (tb = true ↔ ∃ m', m' < m ∧ P.getLsbD m' = true) ∧ Below w.heap.size w wr) (fun _ i _ => 32 - (intOf i).toNat)
    case atStart => exact ⟨0, pg, false, by omega, by omega, rfl, rfl, ho3, hst, Lib.hid (by simp), b3⟩
    case round =>
      clear hst ho3
      obtain ⟨m, q, tb, hm, hmL, rfl, rfl, ho, hT, hany, hbw⟩ := hrel
      by_cases hgo : m < 32 ∧ 32 + k + m < 8 * L
      · obtain ⟨hm32, hmL'⟩ := hgo
        have hB := Hbit.out m
        cases hbm : P.getLsbD m with
        | false =>
          rw [hbm] at hB
          have Hb := Lib.hid hbm
          clear hbm
          go_wp2
          refine ⟨⟨m + 1, q, tb, by omega, by omega, by go_num, rfl, ho, hT.skip Hb.out, Lib.hid ?_, hbw⟩, by simp [intOf]; omega⟩
          rw [hany.out]
          constructor
          · rintro ⟨m', h1, h2⟩; exact ⟨m', by omega, h2⟩
          · rintro ⟨m', h1, h2⟩
            by_cases e : m' = m
            · subst e; rw [Hb.out] at h2; cases h2
            · exact ⟨m', by omega, h2⟩
        | true =>
          rw [hbm] at hB
          have Hb := Lib.hid hbm
          clear hbm
          go_wp2_with fail
          obtain ⟨J, hJ⟩ : ∃ J : Nat, J = 32 + k + m := ⟨_, rfl⟩
          have hJi : 32 + (k : Int) + (m : Int) = (J : Int) := by omega
          rw [hJi]
          have j1 : J / 8 < L := by omega
          have jq : J / 8 < q.length := by rw [hT.1, Hlp.out]; exact j1
          have c0 := ho.cell (J / 8) jq
          have f0 := ho.frozen (J / 8)
          have ho' := ho.store (J / 8) jq
          have hf := hT.flip Hb.out (by rw [Hlp.out]; omega)
          rw [← hJ] at hf
          have HJ := Lib.hid hJ
          have hb0 := hT.2.1 (J / 8) jq
          have s1 : IntKind.i64.wrap ((J : Int).tdiv 8) = ((J / 8 : Nat) : Int) := by
            rw [Int.tdiv_eq_ediv_of_nonneg (by omega), IntWalk.i64_in _ (by omega)]; omega
          have s2 : (J : Int).tmod 8 = ((J % 8 : Nat) : Int) := by rw [Int.tmod_eq_emod_of_nonneg (by omega)]; omega
          have i1 : (0 : Int) ≤ ((J / 8 : Nat) : Int) := by omega
          have i2 : ((J / 8 : Nat) : Int) < (L : Int) := by omega
          have i3 : ((J / 8 : Nat) : Int).toNat = J / 8 := by omega
          have i4 : (0 : Int) ≤ ((J % 8 : Nat) : Int) := by omega
          clear hJ hJi hT hmL'
          go_region
          go_wp2
          refine ⟨⟨m + 1, _, true, by omega, by have := HJ.out; omega, by go_num, rfl, ho' _, hf _ (xor_pow _ _ hb0 (by omega)), Lib.hid ?_, (hbw.setCell (p := ⟨g, J / 8, none⟩) hgb _).drew⟩, by simp [intOf]; omega⟩
          exact ⟨fun _ => ⟨m, by omega, Hb.out⟩, fun _ => rfl⟩
      · have hlaw := Hlaw.out q (32 + k) m (by omega) hm hmL hT
        have hread := Hread.out wr hbw (some ⟨g, 0, none⟩) cap q L (by rw [hT.1, Hlp.out]) (by rw [hT.1, Hlp.out]; omega) hT.2.1 (fun i hi => ⟨_, rfl, by rw [add_plain]; exact ho.cell i hi⟩) (by rw [hT.1, Hlp.out]; exact hc3)
        unfold ReadPost at hread
        have herr : (pgRead q 0).2.2.2 = if tb = true then 4 else 0 := by
          rw [hlaw]
          cases tb with
          | true => rw [if_pos (hany.out.1 rfl), if_pos rfl]
          | false => rw [if_neg (fun h => by have := hany.out.2 h; cases this), if_neg (by simp)]
        rw [herr] at hread
        have Hr := Lib.hid hread
        clear hread hlaw herr ho hT hany
        by_cases h32 : m < 32
        · have hge : ¬ 32 + k + m < 8 * L := fun h => hgo ⟨h32, h⟩
          clear hgo
          go_wp2_with fail
          refine Hr.out.mono ?_
          rintro e w5 ⟨A5, c5, rfl, _, _, b5⟩
          cases tb
          all_goals
            go_wp2
            go_ret
            exact ⟨rfl, below_trans hbw b5⟩
        · clear hgo
          go_wp2_with fail
          refine Hr.out.mono ?_
          rintro e w5 ⟨A5, c5, rfl, _, _, b5⟩
          cases tb
          all_goals
            go_wp2
            go_ret
            exact ⟨rfl, below_trans hbw b5⟩

theorem wf_u16 {k : Int} (h : (Lit.int .u16 k).wf = true) : 0 ≤ k ∧ k ≤ 65535 := by
  simp [Lit.wf, IntKind.min, IntKind.max, IntKind.bits, IntKind.signed] at h
  omega
theorem wf_u32t {k : Int} (h : (Lit.int .u32 k).wf = true) : 0 ≤ k ∧ k ≤ 4294967295 := by
  simp [Lit.wf, IntKind.min, IntKind.max, IntKind.bits, IntKind.signed] at h
  omega
theorem wf_u8t {k : Int} (h : (Lit.int .u8 k).wf = true) : 0 ≤ k ∧ k ≤ 255 := by
  simp [Lit.wf, IntKind.min, IntKind.max, IntKind.bits, IntKind.signed] at h
  omega
/-- The walk of PageTurned. -/
theorem pageTurned_walk (W : World) (kind : Int) (hk : (Lit.int .u8 kind).wf = true) (B : Option Addr) (capb : Nat) (body : List Int) (hcb : body.length ≤ capb) (h2 : body.length * 1 ≤ 140737488351232) (hrb : Reads W .u8 B body) (hwb : Wf8 body)
    (at_ : Int) (hat : (Lit.int .u16 at_).wf = true) (pat : Int) (hp : (Lit.int .u32 pat).wf = true) (hL : Laid W) :
    Calls Tryd.prog 4 #[.int .u8 kind, .slice B body.length capb, .int .u16 at_, .int .u32 pat] W fun e w' => e = .returned (.bool true) ∧ Below W.heap.size W w' :=
  pageTurned_any kind B capb body at_ pat W (wf_u8t hk) hcb (wf_bytes hwb) hrb (wf_u16 hat) (wf_u32t hp) (tab_of_laid hL) (by omega)
end Go.Proofs.YtnpdamahennojaaDoor
