import Derived.Test.YtnpdamahennojaaDoorPgF
namespace Go.Proofs.YtnpdamahennojaaDoor
open Go.RowKit
set_option linter.unusedVariables false

theorem u8_xor1 (k : Int) (h : 0 ≤ k ∧ k ≤ 255) : bits .xor .u8 k 1 ≠ k ∧ 0 ≤ bits .xor .u8 k 1 ∧ bits .xor .u8 k 1 ≤ 255 := by
  have hall : ∀ m : Fin 256, bits .xor .u8 (m.val : Int) 1 ≠ (m.val : Int) ∧ 0 ≤ bits .xor .u8 (m.val : Int) 1 ∧ bits .xor .u8 (m.val : Int) 1 ≤ 255 := by decide +kernel
  obtain ⟨n, rfl⟩ := Int.eq_ofNat_of_zero_le h.1
  exact hall ⟨n, by omega⟩
theorem wf_u8 {k : Int} (h : (Lit.int .u8 k).wf = true) : 0 ≤ k ∧ k ≤ 255 := by
  simp [Lit.wf, IntKind.min, IntKind.max, IntKind.bits, IntKind.signed] at h
  omega
theorem calls_len2 {P : Program} {f : FuncId} {A : Option Addr} {m n c : Nat} {v : Value} {w : World} {R : Ending → World → Prop} (h : m = n) (k : Calls P f #[.slice A m c, v] w R) : Calls P f #[.slice A n c, v] w R := h ▸ k
theorem strOfNums_append (a b : List Int) : strOfNums a ++ strOfNums b = strOfNums (a ++ b) := by
  unfold strOfNums
  rw [List.map_append]
  rfl

set_option maxRecDepth 100000 in
set_option maxHeartbeats 1000000 in
theorem pageLays_any (A : Option Addr) (cap : Nat) (xs : List Int) (kind : Int) (B : Option Addr) (capb : Nat) (body : List Int) (w : World) (hc : xs.length ≤ cap) (h8 : Bytes8 xs) (hx : Reads w .u8 A xs)
    (hk : 0 ≤ kind ∧ kind ≤ 255) (hcb : body.length ≤ capb) (hb8 : Bytes8 body) (hb : Reads w .u8 B body) (ht : HasTab w) (l1 : xs.length ≤ 140737488351232) (l2 : body.length ≤ 140737488351232) :
    Calls Tryd.prog 8 #[.slice A xs.length cap, .int .u8 kind, .slice B body.length capb] w fun e w' => e = .returned (.bool true) ∧ Below w.heap.size w w' := by
  have hpos := ht.pos
  by_cases hl : 3000 < xs.length + body.length
  · have hl' : (3000 : Int) < (xs.length : Int) + (body.length : Int) := by omega
    clear hx hb
    go_enter Tryd.func8, Tryd.ntmps8
    go_wp2_with fail
    refine (awake_any w ht).mono ?_
    rintro e w1 ⟨rfl, b1⟩
    go_wp2_with fail
    refine (awake_any w1 (ht.below hpos b1)).mono ?_
    rintro e w2 ⟨rfl, b2⟩
    go_wp2
    go_ret
    exact ⟨rfl, below_trans b1 b2⟩
  · have lp : (pageOf kind body).length = body.length + 9 := pageOf_length kind body
    have lq : (xs ++ pageOf kind body).length = xs.length + (body.length + 9) := by rw [List.length_append, lp]
    have p8 := pageOf_bytes kind body hk hb8 (by omega)
    have q8 := h8.append p8
    have hr1 := read_page xs kind body [] hk hb8 (by omega) Bytes8.nil
    rw [List.append_nil] at hr1
    have hr2 := one_page kind kind body hk hb8 (by omega)
    rw [if_pos rfl] at hr2
    have hx1 := u8_xor1 kind hk
    have hr3 := one_page kind (bits .xor .u8 kind 1) body hk hb8 (by omega)
    rw [if_neg (Ne.symm hx1.1)] at hr3
    have hdrop : (xs ++ pageOf kind body).drop xs.length = pageOf kind body := by simp
    have hstr : strOfNums xs ++ strOfNums (pageOf kind body) = strOfNums (xs ++ pageOf kind body) := strOfNums_append _ _
    have hlay := fun (w' : World) (h : Below w.heap.size w w') pv (ho : Own w' w.heap.size 5 .u8 pv xs) => lay_any w.heap.size pv xs kind B capb body w' ho (hb.below h) hb8 hk (by omega) (by omega) (ht.below hpos h) h.size hpos
    have hrlay := fun (w' : World) (h : Reads w' .u8 B body) => ref_lay_any kind B capb body w' h hb8 hk (by omega)
    have hread := fun (w' : World) (h : Below w.heap.size w w') Aq cq (hq : Reads w' .u8 Aq (xs ++ pageOf kind body)) (hcq : (xs ++ pageOf kind body).length ≤ cq) => read_any Aq cq (xs ++ pageOf kind body) xs.length w' (by omega) hcq q8 hq (ht.below hpos h)
    unfold ReadPost at hread
    simp only [hr1] at hread
    have hone := fun (w' : World) (h : Below w.heap.size w w') Aq cq (n : Nat) (hn : (pageOf kind body).length = n) (hq : Reads w' .u8 Aq (pageOf kind body)) (hcq : (pageOf kind body).length ≤ cq) => calls_len2 hn (one_any Aq cq (pageOf kind body) kind w' (by omega) hcq p8 hq (ht.below hpos h))
    have hone' := fun (w' : World) (h : Below w.heap.size w w') Aq cq (n : Nat) (hn : (pageOf kind body).length = n) (hq : Reads w' .u8 Aq (pageOf kind body)) (hcq : (pageOf kind body).length ≤ cq) => calls_len2 hn (one_any Aq cq (pageOf kind body) (bits .xor .u8 kind 1) w' (by omega) hcq p8 hq (ht.below hpos h))
    unfold OnePost at hone hone'
    simp only [hr2, hr3] at hone hone'
    generalize xs ++ pageOf kind body = q at *
    generalize pageOf kind body = pg at *
    have Hlay := Lib.hid hlay
    have Hrlay := Lib.hid hrlay
    have Hread := Lib.hid hread
    have Hone := Lib.hid hone
    have Hone' := Lib.hid hone'
    have Hlq := Lib.hid lq
    have Hlp := Lib.hid lp
    have Hdrop := Lib.hid hdrop
    have hstr2 : ((strOfNums q).toList == (strOfNums xs ++ strOfNums pg).toList) = true := by rw [hstr]; exact beq_self_eq_true _
    have lq1 : q.length ≤ 4000 := by omega
    clear hlay hrlay hread hone hone' lq lp hdrop hr1 hr2 hr3 hstr
    go_enter Tryd.func8, Tryd.ntmps8
    go_wp2_with fail
    refine (awake_any w ht).mono ?_
    rintro e w1 ⟨rfl, b1⟩
    have x1 := hx.below b1
    have X := Lib.hid hx
    have Y := Lib.hid hb
    clear hx hb
    go_wp2_with (first
      | (at_builtin
         refine wpList_append rfl w1 _ _ 22 rfl w.heap.size 5 .u8 1 Tryd.underlying22 Tryd.info5 (.slice none 0 0) [] rfl (Own.nil _ _ _ _) A cap xs rfl x1 (by unfold maxLen; simp; omega) (by simp; omega) b1.size ?_
         intro v2 w2 ho2 hg2 ha2))
    have b2 := b1.grown hg2 b1.size (fun g hg => by simp [Value.ownBlock] at hg)
    refine (Hlay.out w2 b2 v2 ho2).mono ?_
    rintro e w3 ⟨v3, rfl, ho3, hg3⟩
    have b3 := b2.grown hg3 b2.size (fun g hg => (ho2.lt g hg).1)
    obtain ⟨A3, c3, rfl, hc3, q3⟩ := ho3.form
    obtain ⟨a3, rfl⟩ := q3.some_ (by have := Hlq.out; omega)
    have hne : ¬ c3 = xs.length := by have := Hlq.out; omega
    have hle : xs.length ≤ q.length := by have := Hlq.out; omega
    have Hlen : Hid (pg.length = q.length - xs.length) := Lib.hid (by have := Hlq.out; have := Hlp.out; omega)
    have hpc : pg.length ≤ c3 - xs.length := by have := Hlq.out; have := Hlp.out; omega
    clear ho2 hg2 ha2
    have x3 := X.out.below b3
    have y3 := Y.out.below b3
    have kq := conv_of (c := c3) (w := w3.drew) q3
    have kx := conv_of (c := cap) (w := w3.drew) x3
    have z1 : (strOfNums xs).size + (strOfNums pg).size ≤ 9223372036854775807 := by rw [strOfNums_size, strOfNums_size]; have := Hlp.out; omega
    go_wp2_with fail
    go_region_with (first | (go_at_call 17; ((with_reducible refine (Hrlay.out _ ?_).mono ?_)); exact y3; rintro e w4 ⟨v4, rfl, ho4, b4⟩; obtain ⟨A4, c4, rfl, hc4, r4⟩ := ho4.form; have kp4 := conv_of (c := c4) r4; have kq4 := conv_of (c := c3) (Reads.below (w := w3.drew) q3 b4); have kx4 := conv_of (c := cap) (Reads.below (w := w3.drew) x3 b4)))
    all_goals
      have b4' := b3.drew.trans (b4.mono (by simpa using b3.size))
      have q4 := Reads.below (w := w3.drew) q3 b4
      clear kq kx kp4 kq4 kx4
      go_wp2_with fail
      refine (Hread.out _ b4' _ _ q4 hc3).mono ?_
      rintro e w5 ⟨A5, c5, rfl, _, r5, b5⟩
      have b5' := below_trans b4' b5
      have g5 := (q4.below b5).drop xs.length
      rw [Hdrop.out] at g5
      go_wp2_with fail
      refine (Hone.out _ b5' _ _ _ Hlen.out g5 hpc).mono ?_
      rintro e w6 ⟨A6, c6, rfl, _, r6, b6⟩
      have b6' := below_trans b5' b6
      have g6 := g5.below b6
      go_wp2_with fail
      refine (Hone'.out _ b6' _ _ _ Hlen.out g6 hpc).mono ?_
      rintro e w7 ⟨A7, c7, rfl, _, r7, b7⟩
      have b7' := below_trans b6' b7
      have k5 := conv_of (c := c5) ((r5.below b6).below b7)
      have k6 := conv_of (c := c6) (r6.below b7)
      have kb := conv_of (c := capb) (Y.out.below b7')
      have hend : ((xs.length : Int) + 9 + (body.length : Int) == (q.length : Int)) = true := by rw [beq_iff_eq]; have := Hlq.out; omega
      go_wp2
      go_ret
      exact ⟨rfl, b7'⟩

/-- The walk of PageLays. -/
theorem pageLays_walk (W : World) (A : Option Addr) (cap : Nat) (xs : List Int) (hc : xs.length ≤ cap) (h1 : xs.length * 1 ≤ 140737488351232) (hr : Reads W .u8 A xs) (hw : Wf8 xs) (kind : Int) (hk : (Lit.int .u8 kind).wf = true)
    (B : Option Addr) (capb : Nat) (body : List Int) (hcb : body.length ≤ capb) (h2 : body.length * 1 ≤ 140737488351232) (hrb : Reads W .u8 B body) (hwb : Wf8 body) (hL : Laid W) :
    Calls Tryd.prog 8 #[.slice A xs.length cap, .int .u8 kind, .slice B body.length capb] W fun e w' => e = .returned (.bool true) ∧ Below W.heap.size W w' :=
  pageLays_any A cap xs kind B capb body W hc (wf_bytes hw) hr (wf_u8 hk) hcb (wf_bytes hwb) hrb (tab_of_laid hL) (by omega) (by omega)
end Go.Proofs.YtnpdamahennojaaDoor
