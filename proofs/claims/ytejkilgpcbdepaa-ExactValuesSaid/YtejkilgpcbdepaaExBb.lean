import Derived.Test.YtejkilgpcbdepaaExBy
import Derived.Test.YtejkilgpcbdepaaOwn2
/-! Exact sums: a sum's bytes: the walk. -/
namespace Go.Proofs.Ytejkilgpcbdepaa
open Go.RowKit
set_option linter.unusedVariables false
attribute [-simp] Try.isAgg28
attribute [-simp] Try.isAgg30 Try.sizeOf30 Try.typeInfo30 Try.type30

def lenV : Value → Nat
  | .slice _ n _ => n
  | _ => 0
theorem infoU8 : (Try.prog.info? 5).map (fun i => (i.zero, i.size, i.bytes)) = some (some (.int .u8 0), 1, 1) := by kernel_rfl
theorem run_index5 (E : Array Value) (hsz : E.size = 5) (k : Nat) (hk : k < 5) (b : Bool) (h : E[k]? = some (.bool b)) (w : World) :
    (Instr.index 76 (.agg E) (.int .i64 (k : Int))).run Try.prog w = .ok (.bool b) w := by
  have hv := at_of (by omega) h
  simp [Instr.index, run_underlying Try.underlying76, asIntOf, go_sem, part, hk, hv, hsz, Try.sizeOf4, Try.isAgg4, Sem.run_bind, Result.andThen]
theorem marks_at (A : Nat → Bool) (k : Nat) (hk : k < 5) : (#[Value.bool (A 0), .bool (A 1), .bool (A 2), .bool (A 3), .bool (A 4)] : Array Value)[k]? = some (.bool (A k)) := by
  match k, hk with
  | 0, _ => rfl
  | 1, _ => rfl
  | 2, _ => rfl
  | 3, _ => rfl
  | 4, _ => rfl
theorem pw_wrap (k : Nat) (hk : k < 5) : IntKind.u8.wrap (2 ^ k) = pw k := by
  match k, hk with
  | 0, _ => rfl
  | 1, _ => rfl
  | 2, _ => rfl
  | 3, _ => rfl
  | 4, _ => rfl
set_option maxRecDepth 100000 in
set_option maxHeartbeats 4000000 in
theorem bytes_any (s : St) (w : World) : Calls Try.prog 31 #[.agg (sumC s)] w fun e w' => ∃ v, e = .returned v ∧ Own w' w.heap.size 5 .u8 v (bytesOf s) ∧ Below w.heap.size w w' := by
  have Hs28 := Lib.hid size28
  have hfr : ∀ i, i < (ws s.w).size → (sumC s)[i]? = (ws s.w)[i]? := fun i hi => by
    rw [ws_size] at hi
    rw [sumC_w _ i hi, ws_at _ _ hi]
  have Hfr := Lib.hid hfr
  have hfl : ∀ f, f < 5 → (sumC s)[35 + f]? = some (.bool (fl s f)) := fun f hf => sumC_fl s.w (fl s) f hf
  have c0 : (sumC s)[35]? = some (.bool (fl s 0)) := hfl 0 (by decide)
  have c1 : (sumC s)[36]? = some (.bool (fl s 1)) := hfl 1 (by decide)
  have c2 : (sumC s)[37]? = some (.bool (fl s 2)) := hfl 2 (by decide)
  have c3 : (sumC s)[38]? = some (.bool (fl s 3)) := hfl 3 (by decide)
  have c4 : (sumC s)[39]? = some (.bool (fl s 4)) := hfl 4 (by decide)
  have Hby : Hid (∀ k j, j < 8 → ((wdn s.w k : Nat) : Int) / 2 ^ (8 * j) % 256 = byt s.w (8 * k + j)) := Lib.hid (byt_word s.w)
  have Hb : Hid (bytesOf s = fbyte (fl s) 5 :: full s.w (trim (byt s.w) (restOf (sgOf s.w)) 280)) := Lib.hid rfl
  clear hfr hfl
  generalize fl s = A at *
  have hC := sumC_size s
  generalize sumC s = C at *
  have C0 := at_of (by omega) c0
  have C1 := at_of (by omega) c1
  have C2 := at_of (by omega) c2
  have C3 := at_of (by omega) c3
  have C4 := at_of (by omega) c4
  clear c0 c1 c2 c3 c4
  go_enter Try.func31, Try.ntmps31
  go_wp2_with fail
  go_loop [3, 22] (fun f i => ∃ k : Nat, k ≤ 5 ∧ i = .int .i64 k ∧ f = .int .u8 (fbyte A k)) (fun _ i => 5 - (intOf i).toNat)
  case atStart => exact ⟨0, by omega, rfl, rfl⟩
  case round =>
    obtain ⟨k, hk, rfl, rfl⟩ := hrel
    by_cases hlt : k < 5
    · have hF : fbyte A (k + 1) = if A k = true then bits .or .u8 (fbyte A k) (pw k) else fbyte A k := rfl
      have HF := Lib.hid hF
      clear hF
      clear C0 C1 C2 C3 C4 Hfr Hby Hb hC Hs28
      have hidx := run_index5 _ rfl k hlt (A k) (marks_at A k hlt)
      have hpw := pw_wrap k hlt
      generalize fbyte A k = F at *
      cases hA : A k
      all_goals
        rw [hA] at HF hidx
        have hA := Lib.hid hA
        go_wp2
        exact ⟨⟨k + 1, by omega, by go_num, by rw [HF.out]; first | rfl | (simp [hpw]; done)⟩, by simp [intOf]; omega⟩
    · obtain rfl : k = 5 := by omega
      generalize fbyte A 5 = F at *
      have hg := heap_alloc_new w (.cells C 30)
      have b1 := below_alloc (Below.refl w.heap.size w) (.cells C 30)
      go_wp2_with (first
        | (refine at_op (.load 28 (.tmp 32)) ?_ rfl; refine wpList_load_front rfl _ 28 (.tmp 32) rfl w.heap.size rfl _ (ws s.w) 30 (0, 0) _ hg Hfr.out Try.underlying28 rfl (by rw [ws_size]; exact Hs28.out) ?_))
      have hD : (ws s.w).size = 35 := ws_size _
      have Hat : Hid (∀ i, i < 35 → (ws s.w)[i]? = some (wdv s.w i)) := Lib.hid fun i h => ws_at _ i h
      have h34 : C[34]? = some (.int .u64 (wdn s.w 34 : Nat)) := by rw [Hfr.out 34 (by omega)]; exact Hat.out 34 (by decide)
      clear C0 C1 C2 C3 C4 Hfr
      have hgl : w.heap.size < (w.alloc (.cells C 30)).heap.size := heap_lt hg
      generalize w.alloc (.cells C 30) = w1 at *
      generalize ws s.w = D at *
      go_loopw [6, 34] (fun p i wr => ∃ k : Nat, k ≤ 35 ∧ i = .int .i64 k ∧ Own wr (w.heap.size + 1) 5 .u8 p (full s.w (8 * k)) ∧ wr.heap[w.heap.size]? = some (.cells C 30 (0, 0)) ∧ Below w.heap.size w wr) (fun _ i _ => 35 - (intOf i).toNat)
      case atStart => exact ⟨0, by omega, rfl, Own.nil _ _ _ _, hg, b1⟩
      case round =>
        clear hg b1 hgl
        obtain ⟨k, hk, rfl, ho, hg, hb⟩ := hrel
        by_cases hlt : k < 35
        · have hw : D[k]'(by omega) = .int .u64 (wdn s.w k : Nat) := at_of _ (Hat.out k hlt)
          have hwr := wdn_lt s.w k
          have Hbk := Lib.hid (fun j hj => Hby.out k j hj)
          clear h34
          have hidx := run_index35 D hD k hlt _ (Hat.out k hlt)
          generalize wdn s.w k = x at *
          have Hb := Lib.hid Hb.out
          have hkd : decide ((k : Int) < 35) = true := decide_eq_true (by omega)
          clear hw
          go_wp2_with fail
          go_loopw [6, 37] (fun p i wr => ∃ j : Nat, j ≤ 8 ∧ i = .int .i64 j ∧ Own wr (w.heap.size + 1) 5 .u8 p (full s.w (8 * k + j)) ∧ wr.heap[w.heap.size]? = some (.cells C 30 (0, 0)) ∧ Below w.heap.size w wr) (fun _ i _ => 8 - (intOf i).toNat)
          case atStart => exact ⟨0, by omega, rfl, ho, hg, hb⟩
          case round =>
            clear ho hg hb
            obtain ⟨j, hj, rfl, ho, hg, hb⟩ := hrel
            by_cases hjl : j < 8
            · have hbj := Hbk.out j hjl
              have l1 : (full s.w (8 * k + j)).length + [byt s.w (8 * k + j)].length ≤ maxLen := by rw [full_length]; show 8 * k + j + 1 ≤ maxLen; unfold maxLen; omega
              have l2 : ((full s.w (8 * k + j)).length + [byt s.w (8 * k + j)].length) * 1 ≤ 140737488355328 := by rw [full_length]; show (8 * k + j + 1) * 1 ≤ _; omega
              have hgl := heap_lt hg
              have oa := ho.alloc (.cells #[.int .u8 (byt s.w (8 * k + j))] 5)
              have olt := oa.lt
              have ba := below_alloc hb (.cells #[.int .u8 (byt s.w (8 * k + j))] 5)
              have ra := Reads.one wr 5 .u8 (byt s.w (8 * k + j))
              have hga : (wr.alloc (.cells #[.int .u8 (byt s.w (8 * k + j))] 5)).heap[w.heap.size]? = some (.cells C 30 (0, 0)) := (below_alloc (Below.refl wr.heap.size wr) _).block _ hgl |>.trans hg
              have hgla := heap_lt hga
              clear hidx hg ho hb
              have hga := Lib.hid hga
              go_wp2_with (first
                | (at_builtin
                   refine wpList_append rfl _ (.tmp 40) (.tmp 46) 47 rfl (w.heap.size + 1) 5 .u8 1 Try.underlying47 infoU8 _ (full s.w (8 * k + j)) rfl oa _ 1 [byt s.w (8 * k + j)] rfl ra l1 l2 hgla ?_
                   intro v2 w2 ho2 hg2 _))
              go_roundw
              case rel => exact ⟨j + 1, by omega, by go_num, ho2, (hg2.block w.heap.size hgla (fun e => by have := (olt _ e.symm).1; omega)).trans hga.out, ba.grown hg2 ba.size (fun g hg => by have := (olt g hg).1; omega)⟩
              case measure => simp [intOf]; omega
            · obtain rfl : j = 8 := by omega
              go_wp2
              exact ⟨⟨k + 1, by omega, by go_num, ho, hg, hb⟩, by simp [intOf]; omega⟩
        · obtain rfl : k = 35 := by omega
          have hc34 : wr.cell? ⟨w.heap.size, 34, none⟩ = some (.int .u64 (wdn s.w 34 : Nat)) := by rw [cell_of_row _ _ _ _ _ _ hg]; exact h34
          have hbel := hb.size
          obtain ⟨g6, c6, rfl, hc6, _, _⟩ := ho.form1 (by rw [full_length]; omega)
          have r6 : Reads wr .u8 (some ⟨g6, 0, none⟩) (full s.w (8 * 35)) := by
            obtain ⟨A', c', e, _, r⟩ := ho.form
            cases e
            exact r
          have hsq : (((wdn s.w 34 : Nat) : Int) / 9223372036854775808 == 1) = sgOf s.w := by
            have := wdn_lt s.w 34
            unfold sgOf
            rw [Bool.eq_iff_iff, beq_iff_eq, decide_eq_true_eq]; omega
          have hlen : (full s.w (8 * 35)).length = 280 := full_length _ _
          rw [hlen] at hc6
          rw [hlen]
          have hrd : ∀ i, i < 280 → wr.cell? ⟨g6, i, none⟩ = some (.int .u8 (byt s.w i)) := fun i hi => by
            have := r6.lit i (by rw [hlen]; exact hi)
            rw [rd_full _ _ _ hi, add_plain] at this
            exact this
          have Hrd := Lib.hid hrd
          have R6 := Lib.hid r6
          clear ho r6 hlen hrd hg h34 Hat Hby
          generalize wdn s.w 34 = x34 at *
          obtain ⟨r, hr⟩ : ∃ r, r = restOf (sgOf s.w) := ⟨_, rfl⟩
          have hrs : (sgOf s.w = true ∧ r = 255) ∨ (sgOf s.w = false ∧ r = 0) := by
            rw [hr]; unfold restOf
            cases sgOf s.w <;> simp
          rw [← hr] at Hb
          clear hr
          obtain ⟨T, hT⟩ : ∃ T, T = trim (byt s.w) r 280 := ⟨_, rfl⟩
          rw [← hT] at Hb
          have HT := Lib.hid hT
          clear hT
          have fin : ∀ n, n ≤ 280 → T = n → [F] ++ (full s.w (8 * 35)).take n = bytesOf s := fun n hn ht => by
            rw [Hb.out, ht, full_take s.w n (8 * 35) hn]; rfl
          have Fin := Lib.hid fin
          have hbr := byt_range s.w
          have Htr : Hid (∀ n, trim (byt s.w) r (n + 1) = if byt s.w n = r ∧ ((n = 0 ∧ r = 0) ∨ (0 < n ∧ byt s.w (n - 1) / 128 = r / 128)) then trim (byt s.w) r n else n + 1) := Lib.hid fun n => rfl
          have hlen2 : ∀ n, n ≤ 280 → ((full s.w (8 * 35)).take n).length = n := fun n hn => by rw [List.length_take, full_length]; omega
          have Hlen2 := Lib.hid hlen2
          clear fin Hb hlen2 hC
          rcases hrs with ⟨hsg, rfl⟩ | ⟨hsg, rfl⟩
          · rw [hsg] at hsq
            clear hsg
            go_wp2_with fail
            go_loop [6] (fun p => ∃ n : Nat, n ≤ 280 ∧ p = .slice (some ⟨g6, 0, none⟩) n c6 ∧ T = trim (byt s.w) 255 n) (fun p => lenV p)
            case atStart => exact ⟨280, by omega, rfl, HT.out⟩
            case round =>
              obtain ⟨n, hn, rfl, ht⟩ := hrel
              by_cases h0 : n = 0
              · subst h0
                have hfin := Fin.out (0) hn (by rw [ht]; rfl)
                have rF := R6.out.take (0)
                have hl := Hlen2.out (0) hn
                have l1 : [F].length + ((full s.w (8 * 35)).take (0)).length ≤ maxLen := by rw [hl]; show 1 + (0) ≤ maxLen; unfold maxLen; omega
                have l2 : ([F].length + ((full s.w (8 * 35)).take (0)).length) * 1 ≤ 140737488355328 := by rw [hl]; show (1 + (0)) * 1 ≤ _; omega
                have Hl := Lib.hid hl
                clear hl Hrd ht hbr Fin Htr Hlen2
                generalize (full s.w (8 * 35)).take (0) = ys at *
                have Hfin := Lib.hid hfin
                clear hfin
                have rF2 := rF.below (below_alloc (Below.refl wr.heap.size wr) (.cells #[.int .u8 F] 5))
                have oF := Own.new wr wr.heap.size 5 .u8 [F] #[.int .u8 F] rfl (Nat.le_refl _) (by show 1 ≤ maxLen; unfold maxLen; omega)
                have bF := below_alloc hb (.cells #[.int .u8 F] 5)
                have hbF : wr.heap.size ≤ (wr.alloc (.cells #[.int .u8 F] 5)).heap.size := by simp
                clear rF hb R6
                go_wp2_with (first
                  | (at_builtin
                     refine wpList_append rfl _ (.tmp 100) (.tmp 101) 47 rfl wr.heap.size 5 .u8 1 Try.underlying47 infoU8 _ [F] rfl oF (some ⟨g6, 0, none⟩) c6 ys (by rw [Hl.out]; rfl) rF2 l1 l2 hbF ?_
                     intro v9 w9 ho9 hg9 _))
                go_ret
                exact ⟨v9, rfl, Hfin.out ▸ ho9.mono hbel, bF.grown hg9 bF.size (fun g hg => by have := (oF.lt g hg).1; omega)⟩
              obtain ⟨m, rfl⟩ : ∃ m, n = m + 1 := ⟨n - 1, by omega⟩
              have cm := Hrd.out m (by omega)
              have hxr := hbr m
              by_cases hx : byt s.w m = 255
              · have hxb : (byt s.w m == 255) = true := by rw [hx]; rfl
                by_cases hm0 : m = 0
                · subst hm0
                  have Hx := Lib.hid hx
                  clear hx
                  generalize hX : byt s.w 0 = x at *
                  have HX := Lib.hid hX
                  clear hX
                  have hfin := Fin.out (0 + 1) hn (by rw [ht]; rw [Htr.out]; exact if_neg (fun h => by rcases h.2 with h | h <;> omega))
                  have rF := R6.out.take (0 + 1)
                  have hl := Hlen2.out (0 + 1) hn
                  have l1 : [F].length + ((full s.w (8 * 35)).take (0 + 1)).length ≤ maxLen := by rw [hl]; show 1 + (0 + 1) ≤ maxLen; unfold maxLen; omega
                  have l2 : ([F].length + ((full s.w (8 * 35)).take (0 + 1)).length) * 1 ≤ 140737488355328 := by rw [hl]; show (1 + (0 + 1)) * 1 ≤ _; omega
                  have Hl := Lib.hid hl
                  clear hl Hrd ht hbr Fin Htr Hlen2
                  generalize (full s.w (8 * 35)).take (0 + 1) = ys at *
                  have Hfin := Lib.hid hfin
                  clear hfin
                  have rF2 := rF.below (below_alloc (Below.refl wr.heap.size wr) (.cells #[.int .u8 F] 5))
                  have oF := Own.new wr wr.heap.size 5 .u8 [F] #[.int .u8 F] rfl (Nat.le_refl _) (by show 1 ≤ maxLen; unfold maxLen; omega)
                  have bF := below_alloc hb (.cells #[.int .u8 F] 5)
                  have hbF : wr.heap.size ≤ (wr.alloc (.cells #[.int .u8 F] 5)).heap.size := by simp
                  clear rF hb R6
                  go_wp2_with (first
                    | (at_builtin
                       refine wpList_append rfl _ (.tmp 100) (.tmp 101) 47 rfl wr.heap.size 5 .u8 1 Try.underlying47 infoU8 _ [F] rfl oF (some ⟨g6, 0, none⟩) c6 ys (by rw [Hl.out]; rfl) rF2 l1 l2 hbF ?_
                       intro v9 w9 ho9 hg9 _))
                  go_ret
                  exact ⟨v9, rfl, Hfin.out ▸ ho9.mono hbel, bF.grown hg9 bF.size (fun g hg => by have := (oF.lt g hg).1; omega)⟩
                obtain ⟨q, rfl⟩ : ∃ q, m = q + 1 := ⟨m - 1, by omega⟩
                have cq := Hrd.out q (by omega)
                have hyr := hbr q
                have Hx := Lib.hid hx
                clear hx hm0
                by_cases hy : byt s.w q / 128 = 1
                · have hyb : (byt s.w q / 128 == 1) = true := by rw [hy]; rfl
                  have Hy := Lib.hid hy
                  clear hy
                  have ht2 : T = trim (byt s.w) 255 (q + 1) := by
                    rw [ht, Htr.out]
                    exact if_pos ⟨Hx.out, .inr ⟨by omega, by rw [show q + 1 - 1 = q by omega, Hy.out]; rfl⟩⟩
                  have Ht2 := Lib.hid ht2
                  rw [Hx.out] at cm
                  clear ht2 ht Hx Hy hxb hxr
                  generalize byt s.w q = y at *
                  go_wp2
                  exact ⟨⟨q + 1, by omega, by go_num, Ht2.out⟩, by simp [lenV]⟩
                · have hyb : (byt s.w q / 128 == 1) = false := by rw [beq_eq_false_iff_ne]; exact hy
                  have Hy := Lib.hid hy
                  clear hy
                  have htr : trim (byt s.w) 255 (q + 1 + 1) = q + 1 + 1 := by
                    rw [Htr.out]
                    exact if_neg (fun h => by
                      rcases h.2 with h | h
                      · omega
                      · exact Hy.out (by rw [show q + 1 - 1 = q by omega] at h; exact h.2))
                  have Htr2 := Lib.hid htr
                  clear htr
                  generalize hX : byt s.w (q + 1) = x at *
                  generalize hY : byt s.w q = y at *
                  clear hX hY
                  have hfin := Fin.out (q + 1 + 1) hn (by rw [ht]; exact Htr2.out)
                  have rF := R6.out.take (q + 1 + 1)
                  have hl := Hlen2.out (q + 1 + 1) hn
                  have l1 : [F].length + ((full s.w (8 * 35)).take (q + 1 + 1)).length ≤ maxLen := by rw [hl]; show 1 + (q + 1 + 1) ≤ maxLen; unfold maxLen; omega
                  have l2 : ([F].length + ((full s.w (8 * 35)).take (q + 1 + 1)).length) * 1 ≤ 140737488355328 := by rw [hl]; show (1 + (q + 1 + 1)) * 1 ≤ _; omega
                  have Hl := Lib.hid hl
                  clear hl Hrd ht hbr Fin Htr Hlen2
                  generalize (full s.w (8 * 35)).take (q + 1 + 1) = ys at *
                  have Hfin := Lib.hid hfin
                  clear hfin
                  have rF2 := rF.below (below_alloc (Below.refl wr.heap.size wr) (.cells #[.int .u8 F] 5))
                  have oF := Own.new wr wr.heap.size 5 .u8 [F] #[.int .u8 F] rfl (Nat.le_refl _) (by show 1 ≤ maxLen; unfold maxLen; omega)
                  have bF := below_alloc hb (.cells #[.int .u8 F] 5)
                  have hbF : wr.heap.size ≤ (wr.alloc (.cells #[.int .u8 F] 5)).heap.size := by simp
                  clear rF hb R6
                  go_wp2_with (first
                    | (at_builtin
                       refine wpList_append rfl _ (.tmp 100) (.tmp 101) 47 rfl wr.heap.size 5 .u8 1 Try.underlying47 infoU8 _ [F] rfl oF (some ⟨g6, 0, none⟩) c6 ys (by rw [Hl.out]; rfl) rF2 l1 l2 hbF ?_
                       intro v9 w9 ho9 hg9 _))
                  go_ret
                  exact ⟨v9, rfl, Hfin.out ▸ ho9.mono hbel, bF.grown hg9 bF.size (fun g hg => by have := (oF.lt g hg).1; omega)⟩
              · have hxb : (byt s.w m == 255) = false := by rw [beq_eq_false_iff_ne]; exact hx
                have Hx := Lib.hid hx
                clear hx
                have htr : trim (byt s.w) 255 (m + 1) = m + 1 := by
                  rw [Htr.out]
                  exact if_neg (fun h => Hx.out h.1)
                have Htr2 := Lib.hid htr
                clear htr
                generalize hX : byt s.w m = x at *
                clear hX
                have hfin := Fin.out (m + 1) hn (by rw [ht]; exact Htr2.out)
                have rF := R6.out.take (m + 1)
                have hl := Hlen2.out (m + 1) hn
                have l1 : [F].length + ((full s.w (8 * 35)).take (m + 1)).length ≤ maxLen := by rw [hl]; show 1 + (m + 1) ≤ maxLen; unfold maxLen; omega
                have l2 : ([F].length + ((full s.w (8 * 35)).take (m + 1)).length) * 1 ≤ 140737488355328 := by rw [hl]; show (1 + (m + 1)) * 1 ≤ _; omega
                have Hl := Lib.hid hl
                clear hl Hrd ht hbr Fin Htr Hlen2
                generalize (full s.w (8 * 35)).take (m + 1) = ys at *
                have Hfin := Lib.hid hfin
                clear hfin
                have rF2 := rF.below (below_alloc (Below.refl wr.heap.size wr) (.cells #[.int .u8 F] 5))
                have oF := Own.new wr wr.heap.size 5 .u8 [F] #[.int .u8 F] rfl (Nat.le_refl _) (by show 1 ≤ maxLen; unfold maxLen; omega)
                have bF := below_alloc hb (.cells #[.int .u8 F] 5)
                have hbF : wr.heap.size ≤ (wr.alloc (.cells #[.int .u8 F] 5)).heap.size := by simp
                clear rF hb R6
                go_wp2_with (first
                  | (at_builtin
                     refine wpList_append rfl _ (.tmp 100) (.tmp 101) 47 rfl wr.heap.size 5 .u8 1 Try.underlying47 infoU8 _ [F] rfl oF (some ⟨g6, 0, none⟩) c6 ys (by rw [Hl.out]; rfl) rF2 l1 l2 hbF ?_
                     intro v9 w9 ho9 hg9 _))
                go_ret
                exact ⟨v9, rfl, Hfin.out ▸ ho9.mono hbel, bF.grown hg9 bF.size (fun g hg => by have := (oF.lt g hg).1; omega)⟩
          · rw [hsg] at hsq
            clear hsg
            go_wp2_with fail
            go_loop [6] (fun p => ∃ n : Nat, n ≤ 280 ∧ p = .slice (some ⟨g6, 0, none⟩) n c6 ∧ T = trim (byt s.w) 0 n) (fun p => lenV p)
            case atStart => exact ⟨280, by omega, rfl, HT.out⟩
            case round =>
              obtain ⟨n, hn, rfl, ht⟩ := hrel
              by_cases h0 : n = 0
              · subst h0
                have hfin := Fin.out (0) hn (by rw [ht]; rfl)
                have rF := R6.out.take (0)
                have hl := Hlen2.out (0) hn
                have l1 : [F].length + ((full s.w (8 * 35)).take (0)).length ≤ maxLen := by rw [hl]; show 1 + (0) ≤ maxLen; unfold maxLen; omega
                have l2 : ([F].length + ((full s.w (8 * 35)).take (0)).length) * 1 ≤ 140737488355328 := by rw [hl]; show (1 + (0)) * 1 ≤ _; omega
                have Hl := Lib.hid hl
                clear hl Hrd ht hbr Fin Htr Hlen2
                generalize (full s.w (8 * 35)).take (0) = ys at *
                have Hfin := Lib.hid hfin
                clear hfin
                have rF2 := rF.below (below_alloc (Below.refl wr.heap.size wr) (.cells #[.int .u8 F] 5))
                have oF := Own.new wr wr.heap.size 5 .u8 [F] #[.int .u8 F] rfl (Nat.le_refl _) (by show 1 ≤ maxLen; unfold maxLen; omega)
                have bF := below_alloc hb (.cells #[.int .u8 F] 5)
                have hbF : wr.heap.size ≤ (wr.alloc (.cells #[.int .u8 F] 5)).heap.size := by simp
                clear rF hb R6
                go_wp2_with (first
                  | (at_builtin
                     refine wpList_append rfl _ (.tmp 100) (.tmp 101) 47 rfl wr.heap.size 5 .u8 1 Try.underlying47 infoU8 _ [F] rfl oF (some ⟨g6, 0, none⟩) c6 ys (by rw [Hl.out]; rfl) rF2 l1 l2 hbF ?_
                     intro v9 w9 ho9 hg9 _))
                go_ret
                exact ⟨v9, rfl, Hfin.out ▸ ho9.mono hbel, bF.grown hg9 bF.size (fun g hg => by have := (oF.lt g hg).1; omega)⟩
              obtain ⟨m, rfl⟩ : ∃ m, n = m + 1 := ⟨n - 1, by omega⟩
              have cm := Hrd.out m (by omega)
              have hxr := hbr m
              by_cases hx : byt s.w m = 0
              · have hxb : (byt s.w m == 0) = true := by rw [hx]; rfl
                by_cases hm0 : m = 0
                · subst hm0
                  have Hx := Lib.hid hx
                  clear hx
                  generalize hX : byt s.w 0 = x at *
                  have HX := Lib.hid hX
                  clear hX
                  have ht2 : T = trim (byt s.w) 0 (0) := by rw [ht]; rw [Htr.out]; exact if_pos ⟨by rw [HX.out]; exact Hx.out, .inl ⟨rfl, trivial⟩⟩
                  have Ht2 := Lib.hid ht2
                  clear ht2 ht
                  go_wp2
                  exact ⟨⟨0, by omega, by go_num, Ht2.out⟩, by simp [lenV]⟩
                obtain ⟨q, rfl⟩ : ∃ q, m = q + 1 := ⟨m - 1, by omega⟩
                have cq := Hrd.out q (by omega)
                have hyr := hbr q
                have Hx := Lib.hid hx
                clear hx hm0
                by_cases hy : byt s.w q / 128 = 0
                · have hyb : (byt s.w q / 128 == 0) = true := by rw [hy]; rfl
                  have Hy := Lib.hid hy
                  clear hy
                  have ht2 : T = trim (byt s.w) 0 (q + 1) := by
                    rw [ht, Htr.out]
                    exact if_pos ⟨Hx.out, .inr ⟨by omega, by rw [show q + 1 - 1 = q by omega, Hy.out]; rfl⟩⟩
                  have Ht2 := Lib.hid ht2
                  rw [Hx.out] at cm
                  clear ht2 ht Hx Hy hxb hxr
                  generalize byt s.w q = y at *
                  go_wp2
                  exact ⟨⟨q + 1, by omega, by go_num, Ht2.out⟩, by simp [lenV]⟩
                · have hyb : (byt s.w q / 128 == 0) = false := by rw [beq_eq_false_iff_ne]; exact hy
                  have Hy := Lib.hid hy
                  clear hy
                  have htr : trim (byt s.w) 0 (q + 1 + 1) = q + 1 + 1 := by
                    rw [Htr.out]
                    exact if_neg (fun h => by
                      rcases h.2 with h | h
                      · omega
                      · exact Hy.out (by rw [show q + 1 - 1 = q by omega] at h; exact h.2))
                  have Htr2 := Lib.hid htr
                  clear htr
                  generalize hX : byt s.w (q + 1) = x at *
                  generalize hY : byt s.w q = y at *
                  clear hX hY
                  have hfin := Fin.out (q + 1 + 1) hn (by rw [ht]; exact Htr2.out)
                  have rF := R6.out.take (q + 1 + 1)
                  have hl := Hlen2.out (q + 1 + 1) hn
                  have l1 : [F].length + ((full s.w (8 * 35)).take (q + 1 + 1)).length ≤ maxLen := by rw [hl]; show 1 + (q + 1 + 1) ≤ maxLen; unfold maxLen; omega
                  have l2 : ([F].length + ((full s.w (8 * 35)).take (q + 1 + 1)).length) * 1 ≤ 140737488355328 := by rw [hl]; show (1 + (q + 1 + 1)) * 1 ≤ _; omega
                  have Hl := Lib.hid hl
                  clear hl Hrd ht hbr Fin Htr Hlen2
                  generalize (full s.w (8 * 35)).take (q + 1 + 1) = ys at *
                  have Hfin := Lib.hid hfin
                  clear hfin
                  have rF2 := rF.below (below_alloc (Below.refl wr.heap.size wr) (.cells #[.int .u8 F] 5))
                  have oF := Own.new wr wr.heap.size 5 .u8 [F] #[.int .u8 F] rfl (Nat.le_refl _) (by show 1 ≤ maxLen; unfold maxLen; omega)
                  have bF := below_alloc hb (.cells #[.int .u8 F] 5)
                  have hbF : wr.heap.size ≤ (wr.alloc (.cells #[.int .u8 F] 5)).heap.size := by simp
                  clear rF hb R6
                  go_wp2_with (first
                    | (at_builtin
                       refine wpList_append rfl _ (.tmp 100) (.tmp 101) 47 rfl wr.heap.size 5 .u8 1 Try.underlying47 infoU8 _ [F] rfl oF (some ⟨g6, 0, none⟩) c6 ys (by rw [Hl.out]; rfl) rF2 l1 l2 hbF ?_
                       intro v9 w9 ho9 hg9 _))
                  go_ret
                  exact ⟨v9, rfl, Hfin.out ▸ ho9.mono hbel, bF.grown hg9 bF.size (fun g hg => by have := (oF.lt g hg).1; omega)⟩
              · have hxb : (byt s.w m == 0) = false := by rw [beq_eq_false_iff_ne]; exact hx
                have Hx := Lib.hid hx
                clear hx
                have htr : trim (byt s.w) 0 (m + 1) = m + 1 := by
                  rw [Htr.out]
                  exact if_neg (fun h => Hx.out h.1)
                have Htr2 := Lib.hid htr
                clear htr
                generalize hX : byt s.w m = x at *
                clear hX
                have hfin := Fin.out (m + 1) hn (by rw [ht]; exact Htr2.out)
                have rF := R6.out.take (m + 1)
                have hl := Hlen2.out (m + 1) hn
                have l1 : [F].length + ((full s.w (8 * 35)).take (m + 1)).length ≤ maxLen := by rw [hl]; show 1 + (m + 1) ≤ maxLen; unfold maxLen; omega
                have l2 : ([F].length + ((full s.w (8 * 35)).take (m + 1)).length) * 1 ≤ 140737488355328 := by rw [hl]; show (1 + (m + 1)) * 1 ≤ _; omega
                have Hl := Lib.hid hl
                clear hl Hrd ht hbr Fin Htr Hlen2
                generalize (full s.w (8 * 35)).take (m + 1) = ys at *
                have Hfin := Lib.hid hfin
                clear hfin
                have rF2 := rF.below (below_alloc (Below.refl wr.heap.size wr) (.cells #[.int .u8 F] 5))
                have oF := Own.new wr wr.heap.size 5 .u8 [F] #[.int .u8 F] rfl (Nat.le_refl _) (by show 1 ≤ maxLen; unfold maxLen; omega)
                have bF := below_alloc hb (.cells #[.int .u8 F] 5)
                have hbF : wr.heap.size ≤ (wr.alloc (.cells #[.int .u8 F] 5)).heap.size := by simp
                clear rF hb R6
                go_wp2_with (first
                  | (at_builtin
                     refine wpList_append rfl _ (.tmp 100) (.tmp 101) 47 rfl wr.heap.size 5 .u8 1 Try.underlying47 infoU8 _ [F] rfl oF (some ⟨g6, 0, none⟩) c6 ys (by rw [Hl.out]; rfl) rF2 l1 l2 hbF ?_
                     intro v9 w9 ho9 hg9 _))
                go_ret
                exact ⟨v9, rfl, Hfin.out ▸ ho9.mono hbel, bF.grown hg9 bF.size (fun g hg => by have := (oF.lt g hg).1; omega)⟩
end Go.Proofs.Ytejkilgpcbdepaa
