import Derived.Test.YtgpfoamhcoipgaaDoorRl2
/-! Changes read: the closure's walk. -/
namespace Go.Proofs.YtgpfoamhcoipgaaDoor
open Go.RowKit Go.Sort Go.ChangeMaps
set_option linter.unusedVariables false
set_option linter.unusedSectionVars false
attribute [-simp] Tryd.isAgg40 Tryd.sizeOf40 Tryd.typeInfo40 Tryd.type40
attribute [-simp] Tryd.isAgg38 Tryd.sizeOf38 Tryd.typeInfo38 Tryd.type38
attribute [-simp] Tryd.isAgg43 Tryd.sizeOf43 Tryd.typeInfo43 Tryd.type43

set_option maxRecDepth 100000 in
theorem built_chR (b : Bool) (r : Nat) : Tryd.prog.built 43 [(0, .bool b), (1, .int .u64 (r : Int))] = some (chA ⟨b, r, default⟩) := by
  rw [built_of 43 Tryd.t43 (chA ⟨false, 0, default⟩) _ [(0, 1), (1, 1), (2, 8)] (by kernel_rfl) (by kernel_rfl) Tryd.underlying43 (by kernel_rfl)]
  rfl
set_option maxRecDepth 100000 in
set_option maxHeartbeats 16000000 in
theorem cs_any (g gl B : Nat) (xs : List Int) (w : World) (S : LdS g gl B w) (h : RdSt w g B xs) (h8 : Bytes8 xs) (hxl : xs.length ≤ 3000) (hgl : w.heap[gl]? = some (.cells #[.slice none 0 0] 24 (0, 0))) :
    Calls Tryd.prog 12 #[.pointer (some ⟨g, 0, none⟩), .pointer (some ⟨gl, 0, none⟩)] w (CsPost g gl B w ((rdU 1099511627776 10 0 0 xs).bind fun p => rdCs p.1 [] p.2)) := by
  have zc := zeroCh
  have Hc := Lib.hid sizeCh
  have z1 : ∀ w, (sizeOf 43).run Tryd.prog w = .ok 10 w := run_sizeOf_info sizeCh
  have z2 : ∀ w, (sizeOf 40).run Tryd.prog w = .ok 8 w := run_sizeOf_info sizePane
  have z4 : ∀ w, (sizeOf 38).run Tryd.prog w = .ok 5 w := run_sizeOf_info sizeAgg
  have hk0 := fun v w => check_bad v w
  have hk1 := fun v w => check_ok v w
  have hI0 : LdI g gl B w (.slice none 0 0) [] xs w := ⟨h, h8, hgl, OwnE.nil _ _, Two.refl _ _ _⟩
  obtain ⟨R, hR⟩ : ∃ R, R = (rdU 1099511627776 10 0 0 xs).bind fun p => rdCs p.1 [] p.2 := ⟨_, rfl⟩
  rw [← hR]
  cases hq : rdU 1099511627776 10 0 0 xs with
  | none =>
    rw [hq] at hR
    have HR := Lib.hid hR
    have hc := uint_none g B 1099511627776 xs w h h8 (by decide) hq
    have hc : Calls Tryd.prog 13 #[.pointer (some ⟨g, 0, none⟩), .int .u64 1099511627776] w fun e w' => e = badP ∧ w.grownBy w' (some g) := hc
    clear hR h h8 hq hI0 hgl
    go_enter Tryd.func12, Tryd.ntmps12
    go_wp2_with (go_at_call 13; (with_reducible refine hc.mono ?_); rintro e w1 ⟨rfl, hg⟩)
    exact ⟨rfl, (Two.refl _ _ _).grown hg (fun q e => by injection e with e; exact .inl e.symm), .inl ⟨HR.out, rfl⟩⟩
  | some p =>
    obtain ⟨n, r⟩ := p
    rw [hq, Option.bind_some] at hR
    have HR := Lib.hid hR
    have hc := uint_some g B 1099511627776 n xs r w h h8 (by decide) hq
    have hc : Calls Tryd.prog 13 #[.pointer (some ⟨g, 0, none⟩), .int .u64 1099511627776] w fun e w' => e = .returned (.int .u64 (n : Nat)) ∧ RdSt w' g B r ∧ w.grownBy w' (some g) := hc
    obtain ⟨h8r, hnm⟩ := rdU_rest _ _ _ _ _ _ _ h8 hq
    have hrl : r.length ≤ 3000 := by
      have := congrArg List.length (uintL_of_rdU h8 hq)
      rw [List.length_append] at this
      omega
    clear hR h h8 hq hgl hxl
    go_enter Tryd.func12, Tryd.ntmps12
    go_upto_block 0 with (go_at_call 13; (with_reducible refine hc.mono ?_); rintro e w1 ⟨rfl, hs1, hg1⟩)
    have hI1 := hI0.read S hs1 h8r hg1
    clear hI0 hs1 hg1 hc
    go_wp2_with fail
    go_loopw [7, 3, 4] (fun i _ _ wr => ∃ (k : Nat) (acc : List Ch) (ys : List Int) (v : Value), i = .int .u64 (k : Nat) ∧ k ≤ n ∧ acc.length = k ∧ acc.length + ys.length ≤ 3000 ∧ LdI g gl B w v acc ys wr ∧ R = rdCs (n - k) acc ys) (fun i _ _ _ => n - (intOf i).toNat)
    case atStart => exact ⟨0, [], r, _, rfl, Nat.zero_le _, rfl, by simpa using hrl, hI1, HR.out⟩
    case round =>
      clear hI1 HR
      obtain ⟨k, acc, ys, v, rfl, hk, hal, hsum, hI, hR⟩ := hrel
      by_cases hlt : k < n
      · have hki : (k : Int) < (n : Int) := by omega
        have hkn : n - k = (n - (k + 1)) + 1 := by omega
        rw [hkn, rdCs] at hR
        have HR := Lib.hid hR
        clear hR
        cases ys with
        | nil =>
          have hb := byte_none g B wr hI.rd
          go_wp2_with (go_at_call 14; (with_reducible refine hb.mono ?_); rintro e w1 ⟨rfl, rfl⟩)
          exact ⟨rfl, hI.two, .inl ⟨by rw [HR.out]; rfl, rfl⟩⟩
        | cons b ys =>
          have hb := byte_some g B b ys wr hI.rd
          have hbr : 0 ≤ b ∧ b ≤ 255 := hI.b8 0 (by simp)
          have h8y : Bytes8 ys := fun i hi => hI.b8 (i + 1) (by simpa using hi)
          go_upto_region 3 with (go_at_call 14; (with_reducible refine hb.mono ?_); rintro e w2 ⟨rfl, hs2, hg2⟩)
          have hI2 := hI.read S hs2 h8y hg2
          clear hb hs2 hg2 hI
          by_cases hb2 : b < 2
          · have hd2 : decide (b < 2) = true := decide_eq_true hb2
            have hb2' : b < 2 := hb2
            have HB2 := Lib.hid hb2'
            clear hb2 hb2'
            cases e1 : rdU 1099511627776 10 0 0 ys with
            | none =>
              have hc := uint_none g B 1099511627776 ys w2 hI2.rd h8y (by decide) e1
              have hc : Calls Tryd.prog 13 #[.pointer (some ⟨g, 0, none⟩), .int .u64 1099511627776] w2 fun e w' => e = badP ∧ w2.grownBy w' (some g) := hc
              have HE1 := Lib.hid e1
              clear e1
              go_wp2_with (first
                | (go_at_call 15; (with_reducible refine (hk1 _ _).mono ?_); rintro e w3 ⟨rfl, rfl⟩)
                | (go_at_call 13; (with_reducible refine hc.mono ?_); rintro e w3 ⟨rfl, hg3⟩))
              exact ⟨rfl, hI2.two.grown hg3 (fun q e => by injection e with e; exact .inl e.symm), .inl ⟨by rw [HR.out]; simp only [rdCh, if_pos HB2.out, HE1.out, Option.bind_none], rfl⟩⟩
            | some p1 =>
              obtain ⟨rev, r1⟩ := p1
              have hc := uint_some g B 1099511627776 rev ys r1 w2 hI2.rd h8y (by decide) e1
              have hc : Calls Tryd.prog 13 #[.pointer (some ⟨g, 0, none⟩), .int .u64 1099511627776] w2 fun e w' => e = .returned (.int .u64 (rev : Nat)) ∧ RdSt w' g B r1 ∧ w2.grownBy w' (some g) := hc
              obtain ⟨h8a, hrm⟩ := rdU_rest _ _ _ _ _ _ _ h8y e1
              have hl1 := congrArg List.length (uintL_of_rdU h8y e1)
              rw [List.length_append] at hl1
              have hu1 := (uintL_len rev).1
              rw [List.length_cons] at hsum
              have HE1 := Lib.hid e1
              obtain ⟨c0, hc0⟩ : ∃ c0 : Ch, c0 = ⟨(b == 1), rev, default⟩ := ⟨_, rfl⟩
              have hbc := built_chR (b == 1) rev
              rw [← hc0] at hbc
              have HBC := Lib.hid hbc
              have HC0 := Lib.hid hc0
              clear e1 hbc hc0
              go_upto_region 5 with (first
                | (go_at_call 15; (with_reducible refine (hk1 _ _).mono ?_); rintro e w3 ⟨rfl, rfl⟩)
                | (go_at_call 13; (with_reducible refine hc.mono ?_); rintro e w4 ⟨rfl, hs4, hg4⟩)
                | (refine run_builtK rfl 43 _ rfl (chA c0) (by simp only [List.map_toArray, List.map_cons, List.map_nil, Act.eval]; exact HBC.out) ?_)
                | (refine at_op (.alloc 43) ?_ rfl; refine wpList_alloc_row rfl w4 43 rfl (some 4) rfl w4.heap.size rfl _ zc ?_)
                | (refine at_op (.store 43 (.tmp 4) (.tmp 19)) ?_ rfl; refine wpList_store_row rfl 43 (.tmp 4) (.tmp 19) rfl w4.heap.size (chA c0) rfl rfl 43 _ (heap_alloc_new w4 _) Hc.out rfl (chA_one _) ?_; rw [World.setRow_alloc_new]))
              have hI4 := hI2.read S hs4 h8a hg4
              have hI5 := hI4.below (below_alloc (Below.refl w4.heap.size w4) (.cells (chA c0) 43))
              have k5 := heap_alloc_new w4 (.cells (chA c0) 43)
              have hk4 : w.heap.size ≤ w4.heap.size := hI4.two.size
              have hv4 : ∀ q, v.ownBlock = some q → q < w4.heap.size := fun q e => (hI4.own.lt q e).2
              clear hI4 hI2 hs4 hg4 hc
              generalize w4.alloc (.cells (chA c0) 43) = w5 at *
              generalize w4.heap.size = k4 at *
              have hkg : k4 ≠ g := by have := S.g; omega
              have hkv : v.ownBlock ≠ some k4 := fun e => by have := hv4 _ e; omega
              cases e2 : rdU 32 10 0 0 r1 with
              | none =>
                have hc := text_no_uint g B r1 w5 hI5.rd h8a e2
                have HE2 := Lib.hid e2
                clear e2
                go_wp2_with (go_at_call 16; (with_reducible refine hc.mono ?_); rintro e w6 ⟨rfl, hg6⟩)
                exact ⟨rfl, hI5.two.grown hg6 (fun q e => by injection e with e; exact .inl e.symm), .inl ⟨by rw [HR.out]; simp only [rdCh, if_pos HB2.out, HE1.out, Option.bind_some, rdText, HE2.out, Option.bind_none], rfl⟩⟩
              | some p2 =>
                obtain ⟨m, r2⟩ := p2
                by_cases hml : m ≤ r2.length
                · have hc := text_some g B m r1 r2 w5 hI5.rd h8a e2 hml (by omega)
                  obtain ⟨h8b, hmm⟩ := rdU_rest _ _ _ _ _ _ _ h8a e2
                  have hl2 := congrArg List.length (uintL_of_rdU h8a e2)
                  rw [List.length_append] at hl2
                  have h8c : Bytes8 (r2.drop m) := h8b.drop m
                  have hl3 : (r2.drop m).length ≤ r2.length := by rw [List.length_drop]; omega
                  have HE2 := Lib.hid e2
                  have HML := Lib.hid hml
                  clear e2 hml
                  obtain ⟨key, hkey⟩ : ∃ key, key = strOfNums (r2.take m) := ⟨_, rfl⟩
                  rw [← hkey] at hc
                  have HKEY := Lib.hid hkey
                  clear hkey
                  generalize hr3 : r2.drop m = r3 at *
                  have HR3 := Lib.hid hr3
                  clear hr3
                  go_upto_region 6 with (go_at_call 16; (with_reducible refine hc.mono ?_); rintro e w6 ⟨rfl, hs6, hg6⟩; have k6 := RdSt.row hg6 k5 hkg; have c62 := (cell_of_row _ _ 2 _ _ _ k6).trans (show (chA c0)[2]? = some (.string c0.p.nm.key) from rfl); have f62 := frozen_of_row k6 2)
                  have hI6 := hI5.read S hs6 h8c hg6
                  have hI7 := hI6.setCell S hk4 hkv 2 (.string key)
                  obtain ⟨cx, hcx⟩ : ∃ cx : Ch, cx = ⟨c0.put, c0.rev, ⟨⟨key, c0.p.nm.s, c0.p.nm.e⟩, c0.p.a⟩⟩ := ⟨_, rfl⟩
                  have k7 : (w6.setCell ⟨k4, 2, none⟩ (.string key)).heap[k4]? = some (.cells (chA cx) 43 (0, 0)) := by
                    rw [hcx]; exact heap_setCell_at (k := 2) k6 (.string key)
                  have HCX := Lib.hid hcx
                  clear hcx hI6 hI5 hs6 hg6 k5 k6 c62 f62 hc
                  generalize w6.setCell ⟨k4, 2, none⟩ (.string key) = w7 at *
                  cases e4 : rdU 18446744073709551615 10 0 0 r3 with
                  | none =>
                    have hc := int_none g B r3 w7 hI7.rd h8c e4
                    have HE4 := Lib.hid e4
                    clear e4
                    go_wp2_with (go_at_call 17; (with_reducible refine hc.mono ?_); rintro e w8 ⟨rfl, hg8⟩)
                    exact ⟨rfl, hI7.two.grown hg8 (fun q e => by injection e with e; exact .inl e.symm), .inl ⟨by rw [HR.out]; simp only [rdCh, if_pos HB2.out, HE1.out, Option.bind_some, rdText, HE2.out, if_pos HML.out, HR3.out, rdInt, HE4.out, Option.bind_none], rfl⟩⟩
                  | some p4 =>
                    obtain ⟨sn, r4⟩ := p4
                    have hca := int_some g B sn r3 r4 w7 hI7.rd h8c e4
                    obtain ⟨h8d, hsm⟩ := rdU_rest _ _ _ _ _ _ _ h8c e4
                    have hl4 := congrArg List.length (uintL_of_rdU h8c e4)
                    rw [List.length_append] at hl4
                    have HE4 := Lib.hid e4
                    clear e4
                    cases e5 : rdU 18446744073709551615 10 0 0 r4 with
                    | none =>
                      have hcb := fun w8 (h : RdSt w8 g B r4) => int_none g B r4 w8 h h8d e5
                      have HE5 := Lib.hid e5
                      clear e5
                      go_wp2_with (first
                        | (go_at_call 17; (with_reducible refine hca.mono ?_); rintro e w8 ⟨rfl, hs8, hg8⟩; have hcb := hcb w8 hs8)
                        | (go_at_call 17; (with_reducible refine hcb.mono ?_); rintro e w9 ⟨rfl, hg9⟩))
                      exact ⟨rfl, (hI7.two.grown hg8 (fun q e => by injection e with e; exact .inl e.symm)).grown hg9 (fun q e => by injection e with e; exact .inl e.symm), .inl ⟨by rw [HR.out]; simp only [rdCh, if_pos HB2.out, HE1.out, Option.bind_some, rdText, HE2.out, if_pos HML.out, HR3.out, rdInt, HE4.out, HE5.out, Option.bind_none], rfl⟩⟩
                    | some p5 =>
                      obtain ⟨en, r5⟩ := p5
                      have hcb := fun w8 (h : RdSt w8 g B r4) => int_some g B en r4 r5 w8 h h8d e5
                      obtain ⟨h8e, hem⟩ := rdU_rest _ _ _ _ _ _ _ h8d e5
                      have hl5 := congrArg List.length (uintL_of_rdU h8d e5)
                      rw [List.length_append] at hl5
                      have HE5 := Lib.hid e5
                      clear e5
                      go_upto_region 7 with (first
                        | (go_at_call 17; (with_reducible refine hca.mono ?_); rintro e w8 ⟨rfl, hs8, hg8⟩; have hcb := hcb w8 hs8; have k8 := RdSt.row hg8 k7 hkg)
                        | (go_at_call 17; (with_reducible refine hcb.mono ?_); rintro e w9 ⟨rfl, hs9, hg9⟩; have k9 := RdSt.row hg9 k8 hkg; have c93 := (cell_of_row _ _ 3 _ _ _ k9).trans (show (chA cx)[3]? = some (.int .i64 cx.p.nm.s) from rfl); have c94 := (cell_of_row _ _ 4 _ _ _ k9).trans (show (chA cx)[4]? = some (.int .i64 cx.p.nm.e) from rfl); have f93 := frozen_of_row k9 3; have f94 := frozen_of_row k9 4))
                      have hI9 := (hI7.read S hs8 h8d hg8).read S hs9 h8e hg9
                      have hI10 := (hI9.setCell S hk4 hkv 3 (.int .i64 (zag sn))).setCell S hk4 hkv 4 (.int .i64 (zag en))
                      obtain ⟨cy, hcy⟩ : ∃ cy : Ch, cy = ⟨cx.put, cx.rev, ⟨⟨cx.p.nm.key, zag sn, zag en⟩, cx.p.a⟩⟩ := ⟨_, rfl⟩
                      have k10 : ((w9.setCell ⟨k4, 3, none⟩ (.int .i64 (zag sn))).setCell ⟨k4, 4, none⟩ (.int .i64 (zag en))).heap[k4]? = some (.cells (chA cy) 43 (0, 0)) := by
                        rw [hcy]; exact heap_setCell_at (k := 4) (heap_setCell_at (k := 3) k9 (.int .i64 (zag sn))) (.int .i64 (zag en))
                      have HCY := Lib.hid hcy
                      clear hcy hI9 hI7 hs8 hg8 hs9 hg9 k7 k8 k9 c93 c94 f93 f94 hca hcb
                      generalize (w9.setCell ⟨k4, 3, none⟩ (.int .i64 (zag sn))).setCell ⟨k4, 4, none⟩ (.int .i64 (zag en)) = w10 at *
                      have hc := readValue_any g B r5 w10 hI10.rd h8e (by have := hI10.two.size; have := S.B; have := S.gl; omega)
                      cases e6 : rdVal r5 with
                      | none =>
                        rw [e6] at hc
                        have HE6 := Lib.hid e6
                        clear e6
                        go_wp2_with (go_at_call 18; (with_reducible refine hc.mono ?_); rintro e w11 ⟨hg11, hcase⟩; obtain rfl : e = badP := (by rcases hcase with ⟨_, q⟩ | ⟨_, _, q, _⟩; exact q; cases q))
                        exact ⟨rfl, hI10.two.grown hg11 (fun q e => by injection e with e; exact .inl e.symm), .inl ⟨by rw [HR.out]; simp only [rdCh, if_pos HB2.out, HE1.out, Option.bind_some, rdText, HE2.out, if_pos HML.out, HR3.out, rdInt, HE4.out, HE5.out, HE6.out, Option.bind_none], rfl⟩⟩
                      | some p6 =>
                        obtain ⟨av, r6⟩ := p6
                        rw [e6] at hc
                        obtain ⟨q6, h8f, hav⟩ := rdVal_inv h8e e6
                        have hl6 := congrArg List.length q6
                        rw [List.length_append] at hl6
                        have HE6 := Lib.hid e6
                        clear e6 q6
                        go_upto_region 8 with (first
                          | (go_at_call 18; (with_reducible refine hc.mono ?_); rintro e w11 ⟨hg11, hcase⟩; obtain ⟨rfl, hs11⟩ : e = .returned (.agg (avC av)) ∧ RdSt w11 g B r6 := (by rcases hcase with ⟨q, _⟩ | ⟨v', rest', q, q2, q3⟩; cases q; injection q with q; injection q with qa qb; subst qa qb; exact ⟨q2, q3⟩); have k11 := RdSt.row hg11 k10 hkg)
                          | (refine at_op (.store 38 (.tmp 37) (.tmp 35)) ?_ rfl; refine wpList_store_in rfl w11 38 (.tmp 37) (.tmp 35) rfl k4 5 (avC av) rfl rfl _ _ k11 (of_decide_eq_true rfl) (of_decide_eq_true rfl) (by exact sizeAgg) (avC_one _) ?_))
                        have hI11 := hI10.read S hs11 h8f hg11
                        have hI12 := hI11.setRow S hk4 hkv (setMany (chA cy) 5 (avC av).toList)
                        obtain ⟨cz, hcz⟩ : ∃ cz : Ch, cz = ⟨cy.put, cy.rev, ⟨cy.p.nm, av⟩⟩ := ⟨_, rfl⟩
                        have k12 : (w11.setRow k4 (setMany (chA cy) 5 (avC av).toList)).heap[k4]? = some (.cells (chA cz) 43 (0, 0)) := by
                          rw [hcz]; exact setRow_heap _ _ _ _ _ _ k11
                        have HCZ := Lib.hid hcz
                        clear hcz hI10 hI11 hs11 hg11 k10 k11 hc hcase
                        generalize w11.setRow k4 (setMany (chA cy) 5 (avC av).toList) = w12 at *
                        have hRf : R = rdCs (n - (k + 1)) (acc ++ [cz]) r6 := by
                          rw [HR.out]
                          simp only [rdCh, if_pos HB2.out, HE1.out, Option.bind_some, rdText, HE2.out, if_pos HML.out, HR3.out, rdInt, HE4.out, HE5.out, HE6.out]
                          rw [HCZ.out, HCY.out, HCX.out, HC0.out, HKEY.out]
                          rfl
                        have HRF := Lib.hid hRf
                        have cg := cell_of_row _ _ 0 _ _ _ hI12.cell
                        have ba := below_alloc (Below.refl w12.heap.size w12) (.cells (chL cz).toArray 43)
                        have hI13 := hI12.below ba
                        have hr13 := RowsAt.one (enc := chL) (y := cz) (heap_alloc_new w12 (.cells (chL cz).toArray 43))
                        have hacc : acc.length + 1 ≤ 3000 := by omega
                        clear hRf ba
                        go_wp2_with (first
                          | (refine at_op (.load 43 (.tmp 4)) ?_ rfl; refine wpList_load_row rfl 43 (.tmp 4) rfl k4 rfl 43 (chA cz) (0, 0) _ k12 Tryd.underlying43 rfl Hc.out ?_)
                          | (refine at_op (.buildSlice 24 1 #[(0, .tmp 39)]) ?_ rfl; refine wpList_buildOne encCh (by decide) rfl w12 24 (.tmp 39) rfl (some 40) rfl w12.heap.size rfl rfl cz rfl ?_)
                          | (refine at_op (.call { callee := .builtin .append, args := #[.tmp 38, .tmp 40], argTypes := #[24, 24] }) ?_ rfl; refine wpList_appendE encCh rfl _ (.tmp 38) (.tmp 40) 24 rfl w.heap.size rfl v acc rfl hI13.own (some ⟨w12.heap.size, 0, none⟩) 1 [cz] rfl hr13 (Nat.le_trans hacc (by decide)) (Nat.le_trans (Nat.mul_le_mul_right 88 hacc) (by decide)) hI13.two.size ?_; intro v14 w14 hO14 hG14 hB14; obtain ⟨A14, c14, e14, q1, q2⟩ := hO14.form; clear q1 q2; generalize (acc ++ [cz]).length = ln at e14; subst e14; have kgl14 := (hG14.block gl (heap_lt hI13.cell) (fun e => by have := (hI13.own.lt gl e.symm).1; have := S.gl; omega)).trans hI13.cell; have cg14 := cell_of_row _ _ 0 _ _ _ kgl14; have fg14 := frozen_of_row kgl14 0))
                        have hrow : ∀ q, v.ownBlock = some q → w.heap.size ≤ q := fun q e => (hI13.own.lt q e).1
                        have hrd14 := hI13.rd.grownO hG14 (fun q e => by have := hrow q e; have := S.B; have := S.gl; have := S.g; omega)
                        have htw14 := hI13.two.grown hG14 (fun q e => .inr (hrow q e))
                        exact ⟨⟨k + 1, acc ++ [cz], r6, .slice A14 ln c14, by go_num, hlt, by rw [List.length_append, List.length_singleton, hal], by rw [List.length_append, List.length_singleton]; omega, ⟨hrd14.setCell S.B (Ne.symm S.ne) 0 (.slice A14 ln c14), h8f, heap_setCell_at (k := 0) kgl14 (.slice A14 ln c14), hO14.setCell (fun e => by have := (hO14.lt gl e).1; have := S.gl; omega) 0 (.slice A14 ln c14), htw14.setCell (.inl rfl) 0 (.slice A14 ln c14)⟩, HRF.out⟩, by simp [intOf]; omega⟩
                · have hc := text_short g B m r1 r2 w5 hI5.rd h8a e2 hml (by omega)
                  have HE2 := Lib.hid e2
                  have HML := Lib.hid hml
                  clear e2 hml
                  go_wp2_with (go_at_call 16; (with_reducible refine hc.mono ?_); rintro e w6 ⟨rfl, hg6⟩)
                  exact ⟨rfl, hI5.two.grown hg6 (fun q e => by injection e with e; exact .inl e.symm), .inl ⟨by rw [HR.out]; simp only [rdCh, if_pos HB2.out, HE1.out, Option.bind_some, rdText, HE2.out, if_neg HML.out, Option.bind_none], rfl⟩⟩
          · have hd2 : decide (b < 2) = false := decide_eq_false hb2
            go_wp2_with (go_at_call 15; (with_reducible refine (hk0 _ _).mono ?_); rintro e w3 ⟨rfl, rfl⟩)
            exact ⟨rfl, hI2.two, .inl ⟨by rw [HR.out, rdCh, if_neg (by omega)]; rfl, rfl⟩⟩
      · obtain rfl : k = n := by omega
        rw [Nat.sub_self, rdCs] at hR
        go_wp2_with fail
        go_end0
        exact ⟨hI.two, .inr ⟨acc, ys, v, hR, rfl, hI⟩⟩
end Go.Proofs.YtgpfoamhcoipgaaDoor
