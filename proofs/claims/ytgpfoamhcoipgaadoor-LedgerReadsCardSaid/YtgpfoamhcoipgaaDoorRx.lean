import Derived.Deep.RegionLaw
import Derived.Deep.DeepCutAuto
import Derived.Deep.CutBlock
import Derived.Test.YtgpfoamhcoipgaaDoorRr
/-! Tellings laid and read: the law. -/
namespace Go.Proofs.YtgpfoamhcoipgaaDoor
open Go.RowKit
set_option linter.unusedVariables false
theorem step_append {P : Program} {ops : Array Oper} {o : Oper} {a : Act} {w : World} {K : Act → World → Prop} {Q : Exit → Act → World → Prop} {E : Prop} (hgd : o.guard = none) (s x : Operand) (t : TypeId) (ho : o.op = .call { callee := .builtin .append, args := #[s, x], argTypes := #[t, t] })
    (base : Nat) (e : TypeId) (k : IntKind) (bytes : Nat) (ht : P.underlying t = some (.slice e)) (hinfo : (P.info? e).map (fun i => (i.zero, i.size, i.bytes)) = some (some (.int k 0), 1, bytes))
    (v : Value) (xs : List Int) (hs : a.eval s = v) (hown : Own w base e k v xs) (A : Option Addr) (c : Nat) (ys : List Int) (hx : a.eval x = .slice A ys.length c) (hy : Reads w k A ys)
    (h63 : xs.length + ys.length ≤ maxLen) (hbytes : (xs.length + ys.length) * bytes ≤ 140737488355328) (hbase : base ≤ w.heap.size)
    (h : ∀ v' w', Own w' base e k v' (xs ++ ys) → w.grownBy w' v.ownBlock → (v'.ownBlock = v.ownBlock ∨ v'.ownBlock = some w.heap.size) → K (a.put o.dst v') w') :
    if Region.wanted o (yielded ops a.tmps) = true then Oper.wp P o a w K Q else E := by
  have hw : Region.wanted o (yielded ops a.tmps) = true := by simp [Region.wanted, hgd]
  rw [if_pos hw]
  exact wp_append w s x t ho base e k bytes ht hinfo v xs hs hown A c ys hx hy h63 hbytes hbase h
end Go.Proofs.YtgpfoamhcoipgaaDoor
/-! Changes laid. -/
namespace Go.Proofs.YtgpfoamhcoipgaaDoor
open Go.RowKit Go.Sort Go.ChangeMaps
set_option linter.unusedVariables false
set_option linter.unusedSectionVars false
attribute [-simp] Tryd.isAgg40 Tryd.sizeOf40 Tryd.typeInfo40 Tryd.type40
attribute [-simp] Tryd.isAgg38 Tryd.sizeOf38 Tryd.typeInfo38 Tryd.type38
attribute [-simp] Tryd.isAgg43 Tryd.sizeOf43 Tryd.typeInfo43 Tryd.type43
attribute [-simp] Tryd.isAgg34 Tryd.sizeOf34 Tryd.typeInfo34 Tryd.type34

theorem colTextW (base : Nat) (p : Value) (ys : List Int) (s : ByteArray) (w2 : World) (hb : base ≤ w2.heap.size) (ho : Own w2 base 5 .u8 p ys) (hl : ys.length ≤ 900000) (hs : (keyB s).length ≤ 32) :
    Calls Tryd.prog 21 #[p, .string s] w2 fun e w' => ∃ v', e = .returned v' ∧ LayW base w2 p (ys ++ textL (keyB s)) w' v' := by
  have h := colText_any base p ys (keyB s) w2 hb ho (keyB_bytes s) hl (by omega)
  rw [str_keyB] at h
  refine h.mono ?_
  rintro e w' ⟨v', rfl, h1, h2, h3⟩
  exact ⟨v', rfl, h1, h2, h3⟩
theorem colIntW (base : Nat) (p : Value) (ys : List Int) (x : Int) (w2 : World) (hb : base ≤ w2.heap.size) (ho : Own w2 base 5 .u8 p ys) (hx : -9223372036854775808 ≤ x ∧ x < 9223372036854775808) (hl : ys.length ≤ 1000000) :
    Calls Tryd.prog 20 #[p, .int .i64 x] w2 fun e w' => ∃ v', e = .returned v' ∧ LayW base w2 p (ys ++ uintL (zig x)) w' v' := by
  refine (colInt_any base p ys x w2 hb ho hx hl).mono ?_
  rintro e w' ⟨v', rfl, h1, h2, h3⟩
  exact ⟨v', rfl, h1, h2, h3⟩
theorem layC_len (c : Ch) (hk : (keyB c.p.nm.key).length ≤ 32) : (layC c).length ≤ 200 := by
  have e1 := (uintL_len c.rev).2
  have e2 := (uintL_len (keyB c.p.nm.key).length).2
  have e3 := (uintL_len (zig c.p.nm.s)).2
  have e4 := (uintL_len (zig c.p.nm.e)).2
  have f1 := (uintL_len c.p.a.n).2
  have f2 := (uintL_len (canon c.p.a.x)).2
  have f3 := (uintL_len (ovN c.p.a.ov)).2
  have f4 := (uintL_len (canon c.p.a.lo)).2
  have f5 := (uintL_len (canon c.p.a.hi)).2
  unfold layC textL layVL
  simp only [List.length_append, List.length_singleton]
  omega
set_option maxRecDepth 100000 in
theorem chA_cells (c : Ch) : (chA c)[0]? = some (.bool c.put) ∧ (chA c)[1]? = some (.int .u64 (c.rev : Int)) ∧ (chA c)[2]? = some (.string c.p.nm.key) ∧ (chA c)[3]? = some (.int .i64 c.p.nm.s) ∧ (chA c)[4]? = some (.int .i64 c.p.nm.e) := ⟨rfl, rfl, rfl, rfl, rfl⟩
theorem colUintX (base : Nat) (p : Value) (ys : List Int) (n : Nat) (w2 : World) (hb : base ≤ w2.heap.size) (ho : Own w2 base 5 .u8 p ys) (hn : n < 18446744073709551616) (hl : ys.length ≤ 1000000) :
    Calls Tryd.prog 19 #[p, .int .u64 (n : Int)] w2 fun e w' => ∃ v', e = .returned v' ∧ LayW base w2 p (ys ++ uintL n) w' v' := by
  refine (colUint_any base p ys n w2 hb ho hn hl).mono ?_
  rintro e w' ⟨v', rfl, h1, h2, h3⟩
  exact ⟨v', rfl, h1, h2, h3⟩
theorem take_flat {L : List Ch} {k : Nat} {d : Ch} (h : L[k]? = some d) : (L.take (k + 1)).flatMap layC = (L.take k).flatMap layC ++ layC d := by
  rw [List.take_add_one, h]
  simp
theorem take_flat_len (L : List Ch) (k : Nat) : ((L.take k).flatMap layC).length ≤ (L.flatMap layC).length := by
  have h : L.flatMap layC = (L.take k).flatMap layC ++ (L.drop k).flatMap layC := by rw [← List.flatMap_append, List.take_append_drop]
  rw [h, List.length_append]
  omega
set_option maxRecDepth 100000 in
set_option maxHeartbeats 16000000 in
theorem layCs_any (A : Option Addr) (c : Nat) (L : List Ch) (w : World) (hx : RowsAt w chL A L) (hg : ∀ d ∈ L, GoodC d) (hl : (layBody L).length ≤ 3000) (hL : L.length ≤ 3000) (h8 : Bytes8 (layBody L)) (ht : HasTab w) :
    Calls Tryd.prog 6 #[.slice A L.length c] w fun e w' => ∃ v, e = .returned v ∧ Own w' w.heap.size 5 .u8 v (pageOf 108 (layBody L)) ∧ Below w.heap.size w w' := by
  have zc := zeroCh
  have Hc := Lib.hid sizeCh
  have z1 : ∀ w, (sizeOf 43).run Tryd.prog w = .ok 10 w := run_sizeOf_info sizeCh
  have z2 : ∀ w, (sizeOf 40).run Tryd.prog w = .ok 8 w := run_sizeOf_info sizePane
  have z3 : ∀ w, (sizeOf 34).run Tryd.prog w = .ok 2 w := run_sizeOf_info sizeWin
  have z4 : ∀ w, (sizeOf 38).run Tryd.prog w = .ok 5 w := run_sizeOf_info sizeAgg
  have hpos := ht.pos
  have hlw : (L.length : Int) % 18446744073709551616 = (L.length : Int) := by omega
  have hu0 := colUintX w.heap.size (.slice none 0 0) [] L.length w (Nat.le_refl _) (Own.nil _ _ _ _) (by omega) (by decide)
  rw [List.nil_append] at hu0
  have HL8 := Lib.hid h8
  have HLB := Lib.hid hl
  have HG := Lib.hid hg
  have HT := Lib.hid ht
  clear h8 hl hg ht
  go_enter Tryd.func6, Tryd.ntmps6
  go_upto_block 0 with (go_at_call 19; (with_reducible refine hu0.mono ?_); rintro e w1 ⟨v1, rfl, l1⟩)
  have hb1 : Below w.heap.size w w1 := ⟨l1.grown.os, l1.grown.tape, l1.grown.output, l1.grown.size, fun i hi => l1.grown.block i hi (by simp [Value.ownBlock])⟩
  go_wp2_with fail
  go_loopw [3, 13] (fun p i wr => ∃ k : Nat, i = .int .i64 (k : Nat) ∧ k ≤ L.length ∧ LayW w.heap.size w (.slice none 0 0) (uintL L.length ++ (L.take k).flatMap layC) wr p ∧ Below w.heap.size w wr) (fun _ i _ => L.length - (intOf i).toNat)
  case atStart => exact ⟨0, rfl, Nat.zero_le _, by simpa using l1, hb1⟩
  case round =>
    obtain ⟨k, rfl, hk, hlay, hB⟩ := hrel
    by_cases hlt : k < L.length
    · obtain ⟨d, hd⟩ : ∃ d, L[k]? = some d := ⟨_, List.getElem?_eq_getElem hlt⟩
      obtain ⟨g, off, rfl, hrow⟩ := RowsAt.row encCh (hx.below hB) hd
      have hki : (k : Int) < (L.length : Int) := by omega
      have hda : (chL d).toArray = chA d := rfl
      have hgd := HG.out d (List.mem_of_getElem? hd)
      have hnext : uintL L.length ++ (L.take (k + 1)).flatMap layC = (uintL L.length ++ (L.take k).flatMap layC) ++ layC d := by rw [take_flat hd, List.append_assoc]
      have hxl : (uintL L.length ++ (L.take k).flatMap layC).length ≤ 3000 := by
        have h1 := HLB.out
        have h2 := take_flat_len L k
        unfold layBody at h1
        rw [List.length_append] at h1 ⊢
        omega
      obtain ⟨b, hbq⟩ : ∃ b : Int, b = if d.put = true then 1 else 0 := ⟨_, rfl⟩
      have hlc : layC d = [b] ++ uintL d.rev ++ textL (keyB d.p.nm.key) ++ uintL (zig d.p.nm.s) ++ uintL (zig d.p.nm.e) ++ layVL d.p.a := by rw [hbq]; rfl
      rw [hlc] at hnext
      have Hbq := Lib.hid hbq
      have HN := Lib.hid hnext
      have HROW := Lib.hid hrow
      clear hnext hlc hd hrow hbq
      generalize uintL L.length ++ (L.take k).flatMap layC = xs at *
      go_upto_if 18 with (first
        | (refine at_op (.load 43 (.tmp 15)) ?_ rfl; refine wpList_load_mid rfl 43 (.tmp 15) rfl g (off + k * 10) rfl (chL d) _ HROW.out Tryd.underlying43 rfl (by exact sizeCh) ?_; rw [hda])
        | (refine at_op (.alloc 43) ?_ rfl; refine wpList_alloc_row rfl _ 43 rfl (some 5) rfl wr.heap.size rfl _ zc ?_)
        | (refine at_op (.store 43 (.tmp 5) (.tmp 16)) ?_ rfl; refine wpList_store_row rfl 43 (.tmp 5) (.tmp 16) rfl wr.heap.size (chA d) rfl rfl 43 _ (heap_alloc_new wr _) Hc.out rfl (chA_one _) ?_; rw [World.setRow_alloc_new]; have hr5 := heap_alloc_new wr (.cells (chA d) 43); have k0 := (cell_of_row _ _ 0 _ _ _ hr5).trans (chA_cells d).1))
      have HR5 := Lib.hid hr5
      have l6 := hlay.below (below_alloc (Below.refl wr.heap.size wr) (.cells (chA d) 43))
      have hB6 := hB.trans ((below_alloc (Below.refl wr.heap.size wr) (.cells (chA d) 43)).mono hB.size)
      have hne : u3.ownBlock ≠ some wr.heap.size := fun e => by have := (hlay.own.lt _ e).2; omega
      have hsz6 : (wr.alloc (.cells (chA d) 43)).heap.size = wr.heap.size + 1 := by simp
      have hw6 : w.heap.size ≤ wr.heap.size := hB.size
      generalize wr.alloc (.cells (chA d) 43) = w6 at *
      generalize wr.heap.size = gc at *
      clear hr5 hlay hB
      go_cut [6] (fun t wx => t = .int .u8 b ∧ w6 = wx)
      case first =>
        have hbq := Hbq.out
        cases hov : d.put
        all_goals
          rw [hov] at k0 hbq
          go_wp2_with fail
          go_meet
          exact ⟨by rw [hbq]; rfl, rfl⟩
      case rest =>
        obtain ⟨rfl, rfl⟩ := hcut
        have hb6 : w.heap.size ≤ w6.heap.size := by omega
        have c1 := Lib.hid ((cell_of_row _ _ 1 _ _ _ HR5.out).trans (chA_cells d).2.1)
        have b7 := below_alloc (Below.refl w6.heap.size w6) (.cells #[.int .u8 b] 5)
        have oa : Own (w6.alloc (.cells #[.int .u8 b] 5)).drew w.heap.size 5 .u8 u3 xs := l6.own.alloc (.cells #[.int .u8 b] 5)
        have la : LayW w.heap.size w6 u3 xs (w6.alloc (.cells #[.int .u8 b] 5)).drew u3 := ((LayW.refl l6.own).below b7).drew
        have ra : Reads (w6.alloc (.cells #[.int .u8 b] 5)).drew .u8 (some ⟨gc + 1, 0, none⟩) [b] := by rw [← hsz6]; exact Reads.one w6 5 .u8 b
        have hba : w.heap.size ≤ (w6.alloc (.cells #[.int .u8 b] 5)).drew.heap.size := Nat.le_trans hb6 b7.size
        have c1b : (w6.alloc (.cells #[.int .u8 b] 5)).drew.cell? ⟨gc, 1, none⟩ = some (.int .u64 (d.rev : Int)) := (cell_of_row (w6.alloc (.cells #[.int .u8 b] 5)) _ 1 _ _ _ ((b7.block gc (heap_lt HR5.out)).trans HR5.out)).trans (chA_cells d).2.1
        have C1b := Lib.hid c1b
        clear c1b b7
        have hm1 : xs.length + [b].length ≤ maxLen := by show _ + 1 ≤ _; unfold maxLen; omega
        have hm2 : (xs.length + [b].length) * 1 ≤ 140737488355328 := by show (_ + 1) * 1 ≤ _; omega
        have hstep : ∀ v8 w8, Own w8 w.heap.size 5 .u8 v8 (xs ++ [b]) → (w6.alloc (.cells #[.int .u8 b] 5)).drew.grownBy w8 u3.ownBlock → (v8.ownBlock = u3.ownBlock ∨ v8.ownBlock = some (w6.alloc (.cells #[.int .u8 b] 5)).drew.heap.size) → LayW w.heap.size w6 u3 (xs ++ [b]) w8 v8 := fun v8 w8 h1 h2 h3 => la.step ⟨h1, h2, fun k e => by
          rcases h3 with h | h
          · exact .inl (h ▸ e)
          · right
            rw [h] at e
            injection e with e
            omega⟩
        have hlt6 := heap_lt HR5.out
        have hnegc : ∀ q wx zs, LayW w.heap.size w6 u3 zs wx q → q.ownBlock ≠ some gc := fun q wx zs h e => by
          rcases h.new _ e with h | h
          · exact hne h
          · omega
        have hu8 := fun q w2 (h : Own w2 w.heap.size 5 .u8 q (xs ++ [b])) (h2 : w.heap.size ≤ w2.heap.size) => colUintX w.heap.size q (xs ++ [b]) d.rev w2 h2 h hgd.ok.rev (by rw [List.length_append, List.length_singleton]; omega)
        go_upto_region 8 with fail
        go_cut [3] (fun q wx => LayW w.heap.size w6 u3 (xs ++ [b] ++ uintL d.rev) wx q)
        case first =>
          go_region_held3 (fun w' => w'.cell? ⟨gc, 1, none⟩ = some (.int .u64 (d.rev : Int))) (first | exact c1.out | exact C1b.out | exact c1c | exact c1d)
            (first
              | (refine step_append rfl _ (.tmp 21) 22 rfl w.heap.size 5 .u8 1 Tryd.underlying22 infoU8 u3 xs rfl oa _ 1 [b] rfl ra hm1 hm2 hba ?_; intro v8 w8 ho8 hg8 hv8; have c1c := hg8.cell C1b.out (fun e => hne e.symm); have hb8 := Nat.le_trans hba hg8.size; have lb := hstep v8 w8 ho8 hg8 hv8)
              | (go_at_call 19; (with_reducible refine (hu8 _ _ ho8 hb8).mono ?_); rintro e w4 ⟨v4, rfl, l4⟩; have lc := lb.step l4; have c1d := l4.grown.cell c1c (fun e => hnegc _ _ _ lb e.symm)))
          go_wp2_with fail
          go_meet
          exact lc
        case rest =>
          have hne9 := hnegc _ _ _ hcut
          have hb9 : w.heap.size ≤ wc.heap.size := Nat.le_trans hb6 hcut.grown.size
          have hr9 := (hcut.grown.block gc hlt6 (fun e => hne e.symm)).trans HR5.out
          have HR9 := Lib.hid hr9
          have d2 : wc.drew.cell? ⟨gc, 2, none⟩ = some (.string d.p.nm.key) := (cell_of_row wc _ 2 _ _ _ hr9).trans (chA_cells d).2.2.1
          have d3 : wc.drew.cell? ⟨gc, 3, none⟩ = some (.int .i64 d.p.nm.s) := (cell_of_row wc _ 3 _ _ _ hr9).trans (chA_cells d).2.2.2.1
          have d4 : wc.drew.cell? ⟨gc, 4, none⟩ = some (.int .i64 d.p.nm.e) := (cell_of_row wc _ 4 _ _ _ hr9).trans (chA_cells d).2.2.2.2
          have D2 := Lib.hid d2
          have D3 := Lib.hid d3
          have D4 := Lib.hid d4
          clear d2 d3 d4 hr9
          obtain ⟨ys, hys⟩ : ∃ ys, ys = xs ++ [b] ++ uintL d.rev := ⟨_, rfl⟩
          have hyl : ys.length ≤ 3100 := by
            have := (uintL_len d.rev).2
            rw [hys, List.length_append, List.length_append, List.length_singleton]
            omega
          have Hys := Lib.hid hys
          rw [← hys] at hcut
          clear hys
          have lc1 := l6.step hcut
          have l10 : LayW w.heap.size wc u3 ys wc.drew u3 := (LayW.refl hcut.own).drew
          have hb10 : w.heap.size ≤ wc.drew.heap.size := hb9
          have q1 := (uintL_len (zig d.p.nm.s)).2
          have q2 : (textL (keyB d.p.nm.key)).length ≤ 50 := by
            have := (uintL_len (keyB d.p.nm.key).length).2
            have := hgd.key
            unfold textL
            rw [List.length_append]
            omega
          have t1 := fun q w2 (h : Own w2 w.heap.size 5 .u8 q ys) (h2 : w.heap.size ≤ w2.heap.size) => colTextW w.heap.size q ys d.p.nm.key w2 h2 h (by omega) hgd.key
          have t2 := fun q w2 (h : Own w2 w.heap.size 5 .u8 q (ys ++ textL (keyB d.p.nm.key))) (h2 : w.heap.size ≤ w2.heap.size) => colIntW w.heap.size q _ d.p.nm.s w2 h2 h hgd.s (by rw [List.length_append]; omega)
          have t3 := fun q w2 (h : Own w2 w.heap.size 5 .u8 q (ys ++ textL (keyB d.p.nm.key) ++ uintL (zig d.p.nm.s))) (h2 : w.heap.size ≤ w2.heap.size) => colIntW w.heap.size q _ d.p.nm.e w2 h2 h hgd.e (by rw [List.length_append, List.length_append]; omega)
          clear q1
          go_upto_region 9 with fail
          go_cut [3] (fun q wx => LayW w.heap.size wc u3 (ys ++ textL (keyB d.p.nm.key) ++ uintL (zig d.p.nm.s) ++ uintL (zig d.p.nm.e)) wx q)
          case first =>
            go_region_held3 (fun w' => w'.cell? ⟨gc, 2, none⟩ = some (.string d.p.nm.key) ∧ w'.cell? ⟨gc, 3, none⟩ = some (.int .i64 d.p.nm.s) ∧ w'.cell? ⟨gc, 4, none⟩ = some (.int .i64 d.p.nm.e)) (first | exact ⟨D2.out, D3.out, D4.out⟩ | exact ⟨ea2, ea3, ea4⟩ | exact ⟨eb2, eb3, eb4⟩ | exact ⟨ec2, ec3, ec4⟩)
              (first
                | (go_at_call 21; (with_reducible refine (t1 _ _ l10.own hb10).mono ?_); rintro e w11 ⟨v11, rfl, l11⟩; have hb11 := Nat.le_trans hb10 l11.grown.size; have ea2 := l11.grown.cell D2.out (fun e => hne9 e.symm); have ea3 := l11.grown.cell D3.out (fun e => hne9 e.symm); have ea4 := l11.grown.cell D4.out (fun e => hne9 e.symm))
                | (go_at_call 20; (with_reducible refine (t2 _ _ l11.own hb11).mono ?_); rintro e w12 ⟨v12, rfl, l12⟩; have l112 := l11.step l12; have hb12 := Nat.le_trans hb11 l12.grown.size; have eb2 := l112.grown.cell D2.out (fun e => hne9 e.symm); have eb3 := l112.grown.cell D3.out (fun e => hne9 e.symm); have eb4 := l112.grown.cell D4.out (fun e => hne9 e.symm))
                | (go_at_call 20; (with_reducible refine (t3 _ _ l12.own hb12).mono ?_); rintro e w13 ⟨v13, rfl, l13⟩; have l113 := l112.step l13; have ec2 := l113.grown.cell D2.out (fun e => hne9 e.symm); have ec3 := l113.grown.cell D3.out (fun e => hne9 e.symm); have ec4 := l113.grown.cell D4.out (fun e => hne9 e.symm)))
            go_wp2_with fail
            go_meet
            exact l10.step l113
          case rest =>
            have lc2 := lc1.step hcut
            have hr15 := (hcut.grown.block gc (heap_lt HR9.out) (fun e => hne9 e.symm)).trans HR9.out
            have R5 : Hid (wc.rangeAt gc 5 (avC d.p.a).toList) := Lib.hid (World.rangeAt_of_block hr15 5 5)
            have hb15 : w.heap.size ≤ wc.heap.size := Nat.le_trans hb9 hcut.grown.size
            have hv := layValue_any w.heap.size u3 _ d.p.a wc hb15 hcut.own hgd.ok.a (by
              have := (uintL_len (zig d.p.nm.s)).2
              have := (uintL_len (zig d.p.nm.e)).2
              rw [List.length_append, List.length_append, List.length_append]
              omega)
            have hda2 : (avC d.p.a).toList.toArray = avC d.p.a := Array.toArray_toList
            have hB15 : Below w.heap.size w wc := ⟨lc2.grown.os, lc2.grown.tape, lc2.grown.output, lc2.grown.size, fun i hi => lc2.grown.block i hi (by simp [Value.ownBlock])⟩
            go_wp2_with (first
              | (refine at_op (.load 38 (.tmp 43)) ?_ rfl; refine wpList_load_mid rfl 38 (.tmp 43) rfl gc 5 rfl _ _ R5.out Tryd.underlying38 rfl (by exact sizeAgg) ?_; rw [hda2])
              | (go_at_call 22; (with_reducible refine hv.mono ?_); rintro e w16 ⟨v16, rfl, l16⟩; have lc3 := lc2.step l16))
            rw [Hys.out] at lc3
            exact ⟨⟨k + 1, by go_num, hlt, by rw [HN.out]; simpa only [List.append_assoc] using lc3, ⟨lc3.grown.os, lc3.grown.tape, lc3.grown.output, lc3.grown.size, fun i hi => lc3.grown.block i hi (by simp [Value.ownBlock])⟩⟩, by simp [intOf]; omega⟩
    · have hkk : k = L.length := by omega
      subst hkk
      rw [List.take_length] at hlay
      have hown : Own wr w.heap.size 5 .u8 u3 (layBody L) := hlay.own
      obtain ⟨A9, c9, e9, _, hr9⟩ := hown.form
      subst e9
      have hlb := HLB.out
      have ht9 : HasTab wr := HT.out.grown hlay.grown (by simp [Value.ownBlock])
      have hpg := lay_any w.heap.size (.slice none 0 0) [] 108 A9 c9 (layBody L) wr (Own.nil _ _ _ _) hr9 HL8.out (by decide) (by omega) (by decide) ht9 hB.size hpos
      rw [List.nil_append] at hpg
      generalize (layBody L).length = bn at *
      go_wp2_with (go_at_call 23; (with_reducible refine hpg.mono ?_); rintro e w20 ⟨v20, rfl, ho20, hg20⟩)
      go_ret
      exact ⟨v20, rfl, ho20, hB.trans ⟨hg20.os, hg20.tape, hg20.output, hg20.size, fun i hi => hg20.block i (Nat.lt_of_lt_of_le hi hB.size) (by simp [Value.ownBlock])⟩⟩
end Go.Proofs.YtgpfoamhcoipgaaDoor
