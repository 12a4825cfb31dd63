import Derived.Test.YtjmllggjaplldaaAw
/-! States laid, read, and gone on with. -/
namespace Go.Proofs.Ytjmllggjaplldaa
open Go.RowKit
set_option linter.unusedVariables false
attribute [-simp] Try.isAgg30 Try.sizeOf30 Try.typeInfo30 Try.type30
attribute [-simp] Try.isAgg32 Try.sizeOf32 Try.typeInfo32 Try.type32
attribute [-simp] Try.isAgg27 Try.sizeOf27 Try.typeInfo27 Try.type27

theorem addSt_has (s : St) (x : Nat) : (addSt s x).any = true := by
  unfold addSt
  split
  · rfl
  · split <;> rfl
theorem sumOf_has (xs : List Nat) (h : xs.length ≠ 0) : (sumOf xs).any = true := by
  have := sumOf_snoc xs (xs.length - 1) (by omega)
  rw [show xs.length - 1 + 1 = xs.length by omega, List.take_length] at this
  rw [this]
  exact addSt_has _ _
set_option maxRecDepth 100000 in
theorem asOf_fit (xs : List Nat) (h : xs.length ≤ 1000) : (asOf xs).fit := by
  by_cases h0 : xs.length = 0
  · obtain rfl := List.eq_nil_of_length_eq_zero h0
    exact ⟨Nat.zero_le _, by kernel_rfl, by kernel_rfl, rfl, fun _ => ⟨rfl, rfl⟩⟩
  · rw [asOf_all xs h0 (by omega)]
    exact ⟨show xs.length ≤ _ by omega, canon_canon _, canon_canon _, by rw [sumOf_has xs h0]; exact decide_eq_true (show 0 < xs.length by omega), fun e => absurd e h0⟩
theorem asOf_step (xs ys : List Nat) (k : Nat) (h : k < ys.length) : asOf (xs ++ ys.take (k + 1)) = addAS (asOf (xs ++ ys.take k)) (fd ys k) := by
  unfold asOf
  rw [List.foldl_append, List.foldl_append]
  have := asOf_snoc ys k h
  have e : ys.take (k + 1) = ys.take k ++ [fd ys k] := by
    rw [List.take_add_one]
    congr 1
    rw [List.getElem?_eq_getElem h, fd, List.getD_eq_getElem?_getD, List.getElem?_eq_getElem h]; rfl
  rw [e, List.foldl_append]; rfl
theorem layAS_asOf (xs : List Nat) (h : xs.length ≤ 1000) : layAS (asOf xs) = uintL xs.length ++ textL (bytesOf (sumOf xs)) ++ uintL (canon (valueR xs).lo) ++ uintL (canon (valueR xs).hi) := by
  by_cases h0 : xs.length = 0
  · obtain rfl := List.eq_nil_of_length_eq_zero h0
    rfl
  · rw [asOf_all xs h0 (by omega)]
    unfold valueR
    rw [if_neg h0]
    rfl
/-- A list of numbers of the call's own. -/
def OwnF (w : World) (base : Nat) (v : Value) (xs : List Nat) : Prop := w.ownsRow base 25 1 v xs.length (xs.map (Value.float .f64))
theorem OwnF.form {w : World} {base : Nat} {v : Value} {xs : List Nat} (h : OwnF w base v xs) : ∃ A cap, v = .slice A xs.length cap ∧ xs.length ≤ cap ∧ FReads w A xs := by
  rcases h.2 with ⟨rfl, h0⟩ | ⟨g, cap, cur, rfl, hb, hg, hn, hm, hs, ht⟩
  · have : xs = [] := List.eq_nil_of_length_eq_zero h0
    subst this
    exact ⟨none, 0, rfl, by simp, FReads.nil _ _⟩
  · refine ⟨_, cap, rfl, hn, fun i hi => ⟨_, rfl, ?_⟩⟩
    refine World.ownsRow.cells h (g := g) rfl i _ ?_
    rw [List.getElem?_map, List.getElem?_eq_getElem hi, fd, List.getD_eq_getElem?_getD, List.getElem?_eq_getElem hi]; rfl
theorem OwnF.below {w w' : World} {base : Nat} {v : Value} {xs : List Nat} (h : OwnF w base v xs) (hb : Below w.heap.size w w') : OwnF w' base v xs :=
  World.ownsRow.kept (row := none) h ⟨hb.os, hb.tape, hb.output, hb.size, fun i hi _ => hb.block i hi⟩ (by cases hv : v.ownBlock <;> simp)
theorem run_append_flts {P : Program} (w : World) (base : Nat) (t ty : TypeId) (ht : P.underlying t = some (.slice 25)) (i : TypeInfo) (hi : P.info? 25 = some i) (hz : i.zero = some (.float .f64 0)) (hs : i.size = 1) (hb : i.bytes = 8)
    (v : Value) (xs : List Nat) (hown : OwnF w base v xs) (A : Option Addr) (c : Nat) (ys : List Nat) (hy : FReads w A ys) (hl : xs.length + ys.length ≤ 1000) (hbase : base ≤ w.heap.size) :
    ∃ v' w', (Builtin.append_ #[t, t] ty #[v, .slice A ys.length c]).run P w = .ok v' w' ∧ OwnF w' base v' (xs ++ ys) ∧ w.grownBy w' v.ownBlock ∧ (v'.ownBlock = v.ownBlock ∨ v'.ownBlock = some w.heap.size) := by
  cases A with
  | none =>
    have h0 : ys = [] := by
      cases ys with
      | nil => rfl
      | cons y ys => obtain ⟨a, h, _⟩ := hy 0 (by simp); cases h
    subst h0
    have hrun : (Builtin.append_ #[t, t] ty #[v, .slice none 0 c]).run P w = .ok v w := by
      rcases hown.2 with ⟨rfl, h0⟩ | ⟨g, cap, cur, rfl, _, _, hnc, _⟩
      · simp [Builtin.append_, run_underlying ht, sizeOf, typeInfo, hi, Builtin.lenOf, Builtin.firstCells]
      · simp [Builtin.append_, run_underlying ht, sizeOf, typeInfo, hi, Builtin.lenOf, Builtin.firstCells, hnc, storeCells]
    exact ⟨v, w, hrun, by simpa using hown, ⟨rfl, rfl, rfl, Nat.le_refl _, fun _ _ _ => rfl⟩, .inl rfl⟩
  | some a =>
    obtain ⟨v', w', hrun, h2, h3, _, h5⟩ := run_append_own_at (P := P) w base t ty 25 i (.float .f64 0) 1 8 ht hi hz hs hb rfl (by omega) v xs.length (xs.map (Value.float .f64)) hown a ys.length c (ys.map (Value.float .f64)) (by simp)
      (fun j u hu => by
        have hj : j < ys.length := by
          rcases Nat.lt_or_ge j ys.length with h | h
          · exact h
          · rw [List.getElem?_eq_none (by simpa using h)] at hu; cases hu
        obtain ⟨a', e', hc⟩ := hy j hj
        cases e'
        rw [List.getElem?_map, List.getElem?_eq_getElem hj] at hu
        rw [hc, fd, List.getD_eq_getElem?_getD, List.getElem?_eq_getElem hj]; simpa using hu)
      (fun u hu => by obtain ⟨x, _, rfl⟩ := List.mem_map.1 hu; rfl) (by unfold maxLen; omega) (by omega) hbase
    exact ⟨v', w', hrun, by unfold OwnF; rw [List.length_append, List.map_append]; exact h2, h3, h5⟩
theorem wpList_appendF {P : Program} {ops : Array Oper} {rest : List Oper} {o : Oper} {a : Act} {Q : Exit → Act → World → Prop} (hgd : o.guard = none) (w : World) (s x : Operand) (t : TypeId) (ho : o.op = .call { callee := .builtin .append, args := #[s, x], argTypes := #[t, t] })
    (base : Nat) (ht : P.underlying t = some (.slice 25)) (i : TypeInfo) (hi : P.info? 25 = some i) (hz : i.zero = some (.float .f64 0)) (hsi : i.size = 1) (hbi : i.bytes = 8)
    (v : Value) (xs : List Nat) (hs : a.eval s = v) (hown : OwnF w base v xs) (A : Option Addr) (c : Nat) (ys : List Nat) (hx : a.eval x = .slice A ys.length c) (hy : FReads w A ys)
    (hl : xs.length + ys.length ≤ 1000) (hbase : base ≤ w.heap.size)
    (h : ∀ v' w', OwnF w' base v' (xs ++ ys) → w.grownBy w' v.ownBlock → (v'.ownBlock = v.ownBlock ∨ v'.ownBlock = some w.heap.size) → wpList P ops Q rest (a.put o.dst v') w') : wpList P ops Q (o :: rest) a w :=
  wpList_plain hgd fun K hK => by
    obtain ⟨v', w', hrun, h2, h3, h4⟩ := run_append_flts (P := P) w base t o.type ht i hi hz hsi hbi v xs hown A c ys hy hl hbase
    unfold Oper.wp execOp
    simp only [ho, resolve, invoke, builtin, Sem.run_bind, Sem.run_pure, Result.andThen_ok, List.map_toArray, List.map_cons, List.map_nil, hs, hx, hrun]
    exact hK _ _ (h v' w' h2 h3 h4)
set_option maxRecDepth 100000 in
theorem back_good (g B k : Nat) (a : AS) (Z : Array Value) (w : World) (h : RdSt w g B (layAS a)) (hB : B ≤ w.heap.size) (hk : w.heap[k]? = some (.cells Z 32)) (hZ : Z.size = 43) (hkg : k ≠ g) (hBk : B ≤ k) (hok : a.ok) (hft : a.fit) :
    Calls Try.prog 30 #[.pointer (some ⟨g, 0, none⟩), .pointer (some ⟨k, 0, none⟩)] w fun e w' => e = .returned (.tuple #[]) ∧ RdSt w' g B [] ∧ ∃ w1, w.grownBy w1 (some g) ∧ w' = w1.setRow k (asC a) := by
  have hc := readAgg_good g B a [] w (by rw [List.append_nil]; exact h) Bytes8.nil hB hok hft (by simp)
  have Hs := Lib.hid sizeState
  have hD := asC_one a
  have hDs := asC_size a
  generalize asC a = D at *
  clear h hB hok hft
  go_enter Try.func30, Try.ntmps30
  go_wp2_with (first
    | (go_at_call 31; (with_reducible refine hc.mono ?_); rintro e w1 ⟨rfl, hs, hg⟩)
    | (refine at_op (.store 32 (.tmp 1) (.tmp 4)) ?_ rfl; refine wpList_store_row rfl 32 (.tmp 1) (.tmp 4) rfl k D rfl rfl 32 Z (RdSt.row hg hk hkg) (by rw [hDs]; exact Hs.out) (by rw [hDs, hZ]) hD ?_))
  go_end0
  exact ⟨rfl, hs.setRow hBk hkg _, w1, hg, rfl⟩
set_option maxRecDepth 100000 in
theorem hcf_back (a : Array Value) (w : World) : (callFunc 30 a).run Try.prog w = .ok (.enter 30 a) w := by kernel_rfl
set_option maxRecDepth 100000 in
theorem try_back_good (A : Option Addr) (n c k : Nat) (a : AS) (Z : Array Value) (w : World) (hn : (layAS a).length = n) (hc : n ≤ c) (hr : Reads w .u8 A (layAS a)) (hB : layAS a ≠ [] → ∀ b, A = some b → b.block < k) (hkw : k < w.heap.size)
    (hk : w.heap[k]? = some (.cells Z 32)) (hZ : Z.size = 43) (hok : a.ok) (hft : a.fit) :
    Calls Try.prog 26 #[.slice A n c, .func (.func 30) #[] #[.pointer (some ⟨k, 0, none⟩)]] w fun e w' => e = .returned (.bool true) ∧ Below k w w' ∧ w'.heap[k]? = some (.cells (asC a) 32) := by
  have hs := rdSt_new hn hc hr hB (Nat.le_of_lt hkw) (.cells #[.bool false] 4)
  subst hn
  have hg0 := heap_alloc_new w (.cells #[.bool false] 4)
  have hsz : ((w.alloc (.cells #[.bool false] 4)).alloc (.cells #[.slice A (layAS a).length c] 80)).heap.size = w.heap.size + 2 := by simp
  have hg1 := ((below_alloc (Below.refl (w.alloc (.cells #[.bool false] 4)).heap.size (w.alloc (.cells #[.bool false] 4))) (.cells #[.slice A (layAS a).length c] 80)).block w.heap.size (by simp)).trans hg0
  have hbb := below_alloc (below_alloc (Below.refl w.heap.size w) (.cells #[.bool false] 4)) (.cells #[.slice A (layAS a).length c] 80)
  have hk1 := (hbb.block k hkw).trans hk
  have ht := back_good (w.heap.size + 1) k k a Z _ hs (by omega) hk1 hZ (by omega) (Nat.le_refl _) hok hft
  refine (try_good 30 #[.pointer (some ⟨k, 0, none⟩)] A c (layAS a) w k [] (fun w2 => ∃ w1, ((w.alloc (.cells #[.bool false] 4)).alloc (.cells #[.slice A (layAS a).length c] 80)).grownBy w1 (some (w.heap.size + 1)) ∧ w2 = w1.setRow k (asC a)) hcf_back ?_ ht).mono ?_
  · rintro w2 ⟨w1, hg, rfl⟩
    have hrow := (setRow_other w1 k w.heap.size (asC a) (by omega)).trans (RdSt.row hg hg1 (by omega))
    exact ⟨cell_of_row _ _ 0 _ _ _ hrow, frozen_of_row hrow 0⟩
  · rintro e w' ⟨w2, ⟨w1, hg, rfl⟩, rfl, rfl⟩
    have hb1 : Below w.heap.size w w1 := hbb.grown hg hbb.size (fun g e => by injection e with e; omega)
    have hb2 : Below k w w1 := hb1.mono (Nat.le_of_lt hkw)
    have hrow := setRow_heap w1 k Z (asC a) _ _ ((hb1.block k hkw).trans hk)
    exact ⟨rfl, (below_setRow hb2 (Nat.le_refl k) _).setCell (p := ⟨w.heap.size, 0, none⟩) (Nat.le_of_lt hkw) _, (Below.heap_setCell _ ⟨w.heap.size, 0, none⟩ _ k (by simp; omega)).trans hrow⟩
set_option maxRecDepth 100000 in
set_option maxHeartbeats 16000000 in
theorem refLay12_any (A : Option Addr) (cap : Nat) (xs : List Nat) (w : World) (hr : FReads w A xs) (h64 : Words64 xs) (hlen : xs.length ≤ 1000) :
    Calls Try.prog 29 #[.slice A xs.length cap] w fun e w' => ∃ v, e = .returned v ∧ Own w' w.heap.size 5 .u8 v (layAS (asOf xs)) ∧ Below w.heap.size w w' := by
  have hok := valueR_ok xs h64 (by omega)
  have hv := valueR_any A cap xs w hr h64 hlen
  have Hs := Lib.hid sizeAgg
  have hlay := Lib.hid (layAS_asOf xs hlen)
  have hof := fun (w1 : World) (b : Below w.heap.size w w1) => refOf_any A cap xs 2240 w1 rfl (hr.below b) h64 hlen
  have hbyt := fun (g : Nat) (w1 : World) (hg : BitsAt w1 g (sumOf xs).w) => refBytes_any g (sumOf xs) 2240 w1 rfl hg
  have h8b := bytesOf_bytes (sumOf xs)
  have hbl := bytesOf_len (sumOf xs)
  have htx := fun w => refText_any (bytesOf (sumOf xs)) w h8b (by omega)
  have e1 := (uintL_len xs.length).2
  have e2 := textL_len (bytesOf (sumOf xs))
  have e3 := (uintL_len (canon (valueR xs).lo)).2
  have e4 := (uintL_len (canon (valueR xs).hi)).2
  have hu1 := fun w => refUint_any xs.length w (by omega)
  have hu2 := fun w => refUint_any (canon (valueR xs).lo) w (canon_lt hok.lo)
  have hu3 := fun w => refUint_any (canon (valueR xs).hi) w (canon_lt hok.hi)
  have b1 := fun w => refBits_any (valueR xs).lo w hok.lo
  have b2 := fun w => refBits_any (valueR xs).hi w hok.hi
  have hwl := wrap_len xs.length (by omega)
  obtain ⟨a0, a1, a2, a3, a4⟩ := avC_cells (valueR xs)
  have hD := avC_one (valueR xs)
  have hDs : (avC (valueR xs)).size = 5 := rfl
  obtain ⟨Z, hZ, zz⟩ : ∃ Z : Array Value, Z.size = 5 ∧ ∀ w, (zeroValue 27).run Try.prog w = .ok (.agg Z) w := ⟨avC noAV, rfl, zeroAgg⟩
  generalize avC (valueR xs) = D at *
  generalize canon (valueR xs).lo = lo at *
  generalize canon (valueR xs).hi = up at *
  generalize (valueR xs).lo = lof at *
  generalize (valueR xs).hi = upf at *
  generalize uintL xs.length = U1 at *
  generalize textL (bytesOf (sumOf xs)) = U2 at *
  generalize uintL lo = U3 at *
  generalize uintL up = U4 at *
  clear a0 a1 a2 hok
  have HL1 : Hid (U1.length + U2.length ≤ maxLen ∧ (U1.length + U2.length) * 1 ≤ 140737488355328) := Lib.hid (by unfold maxLen; omega)
  have HL2 : Hid ((U1 ++ U2).length + U3.length ≤ maxLen ∧ ((U1 ++ U2).length + U3.length) * 1 ≤ 140737488355328) := Lib.hid (by rw [List.length_append]; unfold maxLen; omega)
  have HL3 : Hid ((U1 ++ U2 ++ U3).length + U4.length ≤ maxLen ∧ ((U1 ++ U2 ++ U3).length + U4.length) * 1 ≤ 140737488355328) := Lib.hid (by rw [List.length_append, List.length_append]; unfold maxLen; omega)
  clear e1 e2 e3 e4
  have hli : (xs.length : Int) ≤ 1000 := by omega
  clear h64 hlen
  go_enter Try.func29, Try.ntmps29
  go_upto_region 3 with (first
    | (go_at_call 18; (with_reducible refine hv.mono ?_); rintro e w1 ⟨rfl, bb1⟩)
    | (refine at_op (.alloc 27) ?_ rfl; refine wpList_alloc_row rfl _ 27 rfl (some 3) rfl w1.heap.size rfl Z zz ?_; have hz3 := heap_alloc_new w1 (.cells Z 27))
    | (refine at_op (.store 27 (.tmp 3) (.tmp 6)) ?_ rfl; refine wpList_store_row rfl 27 (.tmp 3) (.tmp 6) rfl w1.heap.size D rfl rfl 27 Z hz3 (by rw [hDs]; exact Hs.out) (by rw [hDs, hZ]) hD ?_; rw [World.setRow_alloc_new])
    | (go_at_call 24; (with_reducible refine (hu1 _).mono ?_); rintro e w2 ⟨v2, rfl, o2, b2q⟩))
  have hd3 := heap_alloc_new w1 (.cells D 27)
  have hba := below_alloc bb1 (.cells D 27)
  have d3 := (cell_of_row _ _ 3 _ _ _ hd3).trans a3
  have d4 := (cell_of_row _ _ 4 _ _ _ hd3).trans a4
  have s2 := RefLay.start o2 b2q
  generalize w1.heap.size = g1 at *
  generalize w1.alloc (.cells D 27) = wa at *
  have D3 := Lib.hid d3
  have D4 := Lib.hid d4
  clear hv hz3 hd3 o2 b2q d3 d4 a3 a4 bb1
  have bw2 := below_trans hba s2.below
  obtain ⟨l1, l2⟩ := HL1.out
  generalize bytesOf (sumOf xs) = bs at *
  go_upto_region 4 with (first
    | (go_at_call 15; (with_reducible refine (hof _ bw2).mono ?_); rintro e w3 ⟨k3, rfl, hg3, b3⟩; have s3 := s2.next b3)
    | (go_at_call 57; (with_reducible refine (hbyt k3 w3 hg3).mono ?_); rintro e w4 ⟨v4, rfl, o4, b4⟩; have s4 := s3.next b4; obtain ⟨A4, c4, rfl, hc4, r4⟩ := o4.form; have hcv := run_string_reads (P := Try.prog) w4 37 9 5 Try.underlying37 Try.underlying5 Try.underlying9 A4 c4 bs r4)
    | (go_at_call 56; (with_reducible refine (htx _).mono ?_); rintro e w5 ⟨v5, rfl, o5, b5⟩; have s5 := s4.next b5; obtain ⟨A5, c5, rfl, hc5, r5⟩ := o5.form; have z5 := s5.below.size)
    | (at_builtin
       refine wpList_append rfl _ (.tmp 11) (.tmp 16) 37 rfl wa.heap.size 5 .u8 1 Try.underlying37 infoU8 _ U1 rfl s5.own A5 c5 U2 rfl r5 l1 l2 z5 ?_
       intro v6 w6 o6 g6 n6))
  have s6 := s5.app o6 g6
  have c3 := cell_below s6.below D3.out
  have HFz := hlay
  clear o6 g6 n6 s5 s4 s3 s2 o5 b5 r5 hc5 z5 l1 l2 hcv r4 o4 b4 hc4 b3 hg3 hof hbyt htx bw2
  obtain ⟨l1, l2⟩ := HL2.out
  go_upto_region 5 with (first
    | (go_at_call 35; (with_reducible refine (b1 _).mono ?_); rintro e w7 ⟨rfl, rfl⟩)
    | (go_at_call 24; (with_reducible refine (hu2 _).mono ?_); rintro e w7 ⟨v7, rfl, o7, b7⟩; have s7 := s6.next b7; obtain ⟨A7, c7, rfl, hc7, r7⟩ := o7.form; have z7 := s7.below.size)
    | (at_builtin
       refine wpList_append rfl _ (.tmp 18) (.tmp 22) 37 rfl wa.heap.size 5 .u8 1 Try.underlying37 infoU8 _ (U1 ++ U2) rfl s7.own A7 c7 U3 rfl r7 l1 l2 z7 ?_
       intro v8 w8 o8 g8 n8))
  have s8 := s7.app o8 g8
  have c4 := cell_below s8.below D4.out
  clear o8 g8 n8 s7 s6 o7 b7 r7 hc7 z7 l1 l2 c3 hu1 hu2 b1
  obtain ⟨l1, l2⟩ := HL3.out
  go_wp2_with (first
    | (go_at_call 35; (with_reducible refine (b2 _).mono ?_); rintro e w9 ⟨rfl, rfl⟩)
    | (go_at_call 24; (with_reducible refine (hu3 _).mono ?_); rintro e w9 ⟨v9, rfl, o9, b9⟩; have s9 := s8.next b9; obtain ⟨A9, c9, rfl, hc9, r9⟩ := o9.form; have z9 := s9.below.size)
    | (at_builtin
       refine wpList_append rfl _ (.tmp 24) (.tmp 28) 37 rfl wa.heap.size 5 .u8 1 Try.underlying37 infoU8 _ (U1 ++ U2 ++ U3) rfl s9.own A9 c9 U4 rfl r9 l1 l2 z9 ?_
       intro v11 w11 o11 g11 n11))
  have s11 := s9.app o11 g11
  go_ret
  exact ⟨v11, rfl, by rw [HFz.out]; exact s11.own.mono hba.size, below_trans hba s11.below⟩
end Go.Proofs.Ytjmllggjaplldaa
