import Derived.Test.YtejkilgpcbdepaaKit
import Derived.Maps.AppendAt
import Derived.Deep.AppendLies
import Derived.Laws.BytesArg
import Derived.OwnWalk
import Derived.Deep.QuietTactic
import Derived.BigQuiet
import Derived.Deep.RegionHeld3
import Derived.StillTailTactics
namespace Go.Proofs.Ytejkilgpcbdepaa
open Go.RowKit Go.ChangeShapes Go.WideShapes

theorem add_add (a : Addr) (i j : Nat) : (a.add i).add j = a.add (i + j) := by
  unfold Addr.add
  by_cases hi : i = 0 <;> by_cases hj : j = 0 <;> simp [hi, hj, Nat.add_assoc]
theorem Reads.lit {w : World} {k : IntKind} {a : Addr} {xs : List Int} (h : Reads w k (some a) xs) (i : Nat) (hi : i < xs.length) : w.cell? (a.add i) = some (.int k (rd xs i)) := by
  obtain ⟨_, e, hc⟩ := h i hi
  cases e
  exact hc
theorem Reads.some_ {w : World} {k : IntKind} {A : Option Addr} {xs : List Int} (h : Reads w k A xs) (hi : 0 < xs.length) : ∃ a, A = some a := by
  obtain ⟨a, h, _⟩ := h 0 hi; exact ⟨a, h⟩
theorem rd_drop (xs : List Int) (j i : Nat) : rd (xs.drop j) i = rd xs (j + i) := by
  simp [rd, List.getD_eq_getElem?_getD, List.getElem?_drop]
theorem rd_take (xs : List Int) (j i : Nat) (h : i < j) : rd (xs.take j) i = rd xs i := by
  simp [rd, List.getD_eq_getElem?_getD, h]
/-- Where a slice that is cut at j begins. -/
def cutAt (A : Option Addr) (cap j : Nat) : Option Addr := if cap = j then A else A.map (·.add j)
theorem Reads.drop {w : World} {k : IntKind} {A : Option Addr} {xs : List Int} (h : Reads w k A xs) (j : Nat) : Reads w k (A.map (·.add j)) (xs.drop j) := fun i hi => by
  rw [List.length_drop] at hi
  obtain ⟨a, rfl, hc⟩ := h (j + i) (by omega)
  exact ⟨a.add j, rfl, by rw [add_add, rd_drop]; exact hc⟩
theorem Reads.cut {w : World} {k : IntKind} {A : Option Addr} {xs : List Int} (h : Reads w k A xs) (cap j : Nat) (hc : xs.length ≤ cap) : Reads w k (cutAt A cap j) (xs.drop j) := by
  unfold cutAt
  split
  · rename_i e
    rw [List.drop_eq_nil_of_le (by omega)]
    exact Reads.nil _ _ _
  · exact h.drop j
theorem Reads.take {w : World} {k : IntKind} {A : Option Addr} {xs : List Int} (h : Reads w k A xs) (j : Nat) : Reads w k A (xs.take j) := fun i hi => by
  rw [List.length_take] at hi
  obtain ⟨a, rfl, hc⟩ := h i (by omega)
  exact ⟨a, rfl, by rw [rd_take xs j i (by omega)]; exact hc⟩
theorem Bytes8.drop {l : List Int} (h : Bytes8 l) (j : Nat) : Bytes8 (l.drop j) := fun i hi => by
  rw [List.length_drop] at hi; rw [rd_drop]; exact h _ (by omega)
theorem Bytes8.take {l : List Int} (h : Bytes8 l) (j : Nat) : Bytes8 (l.take j) := fun i hi => by
  rw [List.length_take] at hi; rw [rd_take l j i (by omega)]; exact h _ (by omega)
theorem rd_append (xs ys : List Int) (i : Nat) : rd (xs ++ ys) i = if i < xs.length then rd xs i else rd ys (i - xs.length) := by
  simp only [rd, List.getD_eq_getElem?_getD, List.getElem?_append]
  split <;> rfl
theorem Bytes8.append {l m : List Int} (h : Bytes8 l) (k : Bytes8 m) : Bytes8 (l ++ m) := fun i hi => by
  rw [List.length_append] at hi; rw [rd_append]
  split
  · exact h i ‹_›
  · exact k _ (by omega)
theorem Bytes8.nil : Bytes8 [] := fun i hi => absurd hi (by simp)
theorem Bytes8.cons {b : Int} {l : List Int} (hb : 0 ≤ b ∧ b ≤ 255) (h : Bytes8 l) : Bytes8 (b :: l) := fun i hi => by
  match i with
  | 0 => exact hb
  | i + 1 => exact h i (by simpa using hi)

/-- A slice of whole numbers that the call made itself: it owns its row. -/
def Own (w : World) (base : Nat) (e : TypeId) (k : IntKind) (v : Value) (xs : List Int) : Prop := w.ownsRow base e 1 v xs.length (xs.map (Value.int k))
theorem Own.nil (w : World) (base : Nat) (e : TypeId) (k : IntKind) : Own w base e k (.slice none 0 0) [] := World.ownsRow_nil w base e 1
theorem Own.lt {w : World} {base : Nat} {e : TypeId} {k : IntKind} {v : Value} {xs : List Int} (h : Own w base e k v xs) : ∀ g, v.ownBlock = some g → base ≤ g ∧ g < w.heap.size := World.ownsRow.lt h
theorem Own.form {w : World} {base : Nat} {e : TypeId} {k : IntKind} {v : Value} {xs : List Int} (h : Own w base e k v xs) : ∃ A cap, v = .slice A xs.length cap ∧ xs.length ≤ cap ∧ Reads w k A xs := by
  rcases h.2 with ⟨rfl, h0⟩ | ⟨g, cap, cur, rfl, hb, hg, hn, hm, hs, ht⟩
  · have : xs = [] := List.eq_nil_of_length_eq_zero h0
    subst this
    exact ⟨none, 0, rfl, by simp, Reads.nil _ _ _⟩
  · refine ⟨_, cap, rfl, hn, fun i hi => ⟨_, rfl, ?_⟩⟩
    refine World.ownsRow.cells h (g := g) rfl i _ ?_
    rw [List.getElem?_map, List.getElem?_eq_getElem hi, rd_eq xs i hi]; rfl
theorem Own.below {w w' : World} {base : Nat} {e : TypeId} {k : IntKind} {v : Value} {xs : List Int} (h : Own w base e k v xs) (hb : Below w.heap.size w w') : Own w' base e k v xs :=
  World.ownsRow.kept (row := none) h ⟨hb.os, hb.tape, hb.output, hb.size, fun i hi _ => hb.block i hi⟩ (by cases hv : v.ownBlock <;> simp)
theorem Own.alloc {w : World} {base : Nat} {e : TypeId} {k : IntKind} {v : Value} {xs : List Int} (h : Own w base e k v xs) (o : Obj) : Own (w.alloc o) base e k v xs := h.below ((Below.refl _ _).alloc (Nat.le_refl _) o)
theorem Own.mono {w : World} {base base' : Nat} {e : TypeId} {k : IntKind} {v : Value} {xs : List Int} (h : Own w base e k v xs) (hb : base' ≤ base) : Own w base' e k v xs := by
  refine ⟨h.1, ?_⟩
  rcases h.2 with h2 | ⟨g, cap, cur, hv, hg, r⟩
  · exact .inl h2
  · exact .inr ⟨g, cap, cur, hv, Nat.le_trans hb hg, r⟩
theorem Own.kept {w w' : World} {row : Option Nat} {base : Nat} {e : TypeId} {k : IntKind} {v : Value} {xs : List Int} (h : Own w base e k v xs) (hg : w.grownBy w' row) (hne : v.ownBlock = none ∨ v.ownBlock ≠ row) : Own w' base e k v xs := World.ownsRow.kept h hg hne
theorem Own.new (w : World) (base : Nat) (e : TypeId) (k : IntKind) (xs : List Int) (C : Array Value) (hC : C.toList = xs.map (Value.int k)) (hb : base ≤ w.heap.size) (hm : xs.length ≤ maxLen) :
    Own (w.alloc (.cells C e)) base e k (.slice (some ⟨w.heap.size, 0, none⟩) xs.length xs.length) xs := by
  have hs : C.size = xs.length := by rw [← Array.length_toList, hC, List.length_map]
  refine ⟨by simp, .inr ⟨w.heap.size, xs.length, C, rfl, hb, heap_alloc_new w _, Nat.le_refl _, hm, by omega, ?_⟩⟩
  rw [hC, Nat.mul_one, List.take_of_length_le (by simp)]
theorem Reads.one (w : World) (e : TypeId) (k : IntKind) (b : Int) : Reads (w.alloc (.cells #[.int k b] e)) k (some ⟨w.heap.size, 0, none⟩) [b] := Reads.new fun i hi => by
  have h0 : i = 0 := by simp at hi; omega
  subst h0
  rfl
theorem results_tmp4 {fn : Func} {t u v x : Tmp} (h : fn.results = #[.tmp t, .tmp u, .tmp v, .tmp x]) (tmps : Array Value) (P : Program) (w : World) :
    (results fn tmps).run P w = .ok (.tuple #[tmps.getD t undef, tmps.getD u undef, tmps.getD v undef, tmps.getD x undef]) w := by simp [results, h]
/-- A slice's length, said otherwise. -/
theorem calls_len {P : Program} {f : FuncId} {A : Option Addr} {m n c : Nat} {w : World} {R : Ending → World → Prop} (h : m = n) (k : Calls P f #[.slice A m c] w R) : Calls P f #[.slice A n c] w R := h ▸ k
theorem quiet_of_left {P : Program} {f : FuncId} {args : Array Value} {w : World} {n : Nat} {v : Value} (h : Calls P f args (w.drewN n) fun e w' => e = .returned v ∧ w.drewN n = w') :
    Calls P f args (w.drewN n) fun e w'' => e = .returned v ∧ ∃ m, w'' = w.drewN m := h.mono fun _ _ ⟨he, hm⟩ => ⟨he, n, hm.symm⟩
theorem quiet_of_drew {P : Program} {f : FuncId} {args : Array Value} {w : World} {n : Nat} {v : Value} (h : Calls P f args (w.drewN n) fun e w' => e = .returned v ∧ ∃ m, w' = (w.drewN n).drewN m) :
    Calls P f args (w.drewN n) fun e w'' => e = .returned v ∧ ∃ m, w'' = w.drewN m := h.mono fun _ _ ⟨he, m, hm⟩ => ⟨he, n + m, by rw [hm, World.drewN_drewN]⟩
theorem Reads.drewN {w : World} {k : IntKind} {A : Option Addr} {xs : List Int} (h : Reads w k A xs) (n : Nat) : Reads (w.drewN n) k A xs := h
/-- A row that is read, read again behind an append onto an owned one. -/
theorem Reads.grown {w w' : World} {row : Option Nat} {k : IntKind} {A : Option Addr} {xs : List Int} (h : Reads w k A xs) (hg : w.grownBy w' row) (hr : ∀ a, A = some a → some a.block ≠ row) : Reads w' k A xs := fun i hi => by
  obtain ⟨a, rfl, hc⟩ := h i hi
  refine ⟨a, rfl, hg.cell hc ?_⟩
  have : (a.add i).block = a.block := by unfold Addr.add; split <;> rfl
  rw [this]; exact hr a rfl

theorem grown_trans {w w1 w2 : World} {r r' : Option Nat} (h : w.grownBy w1 r) (h' : w1.grownBy w2 r') (hr : ∀ k, r' = some k → r = some k ∨ w.heap.size ≤ k) : w.grownBy w2 r :=
  ⟨h'.os.trans h.os, h'.tape.trans h.tape, h'.output.trans h.output, Nat.le_trans h.size h'.size, fun k hk hne => (h'.block k (Nat.lt_of_lt_of_le hk h.size) (fun e => by
    rcases hr k e.symm with h1 | h1
    · exact hne h1.symm
    · omega)).trans (h.block k hk hne)⟩
theorem grown_refl (w : World) (r : Option Nat) : w.grownBy w r := ⟨rfl, rfl, rfl, Nat.le_refl _, fun _ _ _ => rfl⟩
theorem grown_of_below {w w' : World} (h : Below w.heap.size w w') (r : Option Nat) : w.grownBy w' r := ⟨h.os, h.tape, h.output, h.size, fun k hk _ => h.block k hk⟩
theorem below_of_grown {w w' : World} {r : Option Nat} (h : w.grownBy w' r) (hr : ∀ k, r = some k → w.heap.size ≤ k) : Below w.heap.size w w' :=
  ⟨h.os, h.tape, h.output, h.size, fun k hk => h.block k hk (fun e => by have := hr k e.symm; omega)⟩
section
variable {P : Program} {ops : Array Oper} {rest : List Oper} {o : Oper} {a : Act} {Q : Exit → Act → World → Prop}
/-- append(s, x...): s is the call's own, x whatever reads as a list. -/
theorem run_append_reads (w : World) (base : Nat) (t ty e : TypeId) (k : IntKind) (bytes : Nat) (ht : P.underlying t = some (.slice e)) (hinfo : (P.info? e).map (fun i => (i.zero, i.size, i.bytes)) = some (some (.int k 0), 1, bytes))
    (v : Value) (xs : List Int) (hown : Own w base e k v xs) (A : Option Addr) (c : Nat) (ys : List Int) (hy : Reads w k A ys)
    (h63 : xs.length + ys.length ≤ maxLen) (hbytes : (xs.length + ys.length) * bytes ≤ 140737488355328) (hbase : base ≤ w.heap.size) :
    ∃ v' w', (Builtin.append_ #[t, t] ty #[v, .slice A ys.length c]).run P w = .ok v' w' ∧ Own w' base e k v' (xs ++ ys) ∧ w.grownBy w' v.ownBlock ∧ (v'.ownBlock = v.ownBlock ∨ v'.ownBlock = some w.heap.size) := by
  obtain ⟨i, hi, hz, hs, hb⟩ := info_parts hinfo
  cases A with
  | none =>
    have h0 : ys = [] := by
      cases ys with
      | nil => rfl
      | cons y ys => obtain ⟨a, h, _⟩ := hy 0 (by simp); cases h
    subst h0
    have hrun : (Builtin.append_ #[t, t] ty #[v, .slice none 0 c]).run P w = .ok v w := by
      rcases hown.2 with ⟨rfl, h0⟩ | ⟨g, cap, cur, rfl, _, _, hnc, _⟩
      · simp [Builtin.append_, run_underlying ht, sizeOf, typeInfo, hi, Builtin.lenOf, Builtin.firstCells]
      · simp [Builtin.append_, run_underlying ht, sizeOf, typeInfo, hi, Builtin.lenOf, Builtin.firstCells, hnc, storeCells]
    exact ⟨v, w, hrun, by simpa using hown, ⟨rfl, rfl, rfl, Nat.le_refl _, fun _ _ _ => rfl⟩, .inl rfl⟩
  | some a =>
    obtain ⟨v', w', hrun, h2, h3, _, h5⟩ := run_append_own_at (P := P) w base t ty e i (.int k 0) 1 bytes ht hi hz hs hb rfl (by omega) v xs.length (xs.map (Value.int k)) hown a ys.length c (ys.map (Value.int k)) (by simp)
      (fun j u hu => by
        have hj : j < ys.length := by
          rcases Nat.lt_or_ge j ys.length with h | h
          · exact h
          · rw [List.getElem?_eq_none (by simpa using h)] at hu; cases hu
        obtain ⟨a', e', hc⟩ := hy j hj
        cases e'
        rw [List.getElem?_map, List.getElem?_eq_getElem hj] at hu
        rw [hc, rd_eq ys j hj]; simpa using hu)
      (fun u hu => by obtain ⟨x, _, rfl⟩ := List.mem_map.1 hu; rfl) h63 hbytes hbase
    exact ⟨v', w', hrun, by unfold Own; rw [List.length_append, List.map_append]; exact h2, h3, h5⟩
theorem wp_append {K : Act → World → Prop} (w : World) (s x : Operand) (t : TypeId) (ho : o.op = .call { callee := .builtin .append, args := #[s, x], argTypes := #[t, t] })
    (base : Nat) (e : TypeId) (k : IntKind) (bytes : Nat) (ht : P.underlying t = some (.slice e)) (hinfo : (P.info? e).map (fun i => (i.zero, i.size, i.bytes)) = some (some (.int k 0), 1, bytes))
    (v : Value) (xs : List Int) (hs : a.eval s = v) (hown : Own w base e k v xs) (A : Option Addr) (c : Nat) (ys : List Int) (hx : a.eval x = .slice A ys.length c) (hy : Reads w k A ys)
    (h63 : xs.length + ys.length ≤ maxLen) (hbytes : (xs.length + ys.length) * bytes ≤ 140737488355328) (hbase : base ≤ w.heap.size)
    (h : ∀ v' w', Own w' base e k v' (xs ++ ys) → w.grownBy w' v.ownBlock → (v'.ownBlock = v.ownBlock ∨ v'.ownBlock = some w.heap.size) → K (a.put o.dst v') w') : o.wp P a w K Q := by
  obtain ⟨v', w', hrun, h2, h3, h4⟩ := run_append_reads (P := P) w base t o.type e k bytes ht hinfo v xs hown A c ys hy h63 hbytes hbase
  unfold Oper.wp execOp
  simp only [ho, resolve, invoke, builtin, Sem.run_bind, Sem.run_pure, Result.andThen_ok, List.map_toArray, List.map_cons, List.map_nil, hs, hx, hrun]
  exact h v' w' h2 h3 h4
theorem wpList_append (hgd : o.guard = none) (w : World) (s x : Operand) (t : TypeId) (ho : o.op = .call { callee := .builtin .append, args := #[s, x], argTypes := #[t, t] })
    (base : Nat) (e : TypeId) (k : IntKind) (bytes : Nat) (ht : P.underlying t = some (.slice e)) (hinfo : (P.info? e).map (fun i => (i.zero, i.size, i.bytes)) = some (some (.int k 0), 1, bytes))
    (v : Value) (xs : List Int) (hs : a.eval s = v) (hown : Own w base e k v xs) (A : Option Addr) (c : Nat) (ys : List Int) (hx : a.eval x = .slice A ys.length c) (hy : Reads w k A ys)
    (h63 : xs.length + ys.length ≤ maxLen) (hbytes : (xs.length + ys.length) * bytes ≤ 140737488355328) (hbase : base ≤ w.heap.size)
    (h : ∀ v' w', Own w' base e k v' (xs ++ ys) → w.grownBy w' v.ownBlock → (v'.ownBlock = v.ownBlock ∨ v'.ownBlock = some w.heap.size) → wpList P ops Q rest (a.put o.dst v') w') : wpList P ops Q (o :: rest) a w :=
  wpList_plain hgd fun _ hK => wp_append w s x t ho base e k bytes ht hinfo v xs hs hown A c ys hx hy h63 hbytes hbase fun v' w' h2 h3 h4 => hK _ _ (h v' w' h2 h3 h4)
/-- string(x) of a slice that reads as a list. -/
theorem run_string_reads (w : World) (src dst e : TypeId) (hs : P.underlying src = some (.slice e)) (he : P.underlying e = some (.int .u8)) (hd : P.underlying dst = some .string)
    (A : Option Addr) (c : Nat) (xs : List Int) (h : Reads w .u8 A xs) : (convert src dst (.slice A xs.length c)).run P w = .ok (.string (strOfNums xs)) w := by
  cases A with
  | none =>
    have h0 : xs = [] := by
      cases xs with
      | nil => rfl
      | cons y ys => obtain ⟨a, h, _⟩ := h 0 (by simp); cases h
    subst h0
    exact run_convert_bytes_nil w src e hs he 0 c dst hd
  | some a =>
    have hl : (loadCells a xs.length).run P w = .ok (xs.map (Value.int .u8)).toArray w := by
      have := run_loadCells_list (P := P) w a (xs.map (Value.int .u8)) (fun j v hj => by
        have hjl : j < xs.length := by
          rcases Nat.lt_or_ge j xs.length with h | h
          · exact h
          · simp [List.getElem?_eq_none (show (xs.map (Value.int .u8)).length ≤ j by simpa using h)] at hj
        obtain ⟨a', e', hc⟩ := h j hjl
        cases e'
        rw [hc, rd_eq xs j hjl]
        rw [List.getElem?_map, List.getElem?_eq_getElem hjl] at hj
        exact hj)
      simpa using this
    rw [run_convert_bytes_string w src dst e _ xs.length c hs he hd, run_bytesToString w _ xs.length c xs hl, foldl_push_bytes]
    simp [strOfNums, ByteArray.empty, ByteArray.emptyWithCapacity]
    rfl
end
theorem strOfNums_inj {xs ys : List Int} (hx : Bytes8 xs) (hy : Bytes8 ys) (h : strOfNums xs = strOfNums ys) : xs = ys := by
  have h' := congrArg (fun s : ByteArray => s.data.toList) h
  simp only [strOfNums_data] at h'
  have hl : xs.length = ys.length := by have := congrArg List.length h'; simpa using this
  apply List.ext_getElem hl
  intro i h1 h2
  have e := congrArg (·[i]?) h'
  simp only [List.getElem?_map, List.getElem?_eq_getElem h1, List.getElem?_eq_getElem h2, Option.map_some, Option.some.injEq] at e
  have bx := hx i h1; have by' := hy i h2
  rw [rd_eq xs i h1] at bx; rw [rd_eq ys i h2] at by'
  have e2 := congrArg UInt8.toNat e
  simp only [UInt8.toNat_ofNat'] at e2
  omega
theorem str_eq (xs : List Int) : ((strOfNums xs).toList == (strOfNums xs).toList) = true := beq_self_eq_true _
theorem str_ne {xs ys : List Int} (hx : Bytes8 xs) (hy : Bytes8 ys) (h : xs ≠ ys) : ((strOfNums xs).toList == (strOfNums ys).toList) = false := by
  rw [beq_eq_false_iff_ne]
  intro e
  rw [ByteArray.toList_eq, ByteArray.toList_eq] at e
  refine h (strOfNums_inj hx hy ?_)
  have : ∀ a b : ByteArray, a.data.toList = b.data.toList → a = b := fun a b hab => by
    cases a; cases b
    simp only [ByteArray.mk.injEq]
    exact Array.toList_inj.1 hab
  exact this _ _ e
end Go.Proofs.Ytejkilgpcbdepaa
