import Derived.Test.YtgpfoamhcoipgaaDoorBase
import Derived.Test.YtgpfoamhcoipgaaDoorRl
import Derived.Lib.AppendStr
import Derived.Deep.RegionHeld3
import Derived.Laws.IdiomStrings
/-! Bytes. -/
namespace Go.Proofs.YtgpfoamhcoipgaaDoor
open Go.RowKit
set_option maxRecDepth 100000 in
theorem infoU8 : (Tryd.prog.info? 5).map (fun i => (i.zero, i.size, i.bytes)) = some (some (.int .u8 0), 1, 1) := by kernel_rfl
end Go.Proofs.YtgpfoamhcoipgaaDoor
/-! Numbers and texts as bytes, behind others. -/
namespace Go.Proofs.YtgpfoamhcoipgaaDoor
open Go.RowKit
set_option linter.unusedVariables false

section
variable {P : Program} {ops : Array Oper} {rest : List Oper} {o : Oper} {a : Act} {Q : Exit → Act → World → Prop}
theorem strCells_nums {ys : List Int} (h : Bytes8 ys) : Lib.strCells (strOfNums ys) = ys.map (Value.int .u8) := by
  unfold Lib.strCells
  show ((strOfNums ys).data.toList).map _ = _
  rw [strOfNums_data, List.map_map]
  apply List.ext_getElem (by simp)
  intro i h1 h2
  have hi : i < ys.length := by simpa using h2
  have hb := h i hi
  rw [rd_eq ys i hi] at hb
  simp only [List.getElem_map, Function.comp, Value.int.injEq, true_and]
  have : ys[i].toNat < 256 := by omega
  simp [UInt8.toNat_ofNat', Nat.mod_eq_of_lt this]
  omega
theorem append_str_block (w : World) (base : Nat) (t u ty e : TypeId) (i : TypeInfo) (ht : P.underlying t = some (.slice e)) (hu : P.underlying u = some .string) (hi : P.info? e = some i) (hz : i.zero = some (.int .u8 0))
    (hsize : i.size = 1) (hby : i.bytes = 1) (v : Value) (n : Nat) (xs : List Value) (hown : w.ownsRow base e 1 v n xs) (s : ByteArray) (h63 : n + s.size ≤ maxLen) (hbytes : n + s.size ≤ 140737488355328)
    (v' : Value) (w' : World) (hrun : (Builtin.append_ #[t, u] ty #[v, .string s]).run P w = .ok v' w') : v'.ownBlock = v.ownBlock ∨ v'.ownBlock = some w.heap.size := by
  have hsmall : n + s.size ≤ 9223372036854775807 := by simp only [maxLen] at h63; omega
  have hxl : xs.length = n := by simpa using hown.1
  rcases hown.2 with ⟨rfl, rfl⟩ | ⟨g, cap, cur, rfl, hbg, hg, hnc, hcm, hcs, htake⟩
  · by_cases hm : s.size = 0
    · have hf := Lib.run_firstCells_string (P := P) w 1 s
      rw [hm] at hf
      have : (Builtin.append_ #[t, u] ty #[.slice none 0 0, .string s]).run P w = .ok (.slice none 0 0) w := by
        simp [Builtin.append_, run_underlying ht, run_underlying hu, sizeOf, typeInfo, hi, hsize, Builtin.lenOf, hm, hf]
      rw [this] at hrun
      cases hrun
      exact .inl rfl
    · have hr := run_append_nil_string (P := P) w t u ty e i (.int .u8 0) ht hu hi hz s (by omega) (by omega) (by rw [hby]; omega)
      rw [hr] at hrun
      cases hrun
      exact .inr rfl
  · by_cases hroom : n + s.size ≤ cap
    · have hcs' : cur.size = cap := by simpa using hcs
      have hr := Lib.run_append_room_string (P := P) w t u ty e i ht hu hi hsize g n cap cur hg s hroom (by omega)
      rw [hr] at hrun
      cases hrun
      exact .inl rfl
    · have holds : ∀ j u, xs[j]? = some u → w.cell? ((⟨g, 0, none⟩ : Addr).add j) = some u := hown.cells (g := g) rfl
      have hr := Lib.run_append_grow_string (P := P) w t u ty e i (.int .u8 0) ht hu hi hz ⟨g, 0, none⟩ n cap xs (by rw [hsize]; simpa using hxl) holds s (by omega) (by omega) (by rw [hby]; exact growslice_fits (by omega) (by omega))
      rw [hr] at hrun
      cases hrun
      exact .inr rfl
/-- append(s, x...), x a string. -/
theorem run_append_str (w : World) (base : Nat) (t u ty e : TypeId) (ht : P.underlying t = some (.slice e)) (hu : P.underlying u = some .string) (hinfo : (P.info? e).map (fun i => (i.zero, i.size, i.bytes)) = some (some (.int .u8 0), 1, 1))
    (v : Value) (xs ys : List Int) (hown : Own w base e .u8 v xs) (h8 : Bytes8 ys) (h63 : xs.length + ys.length ≤ maxLen) (hbytes : xs.length + ys.length ≤ 140737488355328) (hbase : base ≤ w.heap.size) :
    ∃ v' w', (Builtin.append_ #[t, u] ty #[v, .string (strOfNums ys)]).run P w = .ok v' w' ∧ Own w' base e .u8 v' (xs ++ ys) ∧ w.grownBy w' v.ownBlock ∧ (v'.ownBlock = v.ownBlock ∨ v'.ownBlock = some w.heap.size) := by
  obtain ⟨i, hi, hz, hs, hb⟩ := info_parts hinfo
  have hsz : (strOfNums ys).size = ys.length := strOfNums_size ys
  obtain ⟨v', w', hrun, h2, h3, _⟩ := Lib.run_append_own_string (P := P) w base t u ty e i ht hu hi hz hs hb v xs.length (xs.map (Value.int .u8)) hown (strOfNums ys) (by rw [hsz]; exact h63) (by rw [hsz]; exact hbytes) hbase
  refine ⟨v', w', hrun, ?_, h3, append_str_block w base t u ty e i ht hu hi hz hs hb v xs.length _ hown (strOfNums ys) (by rw [hsz]; exact h63) (by rw [hsz]; exact hbytes) v' w' hrun⟩
  unfold Own
  rw [List.length_append, List.map_append, ← strCells_nums h8, ← hsz]
  exact h2
theorem wpList_append_str (hgd : o.guard = none) (w : World) (s x : Operand) (t u : TypeId) (ho : o.op = .call { callee := .builtin .append, args := #[s, x], argTypes := #[t, u] })
    (base : Nat) (e : TypeId) (ht : P.underlying t = some (.slice e)) (hu : P.underlying u = some .string) (hinfo : (P.info? e).map (fun i => (i.zero, i.size, i.bytes)) = some (some (.int .u8 0), 1, 1))
    (v : Value) (xs ys : List Int) (hs : a.eval s = v) (hown : Own w base e .u8 v xs) (hx : a.eval x = .string (strOfNums ys)) (h8 : Bytes8 ys)
    (h63 : xs.length + ys.length ≤ maxLen) (hbytes : xs.length + ys.length ≤ 140737488355328) (hbase : base ≤ w.heap.size)
    (h : ∀ v' w', Own w' base e .u8 v' (xs ++ ys) → w.grownBy w' v.ownBlock → (v'.ownBlock = v.ownBlock ∨ v'.ownBlock = some w.heap.size) → wpList P ops Q rest (a.put o.dst v') w') : wpList P ops Q (o :: rest) a w :=
  wpList_plain hgd fun K hK => by
    obtain ⟨v', w', hrun, h2, h3, h4⟩ := run_append_str (P := P) w base t u o.type e ht hu hinfo v xs ys hown h8 h63 hbytes hbase
    unfold Oper.wp execOp
    simp only [ho, resolve, invoke, builtin, Sem.run_bind, Sem.run_pure, Result.andThen_ok, List.map_toArray, List.map_cons, List.map_nil, hs, hx, hrun]
    exact hK _ _ (h v' w' h2 h3 h4)
end
/-- A number's bytes, seven bits a byte, the lowest first. -/
def uintF : Nat → Nat → List Int
  | 0, n => [(n : Int)]
  | f + 1, n => if n < 128 then [(n : Int)] else ((n % 128 + 128 : Nat) : Int) :: uintF f (n / 128)
def uintL (n : Nat) : List Int := uintF 9 n
theorem uintF_len : ∀ f n, 0 < (uintF f n).length ∧ (uintF f n).length ≤ f + 1 := by
  intro f
  induction f with
  | zero => intro n; exact ⟨Nat.lt_succ_self 0, Nat.le_refl 1⟩
  | succ f ih =>
    intro n
    unfold uintF
    split
    · exact ⟨by simp, by simp⟩
    · have := ih (n / 128)
      rw [List.length_cons]; omega
theorem uintL_len (n : Nat) : 0 < (uintL n).length ∧ (uintL n).length ≤ 10 := uintF_len 9 n
theorem uintF_bytes : ∀ f n, n < 128 ^ (f + 1) → Bytes8 (uintF f n) := by
  intro f
  induction f with
  | zero => intro n h; exact Bytes8.cons (by omega) Bytes8.nil
  | succ f ih =>
    intro n h
    unfold uintF
    split
    · exact Bytes8.cons (by omega) Bytes8.nil
    · refine Bytes8.cons (by omega) (ih (n / 128) ?_)
      rw [Nat.pow_succ] at h
      exact Nat.div_lt_of_lt_mul (by rw [Nat.mul_comm]; exact h)
theorem uint_lt {n : Nat} (h : n < 18446744073709551616) : n < 128 ^ 10 := Nat.lt_of_lt_of_le h (by decide)
theorem uintL_bytes {n : Nat} (h : n < 18446744073709551616) : Bytes8 (uintL n) := uintF_bytes 9 n (uint_lt h)
theorem uintF_small (f n : Nat) (h : n < 128) : uintF f n = [(n : Int)] := by
  cases f with
  | zero => rfl
  | succ f => unfold uintF; rw [if_pos h]
theorem or_top (m : Nat) : bits .or .u8 ((m : Int) % 256) 128 = ((m % 128 + 128 : Nat) : Int) := by
  have e : ((m : Int) % 256) = ((m % 256 : Nat) : Int) := by omega
  have h := Nat.mod_lt m (show 256 > 0 by decide)
  rw [e]
  have hm : m % 128 = m % 256 % 128 := by omega
  rw [hm]
  generalize m % 256 = r at *
  have key : ∀ r : Nat, r < 256 → bits .or .u8 ((r : Nat) : Int) 128 = ((r % 128 + 128 : Nat) : Int) := by decide +kernel
  exact key r h
theorem grown_alloc {w w1 : World} {r : Option Nat} (h : w.grownBy w1 r) (o : Obj) : w.grownBy (w1.alloc o) r := grown_trans h (grown_of_below (below_alloc (Below.refl _ _) o) none) (fun k e => by cases e)
theorem new_own {w w1 : World} {v p v2 : Value} (hk : ∀ k, p.ownBlock = some k → v.ownBlock = some k ∨ w.heap.size ≤ k) (hw : w.heap.size ≤ w1.heap.size) (h : v2.ownBlock = p.ownBlock ∨ v2.ownBlock = some w1.heap.size) : ∀ k, v2.ownBlock = some k → v.ownBlock = some k ∨ w.heap.size ≤ k := fun k e => by
  rcases h with h | h
  · exact hk k (by rw [← h]; exact e)
  · rw [e] at h
    injection h with h
    subst h
    exact .inr hw
set_option maxRecDepth 100000 in
set_option maxHeartbeats 4000000 in
theorem colUint_any (base : Nat) (v : Value) (xs : List Int) (n : Nat) (w : World) (hb : base ≤ w.heap.size) (ho : Own w base 5 .u8 v xs) (hn : n < 18446744073709551616) (hl : xs.length ≤ 1000000) :
    Calls Tryd.prog 19 #[v, .int .u64 (n : Int)] w fun e w' => ∃ v', e = .returned v' ∧ Own w' base 5 .u8 v' (xs ++ uintL n) ∧ w.grownBy w' v.ownBlock ∧ ∀ k, v'.ownBlock = some k → v.ownBlock = some k ∨ w.heap.size ≤ k := by
  have hlt0 := uint_lt hn
  clear hn
  go_enter Tryd.func19, Tryd.ntmps19
  go_wp2_with fail
  go_loopw [0, 1] (fun p i wr => ∃ (f m : Nat) (zs : List Int), i = .int .u64 (m : Int) ∧ m < 128 ^ (f + 1) ∧ m < 1180591620717411303424 ∧ zs ++ uintF f m = uintL n ∧ zs.length ≤ 10 ∧ zs.length + f = 9 ∧ Own wr base 5 .u8 p (xs ++ zs) ∧ w.grownBy wr v.ownBlock ∧ ∀ k, p.ownBlock = some k → v.ownBlock = some k ∨ w.heap.size ≤ k) (fun _ i _ => (intOf i).toNat)
  case atStart => exact ⟨9, n, [], rfl, hlt0, hlt0, rfl, by decide, by decide, by rw [List.append_nil]; exact ho, grown_refl _ _, fun k h => .inl h⟩
  case round =>
    clear ho hlt0
    obtain ⟨f, m, zs, rfl, hm, hm2, hz, hzl, hzf, ho, hg, hk⟩ := hrel
    have hbs := Nat.le_trans hb hg.size
    have hlen : (xs ++ zs).length ≤ 1000010 := by rw [List.length_append]; omega
    by_cases h128 : m < 128
    · rw [uintF_small f m h128] at hz
      have hm8 : (m : Int) % 256 = (m : Int) := by omega
      have l1 : (xs ++ zs).length + [(m : Int)].length ≤ maxLen := by show _ + 1 ≤ _; unfold maxLen; omega
      have l2 : ((xs ++ zs).length + [(m : Int)].length) * 1 ≤ 140737488355328 := by show (_ + 1) * 1 ≤ _; omega
      have oa := ho.alloc (.cells #[.int .u8 (m : Int)] 5)
      have ga := grown_alloc hg (.cells #[.int .u8 (m : Int)] 5)
      have ra := Reads.one wr 5 .u8 (m : Int)
      have hba : base ≤ (wr.alloc (.cells #[.int .u8 (m : Int)] 5)).heap.size := Nat.le_trans hb ga.size
      have Hz := Lib.hid hz
      clear hz hm hm2 ho
      go_wp2_with (first
        | (at_builtin
           refine wpList_append rfl _ (.tmp 15) (.tmp 18) 22 rfl base 5 .u8 1 Tryd.underlying22 infoU8 _ (xs ++ zs) rfl oa _ 1 [(m : Int)] rfl ra l1 l2 hba ?_
           intro v2 w2 ho2 hg2 hv2))
      go_ret
      exact ⟨v2, rfl, by rw [← Hz.out, ← List.append_assoc]; exact ho2, grown_trans ga hg2 hk, new_own hk ga.size hv2⟩
    · obtain ⟨f, rfl⟩ : ∃ f', f = f' + 1 := ⟨f - 1, by
        have : f ≠ 0 := fun e => by subst e; rw [Nat.zero_add, Nat.pow_one] at hm; exact h128 hm
        omega⟩
      have hor := or_top m
      unfold uintF at hz
      rw [if_neg h128] at hz
      have hd : m / 128 < 128 ^ (f + 1) := by
        rw [Nat.pow_succ] at hm
        exact Nat.div_lt_of_lt_mul (by rw [Nat.mul_comm]; exact hm)
      obtain ⟨z, hzz⟩ : ∃ z : Int, z = ((m % 128 + 128 : Nat) : Int) := ⟨_, rfl⟩
      rw [← hzz] at hor hz
      have l1 : (xs ++ zs).length + [z].length ≤ maxLen := by show _ + 1 ≤ _; unfold maxLen; omega
      have l2 : ((xs ++ zs).length + [z].length) * 1 ≤ 140737488355328 := by show (_ + 1) * 1 ≤ _; omega
      have oa := ho.alloc (.cells #[.int .u8 z] 5)
      have ga := grown_alloc hg (.cells #[.int .u8 z] 5)
      have ra := Reads.one wr 5 .u8 z
      have hba : base ≤ (wr.alloc (.cells #[.int .u8 z] 5)).heap.size := Nat.le_trans hb ga.size
      have Hz := Lib.hid hz
      have Hd := Lib.hid hd
      have hm3 : (m : Int).fdiv (2 ^ min (Int.toNat 7) IntKind.u64.bits) = ((m / 128 : Nat) : Int) := by
        show (m : Int).fdiv 128 = _
        rw [Int.fdiv_eq_ediv_of_nonneg _ (by decide)]; omega
      clear hz hm ho hd hzz
      go_wp2_with (first
        | (at_builtin
           refine wpList_append rfl _ (.tmp 9) (.tmp 13) 22 rfl base 5 .u8 1 Tryd.underlying22 infoU8 _ (xs ++ zs) rfl oa _ 1 [z] rfl ra l1 l2 hba ?_
           intro v2 w2 ho2 hg2 hv2))
      go_roundw
      case rel => exact ⟨f, m / 128, zs ++ [z], by first | rfl | (simp; done) | omega, Hd.out, by omega, by rw [← Hz.out, List.append_assoc]; rfl, by rw [List.length_append]; show _ + 1 ≤ _; omega, by rw [List.length_append]; show _ + 1 + f = _; omega, by rw [← List.append_assoc]; exact ho2, grown_trans ga hg2 hk, new_own hk ga.size hv2⟩
      case measure => simp [intOf]; omega
theorem len_string (xs : List Int) : (strOfNums xs).size = xs.length := strOfNums_size xs
def textL (xs : List Int) : List Int := uintL xs.length ++ xs
set_option maxRecDepth 100000 in
set_option maxHeartbeats 4000000 in
theorem colText_any (base : Nat) (v : Value) (xs ys : List Int) (w : World) (hb : base ≤ w.heap.size) (ho : Own w base 5 .u8 v xs) (h8 : Bytes8 ys) (hl : xs.length ≤ 900000) (hyl : ys.length ≤ 900000) :
    Calls Tryd.prog 21 #[v, .string (strOfNums ys)] w fun e w' => ∃ v', e = .returned v' ∧ Own w' base 5 .u8 v' (xs ++ textL ys) ∧ w.grownBy w' v.ownBlock ∧ ∀ k, v'.ownBlock = some k → v.ownBlock = some k ∨ w.heap.size ≤ k := by
  have hu := colUint_any base v xs ys.length w hb ho (by omega) (by omega)
  have hsz := len_string ys
  have hul := uintL_len ys.length
  have hw : (ys.length : Int) % 18446744073709551616 = (ys.length : Int) := by omega
  have l1 : (xs ++ uintL ys.length).length + ys.length ≤ maxLen := by rw [List.length_append]; unfold maxLen; omega
  have l2 : (xs ++ uintL ys.length).length + ys.length ≤ 140737488355328 := by rw [List.length_append]; omega
  have Ht : Hid (xs ++ textL ys = xs ++ uintL ys.length ++ ys) := Lib.hid (by unfold textL; rw [List.append_assoc])
  have Hw := Lib.hid hw
  generalize hS : strOfNums ys = S at *
  have HS := Lib.hid hS
  clear hul ho hw hS
  go_enter Tryd.func21, Tryd.ntmps21
  have hw := Hw.out
  go_wp2_with (first
    | (go_at_call 19; (with_reducible refine hu.mono ?_); rintro e w1 ⟨v1, rfl, ho1, hg1, hk1⟩; have hb1 := Nat.le_trans hb hg1.size)
    | (at_builtin
       refine wpList_append_str rfl _ (.tmp 9) (.tmp 10) 22 9 rfl base 5 Tryd.underlying22 Tryd.underlying9 infoU8 _ _ ys rfl ho1 (by rw [HS.out]; rfl) h8 l1 l2 hb1 ?_
       intro v2 w2 ho2 hg2 hv2))
  go_ret
  exact ⟨v2, rfl, by rw [Ht.out]; exact ho2, grown_trans hg1 hg2 hk1, new_own hk1 hg1.size hv2⟩
end Go.Proofs.YtgpfoamhcoipgaaDoor
/-! The document's numbers and texts as bytes. -/
namespace Go.Proofs.YtgpfoamhcoipgaaDoor
open Go.RowKit
set_option linter.unusedVariables false

theorem run_bytes_str {P : Program} (w : World) (src dst e : TypeId) (ys : List Int) (h8 : Bytes8 ys) (hs : P.underlying src = some .string) (hd : P.underlying dst = some (.slice e)) (he : P.underlying e = some (.int .u8)) :
    ∃ c w2, (convert src dst (.string (strOfNums ys))).run P w = .ok (.slice (some ⟨w.heap.size, 0, none⟩) ys.length c) w2 ∧ Reads w2 .u8 (some ⟨w.heap.size, 0, none⟩) ys ∧ Below w.heap.size w w2 := by
  have h := run_bytes_of_string (P := P) w src dst e (strOfNums ys) hs hd he
  rw [len_string] at h
  refine ⟨_, _, h, ?_, (Below.refl w.heap.size w).drew.alloc (Nat.le_refl _) _⟩
  refine Reads.new (w := w.drew) fun i hi => ?_
  have hi2 : i < (strOfNums ys).data.size := by
    have := len_string ys
    rw [ByteArray.size] at this
    omega
  rw [bytesRow_at _ _ i hi2]
  have hb := h8 i hi
  have hd := strOfNums_data ys
  have e1 : (strOfNums ys).data[i] = UInt8.ofNat (rd ys i).toNat := by
    have e2 : (strOfNums ys).data.toList[i]? = some (UInt8.ofNat (rd ys i).toNat) := by
      rw [hd, List.getElem?_map, List.getElem?_eq_getElem hi, rd_eq ys i hi]; rfl
    rw [Array.getElem?_toList, Array.getElem?_eq_getElem hi2] at e2
    exact Option.some.inj e2
  rw [e1, UInt8.toNat_ofNat', Nat.mod_eq_of_lt (by omega)]
  congr 2
  omega

end Go.Proofs.YtgpfoamhcoipgaaDoor
