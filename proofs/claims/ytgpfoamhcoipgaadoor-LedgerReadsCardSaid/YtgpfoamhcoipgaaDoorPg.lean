import Derived.Test.YtgpfoamhcoipgaaDoorBase
import Derived.Test.YtgpfoamhcoipgaaDoorPs
namespace Go.Proofs.YtgpfoamhcoipgaaDoor
open Go.RowKit
set_option linter.unusedVariables false
set_option linter.unusedSimpArgs false

def le4 (n : Int) : List Int := [n % 256, n / 256 % 256, n / 65536 % 256, n / 16777216]
set_option maxRecDepth 100000 in
theorem Tryd.info5 : (Tryd.prog.info? 5).map (fun i => (i.zero, i.size, i.bytes)) = some (some (.int .u8 0), 1, 1) := by kernel_rfl

set_option maxRecDepth 100000 in
theorem four_any (n : Int) (h : 0 ≤ n ∧ n ≤ 4294967295) (w : World) :
    Calls Tryd.prog 32 #[.int .u32 n] w fun e w' => ∃ v, e = .returned v ∧ Own w' w.heap.size 5 .u8 v (le4 n) ∧ Below w.heap.size w w' := by
  have hf := Own.new w w.heap.size 5 .u8 (le4 n) ((le4 n).map (Value.int .u8)).toArray rfl (Nat.le_refl _) (by unfold maxLen; simp [le4])
  have hF := Lib.hid hf
  clear hf
  go_enter Tryd.func32, Tryd.ntmps32
  go_wp2
  go_ret
  exact ⟨_, rfl, hF.out, (Below.refl _ _).alloc (Nat.le_refl _) _⟩
def num4 (xs : List Int) : Int := bits .or .u32 (bits .or .u32 (bits .or .u32 (rd xs 0) (rd xs 1 * 256)) (rd xs 2 * 65536)) (rd xs 3 * 16777216)
set_option maxRecDepth 100000 in
theorem number_any (A : Option Addr) (cap : Nat) (xs : List Int) (h4 : 4 ≤ xs.length) (h8 : Bytes8 xs) (w : World) (hx : Reads w .u8 A xs) :
    Calls Tryd.prog 37 #[.slice A xs.length cap] w fun e w' => e = .returned (.int .u32 (num4 xs)) ∧ ∃ n, w' = w.drewN n := by
  obtain ⟨a, rfl⟩ := hx.some_ (by omega)
  have c0 : w.cell? a = some (.int .u8 (rd xs 0)) := hx.lit 0 (by omega)
  have c1 : w.cell? ⟨a.block, a.off + 1, none⟩ = some (.int .u8 (rd xs 1)) := hx.lit 1 (by omega)
  have c2 : w.cell? ⟨a.block, a.off + 2, none⟩ = some (.int .u8 (rd xs 2)) := hx.lit 2 (by omega)
  have c3 : w.cell? ⟨a.block, a.off + 3, none⟩ = some (.int .u8 (rd xs 3)) := hx.lit 3 (by omega)
  have b0 := h8 0 (by omega); have b1 := h8 1 (by omega); have b2 := h8 2 (by omega); have b3 := h8 3 (by omega)
  have l3 : (3 : Int) < (xs.length : Int) := by omega
  have l2 : (2 : Int) < (xs.length : Int) := by omega
  have l1 : (1 : Int) < (xs.length : Int) := by omega
  have l0 : (0 : Int) < (xs.length : Int) := by omega
  have p0 : 0 < xs.length := by omega
  clear hx h8
  go_enter Tryd.func37, Tryd.ntmps37
  go_wp2
  go_quiet (fail)
  go_wp2
  go_ret
  exact ⟨rfl, _, rfl⟩

set_option maxRecDepth 100000 in
theorem clone_any (A : Option Addr) (cap : Nat) (xs : List Int) (w : World) (hl : xs.length ≤ 140737488351232) (hx : Reads w .u8 A xs) :
    Calls Tryd.prog 38 #[.slice A xs.length cap] w fun e w' => ∃ v, e = .returned v ∧ Own w' w.heap.size 5 .u8 v xs ∧ Below w.heap.size w w' := by
  have hnil := Lib.run_eql_slice_nil (P := Tryd.prog) w 22 5 A xs.length cap 0 0 Tryd.underlying22
  cases A with
  | none =>
    have h0 : xs = [] := by
      cases xs with
      | nil => rfl
      | cons y ys => obtain ⟨a, h, _⟩ := hx 0 (by simp); cases h
    subst h0
    simp only [List.length_nil, Option.isNone_none] at hnil
    simp only [List.length_nil]
    go_enter Tryd.func38, Tryd.ntmps38
    go_wp2
    go_ret
    exact ⟨_, rfl, Own.nil _ _ _ _, Below.refl _ _⟩
  | some a =>
    go_enter Tryd.func38, Tryd.ntmps38
    go_wp2_with (at_builtin; refine wpList_append rfl _ _ _ 22 rfl w.heap.size 5 .u8 1 Tryd.underlying22 Tryd.info5 _ [] rfl (Own.new w w.heap.size 5 .u8 [] #[] rfl (Nat.le_refl _) (by decide)) (some a) cap xs rfl (hx.below ((Below.refl _ _).alloc (Nat.le_refl _) _)) (by unfold maxLen; simp; omega) (by simp; omega) (by simp) ?_)
    intro v w1 ho hg ha
    go_wp2
    go_ret
    refine ⟨v, rfl, by simpa using ho, ((Below.refl _ _).alloc (Nat.le_refl _) _).grown hg (by simp) ?_⟩
    intro k hk
    simp [Value.ownBlock] at hk; omega
end Go.Proofs.YtgpfoamhcoipgaaDoor
namespace Go.Proofs.YtgpfoamhcoipgaaDoor
open Go.RowKit

def head (kind : Int) (body : List Int) : List Int := le4 body.length ++ [kind] ++ body
def pageOf (kind : Int) (body : List Int) : List Int := head kind body ++ le4 (crc32 (head kind body))
theorem le4_length (n : Int) : (le4 n).length = 4 := rfl
theorem le4_bytes (n : Int) (h : 0 ≤ n ∧ n ≤ 4294967295) : Bytes8 (le4 n) :=
  Bytes8.cons (by omega) (Bytes8.cons (by omega) (Bytes8.cons (by omega) (Bytes8.cons (by omega) Bytes8.nil)))
theorem head_length (kind : Int) (body : List Int) : (head kind body).length = body.length + 5 := by simp [head, le4_length]; omega
theorem head_bytes (kind : Int) (body : List Int) (hk : 0 ≤ kind ∧ kind ≤ 255) (hb : Bytes8 body) (hl : body.length ≤ 1000000) : Bytes8 (head kind body) :=
  (((le4_bytes _ (by omega)).append (Bytes8.cons hk Bytes8.nil))).append hb
theorem crc32_range (l : List Int) : 0 ≤ crc32 l ∧ crc32 l ≤ 4294967295 := toI_range _

theorem Own.ne_row {w : World} {base : Nat} {e : TypeId} {k : IntKind} {A : Option Addr} {n c : Nat} {xs : List Int} (h : Own w base e k (.slice A n c) xs) {r : Option Nat} (hr : ∀ g, r = some g → g < base) : ∀ a, A = some a → some a.block ≠ r := by
  rintro a rfl e
  have h1 := (h.lt a.block rfl).1
  have h2 := hr _ e.symm
  omega

theorem HasTab.grown {w w' : World} (h : HasTab w) {r : Option Nat} (hg : w.grownBy w' r) (hr : r ≠ some 0) : HasTab w' := fun i hi => hg.cell (h i hi) (fun e => hr e.symm)

set_option maxRecDepth 100000 in
set_option maxHeartbeats 1000000 in
theorem lay_any (base : Nat) (pv : Value) (ps : List Int) (kind : Int) (A : Option Addr) (cap : Nat) (body : List Int) (w : World) (hown : Own w base 5 .u8 pv ps) (hb : Reads w .u8 A body) (h8 : Bytes8 body)
    (hk : 0 ≤ kind ∧ kind ≤ 255) (hl : body.length ≤ 1000000) (hp : ps.length ≤ 1000000000) (ht : HasTab w) (hbase : base ≤ w.heap.size) (h0 : 0 < base) :
    Calls Tryd.prog 23 #[pv, .int .u8 kind, .slice A body.length cap] w fun e w' => ∃ v, e = .returned v ∧ Own w' base 5 .u8 v (ps ++ pageOf kind body) ∧ w.grownBy w' pv.ownBlock := by
  have hpos := ht.pos
  have hpv := hown.lt
  go_enter Tryd.func23, Tryd.ntmps23
  go_wp2_with fail
  refine (four_any body.length (by omega) w).mono ?_
  rintro e w1 ⟨v1, rfl, ho1, hb1⟩
  have hs1 := hb1.size
  have l1 : (le4 body.length).length + [kind].length ≤ maxLen := by show 4 + 1 ≤ maxLen; unfold maxLen; omega
  have l2 : ((le4 body.length).length + [kind].length) * 1 ≤ 140737488355328 := by show (4 + 1) * 1 ≤ 140737488355328; omega
  have l3 : w.heap.size ≤ (w1.alloc (.cells #[.int .u8 kind] 5)).heap.size := by simp; omega
  have o1 := ho1.alloc (.cells #[.int .u8 kind] 5)
  have r1 := Reads.one w1 5 .u8 kind
  have b1 := below_alloc hb1 (.cells #[.int .u8 kind] 5)
  clear ho1
  have l4 : (le4 body.length ++ [kind]).length + body.length ≤ maxLen := by simp [le4_length]; unfold maxLen; omega
  have l5 : ((le4 body.length ++ [kind]).length + body.length) * 1 ≤ 140737488355328 := by simp [le4_length]; omega
  have l6 : ps.length + (head kind body).length ≤ maxLen := by rw [head_length]; unfold maxLen; omega
  have l7 : (ps.length + (head kind body).length) * 1 ≤ 140737488355328 := by rw [head_length]; omega
  have l8 : (head kind body).length ≤ 140737488351232 := by rw [head_length]; omega
  have l9 : (ps ++ head kind body).length + (le4 (crc32 (head kind body))).length ≤ maxLen := by rw [List.length_append, head_length, le4_length]; unfold maxLen; omega
  have l10 : ((ps ++ head kind body).length + (le4 (crc32 (head kind body))).length) * 1 ≤ 140737488355328 := by rw [List.length_append, head_length, le4_length]; omega
  go_wp2_with (first
    | (at_builtin
       refine wpList_append rfl _ (.tmp 11) (.tmp 13) 22 rfl w.heap.size 5 .u8 1 Tryd.underlying22 Tryd.info5 v1 (le4 body.length) rfl o1 _ 1 [kind] rfl r1 l1 l2 l3 ?_
       intro v2 w2 ho2 hg2 _
       have b2 := b1.grown hg2 b1.size (fun g hg => (o1.lt g hg).1)
       have r2 := hb.below b2
       clear o1 r1 l1 l2 hg2 b1)
    | (at_builtin
       refine wpList_append rfl _ (.tmp 14) (.tmp 15) 22 rfl w.heap.size 5 .u8 1 Tryd.underlying22 Tryd.info5 v2 (le4 body.length ++ [kind]) rfl ho2 A cap body rfl r2 l4 l5 b2.size ?_
       intro v3 w3 ho3 hg3 _
       have b3 := b2.grown hg3 b2.size (fun g hg => (ho2.lt g hg).1)
       have own3 := hown.below b3
       have hb3 := Nat.le_trans hbase b3.size
       replace ho3 : Own w3 w.heap.size 5 .u8 v3 (head kind body) := ho3
       obtain ⟨A3, c3, rfl, _, r3⟩ := ho3.form
       clear ho2 r2 l4 l5 hg3 b2 hb)
    | (at_builtin
       refine wpList_append rfl _ (.tmp 17) (.tmp 18) 22 rfl base 5 .u8 1 Tryd.underlying22 Tryd.info5 pv ps rfl own3 A3 c3 (head kind body) rfl r3 l6 l7 hb3 ?_
       intro v4 w4 ho4 hg4 ha4
       have r4 := r3.grown hg4 (ho3.ne_row fun g hg => (hpv g hg).2)
       have g4 := grown_trans (grown_of_below b3 pv.ownBlock) hg4 (fun g hg => .inl hg)
       have t4 := ht.grown g4 (fun e => by have := (hpv 0 e).1; omega)
       clear r3 l6 l7)
    | (go_at_call 33; refine (sum_says A3 c3 (head kind body) w4 l8 (head_bytes kind body hk h8 hl) r4 t4).mono ?_; rintro e w' ⟨rfl, rfl⟩)
    | (go_at_call 32; refine (four_any (crc32 (head kind body)) (crc32_range _) w4).mono ?_; rintro e w5 ⟨v5, rfl, ho5, b5⟩; obtain ⟨A5, c5, rfl, _, r5⟩ := ho5.form; have own5 := ho4.below b5; have hb5 : base ≤ w5.heap.size := Nat.le_trans hbase (Nat.le_trans g4.size b5.size))
    | (at_builtin
       refine wpList_append rfl _ (.tmp 19) (.tmp 22) 22 rfl base 5 .u8 1 Tryd.underlying22 Tryd.info5 v4 (ps ++ head kind body) rfl own5 A5 c5 (le4 (crc32 (head kind body))) rfl r5 l9 l10 hb5 ?_
       intro v6 w6 ho6 hg6 _))
  go_ret
  refine ⟨v6, rfl, by rw [List.append_assoc] at ho6; exact ho6, ?_⟩
  refine grown_trans (grown_trans g4 (grown_of_below b5 none) (fun k hk => by cases hk)) hg6 (fun k hk => ?_)
  rcases ha4 with h | h
  · exact .inl (h ▸ hk)
  · rw [h] at hk; cases hk; exact .inr b3.size

end Go.Proofs.YtgpfoamhcoipgaaDoor
namespace Go.Proofs.YtgpfoamhcoipgaaDoor
open Go.RowKit

/-- What Read says: kind, body, end, the error's number. -/
def pgRead (xs : List Int) (p : Int) : Int × List Int × Int × Int :=
  if p < 0 ∨ (xs.length : Int) < p then (0, [], 0, 1) else
  let q := xs.drop p.toNat
  if q.length < 9 then (0, [], 0, 3) else
  let n := (num4 q).toNat
  if 1048576 < n ∨ q.length < 9 + n then (0, [], 0, 3) else
  if crc32 (q.take (5 + n)) ≠ num4 (xs.drop (p.toNat + (5 + n))) then (0, [], 0, 4) else
  (rd q 4, (q.drop 5).take n, p + 9 + n, 0)

def ReadPost (xs : List Int) (p : Int) (w : World) (e : Ending) (w' : World) : Prop :=
  ∃ A' c', e = .returned (.tuple #[.int .u8 (pgRead xs p).1, .slice A' (pgRead xs p).2.1.length c', .int .i64 (pgRead xs p).2.2.1, .int .i64 (pgRead xs p).2.2.2]) ∧ (pgRead xs p).2.1.length ≤ c' ∧ Reads w' .u8 A' (pgRead xs p).2.1 ∧ Below w.heap.size w w'

set_option maxRecDepth 100000 in
theorem read_neg (A : Option Addr) (cap : Nat) (xs : List Int) (p : Int) (w : World) (h : p < 0) :
    Calls Tryd.prog 28 #[.slice A xs.length cap, .int .i64 p] w (ReadPost xs p w) := by
  have hs : Hid (pgRead xs p = (0, [], 0, 1)) := Lib.hid (by unfold pgRead; rw [if_pos (.inl h)])
  go_enter Tryd.func28, Tryd.ntmps28
  go_wp2
  refine bodyPost_ret (v := .tuple #[.int .u8 0, .slice none 0 0, .int .i64 0, .int .i64 1]) (by simp [results, Tryd.results28, go_sem]) rfl ?_
  unfold ReadPost
  rw [hs.out]
  exact ⟨none, 0, rfl, Nat.le_refl _, Reads.nil _ _ _, Below.refl _ _⟩
set_option maxRecDepth 100000 in
theorem read_far (A : Option Addr) (cap : Nat) (xs : List Int) (p : Int) (w : World) (h0 : ¬ p < 0) (h : (xs.length : Int) < p) :
    Calls Tryd.prog 28 #[.slice A xs.length cap, .int .i64 p] w (ReadPost xs p w) := by
  have hs : Hid (pgRead xs p = (0, [], 0, 1)) := Lib.hid (by unfold pgRead; rw [if_pos (.inr h)])
  go_enter Tryd.func28, Tryd.ntmps28
  go_wp2
  refine bodyPost_ret (v := .tuple #[.int .u8 0, .slice none 0 0, .int .i64 0, .int .i64 1]) (by simp [results, Tryd.results28, go_sem]) rfl ?_
  unfold ReadPost
  rw [hs.out]
  exact ⟨none, 0, rfl, Nat.le_refl _, Reads.nil _ _ _, Below.refl _ _⟩
set_option maxRecDepth 100000 in
theorem read_short (A : Option Addr) (cap : Nat) (xs : List Int) (k : Nat) (w : World) (h0 : k ≤ xs.length) (h : xs.length - k < 9) :
    Calls Tryd.prog 28 #[.slice A xs.length cap, .int .i64 k] w (ReadPost xs k w) := by
  have hs : Hid (pgRead xs k = (0, [], 0, 3)) := Lib.hid (by unfold pgRead; rw [if_neg (by omega)]; simp only [Int.toNat_natCast, List.length_drop]; rw [if_pos h])
  go_enter Tryd.func28, Tryd.ntmps28
  go_wp2
  all_goals
    refine bodyPost_ret (v := .tuple #[.int .u8 0, .slice none 0 0, .int .i64 0, .int .i64 3]) (by simp [results, Tryd.results28, go_sem]) rfl ?_
    unfold ReadPost
    rw [hs.out]
    exact ⟨none, 0, rfl, Nat.le_refl _, Reads.nil _ _ _, Below.refl _ _⟩

theorem HasTab.drewN {w : World} (h : HasTab w) (n : Nat) : HasTab (w.drewN n) := h
theorem number_n (A : Option Addr) (cap n : Nat) (xs : List Int) (hn : xs.length = n) (h4 : 4 ≤ xs.length) (h8 : Bytes8 xs) (w : World) (hx : Reads w .u8 A xs) :
    Calls Tryd.prog 37 #[.slice A n cap] w fun e w' => e = .returned (.int .u32 (num4 xs)) ∧ ∃ n, w' = w.drewN n := calls_len hn (number_any A cap xs h4 h8 w hx)
theorem sum_n (A : Option Addr) (cap n : Nat) (xs : List Int) (hn : xs.length = n) (w : World) (hl : xs.length ≤ 140737488351232) (h8 : Bytes8 xs) (hx : Reads w .u8 A xs) (ht : HasTab w) :
    Calls Tryd.prog 33 #[.slice A n cap] w fun e w' => e = .returned (.int .u32 (crc32 xs)) ∧ w = w' := calls_len hn (sum_says A cap xs w hl h8 hx ht)
theorem clone_n (A : Option Addr) (cap n : Nat) (xs : List Int) (hn : xs.length = n) (w : World) (hl : xs.length ≤ 140737488351232) (hx : Reads w .u8 A xs) :
    Calls Tryd.prog 38 #[.slice A n cap] w fun e w' => ∃ v, e = .returned v ∧ Own w' w.heap.size 5 .u8 v xs ∧ Below w.heap.size w w' := calls_len hn (clone_any A cap xs w hl hx)

theorem or_join (i : Nat) (x y : Int) (hx0 : 0 ≤ x) (hx : x < 2 ^ i) (hy0 : 0 ≤ y) (hy : y % 2 ^ i = 0) (hx1 : x < 4294967296) (hy1 : y < 4294967296) : bits .or .u32 x y = x + y := by
  have h : bits .or .u32 y x = y + x := bits_join .u32 32 (by decide) (fun n h0 h1 => by rw [IntKind.wrap_u32]; omega) i y x hy0 hy hy1 hx0 hx hx1
  have hc : bits .or .u32 x y = bits .or .u32 y x := by simp only [bits, BitVec.or_comm]
  rw [hc, h]; omega
theorem num4_eq (xs : List Int) (h8 : Bytes8 xs) (h4 : 4 ≤ xs.length) : num4 xs = rd xs 0 + rd xs 1 * 256 + rd xs 2 * 65536 + rd xs 3 * 16777216 := by
  have b0 := h8 0 (by omega); have b1 := h8 1 (by omega); have b2 := h8 2 (by omega); have b3 := h8 3 (by omega)
  unfold num4
  rw [or_join 8 (rd xs 0) (rd xs 1 * 256) (by omega) (by omega) (by omega) (by omega) (by omega) (by omega),
    or_join 16 _ (rd xs 2 * 65536) (by omega) (by omega) (by omega) (by omega) (by omega) (by omega),
    or_join 24 _ (rd xs 3 * 16777216) (by omega) (by omega) (by omega) (by omega) (by omega) (by omega)]
theorem num4_range (xs : List Int) (h8 : Bytes8 xs) (h4 : 4 ≤ xs.length) : 0 ≤ num4 xs ∧ num4 xs ≤ 4294967295 := by
  have b0 := h8 0 (by omega); have b1 := h8 1 (by omega); have b2 := h8 2 (by omega); have b3 := h8 3 (by omega)
  rw [num4_eq xs h8 h4]; omega

set_option maxRecDepth 100000 in
set_option maxHeartbeats 1000000 in
theorem read_big (A : Option Addr) (cap : Nat) (xs : List Int) (k : Nat) (w : World) (hl : xs.length ≤ 1000000000) (hc : xs.length ≤ cap) (h8 : Bytes8 xs) (hx : Reads w .u8 A xs) (h0 : k + 9 ≤ xs.length)
    (n : Nat) (hn : num4 (xs.drop k) = n) (h : 1048576 < n ∨ xs.length < k + 9 + n) :
    Calls Tryd.prog 28 #[.slice A xs.length cap, .int .i64 k] w (ReadPost xs k w) := by
  have hs : Hid (pgRead xs k = (0, [], 0, 3)) := Lib.hid (by
    unfold pgRead; rw [if_neg (by omega)]; simp only [Int.toNat_natCast, List.length_drop]; rw [if_neg (by omega), hn]; simp only [Int.toNat_natCast]; rw [if_pos (by omega)])
  obtain ⟨a, rfl⟩ := hx.some_ (by omega)
  have hd := hx.drop k
  have hlen : (xs.drop k).length = xs.length - k := List.length_drop
  have hne : ¬ cap = k := by omega
  have hr := num4_range _ (h8.drop k) (by omega)
  have Hn := Lib.hid hn
  have Hl := Lib.hid hlen
  rw [hn] at hr
  simp only [Option.map_some] at hd
  have h4 : 4 ≤ (xs.drop k).length := by omega
  have h8' := h8.drop k
  clear hn hlen hx h8
  have fin : ∀ m, ReadPost xs (k : Int) w (.returned (.tuple #[.int .u8 0, .slice none 0 0, .int .i64 0, .int .i64 3])) (w.drewN m) := fun m => by
    unfold ReadPost
    rw [hs.out]
    exact ⟨none, 0, rfl, Nat.le_refl _, Reads.nil _ _ _, below_drewN (Below.refl _ _) m⟩
  have Fin := Lib.hid fin
  clear fin
  by_cases hbig : 1048576 < n
  · go_enter Tryd.func28, Tryd.ntmps28
    go_wp2_with (go_at_call 37; refine (number_n _ _ _ (xs.drop k) Hl.out h4 h8' w hd).mono ?_; rintro e w1 ⟨rfl, m, rfl⟩; rw [Hn.out])
    refine bodyPost_ret (results_tmp4 rfl _ _ _) rfl ?_
    exact Fin.out m
  · have hlt : xs.length < k + 9 + n := by omega
    go_enter Tryd.func28, Tryd.ntmps28
    go_wp2_with (go_at_call 37; refine (number_n _ _ _ (xs.drop k) Hl.out h4 h8' w hd).mono ?_; rintro e w1 ⟨rfl, m, rfl⟩; rw [Hn.out])
    refine bodyPost_ret (results_tmp4 rfl _ _ _) rfl ?_
    exact Fin.out m

set_option maxRecDepth 100000 in
set_option maxHeartbeats 1000000 in
theorem read_sum (A : Option Addr) (cap : Nat) (xs : List Int) (k : Nat) (w : World) (hl : xs.length ≤ 1000000000) (hc : xs.length ≤ cap) (h8 : Bytes8 xs) (hx : Reads w .u8 A xs) (ht : HasTab w) (h0 : k + 9 ≤ xs.length)
    (n : Nat) (hn : num4 (xs.drop k) = n) (h1 : n ≤ 1048576) (h2 : k + 9 + n ≤ xs.length) (h3 : (crc32 ((xs.drop k).take (5 + n)) != num4 (xs.drop (k + (5 + n)))) = true) :
    Calls Tryd.prog 28 #[.slice A xs.length cap, .int .i64 k] w (ReadPost xs k w) := by
  have hs : Hid (pgRead xs k = (0, [], 0, 4)) := Lib.hid (by
    unfold pgRead; rw [if_neg (by omega)]; simp only [Int.toNat_natCast, List.length_drop]; rw [if_neg (by omega), hn]; simp only [Int.toNat_natCast]; rw [if_neg (by omega), if_pos (by simpa using h3)])
  obtain ⟨a, rfl⟩ := hx.some_ (by omega)
  have hd := hx.drop k
  have hlen : (xs.drop k).length = xs.length - k := List.length_drop
  have hne : ¬ cap = k := by omega
  have hne2 : ¬ cap - k = 5 + n := by omega
  have hd1 := hd.take (5 + n)
  have hd2 := hd.drop (5 + n)
  rw [List.drop_drop] at hd2
  simp only [Option.map_some] at hd hd1 hd2
  have h4 : 4 ≤ (xs.drop k).length := by omega
  have h8' := h8.drop k
  have h81 := h8'.take (5 + n)
  have h82 := h8.drop (k + (5 + n))
  have Ht : Hid (((xs.drop k).take (5 + n)).length = 5 + n) := Lib.hid (by rw [List.length_take]; omega)
  have Hd : Hid ((xs.drop (k + (5 + n))).length = xs.length - k - (5 + n)) := Lib.hid (by rw [List.length_drop]; omega)
  have l1 : ((xs.drop k).take (5 + n)).length ≤ 140737488351232 := by rw [List.length_take]; omega
  have l2 : 4 ≤ (xs.drop (k + (5 + n))).length := by rw [List.length_drop]; omega
  have Hn := Lib.hid hn
  have Hl := Lib.hid hlen
  have fin : ∀ w', Below w.heap.size w w' → ReadPost xs (k : Int) w (.returned (.tuple #[.int .u8 0, .slice none 0 0, .int .i64 0, .int .i64 4])) w' := fun w' hb => by
    unfold ReadPost
    rw [hs.out]
    exact ⟨none, 0, rfl, Nat.le_refl _, Reads.nil _ _ _, hb⟩
  have Fin := Lib.hid fin
  clear hn hlen hx h8 hs fin
  generalize (xs.drop k).take (5 + n) = t1 at *
  generalize xs.drop (k + (5 + n)) = t2 at *
  generalize xs.drop k = q at *
  have hpos := ht.pos
  go_enter Tryd.func28, Tryd.ntmps28
  go_wp2_with (go_at_call 37; refine (number_n _ _ _ q Hl.out h4 h8' w hd).mono ?_; rintro e w1 ⟨rfl, m, hm⟩; rw [Hn.out]; have b1 : Below w.heap.size w w1 := hm ▸ below_drewN (Below.refl _ _) m; clear hm)
  have q1 := hd1.below b1
  have q2 := hd2.below b1
  have qt := ht.below hpos b1
  go_quiet ((first | (go_at_call 33; exact quiet_of_left (sum_n _ _ _ t1 Ht.out _ l1 h81 (q1.drewN _) (qt.drewN _))) | (go_at_call 37; exact quiet_of_drew (number_n _ _ _ t2 Hd.out l2 h82 _ (q2.drewN _)))))
  go_wp2
  refine bodyPost_ret (results_tmp4 rfl _ _ _) rfl ?_
  exact Fin.out _ (below_drewN b1 _)

set_option maxRecDepth 100000 in
set_option maxHeartbeats 1000000 in
theorem read_ok (A : Option Addr) (cap : Nat) (xs : List Int) (k : Nat) (w : World) (hl : xs.length ≤ 1000000000) (hc : xs.length ≤ cap) (h8 : Bytes8 xs) (hx : Reads w .u8 A xs) (ht : HasTab w) (h0 : k + 9 ≤ xs.length)
    (n : Nat) (hn : num4 (xs.drop k) = n) (h1 : n ≤ 1048576) (h2 : k + 9 + n ≤ xs.length) (h3 : (crc32 ((xs.drop k).take (5 + n)) != num4 (xs.drop (k + (5 + n)))) = false) :
    Calls Tryd.prog 28 #[.slice A xs.length cap, .int .i64 k] w (ReadPost xs k w) := by
  have hs : Hid (pgRead xs k = (rd (xs.drop k) 4, ((xs.drop k).drop 5).take n, (k : Int) + 9 + n, 0)) := Lib.hid (by
    unfold pgRead; rw [if_neg (by omega)]; simp only [Int.toNat_natCast, List.length_drop]; rw [if_neg (by omega), hn]; simp only [Int.toNat_natCast]; rw [if_neg (by omega), if_neg (by simpa using h3)])
  obtain ⟨a, rfl⟩ := hx.some_ (by omega)
  have hd := hx.drop k
  have hlen : (xs.drop k).length = xs.length - k := List.length_drop
  have hne : ¬ cap = k := by omega
  have hne2 : ¬ cap - k = 5 + n := by omega
  have hne3 : ¬ cap - k = 5 := by omega
  have hd1 := hd.take (5 + n)
  have hd2 := hd.drop (5 + n)
  have hd3 := (hd.drop 5).take n
  rw [List.drop_drop] at hd2
  simp only [Option.map_some] at hd hd1 hd2 hd3
  have h4 : 4 ≤ (xs.drop k).length := by omega
  have c4 : w.cell? ⟨(a.add k).block, (a.add k).off + 4, none⟩ = some (.int .u8 (rd (xs.drop k) 4)) := hd.lit 4 (by omega)
  have h8' := h8.drop k
  have h81 := h8'.take (5 + n)
  have h82 := h8.drop (k + (5 + n))
  have Ht : Hid (((xs.drop k).take (5 + n)).length = 5 + n) := Lib.hid (by rw [List.length_take]; omega)
  have Hd : Hid ((xs.drop (k + (5 + n))).length = xs.length - k - (5 + n)) := Lib.hid (by rw [List.length_drop]; omega)
  have Hb : Hid ((((xs.drop k).drop 5).take n).length = n) := Lib.hid (by rw [List.length_take, List.length_drop, List.length_drop]; omega)
  have l1 : ((xs.drop k).take (5 + n)).length ≤ 140737488351232 := by rw [List.length_take]; omega
  have l2 : 4 ≤ (xs.drop (k + (5 + n))).length := by rw [List.length_drop]; omega
  have l3 : (((xs.drop k).drop 5).take n).length ≤ 140737488351232 := by rw [List.length_take]; omega
  have Hn := Lib.hid hn
  have Hl := Lib.hid hlen
  have fin : ∀ v w', Below w.heap.size w w' → Own w' w.heap.size 5 .u8 v (((xs.drop k).drop 5).take n) → ReadPost xs (k : Int) w (.returned (.tuple #[.int .u8 (rd (xs.drop k) 4), v, .int .i64 ((k : Int) + (5 + (n : Int)) + 4), .int .i64 0])) w' := fun v w' hb ho => by
    unfold ReadPost
    rw [hs.out, show (k : Int) + (5 + (n : Int)) + 4 = (k : Int) + 9 + (n : Int) from by omega]
    obtain ⟨A', c', rfl, hc', hr'⟩ := ho.form
    exact ⟨A', c', rfl, hc', hr', hb⟩
  have Fin := Lib.hid fin
  clear hn hlen hx h8 hs fin
  generalize ((xs.drop k).drop 5).take n = t3 at *
  generalize (xs.drop k).take (5 + n) = t1 at *
  generalize xs.drop (k + (5 + n)) = t2 at *
  generalize xs.drop k = q at *
  have hpos := ht.pos
  go_enter Tryd.func28, Tryd.ntmps28
  go_wp2_with (go_at_call 37; refine (number_n _ _ _ q Hl.out h4 h8' w hd).mono ?_; rintro e w1 ⟨rfl, m, hm⟩; rw [Hn.out]; have b1 : Below w.heap.size w w1 := hm ▸ below_drewN (Below.refl _ _) m; clear hm)
  have q1 := hd1.below b1
  have q2 := hd2.below b1
  have qt := ht.below hpos b1
  go_quiet ((first | (go_at_call 33; exact quiet_of_left (sum_n _ _ _ t1 Ht.out _ l1 h81 (q1.drewN _) (qt.drewN _))) | (go_at_call 37; exact quiet_of_drew (number_n _ _ _ t2 Hd.out l2 h82 _ (q2.drewN _)))))
  go_wp2
  have b2 := below_drewN b1 nq
  obtain ⟨w2, hw2⟩ : ∃ w2, w2 = w1.drewN nq := ⟨_, rfl⟩
  rw [← hw2] at b2 ⊢
  clear hw2 q1 q2 qt b1
  have c42 := cell_below b2 c4
  have q3 := hd3.below b2
  have i4 : (4 : Int) < ((xs.length - k : Nat) : Int) := by omega
  have i5 : (5 : Int) ≤ 5 + (n : Int) := by omega
  have i6 : 5 + (n : Int) ≤ ((cap - k : Nat) : Int) := by omega
  have i7 : (0 : Int) ≤ 5 + (n : Int) := by omega
  have i8 : (5 + (n : Int)).toNat = 5 + n := by omega
  have s1 : IntKind.i64.wrap ((k : Int) + (5 + (n : Int))) = (k : Int) + (5 + (n : Int)) := IntWalk.i64_in _ (by omega)
  have s2 : IntKind.i64.wrap ((k : Int) + (5 + (n : Int)) + 4) = (k : Int) + (5 + (n : Int)) + 4 := IntWalk.i64_in _ (by omega)
  go_region_held3 (fun w' => w'.cell? ⟨(a.add k).block, (a.add k).off + 4, none⟩ = some (.int .u8 (rd q 4))) (first | exact c42 | exact cell_below (w := w2.drew) hb3 c42)
    (first | (go_at_call 38; (with_reducible refine (clone_n _ _ _ t3 Hb.out _ l3 ?_).mono ?_); exact q3; rintro e w3 ⟨v3, rfl, ho3, hb3⟩))
  go_wp2
  refine bodyPost_ret (results_tmp4 rfl _ _ _) rfl ?_
  exact Fin.out _ _ (b2.drew.trans (hb3.mono (by simpa using b2.size))) (ho3.mono (by simpa using b2.size))

theorem read_any (A : Option Addr) (cap : Nat) (xs : List Int) (p : Int) (w : World) (hl : xs.length ≤ 1000000000) (hc : xs.length ≤ cap) (h8 : Bytes8 xs) (hx : Reads w .u8 A xs) (ht : HasTab w) :
    Calls Tryd.prog 28 #[.slice A xs.length cap, .int .i64 p] w (ReadPost xs p w) := by
  by_cases h0 : p < 0
  · exact read_neg A cap xs p w h0
  by_cases h1 : (xs.length : Int) < p
  · exact read_far A cap xs p w h0 h1
  obtain ⟨k, rfl⟩ : ∃ k : Nat, p = k := ⟨p.toNat, by omega⟩
  by_cases h2 : xs.length - k < 9
  · exact read_short A cap xs k w (by omega) h2
  have hr := num4_range (xs.drop k) (h8.drop k) (by rw [List.length_drop]; omega)
  obtain ⟨n, hn⟩ : ∃ n : Nat, num4 (xs.drop k) = n := ⟨(num4 (xs.drop k)).toNat, by omega⟩
  by_cases h3 : 1048576 < n ∨ xs.length < k + 9 + n
  · exact read_big A cap xs k w hl hc h8 hx (by omega) n hn h3
  · cases h4 : (crc32 ((xs.drop k).take (5 + n)) != num4 (xs.drop (k + (5 + n)))) with
    | true => exact read_sum A cap xs k w hl hc h8 hx ht (by omega) n hn (by omega) (by omega) h4
    | false => exact read_ok A cap xs k w hl hc h8 hx ht (by omega) n hn (by omega) (by omega) h4
end Go.Proofs.YtgpfoamhcoipgaaDoor
namespace Go.Proofs.YtgpfoamhcoipgaaDoor
open Go.RowKit

theorem num4_le4 (c : Int) (xs : List Int) (h8 : Bytes8 xs) (h4 : 4 ≤ xs.length) (h : c = num4 xs) : le4 c = xs.take 4 := by
  have b0 := h8 0 (by omega); have b1 := h8 1 (by omega); have b2 := h8 2 (by omega); have b3 := h8 3 (by omega)
  have hv := num4_eq xs h8 h4
  have e : xs.take 4 = [rd xs 0, rd xs 1, rd xs 2, rd xs 3] := by
    match xs, h4 with
    | a :: b :: c :: d :: r, _ => rfl
  rw [e]; unfold le4
  rw [h, hv]
  congr 1
  · omega
  · congr 1
    · omega
    · congr 1
      · omega
      · congr 1
        omega

/-- The number, digit by digit from the highest. -/
def Hor (q : List Int) (N : Int) (m : Nat) (h : Int) : Prop :=
  (m = 4 ∧ h = 0) ∨ (m = 3 ∧ h = rd q 3) ∨ (m = 2 ∧ h = rd q 3 * 256 + rd q 2) ∨ (m = 1 ∧ h = (rd q 3 * 256 + rd q 2) * 256 + rd q 1) ∨ (m = 0 ∧ h = N)

theorem le4_num4 (c : Int) (xs : List Int) (_hc : 0 ≤ c ∧ c ≤ 4294967295) (h8 : Bytes8 xs) (h4 : 4 ≤ xs.length) (h : le4 c = xs.take 4) : c = num4 xs := by
  have e0 : rd (le4 c) 0 = rd xs 0 := by rw [h, rd_take xs 4 0 (by omega)]
  have e1 : rd (le4 c) 1 = rd xs 1 := by rw [h, rd_take xs 4 1 (by omega)]
  have e2 : rd (le4 c) 2 = rd xs 2 := by rw [h, rd_take xs 4 2 (by omega)]
  have e3 : rd (le4 c) 3 = rd xs 3 := by rw [h, rd_take xs 4 3 (by omega)]
  have f0 : rd (le4 c) 0 = c % 256 := rfl
  have f1 : rd (le4 c) 1 = c / 256 % 256 := rfl
  have f2 : rd (le4 c) 2 = c / 65536 % 256 := rfl
  have f3 : rd (le4 c) 3 = c / 16777216 := rfl
  rw [num4_eq xs h8 h4]
  omega

end Go.Proofs.YtgpfoamhcoipgaaDoor
namespace Go.Proofs.YtgpfoamhcoipgaaDoor
open Go.RowKit

/-- What One says: body, the error's number. -/
def pgOne (xs : List Int) (kind : Int) : List Int × Int :=
  if (pgRead xs 0).2.2.2 = 0 then (if (pgRead xs 0).1 = kind ∧ (pgRead xs 0).2.2.1 = xs.length then ((pgRead xs 0).2.1, 0) else ([], 3)) else ([], (pgRead xs 0).2.2.2)
def OnePost (xs : List Int) (kind : Int) (w : World) (e : Ending) (w' : World) : Prop :=
  ∃ A' c', e = .returned (.tuple #[.slice A' (pgOne xs kind).1.length c', .int .i64 (pgOne xs kind).2]) ∧ (pgOne xs kind).1.length ≤ c' ∧ Reads w' .u8 A' (pgOne xs kind).1 ∧ Below w.heap.size w w'

theorem onePost_no {xs : List Int} {kind : Int} {w w' : World} {E : Int} (hs : pgOne xs kind = ([], E)) (hb : Below w.heap.size w w') : OnePost xs kind w (.returned (.tuple #[.slice none 0 0, .int .i64 E])) w' := by
  unfold OnePost
  rw [hs]
  exact ⟨none, 0, rfl, Nat.le_refl _, Reads.nil _ _ _, hb⟩

set_option maxRecDepth 100000 in
set_option maxHeartbeats 400000 in
theorem one_any (A : Option Addr) (cap : Nat) (xs : List Int) (kind : Int) (w : World) (hl : xs.length ≤ 1000000000) (hc : xs.length ≤ cap) (h8 : Bytes8 xs) (hx : Reads w .u8 A xs) (ht : HasTab w) :
    Calls Tryd.prog 10 #[.slice A xs.length cap, .int .u8 kind] w (OnePost xs kind w) := by
  have hread := read_any A cap xs 0 w hl hc h8 hx ht
  have hno : ∀ E w', pgOne xs kind = ([], E) → Below w.heap.size w w' → OnePost xs kind w (.returned (.tuple #[.slice none 0 0, .int .i64 E])) w' := fun E w' => onePost_no
  have hok : ∀ A' c' w', (pgRead xs 0).2.2.2 = 0 → (pgRead xs 0).1 = kind ∧ (pgRead xs 0).2.2.1 = xs.length → (pgRead xs 0).2.1.length ≤ c' → Reads w' .u8 A' (pgRead xs 0).2.1 → Below w.heap.size w w' →
      OnePost xs kind w (.returned (.tuple #[.slice A' (pgRead xs 0).2.1.length c', .int .i64 0])) w' := fun A' c' w' h0 h1 h2 h3 h4 => by
    unfold OnePost pgOne
    rw [if_pos h0, if_pos h1]
    exact ⟨A', c', rfl, h2, h3, h4⟩
  have hone : pgOne xs kind = if (pgRead xs 0).2.2.2 = 0 then (if (pgRead xs 0).1 = kind ∧ (pgRead xs 0).2.2.1 = xs.length then ((pgRead xs 0).2.1, 0) else ([], 3)) else ([], (pgRead xs 0).2.2.2) := rfl
  unfold ReadPost at hread
  generalize pgRead xs 0 = R at *
  obtain ⟨K, body, E, err⟩ := R
  simp only at hread hok hone
  have Hread := Lib.hid hread
  have Hno := Lib.hid hno
  have Hok := Lib.hid hok
  have Hone := Lib.hid hone
  clear hread hno hok hone hx h8
  by_cases h0 : err = 0
  · have e0 : (err == 0) = true := by rw [h0]; rfl
    by_cases h1 : K = kind
    · have e1 : (K != kind) = false := by rw [h1]; simp
      by_cases h2 : E = xs.length
      · have e2 : (E != (xs.length : Int)) = false := by rw [h2]; simp
        have Hfin : Hid (err = 0 ∧ K = kind ∧ E = xs.length) := Lib.hid ⟨h0, h1, h2⟩
        clear h0 h1 h2
        go_enter Tryd.func10, Tryd.ntmps10
        go_wp2_with (go_at_call 28; refine Hread.out.mono ?_; rintro e w1 ⟨A', c', rfl, hcc, hr, hb⟩)
        go_ret2
        exact Hok.out A' c' _ Hfin.out.1 Hfin.out.2 hcc hr hb
      · have e2 : (E != (xs.length : Int)) = true := by rw [bne_iff_ne]; exact h2
        have Hfin : Hid (pgOne xs kind = ([], 3)) := Lib.hid (by rw [Hone.out, if_pos h0, if_neg (fun h => h2 h.2)])
        clear h0 h1 h2
        go_enter Tryd.func10, Tryd.ntmps10
        go_wp2_with (go_at_call 28; refine Hread.out.mono ?_; rintro e w1 ⟨A', c', rfl, hcc, hr, hb⟩)
        go_ret2
        exact Hno.out 3 _ Hfin.out hb
    · have e1 : (K != kind) = true := by rw [bne_iff_ne]; exact h1
      have Hfin : Hid (pgOne xs kind = ([], 3)) := Lib.hid (by rw [Hone.out, if_pos h0, if_neg (fun h => h1 h.1)])
      clear h0 h1
      go_enter Tryd.func10, Tryd.ntmps10
      go_wp2_with (go_at_call 28; refine Hread.out.mono ?_; rintro e w1 ⟨A', c', rfl, hcc, hr, hb⟩)
      go_ret2
      exact Hno.out 3 _ Hfin.out hb
  · have e0 : (err == 0) = false := by rw [beq_eq_false_iff_ne]; exact h0
    have e1 : (err != 0) = true := by rw [bne_iff_ne]; exact h0
    have Hfin : Hid (pgOne xs kind = ([], err)) := Lib.hid (by rw [Hone.out, if_neg h0])
    clear h0
    go_enter Tryd.func10, Tryd.ntmps10
    go_wp2_with (go_at_call 28; refine Hread.out.mono ?_; rintro e w1 ⟨A', c', rfl, hcc, hr, hb⟩)
    go_ret2
    exact Hno.out err _ Hfin.out hb
end Go.Proofs.YtgpfoamhcoipgaaDoor
namespace Go.Proofs.YtgpfoamhcoipgaaDoor
open Go.RowKit

/-! The plain law of pages. -/
theorem pageOf_length (kind : Int) (body : List Int) : (pageOf kind body).length = body.length + 9 := by simp [pageOf, head_length, le4_length]
theorem pageOf_bytes (kind : Int) (body : List Int) (hk : 0 ≤ kind ∧ kind ≤ 255) (hb : Bytes8 body) (hl : body.length ≤ 1000000) : Bytes8 (pageOf kind body) :=
  (head_bytes kind body hk hb hl).append (le4_bytes _ (crc32_range _))
theorem num4_of (c : Int) (r : List Int) (hc : 0 ≤ c ∧ c ≤ 4294967295) (h8 : Bytes8 r) : num4 (le4 c ++ r) = c := by
  have h8' : Bytes8 (le4 c ++ r) := (le4_bytes c hc).append h8
  rw [num4_eq _ h8' (by simp [le4_length])]
  have f0 : rd (le4 c ++ r) 0 = c % 256 := rfl
  have f1 : rd (le4 c ++ r) 1 = c / 256 % 256 := rfl
  have f2 : rd (le4 c ++ r) 2 = c / 65536 % 256 := rfl
  have f3 : rd (le4 c ++ r) 3 = c / 16777216 := rfl
  rw [f0, f1, f2, f3]; omega
/-- A page that stands behind others, and ahead of others, is read. -/
theorem read_page (ps : List Int) (kind : Int) (body rest : List Int) (hk : 0 ≤ kind ∧ kind ≤ 255) (hb : Bytes8 body) (hl : body.length ≤ 1000000) (hr : Bytes8 rest) :
    pgRead (ps ++ (pageOf kind body ++ rest)) ps.length = (kind, body, (ps.length : Int) + 9 + body.length, 0) := by
  have hd : (ps ++ (pageOf kind body ++ rest)).drop ps.length = pageOf kind body ++ rest := by simp
  have hn : num4 (pageOf kind body ++ rest) = body.length := by
    have e : pageOf kind body ++ rest = le4 body.length ++ (([kind] ++ body) ++ (le4 (crc32 (head kind body)) ++ rest)) := by simp [pageOf, head]
    rw [e]
    exact num4_of _ _ (by omega) (((Bytes8.cons hk Bytes8.nil).append hb).append ((le4_bytes _ (crc32_range _)).append hr))
  have ht : (pageOf kind body ++ rest).take (5 + body.length) = head kind body := by
    rw [show 5 + body.length = (head kind body).length from by rw [head_length]; omega]
    simp [pageOf]
  have hs : (ps ++ (pageOf kind body ++ rest)).drop (ps.length + (5 + body.length)) = le4 (crc32 (head kind body)) ++ rest := by
    rw [← List.drop_drop, hd, show 5 + body.length = (head kind body).length from by rw [head_length]; omega]
    simp [pageOf]
  have hb5 : ((pageOf kind body ++ rest).drop 5).take body.length = body := by
    have e : pageOf kind body ++ rest = (le4 body.length ++ [kind]) ++ (body ++ (le4 (crc32 (head kind body)) ++ rest)) := by simp [pageOf, head]
    rw [e, show 5 = (le4 body.length ++ [kind]).length from by simp [le4_length], List.drop_left, List.take_left]
  have h4 : rd (pageOf kind body ++ rest) 4 = kind := rfl
  unfold pgRead
  rw [if_neg (by rw [List.length_append]; omega)]
  simp only [Int.toNat_natCast, hd, hn]
  rw [if_neg (by rw [List.length_append, pageOf_length]; omega), if_neg (by rw [List.length_append, pageOf_length]; omega), ht, hs, num4_of _ _ (crc32_range _) hr, if_neg (by simp), h4, hb5]
theorem one_page (kind k : Int) (body : List Int) (hk : 0 ≤ kind ∧ kind ≤ 255) (hb : Bytes8 body) (hl : body.length ≤ 1000000) : pgOne (pageOf kind body) k = if kind = k then (body, 0) else ([], 3) := by
  have h := read_page [] kind body [] hk hb hl Bytes8.nil
  simp only [List.nil_append, List.append_nil, List.length_nil] at h
  have h' : pgRead (pageOf kind body) 0 = (kind, body, 0 + 9 + (body.length : Int), 0) := h
  unfold pgOne
  rw [h', pageOf_length]
  by_cases e : kind = k
  · rw [if_pos rfl, if_pos ⟨e, by show (0 : Int) + 9 + (body.length : Int) = ((body.length + 9 : Nat) : Int); omega⟩, if_pos e]
  · rw [if_pos rfl, if_neg (fun h => e h.1), if_neg e]
/-- Beside an error all else is nought. -/
theorem read_err (xs : List Int) (p : Int) (h : (pgRead xs p).2.2.2 ≠ 0) : pgRead xs p = (0, [], 0, (pgRead xs p).2.2.2) := by
  have hc : pgRead xs p = (0, [], 0, 1) ∨ pgRead xs p = (0, [], 0, 3) ∨ pgRead xs p = (0, [], 0, 4) ∨ (pgRead xs p).2.2.2 = 0 := by
    unfold pgRead
    split
    · exact .inl rfl
    · simp only
      split
      · exact .inr (.inl rfl)
      · split
        · exact .inr (.inl rfl)
        · split
          · exact .inr (.inr (.inl rfl))
          · exact .inr (.inr (.inr rfl))
  rcases hc with e | e | e | e
  · rw [e]
  · rw [e]
  · rw [e]
  · exact absurd e h
end Go.Proofs.YtgpfoamhcoipgaaDoor
