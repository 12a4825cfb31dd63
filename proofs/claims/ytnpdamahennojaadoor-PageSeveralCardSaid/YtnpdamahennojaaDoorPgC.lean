import Derived.Test.YtnpdamahennojaaDoorPgB
namespace Go.Proofs.YtnpdamahennojaaDoor
open Go.RowKit

/-- What Read says: kind, body, end, the error's number. -/
def pgRead (xs : List Int) (p : Int) : Int × List Int × Int × Int :=
  if p < 0 ∨ (xs.length : Int) < p then (0, [], 0, 1) else
  let q := xs.drop p.toNat
  if q.length < 9 then (0, [], 0, 3) else
  let n := (num4 q).toNat
  if 1048576 < n ∨ q.length < 9 + n then (0, [], 0, 3) else
  if crc32 (q.take (5 + n)) ≠ num4 (xs.drop (p.toNat + (5 + n))) then (0, [], 0, 4) else
  (rd q 4, (q.drop 5).take n, p + 9 + n, 0)

def ReadPost (xs : List Int) (p : Int) (w : World) (e : Ending) (w' : World) : Prop :=
  ∃ A' c', e = .returned (.tuple #[.int .u8 (pgRead xs p).1, .slice A' (pgRead xs p).2.1.length c', .int .i64 (pgRead xs p).2.2.1, .int .i64 (pgRead xs p).2.2.2]) ∧ (pgRead xs p).2.1.length ≤ c' ∧ Reads w' .u8 A' (pgRead xs p).2.1 ∧ Below w.heap.size w w'

theorem read_neg (A : Option Addr) (cap : Nat) (xs : List Int) (p : Int) (w : World) (h : p < 0) :
    Calls Tryd.prog 13 #[.slice A xs.length cap, .int .i64 p] w (ReadPost xs p w) := by
  have hs : Hid (pgRead xs p = (0, [], 0, 1)) := Lib.hid (by unfold pgRead; rw [if_pos (.inl h)])
  go_enter Tryd.func13, Tryd.ntmps13
  go_wp2
  refine bodyPost_ret (v := .tuple #[.int .u8 0, .slice none 0 0, .int .i64 0, .int .i64 1]) (by simp [results, Tryd.results13, go_sem]) rfl ?_
  unfold ReadPost
  rw [hs.out]
  exact ⟨none, 0, rfl, Nat.le_refl _, Reads.nil _ _ _, Below.refl _ _⟩
theorem read_far (A : Option Addr) (cap : Nat) (xs : List Int) (p : Int) (w : World) (h0 : ¬ p < 0) (h : (xs.length : Int) < p) :
    Calls Tryd.prog 13 #[.slice A xs.length cap, .int .i64 p] w (ReadPost xs p w) := by
  have hs : Hid (pgRead xs p = (0, [], 0, 1)) := Lib.hid (by unfold pgRead; rw [if_pos (.inr h)])
  go_enter Tryd.func13, Tryd.ntmps13
  go_wp2
  refine bodyPost_ret (v := .tuple #[.int .u8 0, .slice none 0 0, .int .i64 0, .int .i64 1]) (by simp [results, Tryd.results13, go_sem]) rfl ?_
  unfold ReadPost
  rw [hs.out]
  exact ⟨none, 0, rfl, Nat.le_refl _, Reads.nil _ _ _, Below.refl _ _⟩
theorem read_short (A : Option Addr) (cap : Nat) (xs : List Int) (k : Nat) (w : World) (h0 : k ≤ xs.length) (h : xs.length - k < 9) :
    Calls Tryd.prog 13 #[.slice A xs.length cap, .int .i64 k] w (ReadPost xs k w) := by
  have hs : Hid (pgRead xs k = (0, [], 0, 3)) := Lib.hid (by unfold pgRead; rw [if_neg (by omega)]; simp only [Int.toNat_natCast, List.length_drop]; rw [if_pos h])
  go_enter Tryd.func13, Tryd.ntmps13
  go_wp2
  all_goals
    refine bodyPost_ret (v := .tuple #[.int .u8 0, .slice none 0 0, .int .i64 0, .int .i64 3]) (by simp [results, Tryd.results13, go_sem]) rfl ?_
    unfold ReadPost
    rw [hs.out]
    exact ⟨none, 0, rfl, Nat.le_refl _, Reads.nil _ _ _, Below.refl _ _⟩

theorem HasTab.drewN {w : World} (h : HasTab w) (n : Nat) : HasTab (w.drewN n) := h
theorem number_n (A : Option Addr) (cap n : Nat) (xs : List Int) (hn : xs.length = n) (h4 : 4 ≤ xs.length) (h8 : Bytes8 xs) (w : World) (hx : Reads w .u8 A xs) :
    Calls Tryd.prog 19 #[.slice A n cap] w fun e w' => e = .returned (.int .u32 (num4 xs)) ∧ ∃ n, w' = w.drewN n := calls_len hn (number_any A cap xs h4 h8 w hx)
theorem sum_n (A : Option Addr) (cap n : Nat) (xs : List Int) (hn : xs.length = n) (w : World) (hl : xs.length ≤ 140737488351232) (h8 : Bytes8 xs) (hx : Reads w .u8 A xs) (ht : HasTab w) :
    Calls Tryd.prog 10 #[.slice A n cap] w fun e w' => e = .returned (.int .u32 (crc32 xs)) ∧ w = w' := calls_len hn (sum_says A cap xs w hl h8 hx ht)
theorem clone_n (A : Option Addr) (cap n : Nat) (xs : List Int) (hn : xs.length = n) (w : World) (hl : xs.length ≤ 140737488351232) (hx : Reads w .u8 A xs) :
    Calls Tryd.prog 20 #[.slice A n cap] w fun e w' => ∃ v, e = .returned v ∧ Own w' w.heap.size 5 .u8 v xs ∧ Below w.heap.size w w' := calls_len hn (clone_any A cap xs w hl hx)

theorem or_join (i : Nat) (x y : Int) (hx0 : 0 ≤ x) (hx : x < 2 ^ i) (hy0 : 0 ≤ y) (hy : y % 2 ^ i = 0) (hx1 : x < 4294967296) (hy1 : y < 4294967296) : bits .or .u32 x y = x + y := by
  have h : bits .or .u32 y x = y + x := bits_join .u32 32 (by decide) (fun n h0 h1 => by rw [IntKind.wrap_u32]; omega) i y x hy0 hy hy1 hx0 hx hx1
  have hc : bits .or .u32 x y = bits .or .u32 y x := by simp only [bits, BitVec.or_comm]
  rw [hc, h]; omega
theorem num4_eq (xs : List Int) (h8 : Bytes8 xs) (h4 : 4 ≤ xs.length) : num4 xs = rd xs 0 + rd xs 1 * 256 + rd xs 2 * 65536 + rd xs 3 * 16777216 := by
  have b0 := h8 0 (by omega); have b1 := h8 1 (by omega); have b2 := h8 2 (by omega); have b3 := h8 3 (by omega)
  unfold num4
  rw [or_join 8 (rd xs 0) (rd xs 1 * 256) (by omega) (by omega) (by omega) (by omega) (by omega) (by omega),
    or_join 16 _ (rd xs 2 * 65536) (by omega) (by omega) (by omega) (by omega) (by omega) (by omega),
    or_join 24 _ (rd xs 3 * 16777216) (by omega) (by omega) (by omega) (by omega) (by omega) (by omega)]
theorem num4_range (xs : List Int) (h8 : Bytes8 xs) (h4 : 4 ≤ xs.length) : 0 ≤ num4 xs ∧ num4 xs ≤ 4294967295 := by
  have b0 := h8 0 (by omega); have b1 := h8 1 (by omega); have b2 := h8 2 (by omega); have b3 := h8 3 (by omega)
  rw [num4_eq xs h8 h4]; omega

set_option maxHeartbeats 1000000 in
theorem read_big (A : Option Addr) (cap : Nat) (xs : List Int) (k : Nat) (w : World) (hl : xs.length ≤ 1000000000) (hc : xs.length ≤ cap) (h8 : Bytes8 xs) (hx : Reads w .u8 A xs) (h0 : k + 9 ≤ xs.length)
    (n : Nat) (hn : num4 (xs.drop k) = n) (h : 1048576 < n ∨ xs.length < k + 9 + n) :
    Calls Tryd.prog 13 #[.slice A xs.length cap, .int .i64 k] w (ReadPost xs k w) := by
  have hs : Hid (pgRead xs k = (0, [], 0, 3)) := Lib.hid (by
    unfold pgRead; rw [if_neg (by omega)]; simp only [Int.toNat_natCast, List.length_drop]; rw [if_neg (by omega), hn]; simp only [Int.toNat_natCast]; rw [if_pos (by omega)])
  obtain ⟨a, rfl⟩ := hx.some_ (by omega)
  have hd := hx.drop k
  have hlen : (xs.drop k).length = xs.length - k := List.length_drop
  have hne : ¬ cap = k := by omega
  have hr := num4_range _ (h8.drop k) (by omega)
  have Hn := Lib.hid hn
  have Hl := Lib.hid hlen
  rw [hn] at hr
  simp only [Option.map_some] at hd
  have h4 : 4 ≤ (xs.drop k).length := by omega
  have h8' := h8.drop k
  clear hn hlen hx h8
  have fin : ∀ m, ReadPost xs (k : Int) w (.returned (.tuple #[.int .u8 0, .slice none 0 0, .int .i64 0, .int .i64 3])) (w.drewN m) := fun m => by
    unfold ReadPost
    rw [hs.out]
    exact ⟨none, 0, rfl, Nat.le_refl _, Reads.nil _ _ _, below_drewN (Below.refl _ _) m⟩
  have Fin := Lib.hid fin
  clear fin
  by_cases hbig : 1048576 < n
  · go_enter Tryd.func13, Tryd.ntmps13
    go_wp2_with (go_at_call 19; refine (number_n _ _ _ (xs.drop k) Hl.out h4 h8' w hd).mono ?_; rintro e w1 ⟨rfl, m, rfl⟩; rw [Hn.out])
    refine bodyPost_ret (results_tmp4 rfl _ _ _) rfl ?_
    exact Fin.out m
  · have hlt : xs.length < k + 9 + n := by omega
    go_enter Tryd.func13, Tryd.ntmps13
    go_wp2_with (go_at_call 19; refine (number_n _ _ _ (xs.drop k) Hl.out h4 h8' w hd).mono ?_; rintro e w1 ⟨rfl, m, rfl⟩; rw [Hn.out])
    refine bodyPost_ret (results_tmp4 rfl _ _ _) rfl ?_
    exact Fin.out m

set_option maxHeartbeats 1000000 in
theorem read_sum (A : Option Addr) (cap : Nat) (xs : List Int) (k : Nat) (w : World) (hl : xs.length ≤ 1000000000) (hc : xs.length ≤ cap) (h8 : Bytes8 xs) (hx : Reads w .u8 A xs) (ht : HasTab w) (h0 : k + 9 ≤ xs.length)
    (n : Nat) (hn : num4 (xs.drop k) = n) (h1 : n ≤ 1048576) (h2 : k + 9 + n ≤ xs.length) (h3 : (crc32 ((xs.drop k).take (5 + n)) != num4 (xs.drop (k + (5 + n)))) = true) :
    Calls Tryd.prog 13 #[.slice A xs.length cap, .int .i64 k] w (ReadPost xs k w) := by
  have hs : Hid (pgRead xs k = (0, [], 0, 4)) := Lib.hid (by
    unfold pgRead; rw [if_neg (by omega)]; simp only [Int.toNat_natCast, List.length_drop]; rw [if_neg (by omega), hn]; simp only [Int.toNat_natCast]; rw [if_neg (by omega), if_pos (by simpa using h3)])
  obtain ⟨a, rfl⟩ := hx.some_ (by omega)
  have hd := hx.drop k
  have hlen : (xs.drop k).length = xs.length - k := List.length_drop
  have hne : ¬ cap = k := by omega
  have hne2 : ¬ cap - k = 5 + n := by omega
  have hd1 := hd.take (5 + n)
  have hd2 := hd.drop (5 + n)
  rw [List.drop_drop] at hd2
  simp only [Option.map_some] at hd hd1 hd2
  have h4 : 4 ≤ (xs.drop k).length := by omega
  have h8' := h8.drop k
  have h81 := h8'.take (5 + n)
  have h82 := h8.drop (k + (5 + n))
  have Ht : Hid (((xs.drop k).take (5 + n)).length = 5 + n) := Lib.hid (by rw [List.length_take]; omega)
  have Hd : Hid ((xs.drop (k + (5 + n))).length = xs.length - k - (5 + n)) := Lib.hid (by rw [List.length_drop]; omega)
  have l1 : ((xs.drop k).take (5 + n)).length ≤ 140737488351232 := by rw [List.length_take]; omega
  have l2 : 4 ≤ (xs.drop (k + (5 + n))).length := by rw [List.length_drop]; omega
  have Hn := Lib.hid hn
  have Hl := Lib.hid hlen
  have fin : ∀ w', Below w.heap.size w w' → ReadPost xs (k : Int) w (.returned (.tuple #[.int .u8 0, .slice none 0 0, .int .i64 0, .int .i64 4])) w' := fun w' hb => by
    unfold ReadPost
    rw [hs.out]
    exact ⟨none, 0, rfl, Nat.le_refl _, Reads.nil _ _ _, hb⟩
  have Fin := Lib.hid fin
  clear hn hlen hx h8 hs fin
  generalize (xs.drop k).take (5 + n) = t1 at *
  generalize xs.drop (k + (5 + n)) = t2 at *
  generalize xs.drop k = q at *
  have hpos := ht.pos
  go_enter Tryd.func13, Tryd.ntmps13
  go_wp2_with (go_at_call 19; refine (number_n _ _ _ q Hl.out h4 h8' w hd).mono ?_; rintro e w1 ⟨rfl, m, hm⟩; rw [Hn.out]; have b1 : Below w.heap.size w w1 := hm ▸ below_drewN (Below.refl _ _) m; clear hm)
  have q1 := hd1.below b1
  have q2 := hd2.below b1
  have qt := ht.below hpos b1
  go_quiet ((first | (go_at_call 10; exact quiet_of_left (sum_n _ _ _ t1 Ht.out _ l1 h81 (q1.drewN _) (qt.drewN _))) | (go_at_call 19; exact quiet_of_drew (number_n _ _ _ t2 Hd.out l2 h82 _ (q2.drewN _)))))
  go_wp2
  refine bodyPost_ret (results_tmp4 rfl _ _ _) rfl ?_
  exact Fin.out _ (below_drewN b1 _)

set_option maxHeartbeats 1000000 in
theorem read_ok (A : Option Addr) (cap : Nat) (xs : List Int) (k : Nat) (w : World) (hl : xs.length ≤ 1000000000) (hc : xs.length ≤ cap) (h8 : Bytes8 xs) (hx : Reads w .u8 A xs) (ht : HasTab w) (h0 : k + 9 ≤ xs.length)
    (n : Nat) (hn : num4 (xs.drop k) = n) (h1 : n ≤ 1048576) (h2 : k + 9 + n ≤ xs.length) (h3 : (crc32 ((xs.drop k).take (5 + n)) != num4 (xs.drop (k + (5 + n)))) = false) :
    Calls Tryd.prog 13 #[.slice A xs.length cap, .int .i64 k] w (ReadPost xs k w) := by
  have hs : Hid (pgRead xs k = (rd (xs.drop k) 4, ((xs.drop k).drop 5).take n, (k : Int) + 9 + n, 0)) := Lib.hid (by
    unfold pgRead; rw [if_neg (by omega)]; simp only [Int.toNat_natCast, List.length_drop]; rw [if_neg (by omega), hn]; simp only [Int.toNat_natCast]; rw [if_neg (by omega), if_neg (by simpa using h3)])
  obtain ⟨a, rfl⟩ := hx.some_ (by omega)
  have hd := hx.drop k
  have hlen : (xs.drop k).length = xs.length - k := List.length_drop
  have hne : ¬ cap = k := by omega
  have hne2 : ¬ cap - k = 5 + n := by omega
  have hne3 : ¬ cap - k = 5 := by omega
  have hd1 := hd.take (5 + n)
  have hd2 := hd.drop (5 + n)
  have hd3 := (hd.drop 5).take n
  rw [List.drop_drop] at hd2
  simp only [Option.map_some] at hd hd1 hd2 hd3
  have h4 : 4 ≤ (xs.drop k).length := by omega
  have c4 : w.cell? ⟨(a.add k).block, (a.add k).off + 4, none⟩ = some (.int .u8 (rd (xs.drop k) 4)) := hd.lit 4 (by omega)
  have h8' := h8.drop k
  have h81 := h8'.take (5 + n)
  have h82 := h8.drop (k + (5 + n))
  have Ht : Hid (((xs.drop k).take (5 + n)).length = 5 + n) := Lib.hid (by rw [List.length_take]; omega)
  have Hd : Hid ((xs.drop (k + (5 + n))).length = xs.length - k - (5 + n)) := Lib.hid (by rw [List.length_drop]; omega)
  have Hb : Hid ((((xs.drop k).drop 5).take n).length = n) := Lib.hid (by rw [List.length_take, List.length_drop, List.length_drop]; omega)
  have l1 : ((xs.drop k).take (5 + n)).length ≤ 140737488351232 := by rw [List.length_take]; omega
  have l2 : 4 ≤ (xs.drop (k + (5 + n))).length := by rw [List.length_drop]; omega
  have l3 : (((xs.drop k).drop 5).take n).length ≤ 140737488351232 := by rw [List.length_take]; omega
  have Hn := Lib.hid hn
  have Hl := Lib.hid hlen
  have fin : ∀ v w', Below w.heap.size w w' → Own w' w.heap.size 5 .u8 v (((xs.drop k).drop 5).take n) → ReadPost xs (k : Int) w (.returned (.tuple #[.int .u8 (rd (xs.drop k) 4), v, .int .i64 ((k : Int) + (5 + (n : Int)) + 4), .int .i64 0])) w' := fun v w' hb ho => by
    unfold ReadPost
    rw [hs.out, show (k : Int) + (5 + (n : Int)) + 4 = (k : Int) + 9 + (n : Int) from by omega]
    obtain ⟨A', c', rfl, hc', hr'⟩ := ho.form
    exact ⟨A', c', rfl, hc', hr', hb⟩
  have Fin := Lib.hid fin
  clear hn hlen hx h8 hs fin
  generalize ((xs.drop k).drop 5).take n = t3 at *
  generalize (xs.drop k).take (5 + n) = t1 at *
  generalize xs.drop (k + (5 + n)) = t2 at *
  generalize xs.drop k = q at *
  have hpos := ht.pos
  go_enter Tryd.func13, Tryd.ntmps13
  go_wp2_with (go_at_call 19; refine (number_n _ _ _ q Hl.out h4 h8' w hd).mono ?_; rintro e w1 ⟨rfl, m, hm⟩; rw [Hn.out]; have b1 : Below w.heap.size w w1 := hm ▸ below_drewN (Below.refl _ _) m; clear hm)
  have q1 := hd1.below b1
  have q2 := hd2.below b1
  have qt := ht.below hpos b1
  go_quiet ((first | (go_at_call 10; exact quiet_of_left (sum_n _ _ _ t1 Ht.out _ l1 h81 (q1.drewN _) (qt.drewN _))) | (go_at_call 19; exact quiet_of_drew (number_n _ _ _ t2 Hd.out l2 h82 _ (q2.drewN _)))))
  go_wp2
  have b2 := below_drewN b1 nq
  obtain ⟨w2, hw2⟩ : ∃ w2, w2 = w1.drewN nq := ⟨_, rfl⟩
  rw [← hw2] at b2 ⊢
  clear hw2 q1 q2 qt b1
  have c42 := cell_below b2 c4
  have q3 := hd3.below b2
  have i4 : (4 : Int) < ((xs.length - k : Nat) : Int) := by omega
  have i5 : (5 : Int) ≤ 5 + (n : Int) := by omega
  have i6 : 5 + (n : Int) ≤ ((cap - k : Nat) : Int) := by omega
  have i7 : (0 : Int) ≤ 5 + (n : Int) := by omega
  have i8 : (5 + (n : Int)).toNat = 5 + n := by omega
  have s1 : IntKind.i64.wrap ((k : Int) + (5 + (n : Int))) = (k : Int) + (5 + (n : Int)) := IntWalk.i64_in _ (by omega)
  have s2 : IntKind.i64.wrap ((k : Int) + (5 + (n : Int)) + 4) = (k : Int) + (5 + (n : Int)) + 4 := IntWalk.i64_in _ (by omega)
  go_region_held3 (fun w' => w'.cell? ⟨(a.add k).block, (a.add k).off + 4, none⟩ = some (.int .u8 (rd q 4))) (first | exact c42 | exact cell_below (w := w2.drew) hb3 c42)
    (first | (go_at_call 20; (with_reducible refine (clone_n _ _ _ t3 Hb.out _ l3 ?_).mono ?_); exact q3; rintro e w3 ⟨v3, rfl, ho3, hb3⟩))
  go_wp2
  refine bodyPost_ret (results_tmp4 rfl _ _ _) rfl ?_
  exact Fin.out _ _ (b2.drew.trans (hb3.mono (by simpa using b2.size))) (ho3.mono (by simpa using b2.size))

theorem read_any (A : Option Addr) (cap : Nat) (xs : List Int) (p : Int) (w : World) (hl : xs.length ≤ 1000000000) (hc : xs.length ≤ cap) (h8 : Bytes8 xs) (hx : Reads w .u8 A xs) (ht : HasTab w) :
    Calls Tryd.prog 13 #[.slice A xs.length cap, .int .i64 p] w (ReadPost xs p w) := by
  by_cases h0 : p < 0
  · exact read_neg A cap xs p w h0
  by_cases h1 : (xs.length : Int) < p
  · exact read_far A cap xs p w h0 h1
  obtain ⟨k, rfl⟩ : ∃ k : Nat, p = k := ⟨p.toNat, by omega⟩
  by_cases h2 : xs.length - k < 9
  · exact read_short A cap xs k w (by omega) h2
  have hr := num4_range (xs.drop k) (h8.drop k) (by rw [List.length_drop]; omega)
  obtain ⟨n, hn⟩ : ∃ n : Nat, num4 (xs.drop k) = n := ⟨(num4 (xs.drop k)).toNat, by omega⟩
  by_cases h3 : 1048576 < n ∨ xs.length < k + 9 + n
  · exact read_big A cap xs k w hl hc h8 hx (by omega) n hn h3
  · cases h4 : (crc32 ((xs.drop k).take (5 + n)) != num4 (xs.drop (k + (5 + n)))) with
    | true => exact read_sum A cap xs k w hl hc h8 hx ht (by omega) n hn (by omega) (by omega) h4
    | false => exact read_ok A cap xs k w hl hc h8 hx ht (by omega) n hn (by omega) (by omega) h4
end Go.Proofs.YtnpdamahennojaaDoor
