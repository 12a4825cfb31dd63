import Derived.Test.YtnpdamahennojaaDoorPgC
namespace Go.Proofs.YtnpdamahennojaaDoor
open Go.RowKit

theorem rref_neg (A : Option Addr) (cap : Nat) (xs : List Int) (p : Int) (w : World) (h : p < 0) :
    Calls Tryd.prog 14 #[.slice A xs.length cap, .int .i64 p] w (ReadPost xs p w) := by
  have hs : Hid (pgRead xs p = (0, [], 0, 1)) := Lib.hid (by unfold pgRead; rw [if_pos (.inl h)])
  go_enter Tryd.func14, Tryd.ntmps14
  go_wp2
  refine bodyPost_ret (results_tmp4 rfl _ _ _) rfl ?_
  unfold ReadPost
  rw [hs.out]
  exact ⟨none, 0, rfl, Nat.le_refl _, Reads.nil _ _ _, Below.refl _ _⟩
theorem rref_far (A : Option Addr) (cap : Nat) (xs : List Int) (p : Int) (w : World) (h0 : ¬ p < 0) (h : (xs.length : Int) < p) :
    Calls Tryd.prog 14 #[.slice A xs.length cap, .int .i64 p] w (ReadPost xs p w) := by
  have hs : Hid (pgRead xs p = (0, [], 0, 1)) := Lib.hid (by unfold pgRead; rw [if_pos (.inr h)])
  go_enter Tryd.func14, Tryd.ntmps14
  go_wp2
  refine bodyPost_ret (results_tmp4 rfl _ _ _) rfl ?_
  unfold ReadPost
  rw [hs.out]
  exact ⟨none, 0, rfl, Nat.le_refl _, Reads.nil _ _ _, Below.refl _ _⟩
theorem rref_short (A : Option Addr) (cap : Nat) (xs : List Int) (k : Nat) (w : World) (h0 : k ≤ xs.length) (h : xs.length - k < 9) :
    Calls Tryd.prog 14 #[.slice A xs.length cap, .int .i64 k] w (ReadPost xs k w) := by
  have hs : Hid (pgRead xs k = (0, [], 0, 3)) := Lib.hid (by unfold pgRead; rw [if_neg (by omega)]; simp only [Int.toNat_natCast, List.length_drop]; rw [if_pos h])
  go_enter Tryd.func14, Tryd.ntmps14
  go_wp2
  all_goals
    refine bodyPost_ret (results_tmp4 rfl _ _ _) rfl ?_
    unfold ReadPost
    rw [hs.out]
    exact ⟨none, 0, rfl, Nat.le_refl _, Reads.nil _ _ _, Below.refl _ _⟩

theorem num4_le4 (c : Int) (xs : List Int) (h8 : Bytes8 xs) (h4 : 4 ≤ xs.length) (h : c = num4 xs) : le4 c = xs.take 4 := by
  have b0 := h8 0 (by omega); have b1 := h8 1 (by omega); have b2 := h8 2 (by omega); have b3 := h8 3 (by omega)
  have hv := num4_eq xs h8 h4
  have e : xs.take 4 = [rd xs 0, rd xs 1, rd xs 2, rd xs 3] := by
    match xs, h4 with
    | a :: b :: c :: d :: r, _ => rfl
  rw [e]; unfold le4
  rw [h, hv]
  congr 1
  · omega
  · congr 1
    · omega
    · congr 1
      · omega
      · congr 1
        omega

/-- The number, digit by digit from the highest. -/
def Hor (q : List Int) (N : Int) (m : Nat) (h : Int) : Prop :=
  (m = 4 ∧ h = 0) ∨ (m = 3 ∧ h = rd q 3) ∨ (m = 2 ∧ h = rd q 3 * 256 + rd q 2) ∨ (m = 1 ∧ h = (rd q 3 * 256 + rd q 2) * 256 + rd q 1) ∨ (m = 0 ∧ h = N)

theorem le4_num4 (c : Int) (xs : List Int) (_hc : 0 ≤ c ∧ c ≤ 4294967295) (h8 : Bytes8 xs) (h4 : 4 ≤ xs.length) (h : le4 c = xs.take 4) : c = num4 xs := by
  have e0 : rd (le4 c) 0 = rd xs 0 := by rw [h, rd_take xs 4 0 (by omega)]
  have e1 : rd (le4 c) 1 = rd xs 1 := by rw [h, rd_take xs 4 1 (by omega)]
  have e2 : rd (le4 c) 2 = rd xs 2 := by rw [h, rd_take xs 4 2 (by omega)]
  have e3 : rd (le4 c) 3 = rd xs 3 := by rw [h, rd_take xs 4 3 (by omega)]
  have f0 : rd (le4 c) 0 = c % 256 := rfl
  have f1 : rd (le4 c) 1 = c / 256 % 256 := rfl
  have f2 : rd (le4 c) 2 = c / 65536 % 256 := rfl
  have f3 : rd (le4 c) 3 = c / 16777216 := rfl
  rw [num4_eq xs h8 h4]
  omega

theorem sum_ref_n (A : Option Addr) (cap n : Nat) (xs : List Int) (hn : xs.length = n) (w : World) (hl : xs.length ≤ 140737488351232) (h8 : Bytes8 xs) (hx : Reads w .u8 A xs) :
    Calls Tryd.prog 11 #[.slice A n cap] w fun e w' => e = .returned (.int .u32 (crc32 xs)) ∧ w = w' := calls_len hn (ref_sum_says A cap xs w hl h8 hx)
set_option maxHeartbeats 1000000 in
theorem rref_big (A : Option Addr) (cap : Nat) (xs : List Int) (k : Nat) (w : World) (_hl : xs.length ≤ 1000000000) (hc : xs.length ≤ cap) (h8 : Bytes8 xs) (hx : Reads w .u8 A xs) (h0 : k + 9 ≤ xs.length)
    (n : Nat) (hn : num4 (xs.drop k) = n) (h : 1048576 < n ∨ xs.length < k + 9 + n) :
    Calls Tryd.prog 14 #[.slice A xs.length cap, .int .i64 k] w (ReadPost xs k w) := by
  have hs : Hid (pgRead xs k = (0, [], 0, 3)) := Lib.hid (by
    unfold pgRead; rw [if_neg (by omega)]; simp only [Int.toNat_natCast, List.length_drop]; rw [if_neg (by omega), hn]; simp only [Int.toNat_natCast]; rw [if_pos (by omega)])
  obtain ⟨a, rfl⟩ := hx.some_ (by omega)
  have hd := hx.drop k
  have hlen : (xs.drop k).length = xs.length - k := List.length_drop
  have hne : ¬ cap = k := by omega
  simp only [Option.map_some] at hd
  have c0 : w.cell? (a.add k) = some (.int .u8 (rd (xs.drop k) 0)) := hd.lit 0 (by omega)
  have c1 : w.cell? ⟨(a.add k).block, (a.add k).off + 1, none⟩ = some (.int .u8 (rd (xs.drop k) 1)) := hd.lit 1 (by omega)
  have c2 : w.cell? ⟨(a.add k).block, (a.add k).off + 2, none⟩ = some (.int .u8 (rd (xs.drop k) 2)) := hd.lit 2 (by omega)
  have c3 : w.cell? ⟨(a.add k).block, (a.add k).off + 3, none⟩ = some (.int .u8 (rd (xs.drop k) 3)) := hd.lit 3 (by omega)
  have h8' := h8.drop k
  have b0 := h8' 0 (by omega); have b1 := h8' 1 (by omega); have b2 := h8' 2 (by omega); have b3 := h8' 3 (by omega)
  have hv := num4_eq _ h8' (by omega)
  have p0 : 0 < xs.length - k := by omega
  have l0 : (0 : Int) < ((xs.length - k : Nat) : Int) := by omega
  have l1 : (1 : Int) < ((xs.length - k : Nat) : Int) := by omega
  have l2 : (2 : Int) < ((xs.length - k : Nat) : Int) := by omega
  have l3 : (3 : Int) < ((xs.length - k : Nat) : Int) := by omega
  have Hn := Lib.hid hn
  have Hv := Lib.hid hv
  have fin : ReadPost xs (k : Int) w (.returned (.tuple #[.int .u8 0, .slice none 0 0, .int .i64 0, .int .i64 3])) w := by
    unfold ReadPost
    rw [hs.out]
    exact ⟨none, 0, rfl, Nat.le_refl _, Reads.nil _ _ _, Below.refl _ _⟩
  have Fin := Lib.hid fin
  clear hn hlen hx h8 hv hd h8' fin hs
  generalize xs.drop k = q at *
  go_enter Tryd.func14, Tryd.ntmps14
  go_wp2
  go_loop [9, 10] (fun N i => ∃ (m : Nat) (h : Int), m ≤ 4 ∧ i = .int .i64 ((m : Int) - 1) ∧ N = .int .i64 h ∧ Hor q n m h) (fun _ i => (intOf i + 1).toNat)
  case atStart => exact ⟨4, 0, by omega, rfl, rfl, .inl ⟨rfl, rfl⟩⟩
  case round =>
    obtain ⟨m, h', hm, rfl, rfl, hh⟩ := hrel
    rcases hh with ⟨rfl, rfl⟩ | ⟨rfl, rfl⟩ | ⟨rfl, rfl⟩ | ⟨rfl, rfl⟩ | ⟨rfl, rfl⟩
    · go_wp2
      refine ⟨⟨3, _, by omega, rfl, rfl, .inr (.inl ⟨rfl, rfl⟩)⟩, by decide⟩
    · go_wp2
      refine ⟨⟨2, _, by omega, rfl, rfl, .inr (.inr (.inl ⟨rfl, rfl⟩))⟩, by decide⟩
    · go_wp2
      refine ⟨⟨1, _, by omega, rfl, rfl, .inr (.inr (.inr (.inl ⟨rfl, rfl⟩)))⟩, by decide⟩
    · go_wp2
      refine ⟨⟨0, _, by omega, rfl, rfl, .inr (.inr (.inr (.inr ⟨rfl, by have := Hn.out; have := Hv.out; omega⟩)))⟩, by decide⟩
    · by_cases hbig : 1048576 < n
      · go_wp2
        refine bodyPost_ret (results_tmp4 rfl _ _ _) rfl ?_
        exact Fin.out
      · have hlt : xs.length < k + 9 + n := by omega
        go_wp2
        refine bodyPost_ret (results_tmp4 rfl _ _ _) rfl ?_
        exact Fin.out

set_option maxHeartbeats 1000000 in
theorem rref_sum (A : Option Addr) (cap : Nat) (xs : List Int) (k : Nat) (w : World) (hl : xs.length ≤ 1000000000) (hc : xs.length ≤ cap) (h8 : Bytes8 xs) (hx : Reads w .u8 A xs) (h0 : k + 9 ≤ xs.length)
    (n : Nat) (hn : num4 (xs.drop k) = n) (h1 : n ≤ 1048576) (h2 : k + 9 + n ≤ xs.length) (hc3 : (crc32 ((xs.drop k).take (5 + n)) != num4 (xs.drop (k + (5 + n)))) = true) :
    Calls Tryd.prog 14 #[.slice A xs.length cap, .int .i64 k] w (ReadPost xs k w) := by
  have hs : Hid (pgRead xs k = (0, [], 0, 4)) := Lib.hid (by
    unfold pgRead; rw [if_neg (by omega)]; simp only [Int.toNat_natCast, List.length_drop]; rw [if_neg (by omega), hn]; simp only [Int.toNat_natCast]; rw [if_neg (by omega), if_pos (by simpa using hc3)])
  obtain ⟨a, rfl⟩ := hx.some_ (by omega)
  have hd := hx.drop k
  have hlen : (xs.drop k).length = xs.length - k := List.length_drop
  have hne : ¬ cap = k := by omega
  have hne2 : ¬ cap - k = 5 + n := by omega
  have hd1 := hd.take (5 + n)
  have hd2 := (hd.drop (5 + n)).take 4
  rw [List.drop_drop] at hd2
  simp only [Option.map_some] at hd1 hd2
  simp only [Option.map_some] at hd
  have c0 : w.cell? (a.add k) = some (.int .u8 (rd (xs.drop k) 0)) := hd.lit 0 (by omega)
  have c1 : w.cell? ⟨(a.add k).block, (a.add k).off + 1, none⟩ = some (.int .u8 (rd (xs.drop k) 1)) := hd.lit 1 (by omega)
  have c2 : w.cell? ⟨(a.add k).block, (a.add k).off + 2, none⟩ = some (.int .u8 (rd (xs.drop k) 2)) := hd.lit 2 (by omega)
  have c3 : w.cell? ⟨(a.add k).block, (a.add k).off + 3, none⟩ = some (.int .u8 (rd (xs.drop k) 3)) := hd.lit 3 (by omega)
  have h8' := h8.drop k
  have b0 := h8' 0 (by omega); have b1 := h8' 1 (by omega); have b2 := h8' 2 (by omega); have b3 := h8' 3 (by omega)
  have hv := num4_eq _ h8' (by omega)
  have p0 : 0 < xs.length - k := by omega
  have l0 : (0 : Int) < ((xs.length - k : Nat) : Int) := by omega
  have l1 : (1 : Int) < ((xs.length - k : Nat) : Int) := by omega
  have l2 : (2 : Int) < ((xs.length - k : Nat) : Int) := by omega
  have l3 : (3 : Int) < ((xs.length - k : Nat) : Int) := by omega
  have Hn := Lib.hid hn
  have Hv := Lib.hid hv
  have h81 := h8'.take (5 + n)
  have h82 := (h8.drop (k + (5 + n))).take 4
  have Ht : Hid (((xs.drop k).take (5 + n)).length = 5 + n) := Lib.hid (by rw [List.length_take]; omega)
  have Hd : Hid (((xs.drop (k + (5 + n))).take 4).length = 4) := Lib.hid (by rw [List.length_take, List.length_drop]; omega)
  have lt1 : ((xs.drop k).take (5 + n)).length ≤ 140737488351232 := by rw [List.length_take]; omega
  have fin : ∀ w', Below w.heap.size w w' → ReadPost xs (k : Int) w (.returned (.tuple #[.int .u8 0, .slice none 0 0, .int .i64 0, .int .i64 4])) w' := fun w' hb => by
    unfold ReadPost
    rw [hs.out]
    exact ⟨none, 0, rfl, Nat.le_refl _, Reads.nil _ _ _, hb⟩
  have Fin := Lib.hid fin
  have hq : ((strOfNums (le4 (crc32 ((xs.drop k).take (5 + n))))).toList == (strOfNums ((xs.drop (k + (5 + n))).take 4)).toList) = false := by
    refine str_ne (le4_bytes _ (crc32_range _)) h82 fun e => ?_
    rw [bne_iff_ne] at hc3
    exact hc3 (le4_num4 _ _ (crc32_range _) (h8.drop _) (by rw [List.length_drop]; omega) e)
  have hr1 := crc32_range ((xs.drop k).take (5 + n))
  have i5 : (0 : Int) ≤ 5 + (n : Int) := by omega
  have i6 : 5 + (n : Int) ≤ ((cap - k : Nat) : Int) := by omega
  have i7 : 5 + (n : Int) ≤ 9 + (n : Int) := by omega
  have i8 : 9 + (n : Int) ≤ ((cap - k : Nat) : Int) := by omega
  have i9 : (5 + (n : Int)).toNat = 5 + n := by omega
  have i10 : (9 + (n : Int)).toNat = 9 + n := by omega
  have s1 : IntKind.i64.wrap (5 + (n : Int)) = 5 + (n : Int) := IntWalk.i64_in _ (by omega)
  have s2 : IntKind.i64.wrap (9 + (n : Int)) = 9 + (n : Int) := IntWalk.i64_in _ (by omega)
  clear hn hlen hx h8 hv hd h8' fin hs hc3
  generalize (xs.drop k).take (5 + n) = t1 at *
  generalize (xs.drop (k + (5 + n))).take 4 = t2 at *
  generalize xs.drop k = q at *
  go_enter Tryd.func14, Tryd.ntmps14
  go_wp2
  go_loop [9, 10] (fun N i => ∃ (m : Nat) (h : Int), m ≤ 4 ∧ i = .int .i64 ((m : Int) - 1) ∧ N = .int .i64 h ∧ Hor q n m h) (fun _ i => (intOf i + 1).toNat)
  case atStart => exact ⟨4, 0, by omega, rfl, rfl, .inl ⟨rfl, rfl⟩⟩
  case round =>
    obtain ⟨m, h', hm, rfl, rfl, hh⟩ := hrel
    rcases hh with ⟨rfl, rfl⟩ | ⟨rfl, rfl⟩ | ⟨rfl, rfl⟩ | ⟨rfl, rfl⟩ | ⟨rfl, rfl⟩
    · go_wp2
      refine ⟨⟨3, _, by omega, rfl, rfl, .inr (.inl ⟨rfl, rfl⟩)⟩, by decide⟩
    · go_wp2
      refine ⟨⟨2, _, by omega, rfl, rfl, .inr (.inr (.inl ⟨rfl, rfl⟩))⟩, by decide⟩
    · go_wp2
      refine ⟨⟨1, _, by omega, rfl, rfl, .inr (.inr (.inr (.inl ⟨rfl, rfl⟩)))⟩, by decide⟩
    · go_wp2
      refine ⟨⟨0, _, by omega, rfl, rfl, .inr (.inr (.inr (.inr ⟨rfl, by have := Hn.out; have := Hv.out; omega⟩)))⟩, by decide⟩
    · go_wp2
      have hcv : ∀ w', Reads w' .u8 (some ((a.add k).add (5 + n))) t2 → (convert 22 9 (.slice (some ((a.add k).add (5 + n))) 4 (cap - k - (5 + n)))).run Tryd.prog w' = .ok (.string (strOfNums t2)) w' := fun w' h => by
        have := run_string_reads (P := Tryd.prog) w' 22 9 5 Tryd.underlying22 Tryd.underlying5 Tryd.underlying9 (some ((a.add k).add (5 + n))) (cap - k - (5 + n)) t2 h
        rw [Hd.out] at this
        exact this
      have hcv0 := hcv w.drew hd2
      have hcv' : 9 + n - (5 + n) = 4 := by omega
      go_region_with
        (first
          | (go_at_call 11; ((with_reducible refine (sum_ref_n _ _ _ t1 Ht.out _ lt1 h81 ?_).mono ?_); first | exact hd1 | skip); rintro e w' ⟨rfl, rfl⟩)
          | (go_at_call 21; ((with_reducible refine (ref_four_any _ hr1 _).mono ?_)); rintro e w5 ⟨v5, rfl, ho5, hb5⟩; obtain ⟨A5, c5, rfl, _, hr5⟩ := ho5.form; have hcv2 := run_string_reads (P := Tryd.prog) w5 22 9 5 Tryd.underlying22 Tryd.underlying5 Tryd.underlying9 A5 c5 _ hr5; have hcv5 := hcv w5 (hd2.below (w := w.drew) hb5)))
      all_goals
        go_wp2
        refine bodyPost_ret (results_tmp4 rfl _ _ _) rfl ?_
        exact Fin.out _ ((Below.refl _ _).drew.trans (hb5.mono (by simp)))
set_option maxHeartbeats 1000000 in
theorem rref_ok (A : Option Addr) (cap : Nat) (xs : List Int) (k : Nat) (w : World) (hl : xs.length ≤ 1000000000) (hc : xs.length ≤ cap) (h8 : Bytes8 xs) (hx : Reads w .u8 A xs) (h0 : k + 9 ≤ xs.length)
    (n : Nat) (hn : num4 (xs.drop k) = n) (h1 : n ≤ 1048576) (h2 : k + 9 + n ≤ xs.length) (hc3 : (crc32 ((xs.drop k).take (5 + n)) != num4 (xs.drop (k + (5 + n)))) = false) :
    Calls Tryd.prog 14 #[.slice A xs.length cap, .int .i64 k] w (ReadPost xs k w) := by
  have hs : Hid (pgRead xs k = (rd (xs.drop k) 4, ((xs.drop k).drop 5).take n, (k : Int) + 9 + n, 0)) := Lib.hid (by
    unfold pgRead; rw [if_neg (by omega)]; simp only [Int.toNat_natCast, List.length_drop]; rw [if_neg (by omega), hn]; simp only [Int.toNat_natCast]; rw [if_neg (by omega), if_neg (by simpa using hc3)])
  obtain ⟨a, rfl⟩ := hx.some_ (by omega)
  have hd := hx.drop k
  have hlen : (xs.drop k).length = xs.length - k := List.length_drop
  have hne : ¬ cap = k := by omega
  have hne2 : ¬ cap - k = 5 + n := by omega
  have hne3 : ¬ cap - k = 5 := by omega
  have hd3 := (hd.drop 5).take n
  have hd1 := hd.take (5 + n)
  have hd2 := (hd.drop (5 + n)).take 4
  rw [List.drop_drop] at hd2
  simp only [Option.map_some] at hd1 hd2 hd3
  simp only [Option.map_some] at hd
  have c0 : w.cell? (a.add k) = some (.int .u8 (rd (xs.drop k) 0)) := hd.lit 0 (by omega)
  have c1 : w.cell? ⟨(a.add k).block, (a.add k).off + 1, none⟩ = some (.int .u8 (rd (xs.drop k) 1)) := hd.lit 1 (by omega)
  have c2 : w.cell? ⟨(a.add k).block, (a.add k).off + 2, none⟩ = some (.int .u8 (rd (xs.drop k) 2)) := hd.lit 2 (by omega)
  have c3 : w.cell? ⟨(a.add k).block, (a.add k).off + 3, none⟩ = some (.int .u8 (rd (xs.drop k) 3)) := hd.lit 3 (by omega)
  have c4 : w.cell? ⟨(a.add k).block, (a.add k).off + 4, none⟩ = some (.int .u8 (rd (xs.drop k) 4)) := hd.lit 4 (by omega)
  have h8' := h8.drop k
  have b0 := h8' 0 (by omega); have b1 := h8' 1 (by omega); have b2 := h8' 2 (by omega); have b3 := h8' 3 (by omega)
  have hv := num4_eq _ h8' (by omega)
  have p0 : 0 < xs.length - k := by omega
  have l0 : (0 : Int) < ((xs.length - k : Nat) : Int) := by omega
  have l1 : (1 : Int) < ((xs.length - k : Nat) : Int) := by omega
  have l2 : (2 : Int) < ((xs.length - k : Nat) : Int) := by omega
  have l3 : (3 : Int) < ((xs.length - k : Nat) : Int) := by omega
  have Hn := Lib.hid hn
  have Hv := Lib.hid hv
  have h81 := h8'.take (5 + n)
  have h82 := (h8.drop (k + (5 + n))).take 4
  have Ht : Hid (((xs.drop k).take (5 + n)).length = 5 + n) := Lib.hid (by rw [List.length_take]; omega)
  have Hd : Hid (((xs.drop (k + (5 + n))).take 4).length = 4) := Lib.hid (by rw [List.length_take, List.length_drop]; omega)
  have lt1 : ((xs.drop k).take (5 + n)).length ≤ 140737488351232 := by rw [List.length_take]; omega
  have Hb : Hid ((((xs.drop k).drop 5).take n).length = n) := Lib.hid (by rw [List.length_take, List.length_drop, List.length_drop]; omega)
  have fin : ∀ w' c', Below w.heap.size w w' → n ≤ c' → ReadPost xs (k : Int) w (.returned (.tuple #[.int .u8 (rd (xs.drop k) 4), .slice (some ((a.add k).add 5)) n c', .int .i64 ((k : Int) + 9 + (n : Int)), .int .i64 0])) w' := fun w' c' hb hcc => by
    unfold ReadPost
    rw [hs.out]
    refine ⟨some ((a.add k).add 5), c', ?_, by show _ ≤ c'; rw [Hb.out]; exact hcc, hd3.below hb, hb⟩
    simp only [Hb.out]
  have Fin := Lib.hid fin
  have hq : ((strOfNums (le4 (crc32 ((xs.drop k).take (5 + n))))).toList == (strOfNums ((xs.drop (k + (5 + n))).take 4)).toList) = true := by
    rw [num4_le4 _ (xs.drop (k + (5 + n))) (h8.drop _) (by rw [List.length_drop]; omega) (by simpa using hc3)]
    exact str_eq _
  have hr1 := crc32_range ((xs.drop k).take (5 + n))
  have i5 : (0 : Int) ≤ 5 + (n : Int) := by omega
  have i6 : 5 + (n : Int) ≤ ((cap - k : Nat) : Int) := by omega
  have i7 : 5 + (n : Int) ≤ 9 + (n : Int) := by omega
  have i8 : 9 + (n : Int) ≤ ((cap - k : Nat) : Int) := by omega
  have i9 : (5 + (n : Int)).toNat = 5 + n := by omega
  have i10 : (9 + (n : Int)).toNat = 9 + n := by omega
  have i4 : (4 : Int) < ((xs.length - k : Nat) : Int) := by omega
  have i11 : (5 : Int) ≤ 5 + (n : Int) := by omega
  have s3 : IntKind.i64.wrap ((k : Int) + 9) = (k : Int) + 9 := IntWalk.i64_in _ (by omega)
  have s4 : IntKind.i64.wrap ((k : Int) + 9 + (n : Int)) = (k : Int) + 9 + (n : Int) := IntWalk.i64_in _ (by omega)
  have s1 : IntKind.i64.wrap (5 + (n : Int)) = 5 + (n : Int) := IntWalk.i64_in _ (by omega)
  have s2 : IntKind.i64.wrap (9 + (n : Int)) = 9 + (n : Int) := IntWalk.i64_in _ (by omega)
  clear hn hlen hx h8 hv hd h8' fin hs hc3 hd3 Hb
  generalize (xs.drop k).take (5 + n) = t1 at *
  generalize (xs.drop (k + (5 + n))).take 4 = t2 at *
  generalize xs.drop k = q at *
  go_enter Tryd.func14, Tryd.ntmps14
  go_wp2
  go_loop [9, 10] (fun N i => ∃ (m : Nat) (h : Int), m ≤ 4 ∧ i = .int .i64 ((m : Int) - 1) ∧ N = .int .i64 h ∧ Hor q n m h) (fun _ i => (intOf i + 1).toNat)
  case atStart => exact ⟨4, 0, by omega, rfl, rfl, .inl ⟨rfl, rfl⟩⟩
  case round =>
    obtain ⟨m, h', hm, rfl, rfl, hh⟩ := hrel
    rcases hh with ⟨rfl, rfl⟩ | ⟨rfl, rfl⟩ | ⟨rfl, rfl⟩ | ⟨rfl, rfl⟩ | ⟨rfl, rfl⟩
    · go_wp2
      refine ⟨⟨3, _, by omega, rfl, rfl, .inr (.inl ⟨rfl, rfl⟩)⟩, by decide⟩
    · go_wp2
      refine ⟨⟨2, _, by omega, rfl, rfl, .inr (.inr (.inl ⟨rfl, rfl⟩))⟩, by decide⟩
    · go_wp2
      refine ⟨⟨1, _, by omega, rfl, rfl, .inr (.inr (.inr (.inl ⟨rfl, rfl⟩)))⟩, by decide⟩
    · go_wp2
      refine ⟨⟨0, _, by omega, rfl, rfl, .inr (.inr (.inr (.inr ⟨rfl, by have := Hn.out; have := Hv.out; omega⟩)))⟩, by decide⟩
    · go_wp2
      have hcv : ∀ w', Reads w' .u8 (some ((a.add k).add (5 + n))) t2 → (convert 22 9 (.slice (some ((a.add k).add (5 + n))) 4 (cap - k - (5 + n)))).run Tryd.prog w' = .ok (.string (strOfNums t2)) w' := fun w' h => by
        have := run_string_reads (P := Tryd.prog) w' 22 9 5 Tryd.underlying22 Tryd.underlying5 Tryd.underlying9 (some ((a.add k).add (5 + n))) (cap - k - (5 + n)) t2 h
        rw [Hd.out] at this
        exact this
      have hcv0 := hcv w.drew hd2
      have hcv' : 9 + n - (5 + n) = 4 := by omega
      go_region_with
        (first
          | (go_at_call 11; ((with_reducible refine (sum_ref_n _ _ _ t1 Ht.out _ lt1 h81 ?_).mono ?_); first | exact hd1 | skip); rintro e w' ⟨rfl, rfl⟩)
          | (go_at_call 21; ((with_reducible refine (ref_four_any _ hr1 _).mono ?_)); rintro e w5 ⟨v5, rfl, ho5, hb5⟩; obtain ⟨A5, c5, rfl, _, hr5⟩ := ho5.form; have hcv2 := run_string_reads (P := Tryd.prog) w5 22 9 5 Tryd.underlying22 Tryd.underlying5 Tryd.underlying9 A5 c5 _ hr5; have hcv5 := hcv w5 (hd2.below (w := w.drew) hb5)))
      all_goals
        go_wp2
        have c45 := cell_below (w := w.drew) hb5 c4
        have bb := (Below.refl w.heap.size w).drew.trans (hb5.mono (by simp))
        go_quiet (fail)
        go_wp2
        refine bodyPost_ret (results_tmp4 rfl _ _ _) rfl ?_
        exact Fin.out _ _ (below_drewN bb _) (by omega)

theorem rref_any (A : Option Addr) (cap : Nat) (xs : List Int) (p : Int) (w : World) (hl : xs.length ≤ 1000000000) (hc : xs.length ≤ cap) (h8 : Bytes8 xs) (hx : Reads w .u8 A xs) :
    Calls Tryd.prog 14 #[.slice A xs.length cap, .int .i64 p] w (ReadPost xs p w) := by
  by_cases h0 : p < 0
  · exact rref_neg A cap xs p w h0
  by_cases h1 : (xs.length : Int) < p
  · exact rref_far A cap xs p w h0 h1
  obtain ⟨k, rfl⟩ : ∃ k : Nat, p = k := ⟨p.toNat, by omega⟩
  by_cases h2 : xs.length - k < 9
  · exact rref_short A cap xs k w (by omega) h2
  have hr := num4_range (xs.drop k) (h8.drop k) (by rw [List.length_drop]; omega)
  obtain ⟨n, hn⟩ : ∃ n : Nat, num4 (xs.drop k) = n := ⟨(num4 (xs.drop k)).toNat, by omega⟩
  by_cases h3 : 1048576 < n ∨ xs.length < k + 9 + n
  · exact rref_big A cap xs k w hl hc h8 hx (by omega) n hn h3
  · cases h4 : (crc32 ((xs.drop k).take (5 + n)) != num4 (xs.drop (k + (5 + n)))) with
    | true => exact rref_sum A cap xs k w hl hc h8 hx (by omega) n hn (by omega) (by omega) h4
    | false => exact rref_ok A cap xs k w hl hc h8 hx (by omega) n hn (by omega) (by omega) h4
end Go.Proofs.YtnpdamahennojaaDoor
