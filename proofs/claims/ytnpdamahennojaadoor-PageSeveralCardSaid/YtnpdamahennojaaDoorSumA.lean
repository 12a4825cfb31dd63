import Derived.Test.YtnpdamahennojaaDoorKit
namespace Go.Proofs.YtnpdamahennojaaDoor
open Go.RowKit

theorem ret_u32 {a b : Int} (h : a = b) : Ending.returned (.int .u32 a) = .returned (.int .u32 b) := by rw [h]
theorem u32_max : IntKind.u32.max = 4294967295 := by decide
/-- The table's entries. -/
def tabAt (i : Nat) : Int := [0, 498536548, 997073096, 651767980, 1994146192, 1802195444, 1303535960, 1342533948, 3988292384, 4027552580, 3604390888, 3412177804, 2607071920, 2262029012, 2685067896, 3183342108].getD i 0

def half (c b : Int) : Int := bits .xor .u32 (tabAt (bits .and .u32 (bits .xor .u32 c b) 15).toNat) (c / 16)
def stepA (c b : Int) : Int := half (half c b) (b / 16)
def sumFrom (c : Int) (l : List Int) : Int := l.foldl stepA c

/-- The table stands in the world. -/
def HasTab (w : World) : Prop := ∀ i, i < 16 → w.cell? ⟨0, i, none⟩ = some (.int .u32 (tabAt i))

theorem and15_lo (x : Int) : 0 ≤ bits .and .u32 x 15 := by
  simp only [bits, IntKind.wrap_u32]; omega
theorem and15_hi (x : Int) : bits .and .u32 x 15 < 16 := by
  have h : ∀ v : BitVec 32, (v &&& 15#32).toNat < 16 := fun v => by
    have : (v &&& 15#32).toNat = v.toNat % 16 := by rw [BitVec.toNat_and]; exact Nat.and_two_pow_sub_one_eq_mod v.toNat 4
    omega
  have h' := h (BitVec.ofInt 32 x)
  simp only [bits, IntKind.wrap_u32, IntKind.bits]
  show (((BitVec.ofInt 32 x &&& 15#32).toNat : Int) % 4294967296) < 16
  omega
theorem HasTab.at_ {w : World} (h : HasTab w) (x : Int) : w.cell? ⟨0, (bits .and .u32 x 15).toNat, none⟩ = some (.int .u32 (tabAt (bits .and .u32 x 15).toNat)) :=
  h _ (by have := and15_lo x; have := and15_hi x; omega)

theorem sumFrom_snoc (c : Int) (xs : List Int) (k : Nat) (h : k < xs.length) : sumFrom c (xs.take (k + 1)) = stepA (sumFrom c (xs.take k)) (rd xs k) := by
  rw [take_snoc xs k h]; simp [sumFrom, List.foldl_append]

set_option maxHeartbeats 400000 in
theorem sum_any (A : Option Addr) (cap : Nat) (xs : List Int) (w : World) (hl : xs.length ≤ 140737488351232) (h8 : Bytes8 xs) (hx : Reads w .u8 A xs) (ht : HasTab w) :
    Calls Tryd.prog 10 #[.slice A xs.length cap] w fun e w' => e = .returned (.int .u32 (bits .xor .u32 4294967295 (sumFrom 4294967295 xs))) ∧ w = w' := by
  go_enter Tryd.func10, Tryd.ntmps10
  go_wp2
  go_loop [3, 8] (fun c i => ∃ k : Nat, k ≤ xs.length ∧ i = .int .i64 k ∧ c = .int .u32 (sumFrom 4294967295 (xs.take k))) (fun _ i => xs.length - (intOf i).toNat)
  case atStart => exact ⟨0, Nat.zero_le _, rfl, rfl⟩
  case round =>
    obtain ⟨k, hk, rfl, rfl⟩ := hrel
    by_cases hlt : k < xs.length
    · obtain ⟨a, rfl, hc⟩ := hx k hlt
      have hb := h8 k hlt
      have hlo := and15_lo
      have hhi := and15_hi
      have htab := ht.at_
      have Hs := Lib.hid (sumFrom_snoc 4294967295 xs k hlt)
      clear hx ht h8
      go_wp2
      go_round
      case rel => exact ⟨k + 1, by omega, by go_num, by rw [Hs.out]; rfl⟩
      case measure => simp [intOf]; omega
    · have Hk := Lib.hid (List.take_of_length_le (show xs.length ≤ k by omega))
      go_wp2
      go_ret
      exact ⟨ret_u32 (by rw [Hk.out, u32_max]), rfl⟩

/-- The reference's bit. -/
def refBit (c b : Int) (k : Nat) : Int := if (bits .xor .u32 c (b / 2 ^ k)) % 2 = 1 then bits .xor .u32 (c / 2) 3988292384 else c / 2
def refBits (c b : Int) : Nat → Int | 0 => c | k + 1 => refBit (refBits c b k) b k
theorem xor32_range (x y : Int) : 0 ≤ bits .xor .u32 x y ∧ bits .xor .u32 x y ≤ 4294967295 := by
  simp only [bits, IntKind.wrap_u32]; omega
theorem refBits_succ (c b : Int) (k : Nat) : refBits c b (k + 1) = if (bits .xor .u32 (refBits c b k) (b / 2 ^ k)) % 2 = 1 then bits .xor .u32 (refBits c b k / 2) 3988292384 else refBits c b k / 2 := rfl
theorem shr_range (b : Int) (k : Nat) (h : 0 ≤ b ∧ b ≤ 255) : 0 ≤ b / 2 ^ k ∧ b / 2 ^ k ≤ 255 :=
  ⟨Int.ediv_nonneg h.1 (Int.pow_nonneg (by omega)), Int.le_trans (Int.ediv_le_self _ h.1) h.2⟩
theorem refBits_range (c b : Int) (h : 0 ≤ c ∧ c ≤ 4294967295) (k : Nat) : 0 ≤ refBits c b k ∧ refBits c b k ≤ 4294967295 := by
  induction k with
  | zero => exact h
  | succ k ih =>
    rw [refBits_succ]
    split
    · exact xor32_range _ _
    · omega
def refFrom (c : Int) (l : List Int) : Int := l.foldl (fun c b => refBits c b 8) c
theorem refFrom_range (c : Int) (l : List Int) (h : 0 ≤ c ∧ c ≤ 4294967295) : 0 ≤ refFrom c l ∧ refFrom c l ≤ 4294967295 := by
  induction l generalizing c with
  | nil => exact h
  | cons b l ih => exact ih _ (refBits_range c b h 8)
theorem refFrom_snoc (c : Int) (xs : List Int) (k : Nat) (h : k < xs.length) : refFrom c (xs.take (k + 1)) = refBits (refFrom c (xs.take k)) (rd xs k) 8 := by
  rw [take_snoc xs k h]; simp [refFrom, List.foldl_append]

set_option maxHeartbeats 400000 in
theorem ref_sum_any (A : Option Addr) (cap : Nat) (xs : List Int) (w : World) (hl : xs.length ≤ 140737488351232) (h8 : Bytes8 xs) (hx : Reads w .u8 A xs) :
    Calls Tryd.prog 11 #[.slice A xs.length cap] w fun e w' => e = .returned (.int .u32 (bits .xor .u32 (refFrom 4294967295 xs) 4294967295)) ∧ w = w' := by
  go_enter Tryd.func11, Tryd.ntmps11
  go_wp2
  go_loop [3, 4] (fun c i => ∃ k : Nat, k ≤ xs.length ∧ i = .int .i64 k ∧ c = .int .u32 (refFrom 4294967295 (xs.take k))) (fun _ i => xs.length - (intOf i).toNat)
  case atStart => exact ⟨0, Nat.zero_le _, rfl, rfl⟩
  case round =>
    obtain ⟨k, hk, rfl, rfl⟩ := hrel
    by_cases hlt : k < xs.length
    · obtain ⟨a, rfl, hc⟩ := hx k hlt
      have hb := h8 k hlt
      have Hs := Lib.hid (refFrom_snoc 4294967295 xs k hlt)
      clear hx h8
      go_wp2
      go_loop [3, 5] (fun c i => ∃ j : Nat, j ≤ 8 ∧ i = .int .i64 j ∧ c = .int .u32 (refBits (refFrom 4294967295 (xs.take k)) (rd xs k) j)) (fun _ i => 8 - (intOf i).toNat)
      case atStart => exact ⟨0, Nat.zero_le _, rfl, rfl⟩
      case round =>
        obtain ⟨j, hj, rfl, rfl⟩ := hrel
        by_cases hj8 : j < 8
        · have hr := refBits_range _ (rd xs k) (refFrom_range 4294967295 (xs.take k) (by omega)) j
          have hsh := shr_range (rd xs k) j hb
          have hn := refBits_succ (refFrom 4294967295 (xs.take k)) (rd xs k) j
          have hq := xor32_range (refBits (refFrom 4294967295 (xs.take k)) (rd xs k) j) (rd xs k / 2 ^ j)
          generalize refBits (refFrom 4294967295 (xs.take k)) (rd xs k) j = c at *
          have Hn := Lib.hid hn
          clear hn
          go_wp2
          · have h1 := ‹(_ == _) = true›
            go_round
            case rel => exact ⟨j + 1, by omega, by go_num, by rw [Hn.out, if_pos (by simpa using h1)]⟩
            case measure => simp [intOf]; omega
          · have h1 := ‹(_ == _) = false›
            go_round
            case rel => exact ⟨j + 1, by omega, by go_num, by rw [Hn.out, if_neg (by simpa using h1)]⟩
            case measure => simp [intOf]; omega
        · obtain rfl : j = 8 := by omega
          go_wp2
          go_round
          case rel => exact ⟨k + 1, by omega, by go_num, by rw [Hs.out]⟩
          case measure => simp [intOf]; omega
    · have Hk := Lib.hid (List.take_of_length_le (show xs.length ≤ k by omega))
      go_wp2
      go_ret
      exact ⟨ret_u32 (by rw [Hk.out]), rfl⟩
end Go.Proofs.YtnpdamahennojaaDoor
