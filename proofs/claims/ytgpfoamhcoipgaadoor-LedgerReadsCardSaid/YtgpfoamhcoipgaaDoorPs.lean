import Derived.Test.YtgpfoamhcoipgaaDoorBase
import Derived.Test.YtgpfoamhcoipgaaDoorRows
import Derived.Lib.LaidTab
import Derived.LaidMore
import Derived.ProofKit
import Derived.Stop.Joined
namespace Go.Proofs.YtgpfoamhcoipgaaDoor
open Go.RowKit

theorem ret_u32 {a b : Int} (h : a = b) : Ending.returned (.int .u32 a) = .returned (.int .u32 b) := by rw [h]
theorem u32_max : IntKind.u32.max = 4294967295 := by decide
/-- The table's entries. -/
def tabAt (i : Nat) : Int := [0, 498536548, 997073096, 651767980, 1994146192, 1802195444, 1303535960, 1342533948, 3988292384, 4027552580, 3604390888, 3412177804, 2607071920, 2262029012, 2685067896, 3183342108].getD i 0

def half (c b : Int) : Int := bits .xor .u32 (tabAt (bits .and .u32 (bits .xor .u32 c b) 15).toNat) (c / 16)
def stepA (c b : Int) : Int := half (half c b) (b / 16)
def sumFrom (c : Int) (l : List Int) : Int := l.foldl stepA c

/-- The table stands in the world. -/
def HasTab (w : World) : Prop := ∀ i, i < 16 → w.cell? ⟨0, i, none⟩ = some (.int .u32 (tabAt i))

theorem and15_lo (x : Int) : 0 ≤ bits .and .u32 x 15 := by
  simp only [bits, IntKind.wrap_u32]; omega
theorem and15_hi (x : Int) : bits .and .u32 x 15 < 16 := by
  have h : ∀ v : BitVec 32, (v &&& 15#32).toNat < 16 := fun v => by
    have : (v &&& 15#32).toNat = v.toNat % 16 := by rw [BitVec.toNat_and]; exact Nat.and_two_pow_sub_one_eq_mod v.toNat 4
    omega
  have h' := h (BitVec.ofInt 32 x)
  simp only [bits, IntKind.wrap_u32, IntKind.bits]
  show (((BitVec.ofInt 32 x &&& 15#32).toNat : Int) % 4294967296) < 16
  omega
theorem HasTab.at_ {w : World} (h : HasTab w) (x : Int) : w.cell? ⟨0, (bits .and .u32 x 15).toNat, none⟩ = some (.int .u32 (tabAt (bits .and .u32 x 15).toNat)) :=
  h _ (by have := and15_lo x; have := and15_hi x; omega)

theorem sumFrom_snoc (c : Int) (xs : List Int) (k : Nat) (h : k < xs.length) : sumFrom c (xs.take (k + 1)) = stepA (sumFrom c (xs.take k)) (rd xs k) := by
  rw [take_snoc xs k h]; simp [sumFrom, List.foldl_append]

set_option maxRecDepth 100000 in
set_option maxHeartbeats 400000 in
theorem sum_any (A : Option Addr) (cap : Nat) (xs : List Int) (w : World) (hl : xs.length ≤ 140737488351232) (h8 : Bytes8 xs) (hx : Reads w .u8 A xs) (ht : HasTab w) :
    Calls Tryd.prog 33 #[.slice A xs.length cap] w fun e w' => e = .returned (.int .u32 (bits .xor .u32 4294967295 (sumFrom 4294967295 xs))) ∧ w = w' := by
  go_enter Tryd.func33, Tryd.ntmps33
  go_wp2
  go_loop [3, 8] (fun c i => ∃ k : Nat, k ≤ xs.length ∧ i = .int .i64 k ∧ c = .int .u32 (sumFrom 4294967295 (xs.take k))) (fun _ i => xs.length - (intOf i).toNat)
  case atStart => exact ⟨0, Nat.zero_le _, rfl, rfl⟩
  case round =>
    obtain ⟨k, hk, rfl, rfl⟩ := hrel
    by_cases hlt : k < xs.length
    · obtain ⟨a, rfl, hc⟩ := hx k hlt
      have hb := h8 k hlt
      have hlo := and15_lo
      have hhi := and15_hi
      have htab := ht.at_
      have Hs := Lib.hid (sumFrom_snoc 4294967295 xs k hlt)
      clear hx ht h8
      go_wp2
      go_round
      case rel => exact ⟨k + 1, by omega, by go_num, by rw [Hs.out]; rfl⟩
      case measure => simp [intOf]; omega
    · have Hk := Lib.hid (List.take_of_length_le (show xs.length ≤ k by omega))
      go_wp2
      go_ret
      exact ⟨ret_u32 (by rw [Hk.out, u32_max]), rfl⟩

/-- The reference's bit. -/
def refBit (c b : Int) (k : Nat) : Int := if (bits .xor .u32 c (b / 2 ^ k)) % 2 = 1 then bits .xor .u32 (c / 2) 3988292384 else c / 2
def refBits (c b : Int) : Nat → Int | 0 => c | k + 1 => refBit (refBits c b k) b k
theorem xor32_range (x y : Int) : 0 ≤ bits .xor .u32 x y ∧ bits .xor .u32 x y ≤ 4294967295 := by
  simp only [bits, IntKind.wrap_u32]; omega
theorem refBits_succ (c b : Int) (k : Nat) : refBits c b (k + 1) = if (bits .xor .u32 (refBits c b k) (b / 2 ^ k)) % 2 = 1 then bits .xor .u32 (refBits c b k / 2) 3988292384 else refBits c b k / 2 := rfl
theorem shr_range (b : Int) (k : Nat) (h : 0 ≤ b ∧ b ≤ 255) : 0 ≤ b / 2 ^ k ∧ b / 2 ^ k ≤ 255 :=
  ⟨Int.ediv_nonneg h.1 (Int.pow_nonneg (by omega)), Int.le_trans (Int.ediv_le_self _ h.1) h.2⟩
theorem refBits_range (c b : Int) (h : 0 ≤ c ∧ c ≤ 4294967295) (k : Nat) : 0 ≤ refBits c b k ∧ refBits c b k ≤ 4294967295 := by
  induction k with
  | zero => exact h
  | succ k ih =>
    rw [refBits_succ]
    split
    · exact xor32_range _ _
    · omega
def refFrom (c : Int) (l : List Int) : Int := l.foldl (fun c b => refBits c b 8) c
theorem refFrom_range (c : Int) (l : List Int) (h : 0 ≤ c ∧ c ≤ 4294967295) : 0 ≤ refFrom c l ∧ refFrom c l ≤ 4294967295 := by
  induction l generalizing c with
  | nil => exact h
  | cons b l ih => exact ih _ (refBits_range c b h 8)
theorem refFrom_snoc (c : Int) (xs : List Int) (k : Nat) (h : k < xs.length) : refFrom c (xs.take (k + 1)) = refBits (refFrom c (xs.take k)) (rd xs k) 8 := by
  rw [take_snoc xs k h]; simp [refFrom, List.foldl_append]

end Go.Proofs.YtgpfoamhcoipgaaDoor
namespace Go.Proofs.YtgpfoamhcoipgaaDoor
open Go.RowKit

/-! The plain law of the sum, over words of 32 bits. -/
def toI (v : BitVec 32) : Int := (v.toNat : Int)
theorem toI_range (v : BitVec 32) : 0 ≤ toI v ∧ toI v ≤ 4294967295 := by unfold toI; have := v.isLt; omega
theorem of_toI (v : BitVec 32) : BitVec.ofInt 32 (toI v) = v := by simp [toI]
theorem toI_inj {a b : BitVec 32} (h : toI a = toI b) : a = b := by rw [← of_toI a, h, of_toI]
theorem xor_toI (a b : BitVec 32) : bits .xor .u32 (toI a) (toI b) = toI (a ^^^ b) := by
  have h : ∀ v : BitVec 32, IntKind.u32.wrap (v.toNat : Int) = toI v := fun v => by rw [IntKind.wrap_u32]; unfold toI; have := v.isLt; omega
  show IntKind.u32.wrap (((BitVec.ofInt 32 (toI a)) ^^^ (BitVec.ofInt 32 (toI b))).toNat : Int) = _
  rw [of_toI, of_toI, h]
theorem and_toI (a b : BitVec 32) : bits .and .u32 (toI a) (toI b) = toI (a &&& b) := by
  have h : ∀ v : BitVec 32, IntKind.u32.wrap (v.toNat : Int) = toI v := fun v => by rw [IntKind.wrap_u32]; unfold toI; have := v.isLt; omega
  show IntKind.u32.wrap (((BitVec.ofInt 32 (toI a)) &&& (BitVec.ofInt 32 (toI b))).toNat : Int) = _
  rw [of_toI, of_toI, h]
theorem shr_toI (v : BitVec 32) (k : Nat) : toI v / (2 : Int) ^ k = toI (v >>> k) := by
  unfold toI
  rw [BitVec.toNat_ushiftRight, Nat.shiftRight_eq_div_pow]
  simp
theorem toI_of (b : Int) (h : 0 ≤ b ∧ b ≤ 4294967295) : toI (BitVec.ofInt 32 b) = b := by
  unfold toI
  rw [BitVec.toNat_ofInt]
  omega

/-- One bit of nought. -/
def z (c : BitVec 32) : BitVec 32 := (c >>> 1) ^^^ (if c.getLsbD 0 then 3988292384#32 else 0#32)
def zn : Nat → BitVec 32 → BitVec 32 | 0, c => c | n + 1, c => zn n (z c)
theorem z_xor (a b : BitVec 32) : z (a ^^^ b) = z a ^^^ z b := by
  unfold z
  rw [BitVec.ushiftRight_xor_distrib, BitVec.getLsbD_xor]
  have e : ∀ x p : BitVec 32, x = p ^^^ (p ^^^ x) := fun x p => by
    rw [show p ^^^ (p ^^^ x) = (p ^^^ p) ^^^ x from by ac_rfl, BitVec.xor_self, BitVec.zero_xor]
  cases a.getLsbD 0 <;> cases b.getLsbD 0 <;> simp
  · ac_rfl
  · ac_rfl
  · rw [show a >>> 1 ^^^ 3988292384#32 ^^^ (b >>> 1 ^^^ 3988292384#32) = 3988292384#32 ^^^ (3988292384#32 ^^^ (a >>> 1 ^^^ b >>> 1)) from by ac_rfl]; exact e _ _
theorem zn_xor (n : Nat) (a b : BitVec 32) : zn n (a ^^^ b) = zn n a ^^^ zn n b := by
  induction n generalizing a b with
  | zero => rfl
  | succ n ih => simp only [zn]; rw [z_xor, ih]
theorem zn_add (m n : Nat) (c : BitVec 32) : zn (m + n) c = zn n (zn m c) := by
  induction m generalizing c with
  | zero => simp [zn]
  | succ m ih => rw [Nat.succ_add]; simp only [zn]; exact ih _
theorem zn_zero (n : Nat) : zn n 0#32 = 0#32 := by
  induction n with
  | zero => rfl
  | succ n ih => simp only [zn]; rw [show z 0#32 = 0#32 from by decide, ih]
/-- Where the lowest n bits are nought, n bits of nought shift. -/
theorem zn_high (n : Nat) (c : BitVec 32) (h : ∀ i, i < n → c.getLsbD i = false) : zn n c = c >>> n := by
  induction n generalizing c with
  | zero => simp [zn]
  | succ n ih =>
    simp only [zn]
    have h0 : z c = c >>> 1 := by unfold z; rw [h 0 (by omega)]; simp
    rw [h0, ih]
    · rw [← BitVec.shiftRight_add, Nat.add_comm]
    · intro i hi; rw [BitVec.getLsbD_ushiftRight]; exact h _ (by omega)

/-- The byte's bits that stand from k on. -/
def crcByte (c b : BitVec 32) : BitVec 32 := zn 8 (c ^^^ b)

theorem refBit_toI (c b : BitVec 32) (k : Nat) (_hb : b.toNat < 256) :
    refBit (toI c) (toI b) k = toI (z (c ^^^ ((b >>> k) &&& 1#32))) := by
  unfold refBit
  rw [shr_toI, xor_toI]
  have h2 : toI c / (2 : Int) = toI (c >>> 1) := shr_toI c 1
  have hz : z (c ^^^ ((b >>> k) &&& 1#32)) = (c >>> 1) ^^^ (if (c ^^^ (b >>> k)).getLsbD 0 then 3988292384#32 else 0#32) := by
    unfold z
    have e1 : (c ^^^ ((b >>> k) &&& 1#32)) >>> 1 = c >>> 1 := by
      rw [BitVec.ushiftRight_xor_distrib]
      have : ((b >>> k) &&& 1#32) >>> 1 = 0#32 := by
        apply BitVec.eq_of_getLsbD_eq
        intro i _
        rw [BitVec.getLsbD_ushiftRight, BitVec.getLsbD_and]
        have : (1#32).getLsbD (1 + i) = false := by
          rw [BitVec.getLsbD_one]; simp
        rw [this]; simp
      rw [this]; simp
    have e2 : (c ^^^ ((b >>> k) &&& 1#32)).getLsbD 0 = (c ^^^ (b >>> k)).getLsbD 0 := by
      rw [BitVec.getLsbD_xor, BitVec.getLsbD_and, BitVec.getLsbD_xor]
      simp
    rw [e1, e2]
  rw [hz]
  have hm : (toI (c ^^^ b >>> k)) % 2 = 1 ↔ (c ^^^ b >>> k).getLsbD 0 = true := by
    generalize (c ^^^ b >>> k) = v
    unfold toI
    rw [BitVec.getLsbD, Nat.testBit_zero]
    simp; omega
  by_cases hc : (c ^^^ b >>> k).getLsbD 0 = true
  · rw [if_pos (hm.2 hc), if_pos hc, h2]
    exact xor_toI _ 3988292384#32
  · rw [if_neg (fun e => hc (hm.1 e)), if_neg hc, h2]; simp

theorem mask_bit (k i : Nat) : (BitVec.ofNat 32 (2 ^ k - 1)).getLsbD i = (decide (i < 32) && decide (i < k)) := by
  rw [BitVec.getLsbD_ofNat, Nat.testBit_two_pow_sub_one]
def lo (k : Nat) (b : BitVec 32) : BitVec 32 := b &&& BitVec.ofNat 32 (2 ^ k - 1)
theorem lo_bit (k : Nat) (b : BitVec 32) (i : Nat) : (lo k b).getLsbD i = (b.getLsbD i && decide (i < k)) := by
  unfold lo
  rw [BitVec.getLsbD_and, mask_bit]
  by_cases h : i < 32
  · simp [h]
  · simp [BitVec.getLsbD_of_ge b i (by omega)]
theorem lo_zero (b : BitVec 32) : lo 0 b = 0#32 := by
  apply BitVec.eq_of_getLsbD_eq
  intro i _
  rw [lo_bit]; simp
theorem lo_small (k : Nat) (b : BitVec 32) (h : b.toNat < 2 ^ k) : lo k b = b := by
  apply BitVec.eq_of_getLsbD_eq
  intro i _
  rw [lo_bit]
  by_cases hk : i < k
  · simp [hk]
  · have : b.getLsbD i = false := by
      rw [BitVec.getLsbD]
      exact Nat.testBit_lt_two_pow (Nat.lt_of_lt_of_le h (Nat.pow_le_pow_right (by omega) (by omega)))
    simp [this]
theorem zn_lo_bit (k : Nat) (b : BitVec 32) : zn k (lo (k + 1) b ^^^ lo k b) = (b >>> k) &&& 1#32 := by
  rw [zn_high]
  · apply BitVec.eq_of_getLsbD_eq
    intro i hi
    rw [BitVec.getLsbD_ushiftRight, BitVec.getLsbD_xor, lo_bit, lo_bit, BitVec.getLsbD_and, BitVec.getLsbD_ushiftRight, BitVec.getLsbD_one]
    by_cases h0 : i = 0
    · subst h0; simp
    · have h1 : ¬ (k + i < k + 1) := by omega
      have h2 : ¬ (k + i < k) := by omega
      simp [h0]
  · intro i hi
    rw [BitVec.getLsbD_xor, lo_bit, lo_bit]
    have h1 : i < k + 1 := by omega
    simp [hi, h1]
theorem refBits_toI (c b : BitVec 32) (hb : b.toNat < 256) : ∀ k, k ≤ 8 → refBits (toI c) (toI b) k = toI (zn k (c ^^^ lo k b))
  | 0, _ => by simp [refBits, zn, lo_zero]
  | k + 1, hk => by
    show refBit (refBits (toI c) (toI b) k) (toI b) k = _
    rw [refBits_toI c b hb k (by omega), refBit_toI _ _ _ hb, ← zn_lo_bit k b, ← zn_xor]
    have e : c ^^^ lo k b ^^^ (lo (k + 1) b ^^^ lo k b) = c ^^^ lo (k + 1) b := by
      rw [show c ^^^ lo k b ^^^ (lo (k + 1) b ^^^ lo k b) = c ^^^ lo (k + 1) b ^^^ (lo k b ^^^ lo k b) from by ac_rfl, BitVec.xor_self, BitVec.xor_zero]
    rw [e]
    exact congrArg toI (zn_add k 1 _).symm
theorem ref8_toI (c b : BitVec 32) (hb : b.toNat < 256) : refBits (toI c) (toI b) 8 = toI (crcByte c b) := by
  rw [refBits_toI c b hb 8 (by omega), lo_small 8 b hb]; rfl

theorem tab_toI (n : Nat) (h : n < 16) : tabAt n = toI (zn 4 (BitVec.ofNat 32 n)) := by
  have : ∀ m : Fin 16, tabAt m.val = toI (zn 4 (BitVec.ofNat 32 m.val)) := by decide
  exact this ⟨n, h⟩
theorem zn4 (v : BitVec 32) : zn 4 v = zn 4 (lo 4 v) ^^^ (v >>> 4) := by
  have e : v = lo 4 v ^^^ (v ^^^ lo 4 v) := by
    rw [show lo 4 v ^^^ (v ^^^ lo 4 v) = v ^^^ (lo 4 v ^^^ lo 4 v) from by ac_rfl, BitVec.xor_self, BitVec.xor_zero]
  have h : zn 4 (v ^^^ lo 4 v) = v >>> 4 := by
    rw [zn_high]
    · apply BitVec.eq_of_getLsbD_eq
      intro i _
      rw [BitVec.getLsbD_ushiftRight, BitVec.getLsbD_ushiftRight, BitVec.getLsbD_xor, lo_bit]
      have : ¬ (4 + i < 4) := by omega
      simp [this]
    · intro i hi
      rw [BitVec.getLsbD_xor, lo_bit]; simp [hi]
  conv => lhs; rw [e, zn_xor]
  rw [h]
theorem half_toI (c b : BitVec 32) : half (toI c) (toI b) = toI (zn 4 (c ^^^ lo 4 b)) := by
  unfold half
  have hand : bits .and .u32 (toI (c ^^^ b)) 15 = toI (lo 4 (c ^^^ b)) := and_toI _ 15#32
  have h4 : toI c / (16 : Int) = toI (c >>> 4) := shr_toI c 4
  have hn : (lo 4 (c ^^^ b)).toNat < 16 := by
    unfold lo
    rw [BitVec.toNat_and]
    exact Nat.lt_of_le_of_lt Nat.and_le_right (by decide)
  rw [xor_toI, hand, h4]
  have ht : tabAt (toI (lo 4 (c ^^^ b))).toNat = toI (zn 4 (lo 4 (c ^^^ b))) := by
    have : (toI (lo 4 (c ^^^ b))).toNat = (lo 4 (c ^^^ b)).toNat := by simp [toI]
    rw [this, tab_toI _ hn]
    simp
  rw [ht, xor_toI, zn4 (c ^^^ lo 4 b)]
  have e1 : lo 4 (c ^^^ lo 4 b) = lo 4 (c ^^^ b) := by
    apply BitVec.eq_of_getLsbD_eq
    intro i _
    rw [lo_bit, lo_bit, BitVec.getLsbD_xor, BitVec.getLsbD_xor, lo_bit]
    by_cases h : i < 4 <;> simp [h]
  have e2 : (c ^^^ lo 4 b) >>> 4 = c >>> 4 := by
    apply BitVec.eq_of_getLsbD_eq
    intro i _
    rw [BitVec.getLsbD_ushiftRight, BitVec.getLsbD_ushiftRight, BitVec.getLsbD_xor, lo_bit]
    have : ¬ (4 + i < 4) := by omega
    simp [this]
  rw [e1, e2]
theorem stepA_toI (c b : BitVec 32) (hb : b.toNat < 256) : stepA (toI c) (toI b) = toI (crcByte c b) := by
  unfold stepA
  have h4 : toI b / (16 : Int) = toI (b >>> 4) := shr_toI b 4
  rw [half_toI, h4, half_toI]
  have e1 : lo 4 (b >>> 4) = b >>> 4 := lo_small 4 _ (by rw [BitVec.toNat_ushiftRight, Nat.shiftRight_eq_div_pow]; omega)
  have e2 : b >>> 4 = zn 4 (b ^^^ lo 4 b) := by
    rw [zn_high]
    · apply BitVec.eq_of_getLsbD_eq
      intro i _
      rw [BitVec.getLsbD_ushiftRight, BitVec.getLsbD_ushiftRight, BitVec.getLsbD_xor, lo_bit]
      have : ¬ (4 + i < 4) := by omega
      simp [this]
    · intro i hi
      rw [BitVec.getLsbD_xor, lo_bit]; simp [hi]
  rw [e1, e2, ← zn_xor]
  have e3 : c ^^^ lo 4 b ^^^ (b ^^^ lo 4 b) = c ^^^ b := by
    rw [show c ^^^ lo 4 b ^^^ (b ^^^ lo 4 b) = c ^^^ b ^^^ (lo 4 b ^^^ lo 4 b) from by ac_rfl, BitVec.xor_self, BitVec.xor_zero]
  rw [e3]
  exact congrArg toI (zn_add 4 4 _).symm

def crc (c : BitVec 32) (l : List Int) : BitVec 32 := l.foldl (fun c b => crcByte c (BitVec.ofInt 32 b)) c
def Bts (l : List Int) : Prop := ∀ b ∈ l, 0 ≤ b ∧ b ≤ 255
theorem sumFrom_crc (l : List Int) : ∀ c, Bts l → sumFrom (toI c) l = toI (crc c l) := by
  induction l with
  | nil => intro c _; rfl
  | cons b l ih =>
    intro c hb
    have h := hb b (by simp)
    have hs : stepA (toI c) b = toI (crcByte c (BitVec.ofInt 32 b)) := by
      conv => lhs; rw [← toI_of b (by omega)]
      exact stepA_toI c _ (by have := toI_of b (by omega); unfold toI at this; omega)
    show sumFrom (stepA (toI c) b) l = _
    rw [hs, ih _ (fun x hx => hb x (by simp [hx]))]; rfl
theorem refFrom_crc (l : List Int) : ∀ c, Bts l → refFrom (toI c) l = toI (crc c l) := by
  induction l with
  | nil => intro c _; rfl
  | cons b l ih =>
    intro c hb
    have h := hb b (by simp)
    have hs : refBits (toI c) b 8 = toI (crcByte c (BitVec.ofInt 32 b)) := by
      conv => lhs; rw [← toI_of b (by omega)]
      exact ref8_toI c _ (by have := toI_of b (by omega); unfold toI at this; omega)
    show refFrom (refBits (toI c) b 8) l = _
    rw [hs, ih _ (fun x hx => hb x (by simp [hx]))]; rfl
/-- The document's sum. -/
def crc32 (l : List Int) : Int := toI (crc 4294967295#32 l ^^^ 4294967295#32)
theorem sum_crc (l : List Int) (h : Bts l) : bits .xor .u32 4294967295 (sumFrom 4294967295 l) = crc32 l := by
  have := sumFrom_crc l 4294967295#32 h
  have e : (4294967295 : Int) = toI 4294967295#32 := rfl
  rw [e, this, xor_toI]; unfold crc32; rw [BitVec.xor_comm]
theorem ref_crc (l : List Int) (h : Bts l) : bits .xor .u32 (refFrom 4294967295 l) 4294967295 = crc32 l := by
  have := refFrom_crc l 4294967295#32 h
  have e : (4294967295 : Int) = toI 4294967295#32 := rfl
  rw [e, this, xor_toI]; rfl
theorem Bytes8.bts {l : List Int} (h : Bytes8 l) : Bts l := by
  intro b hb
  obtain ⟨i, hi, rfl⟩ := List.mem_iff_getElem.1 hb
  have := h i hi
  rwa [rd, List.getD_eq_getElem?_getD, List.getElem?_eq_getElem hi] at this
theorem crc_example : crc32 [49, 50, 51, 52, 53, 54, 55, 56, 57] = 3421780262 := by decide +kernel
end Go.Proofs.YtgpfoamhcoipgaaDoor
namespace Go.Proofs.YtgpfoamhcoipgaaDoor
open Go.RowKit

theorem HasTab.below {w w' : World} (h : HasTab w) (h0 : 0 < w.heap.size) (hb : Below w.heap.size w w') : HasTab w' := fun i hi => (hb.cell (p := ⟨0, i, none⟩) h0).trans (h i hi)
theorem HasTab.pos {w : World} (h : HasTab w) : 0 < w.heap.size := cell_lt (h 0 (by omega))
/-- The sums, as the document has them. -/
theorem sum_says (A : Option Addr) (cap : Nat) (xs : List Int) (w : World) (hl : xs.length ≤ 140737488351232) (h8 : Bytes8 xs) (hx : Reads w .u8 A xs) (ht : HasTab w) :
    Calls Tryd.prog 33 #[.slice A xs.length cap] w fun e w' => e = .returned (.int .u32 (crc32 xs)) ∧ w = w' := by
  rw [← sum_crc xs h8.bts]; exact sum_any A cap xs w hl h8 hx ht
def digits9 : List Int := [49, 50, 51, 52, 53, 54, 55, 56, 57]
def row9 : Array Value := #[.int .u8 49, .int .u8 50, .int .u8 51, .int .u8 52, .int .u8 53, .int .u8 54, .int .u8 55, .int .u8 56, .int .u8 57]
theorem bytes9 : Bytes8 digits9 := fun i hi => by
  match i, hi with
  | 0, _ | 1, _ | 2, _ | 3, _ | 4, _ | 5, _ | 6, _ | 7, _ | 8, _ => decide
  | i + 9, hi => exact absurd hi (by simp [digits9])
theorem reads9 (w : World) (f : Nat × Nat) : Reads (w.alloc (.cells row9 5 f)) .u8 (some ⟨w.heap.size, 0, none⟩) digits9 := Reads.new fun i hi => by
  match i, hi with
  | 0, _ | 1, _ | 2, _ | 3, _ | 4, _ | 5, _ | 6, _ | 7, _ | 8, _ => rfl
  | i + 9, hi => exact absurd hi (by simp [digits9])

end Go.Proofs.YtgpfoamhcoipgaaDoor
namespace Go.Proofs.YtgpfoamhcoipgaaDoor
open Go.ChangeShapes Go.WideShapes Go.ChangeAt Go.RowKit
set_option maxRecDepth 100000 in
theorem gTab : Tryd.prog.globalNamed "headrace/page.table" = some 0 := by kernel_rfl
set_option maxRecDepth 100000 in
theorem tTab : (Tryd.prog.globals[0]?).map (·.type) = some 92 := by kernel_rfl
set_option maxRecDepth 100000 in
theorem c24 : Tryd.prog.cellsOf 84 = 1 := by kernel_rfl
set_option maxRecDepth 100000 in
theorem c46 : Tryd.prog.cellsOf 92 = 16 := by kernel_rfl
set_option maxRecDepth 100000 in
/-- What the row's condition gives a walk: the table. -/
theorem tab_of_laid {W : World} (h : laidMetH Tryd.prog [("headrace/page.table", Rows.laid_headrace_page_table)] W) : HasTab W := by
  rw [MakeChecks.laidMetH_plain _ _ _ (by kernel_rfl)] at h
  have hT := Lib.tabIs_of_head (k := .u32) (zs := [0, 498536548, 997073096, 651767980, 1994146192, 1802195444, 1303535960, 1342533948, 3988292384, 4027552580, 3604390888, 3412177804, 2607071920, 2262029012, 2685067896, 3183342108]) gTab tTab Tryd.underlying92 Tryd.underlying84 c24 c46 h
  exact fun i hi => hT.cell gTab i hi
abbrev Laid (W : World) : Prop := laidMetH Tryd.prog [("headrace/page.table", Rows.laid_headrace_page_table)] W
abbrev Wf8 (xs : List Int) : Prop := ∀ i, i < xs.length → (Lit.int .u8 (rd xs i)).wf = true
end Go.Proofs.YtgpfoamhcoipgaaDoor
