import Derived.Test.YtnpdamahennojaaDoorPgLaw
import Derived.Test.YtnpdamahennojaaDoorOwn2
namespace Go.Proofs.YtnpdamahennojaaDoor
open Go.RowKit
set_option linter.unusedVariables false

/-! The plain law of turned bits: the sum is linear, and one bit of nought can be undone. -/
def one (b : Bool) : BitVec 32 := if b then 1#32 else 0#32
def crcFn (f : Nat → Bool) (c : BitVec 32) : Nat → BitVec 32 | 0 => c | n + 1 => z (crcFn f c n ^^^ one (f n))
theorem one_xor (a b : Bool) : one (a ^^ b) = one a ^^^ one b := by cases a <;> cases b <;> rfl
theorem crcFn_xor (f g : Nat → Bool) (c d : BitVec 32) : ∀ n, crcFn (fun j => f j ^^ g j) (c ^^^ d) n = crcFn f c n ^^^ crcFn g d n
  | 0 => rfl
  | n + 1 => by
    simp only [crcFn]
    rw [crcFn_xor f g c d n, one_xor, ← z_xor]
    congr 1
    ac_rfl
theorem crcFn_congr (f g : Nat → Bool) (c : BitVec 32) : ∀ n, (∀ j, j < n → f j = g j) → crcFn f c n = crcFn g c n
  | 0, _ => rfl
  | n + 1, h => by
    simp only [crcFn]
    rw [crcFn_congr f g c n (fun j hj => h j (by omega)), h n (by omega)]
theorem bit_one (b : BitVec 32) (m : Nat) : (b >>> m) &&& 1#32 = one (b.getLsbD m) := by
  apply BitVec.eq_of_getLsbD_eq
  intro i hi
  rw [BitVec.getLsbD_and, BitVec.getLsbD_ushiftRight, BitVec.getLsbD_one]
  unfold one
  by_cases h0 : i = 0
  · subst h0
    cases h : b.getLsbD m <;> simp
  · cases h : b.getLsbD m <;> simp [h0]
/-- A word's bits, fed one by one. -/
theorem crcFn_word (f : Nat → Bool) (c : BitVec 32) (a k : Nat) (b : BitVec 32) (h : ∀ m, m < k → f (a + m) = b.getLsbD m) : ∀ m, m ≤ k → crcFn f c (a + m) = zn m (crcFn f c a ^^^ lo m b)
  | 0, _ => by simp [zn, lo_zero]
  | m + 1, hm => by
    show z (crcFn f c (a + m) ^^^ one (f (a + m))) = _
    rw [crcFn_word f c a k b h m (by omega), h m (by omega), ← bit_one, ← zn_lo_bit m b, ← zn_xor]
    have e : crcFn f c a ^^^ lo m b ^^^ (lo (m + 1) b ^^^ lo m b) = crcFn f c a ^^^ lo (m + 1) b := by
      rw [show crcFn f c a ^^^ lo m b ^^^ (lo (m + 1) b ^^^ lo m b) = crcFn f c a ^^^ lo (m + 1) b ^^^ (lo m b ^^^ lo m b) from by ac_rfl, BitVec.xor_self, BitVec.xor_zero]
    rw [e]
    exact (zn_add m 1 _).symm
theorem lo_of_zero (m : Nat) : lo m 0#32 = 0#32 := by unfold lo; simp
theorem crcFn_zeros (f : Nat → Bool) (c : BitVec 32) (a k : Nat) (h : ∀ m, m < k → f (a + m) = false) (m : Nat) (hm : m ≤ k) : crcFn f c (a + m) = zn m (crcFn f c a) := by
  rw [crcFn_word f c a k 0#32 (fun m hm => by rw [h m hm]; simp) m hm, lo_of_zero, BitVec.xor_zero]
/-- One bit of nought can be undone. -/
theorem z_zero (x : BitVec 32) (h : z x = 0#32) : x = 0#32 := by
  have h31 : (z x).getLsbD 31 = x.getLsbD 0 := by
    unfold z
    rw [BitVec.getLsbD_xor, BitVec.getLsbD_ushiftRight, BitVec.getLsbD_of_ge x 32 (by omega)]
    cases hx : x.getLsbD 0 <;> simp
  rw [h] at h31
  have h0 : x.getLsbD 0 = false := by rw [← h31]; simp
  unfold z at h
  rw [h0] at h
  simp at h
  apply BitVec.eq_of_getLsbD_eq
  intro i hi
  cases i with
  | zero => rw [h0]; simp
  | succ i =>
    have := congrArg (·.getLsbD i) h
    simp only [BitVec.getLsbD_ushiftRight] at this
    rw [Nat.add_comm i 1, this]; simp
theorem zn_zero_iff (n : Nat) (x : BitVec 32) : zn n x = 0#32 ↔ x = 0#32 := by
  induction n generalizing x with
  | zero => exact Iff.rfl
  | succ n ih =>
    simp only [zn]
    rw [ih]
    exact ⟨z_zero x, fun h => by rw [h]; decide⟩
theorem xor_zero_iff (a b : BitVec 32) : a ^^^ b = 0#32 ↔ a = b := by
  constructor
  · intro h
    have : a ^^^ b ^^^ b = 0#32 ^^^ b := by rw [h]
    rwa [BitVec.xor_assoc, BitVec.xor_self, BitVec.xor_zero, BitVec.zero_xor] at this
  · intro h; rw [h, BitVec.xor_self]
theorem zn_inj (n : Nat) (a b : BitVec 32) : zn n a = zn n b ↔ a = b := by
  rw [← xor_zero_iff (zn n a), ← zn_xor, zn_zero_iff, xor_zero_iff]

/-- The bits of bytes. -/
def bitAt (l : List Int) (j : Nat) : Bool := decide (rd l (j / 8) / 2 ^ (j % 8) % 2 = 1)
theorem word_bit (n : Int) (h : 0 ≤ n ∧ n ≤ 4294967295) (m : Nat) : (BitVec.ofInt 32 n).getLsbD m = decide (n / 2 ^ m % 2 = 1) := by
  obtain ⟨k, rfl⟩ := Int.eq_ofNat_of_zero_le h.1
  rw [BitVec.getLsbD, BitVec.toNat_ofInt]
  have e : ((k : Int) % (2 ^ 32 : Nat)).toNat = k := by omega
  rw [e, Nat.testBit_eq_decide_div_mod_eq]
  congr 1
  have : ((k : Int) / 2 ^ m % 2 = 1) = (((k / 2 ^ m % 2 : Nat) : Int) = 1) := by
    rw [Int.natCast_emod, Int.natCast_ediv, Int.natCast_pow]; rfl
  rw [this]
  apply propext
  omega
theorem crc_take (l : List Int) (h8 : Bytes8 l) (c : BitVec 32) : ∀ n, n ≤ l.length → crc c (l.take n) = crcFn (bitAt l) c (8 * n)
  | 0, _ => by simp [crc, crcFn]
  | n + 1, hn => by
    have hb := h8 n (by omega)
    rw [take_snoc l n (by omega)]
    have e : crc c (l.take n ++ [rd l n]) = crcByte (crc c (l.take n)) (BitVec.ofInt 32 (rd l n)) := by simp [crc, List.foldl_append]
    rw [e, crc_take l h8 c n (by omega)]
    have hw := crcFn_word (bitAt l) c (8 * n) 8 (BitVec.ofInt 32 (rd l n)) (fun m hm => by
      rw [word_bit _ (by omega)]
      unfold bitAt
      rw [show (8 * n + m) / 8 = n from by omega, show (8 * n + m) % 8 = m from by omega]) 8 (by omega)
    rw [show 8 * (n + 1) = 8 * n + 8 from by omega, hw, lo_small 8]
    · rfl
    · have e2 := toI_of (rd l n) (by omega)
      unfold toI at e2
      show (BitVec.ofInt 32 (rd l n)).toNat < 256
      omega
theorem num_bit (a b c d : Int) (ha : 0 ≤ a ∧ a ≤ 255) (hb : 0 ≤ b ∧ b ≤ 255) (hc : 0 ≤ c ∧ c ≤ 255) (hd : 0 ≤ d ∧ d ≤ 255) (m : Nat) (hm : m < 32) :
    (a + b * 256 + c * 65536 + d * 16777216) / 2 ^ m % 2 = (if m < 8 then a else if m < 16 then b else if m < 24 then c else d) / 2 ^ (m % 8) % 2 := by
  have : m = 0 ∨ m = 1 ∨ m = 2 ∨ m = 3 ∨ m = 4 ∨ m = 5 ∨ m = 6 ∨ m = 7 ∨ m = 8 ∨ m = 9 ∨ m = 10 ∨ m = 11 ∨ m = 12 ∨ m = 13 ∨ m = 14 ∨ m = 15 ∨ m = 16 ∨ m = 17 ∨ m = 18 ∨ m = 19 ∨ m = 20 ∨ m = 21 ∨ m = 22 ∨ m = 23 ∨ m = 24 ∨ m = 25 ∨ m = 26 ∨ m = 27 ∨ m = 28 ∨ m = 29 ∨ m = 30 ∨ m = 31 := by omega
  rcases this with rfl | rfl | rfl | rfl | rfl | rfl | rfl | rfl | rfl | rfl | rfl | rfl | rfl | rfl | rfl | rfl | rfl | rfl | rfl | rfl | rfl | rfl | rfl | rfl | rfl | rfl | rfl | rfl | rfl | rfl | rfl | rfl <;> simp <;> omega
/-- Bytes and their sum behind them: the state that they come to. -/
theorem crcFn_sum (xs : List Int) (h8 : Bytes8 xs) (n : Nat) (hl : xs.length = n + 4) (c : BitVec 32) : crcFn (bitAt xs) c (8 * xs.length) = zn 32 (crc c (xs.take n) ^^^ BitVec.ofInt 32 (num4 (xs.drop n))) := by
  have hd8 := h8.drop n
  have hdl : (xs.drop n).length = 4 := by rw [List.length_drop]; omega
  have hr := num4_range _ hd8 (by omega)
  have b0 := hd8 0 (by omega); have b1 := hd8 1 (by omega); have b2 := hd8 2 (by omega); have b3 := hd8 3 (by omega)
  have hw := crcFn_word (bitAt xs) c (8 * n) 32 (BitVec.ofInt 32 (num4 (xs.drop n))) (fun m hm => by
    rw [word_bit _ hr, num4_eq _ hd8 (by omega)]
    unfold bitAt
    congr 1
    rw [num_bit _ _ _ _ b0 b1 b2 b3 m hm, show (8 * n + m) % 8 = m % 8 from by omega]
    rw [rd_drop, rd_drop, rd_drop, rd_drop]
    have : (8 * n + m) / 8 = n + m / 8 := by omega
    rw [this]
    by_cases h1 : m < 8
    · rw [if_pos h1, show m / 8 = 0 from by omega]
    · by_cases h2 : m < 16
      · rw [if_neg h1, if_pos h2, show m / 8 = 1 from by omega]
      · by_cases h3 : m < 24
        · rw [if_neg h1, if_neg h2, if_pos h3, show m / 8 = 2 from by omega]
        · rw [if_neg h1, if_neg h2, if_neg h3, show m / 8 = 3 from by omega]) 32 (by omega)
  rw [show 8 * xs.length = 8 * n + 32 from by omega, hw, ← crc_take xs h8 c n (by omega)]
  congr 2
  apply BitVec.eq_of_getLsbD_eq
  intro i hi
  rw [lo_bit]; simp [hi]
def ones : BitVec 32 := 4294967295#32
/-- The bytes of a page whose length is right: its sum is right just if the state is the one. -/
theorem sum_right (xs : List Int) (h8 : Bytes8 xs) (n : Nat) (hl : xs.length = n + 4) : crc32 (xs.take n) = num4 (xs.drop n) ↔ crcFn (bitAt xs) ones (8 * xs.length) = zn 32 ones := by
  rw [crcFn_sum xs h8 n hl, zn_inj]
  have hdl : (xs.drop n).length = 4 := by rw [List.length_drop]; omega
  have hr := num4_range _ (h8.drop n) (by omega)
  unfold crc32
  have e1 : (toI (crc ones (xs.take n) ^^^ ones) = num4 (xs.drop n)) ↔ (crc ones (xs.take n) ^^^ ones = BitVec.ofInt 32 (num4 (xs.drop n))) := by
    constructor
    · intro h; rw [← h, of_toI]
    · intro h; rw [h, toI_of _ hr]
  show (toI (crc ones (xs.take n) ^^^ ones) = num4 (xs.drop n)) ↔ _
  rw [e1, ← xor_zero_iff, ← xor_zero_iff (crc ones (xs.take n) ^^^ _)]
  rw [show crc ones (xs.take n) ^^^ ones ^^^ BitVec.ofInt 32 (num4 (xs.drop n)) = crc ones (xs.take n) ^^^ BitVec.ofInt 32 (num4 (xs.drop n)) ^^^ ones from by ac_rfl]

/-- q is pg, but that bits from a on were turned, as far as i. -/
def Turned (pg q : List Int) (a : Nat) (P : BitVec 32) (i : Nat) : Prop :=
  q.length = pg.length ∧ Bytes8 q ∧ ∀ j, j < 8 * pg.length → bitAt q j = (bitAt pg j ^^ (decide (a ≤ j) && decide (j < a + i) && P.getLsbD (j - a)))
theorem Turned.start (pg : List Int) (h8 : Bytes8 pg) (a : Nat) (P : BitVec 32) : Turned pg pg a P 0 :=
  ⟨rfl, h8, fun j hj => by
    by_cases h : a ≤ j
    · have : ¬ j < a := by omega
      simp [this]
    · simp [h]⟩
theorem Turned.skip {pg q : List Int} {a i : Nat} {P : BitVec 32} (h : Turned pg q a P i) (hp : P.getLsbD i = false) : Turned pg q a P (i + 1) := by
  refine ⟨h.1, h.2.1, fun j hj => ?_⟩
  rw [h.2.2 j hj]
  congr 1
  by_cases e : j = a + i
  · subst e
    rw [show a + i - a = i from by omega, hp]; simp
  · congr 2
    apply decide_eq_decide.2
    omega
theorem xor_bit (b r s : Nat) (hb : b < 256) (hr : r < 8) : ((b ^^^ 2 ^ r) / 2 ^ s % 2 = 1) ↔ ((decide (b / 2 ^ s % 2 = 1)) ^^ decide (r = s)) = true := by
  have h1 : ∀ x : Nat, decide (x / 2 ^ s % 2 = 1) = x.testBit s := fun x => (Nat.testBit_eq_decide_div_mod_eq).symm
  rw [h1, ← Nat.testBit_two_pow, ← Nat.testBit_xor, ← h1]
  simp
theorem Turned.flip {pg q : List Int} {a i : Nat} {P : BitVec 32} (h : Turned pg q a P i) (hp : P.getLsbD i = true) (hi : a + i < 8 * pg.length) (x : Int)
    (hx : x = (((rd q ((a + i) / 8)).toNat ^^^ 2 ^ ((a + i) % 8) : Nat) : Int)) : Turned pg (q.set ((a + i) / 8) x) a P (i + 1) := by
  obtain ⟨hl, h8, hb⟩ := h
  have hlt : (a + i) / 8 < q.length := by omega
  have hr := h8 _ hlt
  have hn : (rd q ((a + i) / 8)).toNat < 256 := by omega
  have hx2 : (rd q ((a + i) / 8)).toNat ^^^ 2 ^ ((a + i) % 8) < 2 ^ 8 := Nat.xor_lt_two_pow (by omega) (Nat.pow_lt_pow_right (by omega) (by omega))
  refine ⟨by rw [List.length_set]; exact hl, h8.set _ _ (by omega), fun j hj => ?_⟩
  by_cases e : j = a + i
  · subst e
    have h0 := hb (a + i) hj
    have : ¬ (a + i < a + i) := by omega
    rw [show a + i - a = i from by omega, hp]
    simp only [this, decide_false, Bool.and_false, Bool.false_and, Bool.xor_false] at h0
    have h1 : (decide (a ≤ a + i) && decide (a + i < a + (i + 1)) && true) = true := by simp
    rw [h1, ← h0]
    unfold bitAt
    rw [rd_set _ _ _ _ hlt, if_pos rfl, hx]
    generalize rd q ((a + i) / 8) = b at *
    obtain ⟨n, rfl⟩ := Int.eq_ofNat_of_zero_le hr.1
    simp only [Int.toNat_natCast] at *
    have hk := xor_bit n ((a + i) % 8) ((a + i) % 8) (by omega) (by omega)
    simp only [decide_true, Bool.xor_true] at hk
    have e1 : (((n ^^^ 2 ^ ((a + i) % 8) : Nat) : Int) / 2 ^ ((a + i) % 8) % 2 = 1) ↔ (n ^^^ 2 ^ ((a + i) % 8)) / 2 ^ ((a + i) % 8) % 2 = 1 := by
      rw [← Int.natCast_inj]; simp
    have e2 : ((n : Int) / 2 ^ ((a + i) % 8) % 2 = 1) ↔ n / 2 ^ ((a + i) % 8) % 2 = 1 := by
      rw [← Int.natCast_inj (m := n / 2 ^ ((a + i) % 8) % 2)]; simp
    rw [Bool.eq_iff_iff, decide_eq_true_eq, e1, hk]
    simp [e2]
  · have hbit : bitAt (q.set ((a + i) / 8) x) j = bitAt q j := by
      unfold bitAt
      rw [rd_set _ _ _ _ hlt]
      by_cases ej : j / 8 = (a + i) / 8
      · rw [if_pos ej, hx, ej]
        generalize rd q ((a + i) / 8) = b at *
        obtain ⟨n, rfl⟩ := Int.eq_ofNat_of_zero_le hr.1
        simp only [Int.toNat_natCast] at *
        have hk := xor_bit n ((a + i) % 8) (j % 8) (by omega) (by omega)
        have hne : ¬ (a + i) % 8 = j % 8 := by omega
        simp only [hne, decide_false, Bool.xor_false, decide_eq_true_eq] at hk
        have e1 : (((n ^^^ 2 ^ ((a + i) % 8) : Nat) : Int) / 2 ^ (j % 8) % 2 = 1) ↔ (n ^^^ 2 ^ ((a + i) % 8)) / 2 ^ (j % 8) % 2 = 1 := by
          rw [← Int.natCast_inj]; simp
        have e2 : ((n : Int) / 2 ^ (j % 8) % 2 = 1) ↔ n / 2 ^ (j % 8) % 2 = 1 := by
          rw [← Int.natCast_inj (m := n / 2 ^ (j % 8) % 2)]; simp
        rw [Bool.eq_iff_iff, decide_eq_true_eq, decide_eq_true_eq, e1, hk, e2]
      · rw [if_neg ej]
    rw [hbit, hb j hj]
    congr 3
    apply decide_eq_decide.2
    omega
theorem byte_ext (b c : Int) (hb : 0 ≤ b ∧ b ≤ 255) (hc : 0 ≤ c ∧ c ≤ 255) (h : ∀ r, r < 8 → (b / 2 ^ r % 2 = 1 ↔ c / 2 ^ r % 2 = 1)) : b = c := by
  have e : ∀ x y : Int, (x % 2 = 1 ↔ y % 2 = 1) → x % 2 = y % 2 := fun x y h => by omega
  have h0 : b % 2 = c % 2 := by have := e _ _ (h 0 (by omega)); simpa using this
  have h1 : b / 2 % 2 = c / 2 % 2 := e _ _ (h 1 (by omega))
  have h2 : b / 4 % 2 = c / 4 % 2 := e _ _ (h 2 (by omega))
  have h3 : b / 8 % 2 = c / 8 % 2 := e _ _ (h 3 (by omega))
  have h4 : b / 16 % 2 = c / 16 % 2 := e _ _ (h 4 (by omega))
  have h5 : b / 32 % 2 = c / 32 % 2 := e _ _ (h 5 (by omega))
  have h6 : b / 64 % 2 = c / 64 % 2 := e _ _ (h 6 (by omega))
  have h7 : b / 128 % 2 = c / 128 % 2 := e _ _ (h 7 (by omega))
  clear h e
  have g7 : b / 128 = c / 128 := by omega
  clear h7
  have g6 : b / 64 = c / 64 := by omega
  clear h6 g7
  have g5 : b / 32 = c / 32 := by omega
  clear h5 g6
  have g4 : b / 16 = c / 16 := by omega
  clear h4 g5
  have g3 : b / 8 = c / 8 := by omega
  clear h3 g4
  have g2 : b / 4 = c / 4 := by omega
  clear h2 g3
  have g1 : b / 2 = c / 2 := by omega
  omega
/-- A page in which bits were turned that stand within 32, behind its length, is told by its sum. -/
theorem turned_read (kind : Int) (body q : List Int) (hk : 0 ≤ kind ∧ kind ≤ 255) (hb : Bytes8 body) (hl : body.length ≤ 1000000) (a i : Nat) (P : BitVec 32) (ha : 32 ≤ a) (hi : i ≤ 32) (hai : a + i ≤ 8 * (pageOf kind body).length)
    (h : Turned (pageOf kind body) q a P i) : (pgRead q 0).2.2.2 = if (∃ m, m < i ∧ P.getLsbD m = true) then 4 else 0 := by
  obtain ⟨hql, h8, hbits⟩ := h
  have p8 := pageOf_bytes kind body hk hb hl
  have pl := pageOf_length kind body
  have hrp := read_page [] kind body [] hk hb hl Bytes8.nil
  simp only [List.nil_append, List.append_nil, List.length_nil] at hrp
  have hnp : num4 (pageOf kind body) = body.length := by
    have e : pageOf kind body = le4 body.length ++ (([kind] ++ body) ++ le4 (crc32 (head kind body))) := by simp [pageOf, head]
    rw [e]
    exact num4_of _ _ (by omega) (((Bytes8.cons hk Bytes8.nil).append hb).append (le4_bytes _ (crc32_range _)))
  have hby : ∀ j, j < 4 → rd q j = rd (pageOf kind body) j := fun j hj => by
    refine byte_ext _ _ (h8 j (by omega)) (p8 j (by omega)) fun r hr => ?_
    have := hbits (8 * j + r) (by omega)
    have hlt : ¬ a ≤ 8 * j + r := by omega
    simp only [hlt, decide_false, Bool.false_and, Bool.xor_false] at this
    unfold bitAt at this
    rw [show (8 * j + r) / 8 = j from by omega, show (8 * j + r) % 8 = r from by omega] at this
    exact decide_eq_decide.1 this
  have hnq : num4 q = body.length := by
    rw [← hnp, num4_eq q h8 (by omega), num4_eq _ p8 (by omega), hby 0 (by omega), hby 1 (by omega), hby 2 (by omega), hby 3 (by omega)]
  have hgood : crcFn (bitAt (pageOf kind body)) ones (8 * (pageOf kind body).length) = zn 32 ones := by
    rw [← sum_right _ p8 (body.length + 5) (by omega)]
    have e1 : (pageOf kind body).take (body.length + 5) = head kind body := by rw [← head_length kind body]; simp [pageOf]
    have e2 : (pageOf kind body).drop (body.length + 5) = le4 (crc32 (head kind body)) := by rw [← head_length kind body]; simp [pageOf]
    rw [e1, e2]
    have := num4_of (crc32 (head kind body)) [] (crc32_range _) Bytes8.nil
    rw [List.append_nil] at this
    exact this.symm
  have hlin : crcFn (bitAt q) ones (8 * q.length) = zn 32 ones ^^^ crcFn (fun j => decide (a ≤ j) && decide (j < a + i) && P.getLsbD (j - a)) 0#32 (8 * q.length) := by
    rw [crcFn_congr (bitAt q) (fun j => bitAt (pageOf kind body) j ^^ (decide (a ≤ j) && decide (j < a + i) && P.getLsbD (j - a))) ones _ (fun j hj => hbits j (by omega))]
    conv => lhs; rw [show ones = ones ^^^ 0#32 from by simp]
    rw [crcFn_xor, hql, hgood]
  have hd : crcFn (fun j => decide (a ≤ j) && decide (j < a + i) && P.getLsbD (j - a)) 0#32 (8 * q.length) = 0#32 ↔ ¬ ∃ m, m < i ∧ P.getLsbD m = true := by
    have hz : ∀ m, m < a → (fun j => decide (a ≤ j) && decide (j < a + i) && P.getLsbD (j - a)) (0 + m) = false := fun m hm => by
      have : ¬ a ≤ m := by omega
      simp [this]
    have z1 := crcFn_zeros (fun j => decide (a ≤ j) && decide (j < a + i) && P.getLsbD (j - a)) 0#32 0 a hz a (Nat.le_refl _)
    simp only [Nat.zero_add] at z1
    have e0 : crcFn (fun j => decide (a ≤ j) && decide (j < a + i) && P.getLsbD (j - a)) 0#32 0 = 0#32 := rfl
    rw [e0, zn_zero] at z1
    have z2 := crcFn_word (fun j => decide (a ≤ j) && decide (j < a + i) && P.getLsbD (j - a)) 0#32 a i P (fun m hm => by
      have e1 : a ≤ a + m := by omega
      have e2 : a + m < a + i := by omega
      simp [hm]) i (Nat.le_refl _)
    rw [z1, BitVec.zero_xor] at z2
    have z3 := crcFn_zeros (fun j => decide (a ≤ j) && decide (j < a + i) && P.getLsbD (j - a)) 0#32 (a + i) (8 * q.length - (a + i)) (fun m hm => by
      have : ¬ (a + i + m < a + i) := by omega
      simp [this]) (8 * q.length - (a + i)) (Nat.le_refl _)
    rw [show a + i + (8 * q.length - (a + i)) = 8 * q.length from by omega, z2] at z3
    rw [z3, zn_zero_iff, zn_zero_iff]
    constructor
    · rintro h0 ⟨m, hm, hp⟩
      have := congrArg (·.getLsbD m) h0
      simp [lo_bit, hm, hp] at this
    · intro hno
      apply BitVec.eq_of_getLsbD_eq
      intro m _
      rw [lo_bit]
      by_cases hm : m < i
      · have : P.getLsbD m = false := by
          cases hp : P.getLsbD m
          · rfl
          · exact absurd ⟨m, hm, hp⟩ hno
        simp [this]
      · simp [hm]
  have hright := sum_right q h8 (body.length + 5) (by omega)
  rw [hlin] at hright
  have hiff : crc32 (q.take (body.length + 5)) = num4 (q.drop (body.length + 5)) ↔ ¬ ∃ m, m < i ∧ P.getLsbD m = true := by
    rw [hright, ← hd]
    constructor
    · intro h0
      have : zn 32 ones ^^^ (zn 32 ones ^^^ crcFn (fun j => decide (a ≤ j) && decide (j < a + i) && P.getLsbD (j - a)) 0#32 (8 * q.length)) = zn 32 ones ^^^ zn 32 ones := by rw [h0]
      rwa [← BitVec.xor_assoc, BitVec.xor_self, BitVec.zero_xor] at this
    · intro h0; rw [h0, BitVec.xor_zero]
  unfold pgRead
  rw [if_neg (by omega)]
  simp only [Int.toNat_zero, List.drop_zero, hnq, Int.toNat_natCast, Nat.zero_add]
  rw [if_neg (by omega), if_neg (by omega), show 5 + body.length = body.length + 5 from by omega]
  by_cases hany : ∃ m, m < i ∧ P.getLsbD m = true
  · rw [if_pos hany, if_pos (fun e => hiff.1 e hany)]
  · rw [if_neg hany, if_neg (fun e => e (hiff.2 hany))]
end Go.Proofs.YtnpdamahennojaaDoor
