import Derived.Test.YtgpfoamhcoipgaaDoorMk
import Derived.Test.YtgpfoamhcoipgaaDoorAr
import Derived.Test.YtgpfoamhcoipgaaDoorLa
import Derived.Test.YtgpfoamhcoipgaaDoorPg
import Derived.Test.YtgpfoamhcoipgaaDoorAf
/-! Changes as bytes: plain. -/
namespace Go.Proofs.YtgpfoamhcoipgaaDoor
open Go.RowKit
set_option linter.unusedVariables false

def rdText (most : Nat) (xs : List Int) : Option (List Int × List Int) := (rdU most 10 0 0 xs).bind fun p => if p.1 ≤ p.2.length then some (p.2.take p.1, p.2.drop p.1) else none
def rdInt (xs : List Int) : Option (Int × List Int) := (rdU 18446744073709551615 10 0 0 xs).bind fun p => some (zag p.1, p.2)
def rdCh : List Int → Option (Ch × List Int)
  | [] => none
  | b :: xs => if b < 2 then (rdU 1099511627776 10 0 0 xs).bind fun r => (rdText 32 r.2).bind fun k => (rdInt k.2).bind fun s => (rdInt s.2).bind fun e => (rdVal e.2).bind fun v =>
      some (⟨decide (b = 1), r.1, ⟨⟨strOfNums k.1, s.1, e.1⟩, v.1⟩⟩, v.2) else none
def rdCs : Nat → List Ch → List Int → Option (List Ch × List Int)
  | 0, acc, xs => some (acc, xs)
  | n + 1, acc, xs => (rdCh xs).bind fun p => rdCs n (acc ++ [p.1]) p.2
def keyB (k : ByteArray) : List Int := k.data.toList.map fun u => (u.toNat : Int)
theorem keyB_str {kb : List Int} (h : Bytes8 kb) : keyB (strOfNums kb) = kb := by
  unfold keyB
  rw [strOfNums_data, List.map_map]
  apply List.ext_getElem?
  intro i
  rw [List.getElem?_map]
  by_cases hi : i < kb.length
  · have hb := h i hi
    rw [rd_eq kb i hi] at hb
    rw [List.getElem?_eq_getElem hi, Option.map_some]
    congr 1
    simp only [Function.comp, UInt8.toNat_ofNat']
    omega
  · rw [List.getElem?_eq_none (by omega)]; rfl
theorem str_keyB (k : ByteArray) : strOfNums (keyB k) = k := by
  obtain ⟨⟨l⟩⟩ := k
  have : (strOfNums (keyB ⟨⟨l⟩⟩)).data.toList = l := by
    rw [strOfNums_data]
    unfold keyB
    rw [List.map_map]
    apply List.ext_getElem?
    intro i
    rw [List.getElem?_map]
    cases hq : l[i]? with
    | none => rfl
    | some u => simp
  generalize strOfNums (keyB ⟨⟨l⟩⟩) = s at *
  obtain ⟨⟨m⟩⟩ := s
  simp only at this
  subst this
  rfl
theorem keyB_bytes (k : ByteArray) : Bytes8 (keyB k) := fun i hi => by
  rw [rd_eq _ i hi]
  have hm : (keyB k)[i] ∈ keyB k := List.getElem_mem hi
  obtain ⟨u, _, hu⟩ := List.mem_map.1 hm
  rw [← hu]
  have := UInt8.toNat_lt u
  omega
def layC (c : Ch) : List Int := [if c.put = true then 1 else 0] ++ uintL c.rev ++ textL (keyB c.p.nm.key) ++ uintL (zig c.p.nm.s) ++ uintL (zig c.p.nm.e) ++ layVL c.p.a
structure GoodC (c : Ch) : Prop where
  ok : c.ok
  key : (keyB c.p.nm.key).length ≤ 32
  s : -9223372036854775808 ≤ c.p.nm.s ∧ c.p.nm.s < 9223372036854775808
  e : -9223372036854775808 ≤ c.p.nm.e ∧ c.p.nm.e < 9223372036854775808
theorem rdNum_inv {xs rest : List Int} {x : Nat} (h8 : Bytes8 xs) (h : rdNum xs = some (x, rest)) : xs = uintL (canon x) ++ rest := by
  unfold rdNum at h
  cases hq : rdU 18446744073709551615 10 0 0 xs with
  | none => rw [hq] at h; cases h
  | some p =>
    rw [hq, Option.bind_some] at h
    split at h
    · rename_i hc
      injection h with h
      subst h
      rw [hc]
      exact uintL_of_rdU h8 hq
    · cases h
theorem rdVal_inv {xs rest : List Int} {v : AV} (h8 : Bytes8 xs) (h : rdVal xs = some (v, rest)) : xs = layVL v ++ rest ∧ Bytes8 rest ∧ v.ok := by
  unfold rdVal at h
  cases h1 : rdU 1099511627776 10 0 0 xs with
  | none => rw [h1] at h; cases h
  | some p1 =>
    obtain ⟨b1, m1⟩ := rdU_rest _ _ _ _ _ _ _ h8 h1
    rw [h1, Option.bind_some] at h
    cases h2 : rdNum p1.2 with
    | none => rw [h2] at h; cases h
    | some p2 =>
      obtain ⟨b2, m2⟩ := rdNum_rest b1 h2
      rw [h2, Option.bind_some] at h
      cases h3 : rdU 1 10 0 0 p2.2 with
      | none => rw [h3] at h; cases h
      | some p3 =>
        obtain ⟨b3, m3⟩ := rdU_rest _ _ _ _ _ _ _ b2 h3
        rw [h3, Option.bind_some] at h
        cases h4 : rdNum p3.2 with
        | none => rw [h4] at h; cases h
        | some p4 =>
          obtain ⟨b4, m4⟩ := rdNum_rest b3 h4
          rw [h4, Option.bind_some] at h
          cases h5 : rdNum p4.2 with
          | none => rw [h5] at h; cases h
          | some p5 =>
            obtain ⟨b5, m5⟩ := rdNum_rest b4 h5
            rw [h5, Option.bind_some] at h
            injection h with h
            injection h with e1 e2
            subst e1 e2
            refine ⟨?_, b5, ⟨show p1.1 < _ by omega, m2, m4, m5⟩⟩
            have q1 := uintL_of_rdU h8 h1
            have q2 := rdNum_inv b1 h2
            have q3 := uintL_of_rdU b2 h3
            have q4 := rdNum_inv b3 h4
            have q5 := rdNum_inv b4 h5
            have q6 : ovN (decide (p3.1 = 1)) = p3.1 := by
              unfold ovN
              obtain h | h : p3.1 = 0 ∨ p3.1 = 1 := by omega
              · rw [h]; rfl
              · rw [h]; rfl
            unfold layVL
            rw [q6]
            simp only [List.append_assoc]
            rw [← q5, ← q4, ← q3, ← q2, ← q1]
theorem rdCh_inv {xs rest : List Int} {c : Ch} (h8 : Bytes8 xs) (h : rdCh xs = some (c, rest)) : xs = layC c ++ rest ∧ Bytes8 rest ∧ GoodC c := by
  cases xs with
  | nil => cases h
  | cons b xs =>
    rw [rdCh] at h
    split at h
    · rename_i hb
      have hb0 : 0 ≤ b ∧ b ≤ 255 := h8 0 (by simp)
      have h8' : Bytes8 xs := fun i hi => h8 (i + 1) (by simpa using hi)
      cases h1 : rdU 1099511627776 10 0 0 xs with
      | none => rw [h1] at h; cases h
      | some r =>
        obtain ⟨b1, m1⟩ := rdU_rest _ _ _ _ _ _ _ h8' h1
        rw [h1, Option.bind_some] at h
        unfold rdText at h
        cases h2 : rdU 32 10 0 0 r.2 with
        | none => rw [h2] at h; cases h
        | some k =>
          obtain ⟨b2, m2⟩ := rdU_rest _ _ _ _ _ _ _ b1 h2
          rw [h2, Option.bind_some] at h
          by_cases hk : k.1 ≤ k.2.length
          · rw [if_pos hk, Option.bind_some] at h
            have b3 : Bytes8 (k.2.drop k.1) := b2.drop _
            have b3t : Bytes8 (k.2.take k.1) := b2.take _
            unfold rdInt at h
            simp only at h
            cases h4 : rdU 18446744073709551615 10 0 0 (k.2.drop k.1) with
            | none => rw [h4] at h; cases h
            | some s =>
              obtain ⟨b4, m4⟩ := rdU_rest _ _ _ _ _ _ _ b3 h4
              rw [h4] at h
              simp only [Option.bind_some] at h
              cases h5 : rdU 18446744073709551615 10 0 0 s.2 with
              | none => rw [h5] at h; cases h
              | some e =>
                obtain ⟨b5, m5⟩ := rdU_rest _ _ _ _ _ _ _ b4 h5
                rw [h5] at h
                simp only [Option.bind_some] at h
                cases h6 : rdVal e.2 with
                | none => rw [h6] at h; cases h
                | some v =>
                  obtain ⟨q6, b6, m6⟩ := rdVal_inv b5 h6
                  rw [h6] at h
                  simp only [Option.bind_some] at h
                  injection h with h
                  injection h with e1 e2
                  subst e1 e2
                  have q1 := uintL_of_rdU h8' h1
                  have q2 := uintL_of_rdU b1 h2
                  have q4 := uintL_of_rdU b3 h4
                  have q5 := uintL_of_rdU b4 h5
                  have hlen : (k.2.take k.1).length = k.1 := by rw [List.length_take]; omega
                  have hkb : keyB (strOfNums (k.2.take k.1)) = k.2.take k.1 := keyB_str b3t
                  refine ⟨?_, b6, ⟨⟨show r.1 < _ by omega, m6⟩, by show (keyB (strOfNums (k.2.take k.1))).length ≤ 32; rw [hkb, hlen]; exact m2, zag_range (by omega), zag_range (by omega)⟩⟩
                  unfold layC
                  show _ = [if decide (b = 1) = true then 1 else 0] ++ uintL r.1 ++ textL (keyB (strOfNums (k.2.take k.1))) ++ uintL (zig (zag s.1)) ++ uintL (zig (zag e.1)) ++ layVL v.1 ++ v.2
                  rw [hkb, zig_zag, zig_zag]
                  have hb1 : (if decide (b = 1) = true then (1 : Int) else 0) = b := by
                    by_cases hq : b = 1
                    · rw [hq]; rfl
                    · have : b = 0 := by omega
                      rw [this]; rfl
                  rw [hb1]
                  unfold textL
                  rw [hlen]
                  simp only [List.append_assoc, List.singleton_append]
                  rw [← q6, ← q5, ← q4, List.take_append_drop, ← q2]
                  show b :: xs = b :: (uintL r.1 ++ r.2)
                  rw [← q1]
          · rw [if_neg hk] at h; cases h
    · cases h
theorem rdCs_inv : ∀ (n : Nat) (acc : List Ch) (xs : List Int) (L : List Ch) (rest : List Int), Bytes8 xs → rdCs n acc xs = some (L, rest) → ∃ M, L = acc ++ M ∧ M.length = n ∧ xs = M.flatMap layC ++ rest ∧ (∀ c ∈ M, GoodC c) ∧ Bytes8 rest := by
  intro n
  induction n with
  | zero =>
    intro acc xs L rest h8 h
    injection h with h
    injection h with e1 e2
    subst e1 e2
    exact ⟨[], by simp, rfl, rfl, fun c hc => (by cases hc), h8⟩
  | succ n ih =>
    intro acc xs L rest h8 h
    rw [rdCs] at h
    cases hq : rdCh xs with
    | none => rw [hq] at h; cases h
    | some p =>
      rw [hq, Option.bind_some] at h
      obtain ⟨q1, b1, g1⟩ := rdCh_inv h8 hq
      obtain ⟨M, e1, e2, e3, e4, e5⟩ := ih _ _ _ _ b1 h
      refine ⟨p.1 :: M, by rw [e1, List.append_assoc]; rfl, by rw [List.length_cons, e2], ?_, ?_, e5⟩
      · rw [List.flatMap_cons, List.append_assoc, ← e3]; exact q1
      · intro c hc
        rcases List.mem_cons.1 hc with rfl | hc
        · exact g1
        · exact e4 c hc
/-- The bytes of changes. -/
def layBody (L : List Ch) : List Int := uintL L.length ++ L.flatMap layC
/-- What a page's body comes to. -/
def rdBody (b : List Int) : Option (List Ch) := (rdU 1099511627776 10 0 0 b).bind fun p => (rdCs p.1 [] p.2).bind fun q => if q.2 = [] then some q.1 else none
theorem rdBody_inv {b : List Int} {L : List Ch} (h8 : Bytes8 b) (h : rdBody b = some L) : b = layBody L ∧ ∀ c ∈ L, GoodC c := by
  unfold rdBody at h
  cases h1 : rdU 1099511627776 10 0 0 b with
  | none => rw [h1] at h; cases h
  | some p =>
    obtain ⟨b1, m1⟩ := rdU_rest _ _ _ _ _ _ _ h8 h1
    rw [h1, Option.bind_some] at h
    cases h2 : rdCs p.1 [] p.2 with
    | none => rw [h2] at h; cases h
    | some q =>
      rw [h2, Option.bind_some] at h
      split at h
      · rename_i hq
        injection h with h
        obtain ⟨M, e1, e2, e3, e4, _⟩ := rdCs_inv _ _ _ _ _ b1 h2
        rw [List.nil_append] at e1
        subst e1
        rw [← h]
        refine ⟨?_, e4⟩
        unfold layBody
        rw [e2, uintL_of_rdU h8 h1]
        congr 1
        rw [e3, hq, List.append_nil]
      · cases h
end Go.Proofs.YtgpfoamhcoipgaaDoor
