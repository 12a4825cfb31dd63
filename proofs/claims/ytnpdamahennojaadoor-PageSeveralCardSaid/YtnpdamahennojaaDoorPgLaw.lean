import Derived.Test.YtnpdamahennojaaDoorPgE
namespace Go.Proofs.YtnpdamahennojaaDoor
open Go.RowKit

/-! The plain law of pages. -/
theorem pageOf_length (kind : Int) (body : List Int) : (pageOf kind body).length = body.length + 9 := by simp [pageOf, head_length, le4_length]
theorem pageOf_bytes (kind : Int) (body : List Int) (hk : 0 ≤ kind ∧ kind ≤ 255) (hb : Bytes8 body) (hl : body.length ≤ 1000000) : Bytes8 (pageOf kind body) :=
  (head_bytes kind body hk hb hl).append (le4_bytes _ (crc32_range _))
theorem num4_of (c : Int) (r : List Int) (hc : 0 ≤ c ∧ c ≤ 4294967295) (h8 : Bytes8 r) : num4 (le4 c ++ r) = c := by
  have h8' : Bytes8 (le4 c ++ r) := (le4_bytes c hc).append h8
  rw [num4_eq _ h8' (by simp [le4_length])]
  have f0 : rd (le4 c ++ r) 0 = c % 256 := rfl
  have f1 : rd (le4 c ++ r) 1 = c / 256 % 256 := rfl
  have f2 : rd (le4 c ++ r) 2 = c / 65536 % 256 := rfl
  have f3 : rd (le4 c ++ r) 3 = c / 16777216 := rfl
  rw [f0, f1, f2, f3]; omega
/-- A page that stands behind others, and ahead of others, is read. -/
theorem read_page (ps : List Int) (kind : Int) (body rest : List Int) (hk : 0 ≤ kind ∧ kind ≤ 255) (hb : Bytes8 body) (hl : body.length ≤ 1000000) (hr : Bytes8 rest) :
    pgRead (ps ++ (pageOf kind body ++ rest)) ps.length = (kind, body, (ps.length : Int) + 9 + body.length, 0) := by
  have hd : (ps ++ (pageOf kind body ++ rest)).drop ps.length = pageOf kind body ++ rest := by simp
  have hn : num4 (pageOf kind body ++ rest) = body.length := by
    have e : pageOf kind body ++ rest = le4 body.length ++ (([kind] ++ body) ++ (le4 (crc32 (head kind body)) ++ rest)) := by simp [pageOf, head]
    rw [e]
    exact num4_of _ _ (by omega) (((Bytes8.cons hk Bytes8.nil).append hb).append ((le4_bytes _ (crc32_range _)).append hr))
  have ht : (pageOf kind body ++ rest).take (5 + body.length) = head kind body := by
    rw [show 5 + body.length = (head kind body).length from by rw [head_length]; omega]
    simp [pageOf]
  have hs : (ps ++ (pageOf kind body ++ rest)).drop (ps.length + (5 + body.length)) = le4 (crc32 (head kind body)) ++ rest := by
    rw [← List.drop_drop, hd, show 5 + body.length = (head kind body).length from by rw [head_length]; omega]
    simp [pageOf]
  have hb5 : ((pageOf kind body ++ rest).drop 5).take body.length = body := by
    have e : pageOf kind body ++ rest = (le4 body.length ++ [kind]) ++ (body ++ (le4 (crc32 (head kind body)) ++ rest)) := by simp [pageOf, head]
    rw [e, show 5 = (le4 body.length ++ [kind]).length from by simp [le4_length], List.drop_left, List.take_left]
  have h4 : rd (pageOf kind body ++ rest) 4 = kind := rfl
  unfold pgRead
  rw [if_neg (by rw [List.length_append]; omega)]
  simp only [Int.toNat_natCast, hd, hn]
  rw [if_neg (by rw [List.length_append, pageOf_length]; omega), if_neg (by rw [List.length_append, pageOf_length]; omega), ht, hs, num4_of _ _ (crc32_range _) hr, if_neg (by simp), h4, hb5]
theorem one_page (kind k : Int) (body : List Int) (hk : 0 ≤ kind ∧ kind ≤ 255) (hb : Bytes8 body) (hl : body.length ≤ 1000000) : pgOne (pageOf kind body) k = if kind = k then (body, 0) else ([], 3) := by
  have h := read_page [] kind body [] hk hb hl Bytes8.nil
  simp only [List.nil_append, List.append_nil, List.length_nil] at h
  have h' : pgRead (pageOf kind body) 0 = (kind, body, 0 + 9 + (body.length : Int), 0) := h
  unfold pgOne
  rw [h', pageOf_length]
  by_cases e : kind = k
  · rw [if_pos rfl, if_pos ⟨e, by show (0 : Int) + 9 + (body.length : Int) = ((body.length + 9 : Nat) : Int); omega⟩, if_pos e]
  · rw [if_pos rfl, if_neg (fun h => e h.1), if_neg e]
/-- Beside an error all else is nought. -/
theorem read_err (xs : List Int) (p : Int) (h : (pgRead xs p).2.2.2 ≠ 0) : pgRead xs p = (0, [], 0, (pgRead xs p).2.2.2) := by
  have hc : pgRead xs p = (0, [], 0, 1) ∨ pgRead xs p = (0, [], 0, 3) ∨ pgRead xs p = (0, [], 0, 4) ∨ (pgRead xs p).2.2.2 = 0 := by
    unfold pgRead
    split
    · exact .inl rfl
    · simp only
      split
      · exact .inr (.inl rfl)
      · split
        · exact .inr (.inl rfl)
        · split
          · exact .inr (.inr (.inl rfl))
          · exact .inr (.inr (.inr rfl))
  rcases hc with e | e | e | e
  · rw [e]
  · rw [e]
  · rw [e]
  · exact absurd e h
end Go.Proofs.YtnpdamahennojaaDoor
