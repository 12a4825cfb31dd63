import Derived.Test.YtnpdamahennojaaDoorCrc
namespace Go.Proofs.YtnpdamahennojaaDoor
open Go.RowKit

theorem HasTab.below {w w' : World} (h : HasTab w) (h0 : 0 < w.heap.size) (hb : Below w.heap.size w w') : HasTab w' := fun i hi => (hb.cell (p := ⟨0, i, none⟩) h0).trans (h i hi)
theorem HasTab.pos {w : World} (h : HasTab w) : 0 < w.heap.size := cell_lt (h 0 (by omega))
/-- The sums, as the document has them. -/
theorem sum_says (A : Option Addr) (cap : Nat) (xs : List Int) (w : World) (hl : xs.length ≤ 140737488351232) (h8 : Bytes8 xs) (hx : Reads w .u8 A xs) (ht : HasTab w) :
    Calls Tryd.prog 10 #[.slice A xs.length cap] w fun e w' => e = .returned (.int .u32 (crc32 xs)) ∧ w = w' := by
  rw [← sum_crc xs h8.bts]; exact sum_any A cap xs w hl h8 hx ht
theorem ref_sum_says (A : Option Addr) (cap : Nat) (xs : List Int) (w : World) (hl : xs.length ≤ 140737488351232) (h8 : Bytes8 xs) (hx : Reads w .u8 A xs) :
    Calls Tryd.prog 11 #[.slice A xs.length cap] w fun e w' => e = .returned (.int .u32 (crc32 xs)) ∧ w = w' := by
  rw [← ref_crc xs h8.bts]; exact ref_sum_any A cap xs w hl h8 hx

def digits9 : List Int := [49, 50, 51, 52, 53, 54, 55, 56, 57]
def row9 : Array Value := #[.int .u8 49, .int .u8 50, .int .u8 51, .int .u8 52, .int .u8 53, .int .u8 54, .int .u8 55, .int .u8 56, .int .u8 57]
theorem bytes9 : Bytes8 digits9 := fun i hi => by
  match i, hi with
  | 0, _ | 1, _ | 2, _ | 3, _ | 4, _ | 5, _ | 6, _ | 7, _ | 8, _ => decide
  | i + 9, hi => exact absurd hi (by simp [digits9])
theorem reads9 (w : World) (f : Nat × Nat) : Reads (w.alloc (.cells row9 5 f)) .u8 (some ⟨w.heap.size, 0, none⟩) digits9 := Reads.new fun i hi => by
  match i, hi with
  | 0, _ | 1, _ | 2, _ | 3, _ | 4, _ | 5, _ | 6, _ | 7, _ | 8, _ => rfl
  | i + 9, hi => exact absurd hi (by simp [digits9])

set_option maxHeartbeats 400000 in
theorem awake_any (w : World) (ht : HasTab w) :
    Calls Tryd.prog 9 #[] w fun e w' => e = .returned (.bool true) ∧ Below w.heap.size w w' := by
  have kc := fun (w : World) (C : Array Value) (n c : Nat) => Lib.run_convert_bytes_const (P := Tryd.prog) w 22 5 C n c Tryd.underlying22 Tryd.underlying5
  have hb : Below w.heap.size w (w.alloc (.cells row9 5 (9, 10))) := (Below.refl _ _).alloc (Nat.le_refl _) _
  go_enter Tryd.func9, Tryd.ntmps9
  go_wp2_with fail
  refine (sum_says _ 9 digits9 (w.alloc (.cells row9 5 (9, 10))) (by simp [digits9]) bytes9 (reads9 w (9, 10)) (ht.below ht.pos hb)).mono ?_
  rintro e w' ⟨rfl, rfl⟩
  rw [show crc32 digits9 = 3421780262 from crc_example]
  go_wp2
  go_ret
  exact ⟨rfl, hb⟩

set_option maxHeartbeats 400000 in
theorem pageSums_any (A : Option Addr) (cap : Nat) (xs : List Int) (w : World) (hl : xs.length ≤ 140737488351232) (h8 : Bytes8 xs) (hx : Reads w .u8 A xs) (ht : HasTab w) :
    Calls Tryd.prog 3 #[.slice A xs.length cap] w fun e w' => e = .returned (.bool true) ∧ Below w.heap.size w w' := by
  go_enter Tryd.func3, Tryd.ntmps3
  go_wp2_with fail
  refine (awake_any w ht).mono ?_
  rintro e w1 ⟨rfl, hb⟩
  go_wp2_with fail
  refine (sum_says A cap xs w1 hl h8 (hx.below hb) (ht.below ht.pos hb)).mono ?_
  rintro e w' ⟨rfl, rfl⟩
  go_wp2_with fail
  refine (ref_sum_says A cap xs w1 hl h8 (hx.below hb)).mono ?_
  rintro e w' ⟨rfl, rfl⟩
  go_wp2
  go_ret
  exact ⟨rfl, hb⟩
end Go.Proofs.YtnpdamahennojaaDoor
