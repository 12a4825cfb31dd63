import Derived.Test.YtnpdamahennojaaDoorSumB
import Derived.Test.YtnpdamahennojaaDoorRows
import Derived.Lib.LaidTab
import Derived.LaidMore
import Derived.ProofKit
import Derived.Stop.Joined
namespace Go.Proofs.YtnpdamahennojaaDoor
open Go.ChangeShapes Go.WideShapes Go.ChangeAt Go.RowKit
theorem gTab : Tryd.prog.globalNamed "headrace/page.table" = some 0 := by kernel_rfl
theorem tTab : (Tryd.prog.globals[0]?).map (·.type) = some 46 := by kernel_rfl
theorem c24 : Tryd.prog.cellsOf 24 = 1 := by kernel_rfl
theorem c46 : Tryd.prog.cellsOf 46 = 16 := by kernel_rfl
/-- What the row's condition gives a walk: the table. -/
theorem tab_of_laid {W : World} (h : laidMetH Tryd.prog [("headrace/page.table", Rows.laid_headrace_page_table)] W) : HasTab W := by
  rw [MakeChecks.laidMetH_plain _ _ _ (by kernel_rfl)] at h
  have hT := Lib.tabIs_of_head (k := .u32) (zs := [0, 498536548, 997073096, 651767980, 1994146192, 1802195444, 1303535960, 1342533948, 3988292384, 4027552580, 3604390888, 3412177804, 2607071920, 2262029012, 2685067896, 3183342108]) gTab tTab Tryd.underlying46 Tryd.underlying24 c24 c46 h
  exact fun i hi => hT.cell gTab i hi
abbrev Laid (W : World) : Prop := laidMetH Tryd.prog [("headrace/page.table", Rows.laid_headrace_page_table)] W
abbrev Wf8 (xs : List Int) : Prop := ∀ i, i < xs.length → (Lit.int .u8 (rd xs i)).wf = true
theorem pageSums_walk (W : World) (A : Option Addr) (cap : Nat) (xs : List Int) (_ : xs.length ≤ cap) (hl : xs.length * 1 ≤ 140737488351232) (hr : Reads W .u8 A xs) (hw : Wf8 xs) (hL : Laid W) :
    Calls Tryd.prog 3 #[.slice A xs.length cap] W fun e w' => e = .returned (.bool true) ∧ Below W.heap.size W w' :=
  pageSums_any A cap xs W (by omega) (wf_bytes hw) hr (tab_of_laid hL)
end Go.Proofs.YtnpdamahennojaaDoor
