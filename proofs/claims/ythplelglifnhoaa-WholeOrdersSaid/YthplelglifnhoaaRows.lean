/-
  No cell of these rows narrows 'for every input' (looked for: loops, veiled, ifaces, maps, wideKeys, modest, calm, conditions, laid).
  DERIVED. THE GIVEN ROWS OF THIS SEAT. 9 by the template 'for every input the law returns true; each argument reads behind the call as it read before'; 0 by the template 'total and deterministic' (their statements: YthplelglifnhoaaTotals.lean).
  GIVEN WITH THE SEED: the statements are not yours to turn. If you find one false, say at which input.
  Laid BY PROGRAM, IN A SANDBOX (cutbox-rows.mjs): the forced cells as the released guide's own fill.sh prints them over the translation dc16384668de451d… (all of the seat's roots in one cut). By AI agents, Wed Nov 11 2026. No macro, syntax, notation, axiom, sorry.
-/
import Derived.Test.YthplelglifnhoaaChecked
import GoSem.Claim
import GoSem.ClaimJoined
import GoSem.ClaimMapViews
import Derived.JoinedTies
import Derived.KernelRfl
namespace Go.Proofs.Ythplelglifnhoaa
/- THE CELL 'sum', in the pinned program and in every row, IS THE sha256 OF THE DUMP (.gsa) THAT YthplelglifnhoaaProg.lean LOADS. Nothing in Lean hashes anything: it is a label: what it is worth is what the hold of that sum in a sandbox is worth. -/
noncomputable def Try.pinned : Pinned := { name := "ythplelglifnhoaa", sum := "dc16384668de451dbcd1346863e41e5b06c8108eb5a86edb71d00ea5e6a490f6", checked := Try.checked }
namespace Rows
def none {H : Type} : Left H := { results := [], args := [] }

/-- 'headracelaw13.WholeCounts': WHATEVER THE INPUT: true; the input reads as it did. -/
def wholeCountsSpec : ChangeSpec := { name := "wholeCounts", fn := fun _ => fun
  | [d1, d2] => { results := [.lit (.bool true)], args := [d1, d2] }
  | _ => none }
def wholeCountsRow : OpenClaim := { program := "ythplelglifnhoaa", sum := "dc16384668de451dbcd1346863e41e5b06c8108eb5a86edb71d00ea5e6a490f6", func := "headrace/headracelaw13.WholeCounts", spec := "wholeCounts", inPlace := ["math.Float64frombits", "math.Float64bits", "math/bits.Sub64", "math/bits.Add64"], unfollowed := true, recurses := true, apart := false }
def WholeCountsSaid : Prop := wholeCountsRow.holds Try.pinned (OpenSpec.ofChange wholeCountsSpec)

/-- ITS FALSE NEIGHBOUR: 'it returns false'. Refute it at one input. -/
def wholeCountsWrong : ChangeSpec := { name := "wholeCounts", fn := fun _ => fun
  | [d1, d2] => { results := [.lit (.bool false)], args := [d1, d2] }
  | _ => none }
def WholeCountsWrongFalsely : Prop := wholeCountsRow.holds Try.pinned (OpenSpec.ofChange wholeCountsWrong)

/-- 'headracelaw13.WholeFar': WHATEVER THE INPUT: true; the input reads as it did. -/
def wholeFarSpec : ChangeSpec := { name := "wholeFar", fn := fun _ => fun
  | [d1, d2, d3] => { results := [.lit (.bool true)], args := [d1, d2, d3] }
  | _ => none }
def wholeFarRow : OpenClaim := { program := "ythplelglifnhoaa", sum := "dc16384668de451dbcd1346863e41e5b06c8108eb5a86edb71d00ea5e6a490f6", func := "headrace/headracelaw13.WholeFar", spec := "wholeFar", inPlace := ["math.Float64frombits", "math.Float64bits", "math/bits.Sub64", "math/bits.Add64"], unfollowed := true, recurses := true, apart := false }
def WholeFarSaid : Prop := wholeFarRow.holds Try.pinned (OpenSpec.ofChange wholeFarSpec)

/-- ITS FALSE NEIGHBOUR: 'it returns false'. Refute it at one input. -/
def wholeFarWrong : ChangeSpec := { name := "wholeFar", fn := fun _ => fun
  | [d1, d2, d3] => { results := [.lit (.bool false)], args := [d1, d2, d3] }
  | _ => none }
def WholeFarWrongFalsely : Prop := wholeFarRow.holds Try.pinned (OpenSpec.ofChange wholeFarWrong)

/-- 'headracelaw13.WholePanes': WHATEVER THE INPUT: true; the input reads as it did. -/
def wholePanesSpec : ChangeSpec := { name := "wholePanes", fn := fun _ => fun
  | [d1, d2] => { results := [.lit (.bool true)], args := [d1, d2] }
  | _ => none }
def wholePanesRow : OpenClaim := { program := "ythplelglifnhoaa", sum := "dc16384668de451dbcd1346863e41e5b06c8108eb5a86edb71d00ea5e6a490f6", func := "headrace/headracelaw13.WholePanes", spec := "wholePanes", inPlace := ["math.Float64frombits", "math.Float64bits", "math/bits.Sub64", "math/bits.Add64"], unfollowed := true, recurses := true, apart := false }
def WholePanesSaid : Prop := wholePanesRow.holds Try.pinned (OpenSpec.ofChange wholePanesSpec)

/-- ITS FALSE NEIGHBOUR: 'it returns false'. Refute it at one input. -/
def wholePanesWrong : ChangeSpec := { name := "wholePanes", fn := fun _ => fun
  | [d1, d2] => { results := [.lit (.bool false)], args := [d1, d2] }
  | _ => none }
def WholePanesWrongFalsely : Prop := wholePanesRow.holds Try.pinned (OpenSpec.ofChange wholePanesWrong)

/-- 'headracelaw13.WholeOrder': WHATEVER THE INPUT: true; the input reads as it did. -/
def wholeOrderSpec : ChangeSpec := { name := "wholeOrder", fn := fun _ => fun
  | [d1, d2, d3] => { results := [.lit (.bool true)], args := [d1, d2, d3] }
  | _ => none }
def wholeOrderRow : OpenClaim := { program := "ythplelglifnhoaa", sum := "dc16384668de451dbcd1346863e41e5b06c8108eb5a86edb71d00ea5e6a490f6", func := "headrace/headracelaw13.WholeOrder", spec := "wholeOrder", inPlace := ["math.Float64frombits", "math.Float64bits", "math/bits.Sub64", "math/bits.Add64"], unfollowed := true, recurses := true, apart := false }
def WholeOrderSaid : Prop := wholeOrderRow.holds Try.pinned (OpenSpec.ofChange wholeOrderSpec)

/-- ITS FALSE NEIGHBOUR: 'it returns false'. Refute it at one input. -/
def wholeOrderWrong : ChangeSpec := { name := "wholeOrder", fn := fun _ => fun
  | [d1, d2, d3] => { results := [.lit (.bool false)], args := [d1, d2, d3] }
  | _ => none }
def WholeOrderWrongFalsely : Prop := wholeOrderRow.holds Try.pinned (OpenSpec.ofChange wholeOrderWrong)

/-- 'headracelaw13.WholeApart': WHATEVER THE INPUT: true; the input reads as it did. -/
def wholeApartSpec : ChangeSpec := { name := "wholeApart", fn := fun _ => fun
  | [d1, d2] => { results := [.lit (.bool true)], args := [d1, d2] }
  | _ => none }
def wholeApartRow : OpenClaim := { program := "ythplelglifnhoaa", sum := "dc16384668de451dbcd1346863e41e5b06c8108eb5a86edb71d00ea5e6a490f6", func := "headrace/headracelaw13.WholeApart", spec := "wholeApart", inPlace := ["math.Float64frombits", "math.Float64bits", "math/bits.Sub64", "math/bits.Add64"], unfollowed := true, recurses := true, apart := false }
def WholeApartSaid : Prop := wholeApartRow.holds Try.pinned (OpenSpec.ofChange wholeApartSpec)

/-- ITS FALSE NEIGHBOUR: 'it returns false'. Refute it at one input. -/
def wholeApartWrong : ChangeSpec := { name := "wholeApart", fn := fun _ => fun
  | [d1, d2] => { results := [.lit (.bool false)], args := [d1, d2] }
  | _ => none }
def WholeApartWrongFalsely : Prop := wholeApartRow.holds Try.pinned (OpenSpec.ofChange wholeApartWrong)

/-- 'headracelaw13.WholeSessions': WHATEVER THE INPUT: true; the input reads as it did. -/
def wholeSessionsSpec : ChangeSpec := { name := "wholeSessions", fn := fun _ => fun
  | [d1, d2] => { results := [.lit (.bool true)], args := [d1, d2] }
  | _ => none }
def wholeSessionsRow : OpenClaim := { program := "ythplelglifnhoaa", sum := "dc16384668de451dbcd1346863e41e5b06c8108eb5a86edb71d00ea5e6a490f6", func := "headrace/headracelaw13.WholeSessions", spec := "wholeSessions", inPlace := ["math.Float64frombits", "math.Float64bits", "math/bits.Sub64", "math/bits.Add64"], unfollowed := true, recurses := true, apart := false }
def WholeSessionsSaid : Prop := wholeSessionsRow.holds Try.pinned (OpenSpec.ofChange wholeSessionsSpec)

/-- ITS FALSE NEIGHBOUR: 'it returns false'. Refute it at one input. -/
def wholeSessionsWrong : ChangeSpec := { name := "wholeSessions", fn := fun _ => fun
  | [d1, d2] => { results := [.lit (.bool false)], args := [d1, d2] }
  | _ => none }
def WholeSessionsWrongFalsely : Prop := wholeSessionsRow.holds Try.pinned (OpenSpec.ofChange wholeSessionsWrong)

/-- 'headracelaw13.WholeOrders': WHATEVER THE INPUT: true; the input reads as it did. -/
def wholeOrdersSpec : ChangeSpec := { name := "wholeOrders", fn := fun _ => fun
  | [d1, d2, d3, d4] => { results := [.lit (.bool true)], args := [d1, d2, d3, d4] }
  | _ => none }
def wholeOrdersRow : OpenClaim := { program := "ythplelglifnhoaa", sum := "dc16384668de451dbcd1346863e41e5b06c8108eb5a86edb71d00ea5e6a490f6", func := "headrace/headracelaw13.WholeOrders", spec := "wholeOrders", inPlace := ["math.Float64frombits", "math.Float64bits", "math/bits.Sub64", "math/bits.Add64"], unfollowed := true, recurses := true, apart := false }
def WholeOrdersSaid : Prop := wholeOrdersRow.holds Try.pinned (OpenSpec.ofChange wholeOrdersSpec)

/-- ITS FALSE NEIGHBOUR: 'it returns false'. Refute it at one input. -/
def wholeOrdersWrong : ChangeSpec := { name := "wholeOrders", fn := fun _ => fun
  | [d1, d2, d3, d4] => { results := [.lit (.bool false)], args := [d1, d2, d3, d4] }
  | _ => none }
def WholeOrdersWrongFalsely : Prop := wholeOrdersRow.holds Try.pinned (OpenSpec.ofChange wholeOrdersWrong)

/-- 'headracelaw13.WholeMoves': WHATEVER THE INPUT: true; the input reads as it did. -/
def wholeMovesSpec : ChangeSpec := { name := "wholeMoves", fn := fun _ => fun
  | [d1, d2, d3] => { results := [.lit (.bool true)], args := [d1, d2, d3] }
  | _ => none }
def wholeMovesRow : OpenClaim := { program := "ythplelglifnhoaa", sum := "dc16384668de451dbcd1346863e41e5b06c8108eb5a86edb71d00ea5e6a490f6", func := "headrace/headracelaw13.WholeMoves", spec := "wholeMoves", inPlace := ["math.Float64frombits", "math.Float64bits", "math/bits.Sub64", "math/bits.Add64"], unfollowed := true, recurses := true, apart := false }
def WholeMovesSaid : Prop := wholeMovesRow.holds Try.pinned (OpenSpec.ofChange wholeMovesSpec)

/-- ITS FALSE NEIGHBOUR: 'it returns false'. Refute it at one input. -/
def wholeMovesWrong : ChangeSpec := { name := "wholeMoves", fn := fun _ => fun
  | [d1, d2, d3] => { results := [.lit (.bool false)], args := [d1, d2, d3] }
  | _ => none }
def WholeMovesWrongFalsely : Prop := wholeMovesRow.holds Try.pinned (OpenSpec.ofChange wholeMovesWrong)

/-- 'headracelaw13.WholeMore': WHATEVER THE INPUT: true; the input reads as it did. -/
def wholeMoreSpec : ChangeSpec := { name := "wholeMore", fn := fun _ => fun
  | [d1, d2, d3] => { results := [.lit (.bool true)], args := [d1, d2, d3] }
  | _ => none }
def wholeMoreRow : OpenClaim := { program := "ythplelglifnhoaa", sum := "dc16384668de451dbcd1346863e41e5b06c8108eb5a86edb71d00ea5e6a490f6", func := "headrace/headracelaw13.WholeMore", spec := "wholeMore", inPlace := ["math.Float64frombits", "math.Float64bits", "math/bits.Sub64", "math/bits.Add64"], unfollowed := true, recurses := true, apart := false }
def WholeMoreSaid : Prop := wholeMoreRow.holds Try.pinned (OpenSpec.ofChange wholeMoreSpec)

/-- ITS FALSE NEIGHBOUR: 'it returns false'. Refute it at one input. -/
def wholeMoreWrong : ChangeSpec := { name := "wholeMore", fn := fun _ => fun
  | [d1, d2, d3] => { results := [.lit (.bool false)], args := [d1, d2, d3] }
  | _ => none }
def WholeMoreWrongFalsely : Prop := wholeMoreRow.holds Try.pinned (OpenSpec.ofChange wholeMoreWrong)

/- THE SECOND FORM. 'bulk': how many values and letters a reading holds, each counted each time it is reached (what is shared counts as often as it is met; a slice's spare places count too). A statement '..UptoSaid' is the law's where the arguments, and the package variables that the reading takes, are together of bulk at most 1048576: NARROWER than '..Said'. Prove '..Said' where nothing that the law and all that it calls make is longer than what came in: it says more and counts as full. Else prove '..UptoSaid'. A law counts once. -/
mutual
def uptoBulk {H : Type} : DataW H → Nat
  | .lit (.string bytes) => bytes.length + 1
  | .lit _ => 1
  | .nil => 1
  | .ptr d => uptoBulk d + 1
  | .slice elems spare => uptoBulkAll elems + uptoBulkAll spare + 1
  | .agg parts => uptoBulkAll parts + 1
  | .iface _ d => uptoBulk d + 1
  | .map entries => uptoBulkEntries entries + 1
  | .held _ => 1
def uptoBulkAll {H : Type} : List (DataW H) → Nat
  | [] => 0
  | d :: r => uptoBulk d + uptoBulkAll r
def uptoBulkEntries {H : Type} : List (Lit × DataW H) → Nat
  | [] => 0
  | x :: r => uptoBulkEntry x + uptoBulkEntries r
def uptoBulkEntry {H : Type} : Lit × DataW H → Nat
  | (.string bytes, d) => bytes.length + uptoBulk d + 1
  | (_, d) => uptoBulk d + 1
 end
def uptoSmall : (H : Type) → List (DataW H) → Bool := fun _ ds => decide (uptoBulkAll ds ≤ 1048576)
def OpenSpec.upto (s : _root_.Go.ChangeSpec) : _root_.Go.OpenSpec := { _root_.Go.OpenSpec.ofChange s with cond := some uptoSmall }

/-- 'headracelaw13.WholeCounts', WHERE WHAT IT READS IS OF BULK AT MOST 1048576: true; the input reads as it did. -/
def wholeCountsUptoRow : OpenClaim := { program := "ythplelglifnhoaa", sum := "dc16384668de451dbcd1346863e41e5b06c8108eb5a86edb71d00ea5e6a490f6", func := "headrace/headracelaw13.WholeCounts", spec := "wholeCounts", inPlace := ["math.Float64frombits", "math.Float64bits", "math/bits.Sub64", "math/bits.Add64"], unfollowed := true, recurses := true, apart := false, narrowed := true }
def WholeCountsUptoSaid : Prop := wholeCountsUptoRow.holds Try.pinned (OpenSpec.upto wholeCountsSpec)

/-- 'headracelaw13.WholeFar', WHERE WHAT IT READS IS OF BULK AT MOST 1048576: true; the input reads as it did. -/
def wholeFarUptoRow : OpenClaim := { program := "ythplelglifnhoaa", sum := "dc16384668de451dbcd1346863e41e5b06c8108eb5a86edb71d00ea5e6a490f6", func := "headrace/headracelaw13.WholeFar", spec := "wholeFar", inPlace := ["math.Float64frombits", "math.Float64bits", "math/bits.Sub64", "math/bits.Add64"], unfollowed := true, recurses := true, apart := false, narrowed := true }
def WholeFarUptoSaid : Prop := wholeFarUptoRow.holds Try.pinned (OpenSpec.upto wholeFarSpec)

/-- 'headracelaw13.WholePanes', WHERE WHAT IT READS IS OF BULK AT MOST 1048576: true; the input reads as it did. -/
def wholePanesUptoRow : OpenClaim := { program := "ythplelglifnhoaa", sum := "dc16384668de451dbcd1346863e41e5b06c8108eb5a86edb71d00ea5e6a490f6", func := "headrace/headracelaw13.WholePanes", spec := "wholePanes", inPlace := ["math.Float64frombits", "math.Float64bits", "math/bits.Sub64", "math/bits.Add64"], unfollowed := true, recurses := true, apart := false, narrowed := true }
def WholePanesUptoSaid : Prop := wholePanesUptoRow.holds Try.pinned (OpenSpec.upto wholePanesSpec)

/-- 'headracelaw13.WholeOrder', WHERE WHAT IT READS IS OF BULK AT MOST 1048576: true; the input reads as it did. -/
def wholeOrderUptoRow : OpenClaim := { program := "ythplelglifnhoaa", sum := "dc16384668de451dbcd1346863e41e5b06c8108eb5a86edb71d00ea5e6a490f6", func := "headrace/headracelaw13.WholeOrder", spec := "wholeOrder", inPlace := ["math.Float64frombits", "math.Float64bits", "math/bits.Sub64", "math/bits.Add64"], unfollowed := true, recurses := true, apart := false, narrowed := true }
def WholeOrderUptoSaid : Prop := wholeOrderUptoRow.holds Try.pinned (OpenSpec.upto wholeOrderSpec)

/-- 'headracelaw13.WholeApart', WHERE WHAT IT READS IS OF BULK AT MOST 1048576: true; the input reads as it did. -/
def wholeApartUptoRow : OpenClaim := { program := "ythplelglifnhoaa", sum := "dc16384668de451dbcd1346863e41e5b06c8108eb5a86edb71d00ea5e6a490f6", func := "headrace/headracelaw13.WholeApart", spec := "wholeApart", inPlace := ["math.Float64frombits", "math.Float64bits", "math/bits.Sub64", "math/bits.Add64"], unfollowed := true, recurses := true, apart := false, narrowed := true }
def WholeApartUptoSaid : Prop := wholeApartUptoRow.holds Try.pinned (OpenSpec.upto wholeApartSpec)

/-- 'headracelaw13.WholeSessions', WHERE WHAT IT READS IS OF BULK AT MOST 1048576: true; the input reads as it did. -/
def wholeSessionsUptoRow : OpenClaim := { program := "ythplelglifnhoaa", sum := "dc16384668de451dbcd1346863e41e5b06c8108eb5a86edb71d00ea5e6a490f6", func := "headrace/headracelaw13.WholeSessions", spec := "wholeSessions", inPlace := ["math.Float64frombits", "math.Float64bits", "math/bits.Sub64", "math/bits.Add64"], unfollowed := true, recurses := true, apart := false, narrowed := true }
def WholeSessionsUptoSaid : Prop := wholeSessionsUptoRow.holds Try.pinned (OpenSpec.upto wholeSessionsSpec)

/-- 'headracelaw13.WholeOrders', WHERE WHAT IT READS IS OF BULK AT MOST 1048576: true; the input reads as it did. -/
def wholeOrdersUptoRow : OpenClaim := { program := "ythplelglifnhoaa", sum := "dc16384668de451dbcd1346863e41e5b06c8108eb5a86edb71d00ea5e6a490f6", func := "headrace/headracelaw13.WholeOrders", spec := "wholeOrders", inPlace := ["math.Float64frombits", "math.Float64bits", "math/bits.Sub64", "math/bits.Add64"], unfollowed := true, recurses := true, apart := false, narrowed := true }
def WholeOrdersUptoSaid : Prop := wholeOrdersUptoRow.holds Try.pinned (OpenSpec.upto wholeOrdersSpec)

/-- 'headracelaw13.WholeMoves', WHERE WHAT IT READS IS OF BULK AT MOST 1048576: true; the input reads as it did. -/
def wholeMovesUptoRow : OpenClaim := { program := "ythplelglifnhoaa", sum := "dc16384668de451dbcd1346863e41e5b06c8108eb5a86edb71d00ea5e6a490f6", func := "headrace/headracelaw13.WholeMoves", spec := "wholeMoves", inPlace := ["math.Float64frombits", "math.Float64bits", "math/bits.Sub64", "math/bits.Add64"], unfollowed := true, recurses := true, apart := false, narrowed := true }
def WholeMovesUptoSaid : Prop := wholeMovesUptoRow.holds Try.pinned (OpenSpec.upto wholeMovesSpec)

/-- 'headracelaw13.WholeMore', WHERE WHAT IT READS IS OF BULK AT MOST 1048576: true; the input reads as it did. -/
def wholeMoreUptoRow : OpenClaim := { program := "ythplelglifnhoaa", sum := "dc16384668de451dbcd1346863e41e5b06c8108eb5a86edb71d00ea5e6a490f6", func := "headrace/headracelaw13.WholeMore", spec := "wholeMore", inPlace := ["math.Float64frombits", "math.Float64bits", "math/bits.Sub64", "math/bits.Add64"], unfollowed := true, recurses := true, apart := false, narrowed := true }
def WholeMoreUptoSaid : Prop := wholeMoreUptoRow.holds Try.pinned (OpenSpec.upto wholeMoreSpec)

end Rows
end Go.Proofs.Ythplelglifnhoaa
