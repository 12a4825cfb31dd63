/-
  No cell of these rows narrows 'for every input' (looked for: loops, veiled, ifaces, maps, wideKeys, modest, calm, conditions, laid).
  DERIVED. THE GIVEN ROWS OF THIS SEAT. 7 by the template 'for every input the law returns true; each argument reads behind the call as it read before'; 0 by the template 'total and deterministic' (their statements: YtpdgmnkibfkhmaaTotals.lean).
  GIVEN WITH THE SEED: the statements are not yours to turn. If you find one false, say at which input.
  Laid BY PROGRAM, IN A SANDBOX (cutbox-rows.mjs): the forced cells as the released guide's own fill.sh prints them over the translation b83eb1a81f1d3f72… (all of the seat's roots in one cut). By AI agents, Wed Nov 11 2026. No macro, syntax, notation, axiom, sorry.
-/
import Derived.Test.YtpdgmnkibfkhmaaChecked
import GoSem.Claim
import GoSem.ClaimJoined
import GoSem.ClaimMapViews
import Derived.JoinedTies
import Derived.KernelRfl
namespace Go.Proofs.Ytpdgmnkibfkhmaa
/- THE CELL 'sum', in the pinned program and in every row, IS THE sha256 OF THE DUMP (.gsa) THAT YtpdgmnkibfkhmaaProg.lean LOADS. Nothing in Lean hashes anything: it is a label: what it is worth is what the hold of that sum in a sandbox is worth. -/
noncomputable def Try.pinned : Pinned := { name := "ytpdgmnkibfkhmaa", sum := "b83eb1a81f1d3f72cf34beeb6ec702f90de09dc850c7d8df60816366e22eae74", checked := Try.checked }
namespace Rows
def none {H : Type} : Left H := { results := [], args := [] }

/-- 'headracelaw01.RealBits': WHATEVER THE INPUT: true; the input reads as it did. -/
def realBitsSpec : ChangeSpec := { name := "realBits", fn := fun _ => fun
  | [d] => { results := [.lit (.bool true)], args := [d] }
  | _ => none }
def realBitsRow : OpenClaim := { program := "ytpdgmnkibfkhmaa", sum := "b83eb1a81f1d3f72cf34beeb6ec702f90de09dc850c7d8df60816366e22eae74", func := "headrace/headracelaw01.RealBits", spec := "realBits", inPlace := ["math.Float64frombits", "math.Float64bits"], apart := false }
def RealBitsSaid : Prop := realBitsRow.holds Try.pinned (OpenSpec.ofChange realBitsSpec)

/-- ITS FALSE NEIGHBOUR: 'it returns false'. Refute it at one input. -/
def realBitsWrong : ChangeSpec := { name := "realBits", fn := fun _ => fun
  | [d] => { results := [.lit (.bool false)], args := [d] }
  | _ => none }
def RealBitsWrongFalsely : Prop := realBitsRow.holds Try.pinned (OpenSpec.ofChange realBitsWrong)

/-- 'headracelaw01.RealOrder': WHATEVER THE INPUT: true; the input reads as it did. -/
def realOrderSpec : ChangeSpec := { name := "realOrder", fn := fun _ => fun
  | [d1, d2] => { results := [.lit (.bool true)], args := [d1, d2] }
  | _ => none }
def realOrderRow : OpenClaim := { program := "ytpdgmnkibfkhmaa", sum := "b83eb1a81f1d3f72cf34beeb6ec702f90de09dc850c7d8df60816366e22eae74", func := "headrace/headracelaw01.RealOrder", spec := "realOrder", inPlace := ["math.Float64frombits", "math.Float64bits"], apart := false }
def RealOrderSaid : Prop := realOrderRow.holds Try.pinned (OpenSpec.ofChange realOrderSpec)

/-- ITS FALSE NEIGHBOUR: 'it returns false'. Refute it at one input. -/
def realOrderWrong : ChangeSpec := { name := "realOrder", fn := fun _ => fun
  | [d1, d2] => { results := [.lit (.bool false)], args := [d1, d2] }
  | _ => none }
def RealOrderWrongFalsely : Prop := realOrderRow.holds Try.pinned (OpenSpec.ofChange realOrderWrong)

/-- 'headracelaw01.RealNumbers': WHATEVER THE INPUT: true; the input reads as it did. -/
def realNumbersSpec : ChangeSpec := { name := "realNumbers", fn := fun _ => fun
  | [d1, d2] => { results := [.lit (.bool true)], args := [d1, d2] }
  | _ => none }
def realNumbersRow : OpenClaim := { program := "ytpdgmnkibfkhmaa", sum := "b83eb1a81f1d3f72cf34beeb6ec702f90de09dc850c7d8df60816366e22eae74", func := "headrace/headracelaw01.RealNumbers", spec := "realNumbers", inPlace := ["math.Float64frombits", "math.Float64bits"], apart := false }
def RealNumbersSaid : Prop := realNumbersRow.holds Try.pinned (OpenSpec.ofChange realNumbersSpec)

/-- ITS FALSE NEIGHBOUR: 'it returns false'. Refute it at one input. -/
def realNumbersWrong : ChangeSpec := { name := "realNumbers", fn := fun _ => fun
  | [d1, d2] => { results := [.lit (.bool false)], args := [d1, d2] }
  | _ => none }
def RealNumbersWrongFalsely : Prop := realNumbersRow.holds Try.pinned (OpenSpec.ofChange realNumbersWrong)

/-- 'headracelaw01.RealThree': WHATEVER THE INPUT: true; the input reads as it did. -/
def realThreeSpec : ChangeSpec := { name := "realThree", fn := fun _ => fun
  | [d1, d2, d3] => { results := [.lit (.bool true)], args := [d1, d2, d3] }
  | _ => none }
def realThreeRow : OpenClaim := { program := "ytpdgmnkibfkhmaa", sum := "b83eb1a81f1d3f72cf34beeb6ec702f90de09dc850c7d8df60816366e22eae74", func := "headrace/headracelaw01.RealThree", spec := "realThree", inPlace := ["math.Float64frombits", "math.Float64bits"], apart := false }
def RealThreeSaid : Prop := realThreeRow.holds Try.pinned (OpenSpec.ofChange realThreeSpec)

/-- ITS FALSE NEIGHBOUR: 'it returns false'. Refute it at one input. -/
def realThreeWrong : ChangeSpec := { name := "realThree", fn := fun _ => fun
  | [d1, d2, d3] => { results := [.lit (.bool false)], args := [d1, d2, d3] }
  | _ => none }
def RealThreeWrongFalsely : Prop := realThreeRow.holds Try.pinned (OpenSpec.ofChange realThreeWrong)

/-- 'headracelaw01.RealEnds': WHATEVER THE INPUT: true; the input reads as it did. -/
def realEndsSpec : ChangeSpec := { name := "realEnds", fn := fun _ => fun
  | [d1, d2] => { results := [.lit (.bool true)], args := [d1, d2] }
  | _ => none }
def realEndsRow : OpenClaim := { program := "ytpdgmnkibfkhmaa", sum := "b83eb1a81f1d3f72cf34beeb6ec702f90de09dc850c7d8df60816366e22eae74", func := "headrace/headracelaw01.RealEnds", spec := "realEnds", inPlace := ["math.Float64frombits", "math.Float64bits"], apart := false }
def RealEndsSaid : Prop := realEndsRow.holds Try.pinned (OpenSpec.ofChange realEndsSpec)

/-- ITS FALSE NEIGHBOUR: 'it returns false'. Refute it at one input. -/
def realEndsWrong : ChangeSpec := { name := "realEnds", fn := fun _ => fun
  | [d1, d2] => { results := [.lit (.bool false)], args := [d1, d2] }
  | _ => none }
def RealEndsWrongFalsely : Prop := realEndsRow.holds Try.pinned (OpenSpec.ofChange realEndsWrong)

/-- 'headracelaw01.RealNext': WHATEVER THE INPUT: true; the input reads as it did. -/
def realNextSpec : ChangeSpec := { name := "realNext", fn := fun _ => fun
  | [d] => { results := [.lit (.bool true)], args := [d] }
  | _ => none }
def realNextRow : OpenClaim := { program := "ytpdgmnkibfkhmaa", sum := "b83eb1a81f1d3f72cf34beeb6ec702f90de09dc850c7d8df60816366e22eae74", func := "headrace/headracelaw01.RealNext", spec := "realNext", inPlace := ["math.Float64frombits", "math.Float64bits"], apart := false }
def RealNextSaid : Prop := realNextRow.holds Try.pinned (OpenSpec.ofChange realNextSpec)

/-- ITS FALSE NEIGHBOUR: 'it returns false'. Refute it at one input. -/
def realNextWrong : ChangeSpec := { name := "realNext", fn := fun _ => fun
  | [d] => { results := [.lit (.bool false)], args := [d] }
  | _ => none }
def RealNextWrongFalsely : Prop := realNextRow.holds Try.pinned (OpenSpec.ofChange realNextWrong)

/-- 'headracelaw01.RealSplits': WHATEVER THE INPUT: true; the input reads as it did. -/
def realSplitsSpec : ChangeSpec := { name := "realSplits", fn := fun _ => fun
  | [d] => { results := [.lit (.bool true)], args := [d] }
  | _ => none }
def realSplitsRow : OpenClaim := { program := "ytpdgmnkibfkhmaa", sum := "b83eb1a81f1d3f72cf34beeb6ec702f90de09dc850c7d8df60816366e22eae74", func := "headrace/headracelaw01.RealSplits", spec := "realSplits", inPlace := ["math.Float64frombits", "math.Float64bits"], apart := false }
def RealSplitsSaid : Prop := realSplitsRow.holds Try.pinned (OpenSpec.ofChange realSplitsSpec)

/-- ITS FALSE NEIGHBOUR: 'it returns false'. Refute it at one input. -/
def realSplitsWrong : ChangeSpec := { name := "realSplits", fn := fun _ => fun
  | [d] => { results := [.lit (.bool false)], args := [d] }
  | _ => none }
def RealSplitsWrongFalsely : Prop := realSplitsRow.holds Try.pinned (OpenSpec.ofChange realSplitsWrong)

/- THE SECOND FORM. 'bulk': how many values and letters a reading holds, each counted each time it is reached (what is shared counts as often as it is met; a slice's spare places count too). A statement '..UptoSaid' is the law's where the arguments, and the package variables that the reading takes, are together of bulk at most 1048576: NARROWER than '..Said'. Prove '..Said' where nothing that the law and all that it calls make is longer than what came in: it says more and counts as full. Else prove '..UptoSaid'. A law counts once. -/
mutual
def uptoBulk {H : Type} : DataW H → Nat
  | .lit (.string bytes) => bytes.length + 1
  | .lit _ => 1
  | .nil => 1
  | .ptr d => uptoBulk d + 1
  | .slice elems spare => uptoBulkAll elems + uptoBulkAll spare + 1
  | .agg parts => uptoBulkAll parts + 1
  | .iface _ d => uptoBulk d + 1
  | .map entries => uptoBulkEntries entries + 1
  | .held _ => 1
def uptoBulkAll {H : Type} : List (DataW H) → Nat
  | [] => 0
  | d :: r => uptoBulk d + uptoBulkAll r
def uptoBulkEntries {H : Type} : List (Lit × DataW H) → Nat
  | [] => 0
  | x :: r => uptoBulkEntry x + uptoBulkEntries r
def uptoBulkEntry {H : Type} : Lit × DataW H → Nat
  | (.string bytes, d) => bytes.length + uptoBulk d + 1
  | (_, d) => uptoBulk d + 1
 end
def uptoSmall : (H : Type) → List (DataW H) → Bool := fun _ ds => decide (uptoBulkAll ds ≤ 1048576)
def OpenSpec.upto (s : _root_.Go.ChangeSpec) : _root_.Go.OpenSpec := { _root_.Go.OpenSpec.ofChange s with cond := some uptoSmall }

/-- 'headracelaw01.RealBits', WHERE WHAT IT READS IS OF BULK AT MOST 1048576: true; the input reads as it did. -/
def realBitsUptoRow : OpenClaim := { program := "ytpdgmnkibfkhmaa", sum := "b83eb1a81f1d3f72cf34beeb6ec702f90de09dc850c7d8df60816366e22eae74", func := "headrace/headracelaw01.RealBits", spec := "realBits", inPlace := ["math.Float64frombits", "math.Float64bits"], apart := false, narrowed := true }
def RealBitsUptoSaid : Prop := realBitsUptoRow.holds Try.pinned (OpenSpec.upto realBitsSpec)

/-- 'headracelaw01.RealOrder', WHERE WHAT IT READS IS OF BULK AT MOST 1048576: true; the input reads as it did. -/
def realOrderUptoRow : OpenClaim := { program := "ytpdgmnkibfkhmaa", sum := "b83eb1a81f1d3f72cf34beeb6ec702f90de09dc850c7d8df60816366e22eae74", func := "headrace/headracelaw01.RealOrder", spec := "realOrder", inPlace := ["math.Float64frombits", "math.Float64bits"], apart := false, narrowed := true }
def RealOrderUptoSaid : Prop := realOrderUptoRow.holds Try.pinned (OpenSpec.upto realOrderSpec)

/-- 'headracelaw01.RealNumbers', WHERE WHAT IT READS IS OF BULK AT MOST 1048576: true; the input reads as it did. -/
def realNumbersUptoRow : OpenClaim := { program := "ytpdgmnkibfkhmaa", sum := "b83eb1a81f1d3f72cf34beeb6ec702f90de09dc850c7d8df60816366e22eae74", func := "headrace/headracelaw01.RealNumbers", spec := "realNumbers", inPlace := ["math.Float64frombits", "math.Float64bits"], apart := false, narrowed := true }
def RealNumbersUptoSaid : Prop := realNumbersUptoRow.holds Try.pinned (OpenSpec.upto realNumbersSpec)

/-- 'headracelaw01.RealThree', WHERE WHAT IT READS IS OF BULK AT MOST 1048576: true; the input reads as it did. -/
def realThreeUptoRow : OpenClaim := { program := "ytpdgmnkibfkhmaa", sum := "b83eb1a81f1d3f72cf34beeb6ec702f90de09dc850c7d8df60816366e22eae74", func := "headrace/headracelaw01.RealThree", spec := "realThree", inPlace := ["math.Float64frombits", "math.Float64bits"], apart := false, narrowed := true }
def RealThreeUptoSaid : Prop := realThreeUptoRow.holds Try.pinned (OpenSpec.upto realThreeSpec)

/-- 'headracelaw01.RealEnds', WHERE WHAT IT READS IS OF BULK AT MOST 1048576: true; the input reads as it did. -/
def realEndsUptoRow : OpenClaim := { program := "ytpdgmnkibfkhmaa", sum := "b83eb1a81f1d3f72cf34beeb6ec702f90de09dc850c7d8df60816366e22eae74", func := "headrace/headracelaw01.RealEnds", spec := "realEnds", inPlace := ["math.Float64frombits", "math.Float64bits"], apart := false, narrowed := true }
def RealEndsUptoSaid : Prop := realEndsUptoRow.holds Try.pinned (OpenSpec.upto realEndsSpec)

/-- 'headracelaw01.RealNext', WHERE WHAT IT READS IS OF BULK AT MOST 1048576: true; the input reads as it did. -/
def realNextUptoRow : OpenClaim := { program := "ytpdgmnkibfkhmaa", sum := "b83eb1a81f1d3f72cf34beeb6ec702f90de09dc850c7d8df60816366e22eae74", func := "headrace/headracelaw01.RealNext", spec := "realNext", inPlace := ["math.Float64frombits", "math.Float64bits"], apart := false, narrowed := true }
def RealNextUptoSaid : Prop := realNextUptoRow.holds Try.pinned (OpenSpec.upto realNextSpec)

/-- 'headracelaw01.RealSplits', WHERE WHAT IT READS IS OF BULK AT MOST 1048576: true; the input reads as it did. -/
def realSplitsUptoRow : OpenClaim := { program := "ytpdgmnkibfkhmaa", sum := "b83eb1a81f1d3f72cf34beeb6ec702f90de09dc850c7d8df60816366e22eae74", func := "headrace/headracelaw01.RealSplits", spec := "realSplits", inPlace := ["math.Float64frombits", "math.Float64bits"], apart := false, narrowed := true }
def RealSplitsUptoSaid : Prop := realSplitsUptoRow.holds Try.pinned (OpenSpec.upto realSplitsSpec)

end Rows
end Go.Proofs.Ytpdgmnkibfkhmaa
