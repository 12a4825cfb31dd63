/-
  No cell of these rows narrows 'for every input' (looked for: loops, veiled, ifaces, maps, wideKeys, modest, calm, conditions, laid).
  DERIVED. THE GIVEN ROWS OF THIS SEAT. 10 by the template 'for every input the law returns true; each argument reads behind the call as it read before'; 0 by the template 'total and deterministic' (their statements: YtejkilgpcbdepaaTotals.lean).
  GIVEN WITH THE SEED: the statements are not yours to turn. If you find one false, say at which input.
  Laid BY PROGRAM, IN A SANDBOX (cutbox-rows.mjs): the forced cells as the released guide's own fill.sh prints them over the translation 2fc5b6fa06f1d145… (all of the seat's roots in one cut). By AI agents, Wed Nov 11 2026. No macro, syntax, notation, axiom, sorry.
-/
import Derived.Test.YtejkilgpcbdepaaChecked
import GoSem.Claim
import GoSem.ClaimJoined
import GoSem.ClaimMapViews
import Derived.JoinedTies
import Derived.KernelRfl
namespace Go.Proofs.Ytejkilgpcbdepaa
/- THE CELL 'sum', in the pinned program and in every row, IS THE sha256 OF THE DUMP (.gsa) THAT YtejkilgpcbdepaaProg.lean LOADS. Nothing in Lean hashes anything: it is a label: what it is worth is what the hold of that sum in a sandbox is worth. -/
noncomputable def Try.pinned : Pinned := { name := "ytejkilgpcbdepaa", sum := "2fc5b6fa06f1d1456804e87cd7470c7a4bb835fa7b7e637ce8e8f03a18e60a02", checked := Try.checked }
namespace Rows
def none {H : Type} : Left H := { results := [], args := [] }

/-- 'headracelaw02.ExactTwo': WHATEVER THE INPUT: true; the input reads as it did. -/
def exactTwoSpec : ChangeSpec := { name := "exactTwo", fn := fun _ => fun
  | [d1, d2] => { results := [.lit (.bool true)], args := [d1, d2] }
  | _ => none }
def exactTwoRow : OpenClaim := { program := "ytejkilgpcbdepaa", sum := "2fc5b6fa06f1d1456804e87cd7470c7a4bb835fa7b7e637ce8e8f03a18e60a02", func := "headrace/headracelaw02.ExactTwo", spec := "exactTwo", inPlace := ["math.Float64frombits", "math.Float64bits", "math/bits.Sub64", "math/bits.Add64"], apart := false }
def ExactTwoSaid : Prop := exactTwoRow.holds Try.pinned (OpenSpec.ofChange exactTwoSpec)

/-- ITS FALSE NEIGHBOUR: 'it returns false'. Refute it at one input. -/
def exactTwoWrong : ChangeSpec := { name := "exactTwo", fn := fun _ => fun
  | [d1, d2] => { results := [.lit (.bool false)], args := [d1, d2] }
  | _ => none }
def ExactTwoWrongFalsely : Prop := exactTwoRow.holds Try.pinned (OpenSpec.ofChange exactTwoWrong)

/-- 'headracelaw02.ExactEnds': WHATEVER THE INPUT: true; the input reads as it did. -/
def exactEndsSpec : ChangeSpec := { name := "exactEnds", fn := fun _ => fun
  | [d1, d2] => { results := [.lit (.bool true)], args := [d1, d2] }
  | _ => none }
def exactEndsRow : OpenClaim := { program := "ytejkilgpcbdepaa", sum := "2fc5b6fa06f1d1456804e87cd7470c7a4bb835fa7b7e637ce8e8f03a18e60a02", func := "headrace/headracelaw02.ExactEnds", spec := "exactEnds", inPlace := ["math.Float64frombits", "math.Float64bits", "math/bits.Sub64", "math/bits.Add64"], apart := false }
def ExactEndsSaid : Prop := exactEndsRow.holds Try.pinned (OpenSpec.ofChange exactEndsSpec)

/-- ITS FALSE NEIGHBOUR: 'it returns false'. Refute it at one input. -/
def exactEndsWrong : ChangeSpec := { name := "exactEnds", fn := fun _ => fun
  | [d1, d2] => { results := [.lit (.bool false)], args := [d1, d2] }
  | _ => none }
def ExactEndsWrongFalsely : Prop := exactEndsRow.holds Try.pinned (OpenSpec.ofChange exactEndsWrong)

/-- 'headracelaw02.ExactMany': WHATEVER THE INPUT: true; the input reads as it did. -/
def exactManySpec : ChangeSpec := { name := "exactMany", fn := fun _ => fun
  | [d1, d2] => { results := [.lit (.bool true)], args := [d1, d2] }
  | _ => none }
def exactManyRow : OpenClaim := { program := "ytejkilgpcbdepaa", sum := "2fc5b6fa06f1d1456804e87cd7470c7a4bb835fa7b7e637ce8e8f03a18e60a02", func := "headrace/headracelaw02.ExactMany", spec := "exactMany", inPlace := ["math.Float64frombits", "math.Float64bits", "math/bits.Sub64", "math/bits.Add64"], apart := false }
def ExactManySaid : Prop := exactManyRow.holds Try.pinned (OpenSpec.ofChange exactManySpec)

/-- ITS FALSE NEIGHBOUR: 'it returns false'. Refute it at one input. -/
def exactManyWrong : ChangeSpec := { name := "exactMany", fn := fun _ => fun
  | [d1, d2] => { results := [.lit (.bool false)], args := [d1, d2] }
  | _ => none }
def ExactManyWrongFalsely : Prop := exactManyRow.holds Try.pinned (OpenSpec.ofChange exactManyWrong)

/-- 'headracelaw02.ExactCancels': WHATEVER THE INPUT: true; the input reads as it did. -/
def exactCancelsSpec : ChangeSpec := { name := "exactCancels", fn := fun _ => fun
  | [d1, d2] => { results := [.lit (.bool true)], args := [d1, d2] }
  | _ => none }
def exactCancelsRow : OpenClaim := { program := "ytejkilgpcbdepaa", sum := "2fc5b6fa06f1d1456804e87cd7470c7a4bb835fa7b7e637ce8e8f03a18e60a02", func := "headrace/headracelaw02.ExactCancels", spec := "exactCancels", inPlace := ["math.Float64frombits", "math.Float64bits", "math/bits.Sub64", "math/bits.Add64"], apart := false }
def ExactCancelsSaid : Prop := exactCancelsRow.holds Try.pinned (OpenSpec.ofChange exactCancelsSpec)

/-- ITS FALSE NEIGHBOUR: 'it returns false'. Refute it at one input. -/
def exactCancelsWrong : ChangeSpec := { name := "exactCancels", fn := fun _ => fun
  | [d1, d2] => { results := [.lit (.bool false)], args := [d1, d2] }
  | _ => none }
def ExactCancelsWrongFalsely : Prop := exactCancelsRow.holds Try.pinned (OpenSpec.ofChange exactCancelsWrong)

/-- 'headracelaw02.ExactZeros': WHATEVER THE INPUT: true; the input reads as it did. -/
def exactZerosSpec : ChangeSpec := { name := "exactZeros", fn := fun _ => fun
  | [d1, d2] => { results := [.lit (.bool true)], args := [d1, d2] }
  | _ => none }
def exactZerosRow : OpenClaim := { program := "ytejkilgpcbdepaa", sum := "2fc5b6fa06f1d1456804e87cd7470c7a4bb835fa7b7e637ce8e8f03a18e60a02", func := "headrace/headracelaw02.ExactZeros", spec := "exactZeros", inPlace := ["math.Float64frombits", "math.Float64bits", "math/bits.Sub64", "math/bits.Add64"], apart := false }
def ExactZerosSaid : Prop := exactZerosRow.holds Try.pinned (OpenSpec.ofChange exactZerosSpec)

/-- ITS FALSE NEIGHBOUR: 'it returns false'. Refute it at one input. -/
def exactZerosWrong : ChangeSpec := { name := "exactZeros", fn := fun _ => fun
  | [d1, d2] => { results := [.lit (.bool false)], args := [d1, d2] }
  | _ => none }
def ExactZerosWrongFalsely : Prop := exactZerosRow.holds Try.pinned (OpenSpec.ofChange exactZerosWrong)

/-- 'headracelaw02.ExactNear': WHATEVER THE INPUT: true; the input reads as it did. -/
def exactNearSpec : ChangeSpec := { name := "exactNear", fn := fun _ => fun
  | [d] => { results := [.lit (.bool true)], args := [d] }
  | _ => none }
def exactNearRow : OpenClaim := { program := "ytejkilgpcbdepaa", sum := "2fc5b6fa06f1d1456804e87cd7470c7a4bb835fa7b7e637ce8e8f03a18e60a02", func := "headrace/headracelaw02.ExactNear", spec := "exactNear", inPlace := ["math.Float64frombits", "math.Float64bits", "math/bits.Sub64", "math/bits.Add64"], apart := false }
def ExactNearSaid : Prop := exactNearRow.holds Try.pinned (OpenSpec.ofChange exactNearSpec)

/-- ITS FALSE NEIGHBOUR: 'it returns false'. Refute it at one input. -/
def exactNearWrong : ChangeSpec := { name := "exactNear", fn := fun _ => fun
  | [d] => { results := [.lit (.bool false)], args := [d] }
  | _ => none }
def ExactNearWrongFalsely : Prop := exactNearRow.holds Try.pinned (OpenSpec.ofChange exactNearWrong)

/-- 'headracelaw02.ExactValues': WHATEVER THE INPUT: true; the input reads as it did. -/
def exactValuesSpec : ChangeSpec := { name := "exactValues", fn := fun _ => fun
  | [d] => { results := [.lit (.bool true)], args := [d] }
  | _ => none }
def exactValuesRow : OpenClaim := { program := "ytejkilgpcbdepaa", sum := "2fc5b6fa06f1d1456804e87cd7470c7a4bb835fa7b7e637ce8e8f03a18e60a02", func := "headrace/headracelaw02.ExactValues", spec := "exactValues", inPlace := ["math.Float64frombits", "math.Float64bits", "math/bits.Sub64", "math/bits.Add64"], apart := false }
def ExactValuesSaid : Prop := exactValuesRow.holds Try.pinned (OpenSpec.ofChange exactValuesSpec)

/-- ITS FALSE NEIGHBOUR: 'it returns false'. Refute it at one input. -/
def exactValuesWrong : ChangeSpec := { name := "exactValues", fn := fun _ => fun
  | [d] => { results := [.lit (.bool false)], args := [d] }
  | _ => none }
def ExactValuesWrongFalsely : Prop := exactValuesRow.holds Try.pinned (OpenSpec.ofChange exactValuesWrong)

/-- 'headracelaw02.ExactOrder': WHATEVER THE INPUT: true; the input reads as it did. -/
def exactOrderSpec : ChangeSpec := { name := "exactOrder", fn := fun _ => fun
  | [d1, d2, d3] => { results := [.lit (.bool true)], args := [d1, d2, d3] }
  | _ => none }
def exactOrderRow : OpenClaim := { program := "ytejkilgpcbdepaa", sum := "2fc5b6fa06f1d1456804e87cd7470c7a4bb835fa7b7e637ce8e8f03a18e60a02", func := "headrace/headracelaw02.ExactOrder", spec := "exactOrder", inPlace := ["math.Float64frombits", "math.Float64bits", "math/bits.Sub64", "math/bits.Add64"], apart := false }
def ExactOrderSaid : Prop := exactOrderRow.holds Try.pinned (OpenSpec.ofChange exactOrderSpec)

/-- ITS FALSE NEIGHBOUR: 'it returns false'. Refute it at one input. -/
def exactOrderWrong : ChangeSpec := { name := "exactOrder", fn := fun _ => fun
  | [d1, d2, d3] => { results := [.lit (.bool false)], args := [d1, d2, d3] }
  | _ => none }
def ExactOrderWrongFalsely : Prop := exactOrderRow.holds Try.pinned (OpenSpec.ofChange exactOrderWrong)

/-- 'headracelaw02.ExactBack': WHATEVER THE INPUT: true; the input reads as it did. -/
def exactBackSpec : ChangeSpec := { name := "exactBack", fn := fun _ => fun
  | [d1, d2] => { results := [.lit (.bool true)], args := [d1, d2] }
  | _ => none }
def exactBackRow : OpenClaim := { program := "ytejkilgpcbdepaa", sum := "2fc5b6fa06f1d1456804e87cd7470c7a4bb835fa7b7e637ce8e8f03a18e60a02", func := "headrace/headracelaw02.ExactBack", spec := "exactBack", inPlace := ["math.Float64frombits", "math.Float64bits", "math/bits.Sub64", "math/bits.Add64"], apart := false }
def ExactBackSaid : Prop := exactBackRow.holds Try.pinned (OpenSpec.ofChange exactBackSpec)

/-- ITS FALSE NEIGHBOUR: 'it returns false'. Refute it at one input. -/
def exactBackWrong : ChangeSpec := { name := "exactBack", fn := fun _ => fun
  | [d1, d2] => { results := [.lit (.bool false)], args := [d1, d2] }
  | _ => none }
def ExactBackWrongFalsely : Prop := exactBackRow.holds Try.pinned (OpenSpec.ofChange exactBackWrong)

/-- 'headracelaw02.ExactReads': WHATEVER THE INPUT: true; the input reads as it did. -/
def exactReadsSpec : ChangeSpec := { name := "exactReads", fn := fun _ => fun
  | [d] => { results := [.lit (.bool true)], args := [d] }
  | _ => none }
def exactReadsRow : OpenClaim := { program := "ytejkilgpcbdepaa", sum := "2fc5b6fa06f1d1456804e87cd7470c7a4bb835fa7b7e637ce8e8f03a18e60a02", func := "headrace/headracelaw02.ExactReads", spec := "exactReads", inPlace := ["math.Float64frombits", "math.Float64bits", "math/bits.Sub64", "math/bits.Add64"], apart := false }
def ExactReadsSaid : Prop := exactReadsRow.holds Try.pinned (OpenSpec.ofChange exactReadsSpec)

/-- ITS FALSE NEIGHBOUR: 'it returns false'. Refute it at one input. -/
def exactReadsWrong : ChangeSpec := { name := "exactReads", fn := fun _ => fun
  | [d] => { results := [.lit (.bool false)], args := [d] }
  | _ => none }
def ExactReadsWrongFalsely : Prop := exactReadsRow.holds Try.pinned (OpenSpec.ofChange exactReadsWrong)

/- THE SECOND FORM. 'bulk': how many values and letters a reading holds, each counted each time it is reached (what is shared counts as often as it is met; a slice's spare places count too). A statement '..UptoSaid' is the law's where the arguments, and the package variables that the reading takes, are together of bulk at most 1048576: NARROWER than '..Said'. Prove '..Said' where nothing that the law and all that it calls make is longer than what came in: it says more and counts as full. Else prove '..UptoSaid'. A law counts once. -/
mutual
def uptoBulk {H : Type} : DataW H → Nat
  | .lit (.string bytes) => bytes.length + 1
  | .lit _ => 1
  | .nil => 1
  | .ptr d => uptoBulk d + 1
  | .slice elems spare => uptoBulkAll elems + uptoBulkAll spare + 1
  | .agg parts => uptoBulkAll parts + 1
  | .iface _ d => uptoBulk d + 1
  | .map entries => uptoBulkEntries entries + 1
  | .held _ => 1
def uptoBulkAll {H : Type} : List (DataW H) → Nat
  | [] => 0
  | d :: r => uptoBulk d + uptoBulkAll r
def uptoBulkEntries {H : Type} : List (Lit × DataW H) → Nat
  | [] => 0
  | x :: r => uptoBulkEntry x + uptoBulkEntries r
def uptoBulkEntry {H : Type} : Lit × DataW H → Nat
  | (.string bytes, d) => bytes.length + uptoBulk d + 1
  | (_, d) => uptoBulk d + 1
 end
def uptoSmall : (H : Type) → List (DataW H) → Bool := fun _ ds => decide (uptoBulkAll ds ≤ 1048576)
def OpenSpec.upto (s : _root_.Go.ChangeSpec) : _root_.Go.OpenSpec := { _root_.Go.OpenSpec.ofChange s with cond := some uptoSmall }

/-- 'headracelaw02.ExactTwo', WHERE WHAT IT READS IS OF BULK AT MOST 1048576: true; the input reads as it did. -/
def exactTwoUptoRow : OpenClaim := { program := "ytejkilgpcbdepaa", sum := "2fc5b6fa06f1d1456804e87cd7470c7a4bb835fa7b7e637ce8e8f03a18e60a02", func := "headrace/headracelaw02.ExactTwo", spec := "exactTwo", inPlace := ["math.Float64frombits", "math.Float64bits", "math/bits.Sub64", "math/bits.Add64"], apart := false, narrowed := true }
def ExactTwoUptoSaid : Prop := exactTwoUptoRow.holds Try.pinned (OpenSpec.upto exactTwoSpec)

/-- 'headracelaw02.ExactEnds', WHERE WHAT IT READS IS OF BULK AT MOST 1048576: true; the input reads as it did. -/
def exactEndsUptoRow : OpenClaim := { program := "ytejkilgpcbdepaa", sum := "2fc5b6fa06f1d1456804e87cd7470c7a4bb835fa7b7e637ce8e8f03a18e60a02", func := "headrace/headracelaw02.ExactEnds", spec := "exactEnds", inPlace := ["math.Float64frombits", "math.Float64bits", "math/bits.Sub64", "math/bits.Add64"], apart := false, narrowed := true }
def ExactEndsUptoSaid : Prop := exactEndsUptoRow.holds Try.pinned (OpenSpec.upto exactEndsSpec)

/-- 'headracelaw02.ExactMany', WHERE WHAT IT READS IS OF BULK AT MOST 1048576: true; the input reads as it did. -/
def exactManyUptoRow : OpenClaim := { program := "ytejkilgpcbdepaa", sum := "2fc5b6fa06f1d1456804e87cd7470c7a4bb835fa7b7e637ce8e8f03a18e60a02", func := "headrace/headracelaw02.ExactMany", spec := "exactMany", inPlace := ["math.Float64frombits", "math.Float64bits", "math/bits.Sub64", "math/bits.Add64"], apart := false, narrowed := true }
def ExactManyUptoSaid : Prop := exactManyUptoRow.holds Try.pinned (OpenSpec.upto exactManySpec)

/-- 'headracelaw02.ExactCancels', WHERE WHAT IT READS IS OF BULK AT MOST 1048576: true; the input reads as it did. -/
def exactCancelsUptoRow : OpenClaim := { program := "ytejkilgpcbdepaa", sum := "2fc5b6fa06f1d1456804e87cd7470c7a4bb835fa7b7e637ce8e8f03a18e60a02", func := "headrace/headracelaw02.ExactCancels", spec := "exactCancels", inPlace := ["math.Float64frombits", "math.Float64bits", "math/bits.Sub64", "math/bits.Add64"], apart := false, narrowed := true }
def ExactCancelsUptoSaid : Prop := exactCancelsUptoRow.holds Try.pinned (OpenSpec.upto exactCancelsSpec)

/-- 'headracelaw02.ExactZeros', WHERE WHAT IT READS IS OF BULK AT MOST 1048576: true; the input reads as it did. -/
def exactZerosUptoRow : OpenClaim := { program := "ytejkilgpcbdepaa", sum := "2fc5b6fa06f1d1456804e87cd7470c7a4bb835fa7b7e637ce8e8f03a18e60a02", func := "headrace/headracelaw02.ExactZeros", spec := "exactZeros", inPlace := ["math.Float64frombits", "math.Float64bits", "math/bits.Sub64", "math/bits.Add64"], apart := false, narrowed := true }
def ExactZerosUptoSaid : Prop := exactZerosUptoRow.holds Try.pinned (OpenSpec.upto exactZerosSpec)

/-- 'headracelaw02.ExactNear', WHERE WHAT IT READS IS OF BULK AT MOST 1048576: true; the input reads as it did. -/
def exactNearUptoRow : OpenClaim := { program := "ytejkilgpcbdepaa", sum := "2fc5b6fa06f1d1456804e87cd7470c7a4bb835fa7b7e637ce8e8f03a18e60a02", func := "headrace/headracelaw02.ExactNear", spec := "exactNear", inPlace := ["math.Float64frombits", "math.Float64bits", "math/bits.Sub64", "math/bits.Add64"], apart := false, narrowed := true }
def ExactNearUptoSaid : Prop := exactNearUptoRow.holds Try.pinned (OpenSpec.upto exactNearSpec)

/-- 'headracelaw02.ExactValues', WHERE WHAT IT READS IS OF BULK AT MOST 1048576: true; the input reads as it did. -/
def exactValuesUptoRow : OpenClaim := { program := "ytejkilgpcbdepaa", sum := "2fc5b6fa06f1d1456804e87cd7470c7a4bb835fa7b7e637ce8e8f03a18e60a02", func := "headrace/headracelaw02.ExactValues", spec := "exactValues", inPlace := ["math.Float64frombits", "math.Float64bits", "math/bits.Sub64", "math/bits.Add64"], apart := false, narrowed := true }
def ExactValuesUptoSaid : Prop := exactValuesUptoRow.holds Try.pinned (OpenSpec.upto exactValuesSpec)

/-- 'headracelaw02.ExactOrder', WHERE WHAT IT READS IS OF BULK AT MOST 1048576: true; the input reads as it did. -/
def exactOrderUptoRow : OpenClaim := { program := "ytejkilgpcbdepaa", sum := "2fc5b6fa06f1d1456804e87cd7470c7a4bb835fa7b7e637ce8e8f03a18e60a02", func := "headrace/headracelaw02.ExactOrder", spec := "exactOrder", inPlace := ["math.Float64frombits", "math.Float64bits", "math/bits.Sub64", "math/bits.Add64"], apart := false, narrowed := true }
def ExactOrderUptoSaid : Prop := exactOrderUptoRow.holds Try.pinned (OpenSpec.upto exactOrderSpec)

/-- 'headracelaw02.ExactBack', WHERE WHAT IT READS IS OF BULK AT MOST 1048576: true; the input reads as it did. -/
def exactBackUptoRow : OpenClaim := { program := "ytejkilgpcbdepaa", sum := "2fc5b6fa06f1d1456804e87cd7470c7a4bb835fa7b7e637ce8e8f03a18e60a02", func := "headrace/headracelaw02.ExactBack", spec := "exactBack", inPlace := ["math.Float64frombits", "math.Float64bits", "math/bits.Sub64", "math/bits.Add64"], apart := false, narrowed := true }
def ExactBackUptoSaid : Prop := exactBackUptoRow.holds Try.pinned (OpenSpec.upto exactBackSpec)

/-- 'headracelaw02.ExactReads', WHERE WHAT IT READS IS OF BULK AT MOST 1048576: true; the input reads as it did. -/
def exactReadsUptoRow : OpenClaim := { program := "ytejkilgpcbdepaa", sum := "2fc5b6fa06f1d1456804e87cd7470c7a4bb835fa7b7e637ce8e8f03a18e60a02", func := "headrace/headracelaw02.ExactReads", spec := "exactReads", inPlace := ["math.Float64frombits", "math.Float64bits", "math/bits.Sub64", "math/bits.Add64"], apart := false, narrowed := true }
def ExactReadsUptoSaid : Prop := exactReadsUptoRow.holds Try.pinned (OpenSpec.upto exactReadsSpec)

end Rows
end Go.Proofs.Ytejkilgpcbdepaa
