/-
  No cell of these rows narrows 'for every input' (looked for: loops, veiled, ifaces, maps, wideKeys, modest, calm, conditions, laid).
  DERIVED. THE GIVEN ROWS OF THIS SEAT. 7 by the template 'for every input the law returns true; each argument reads behind the call as it read before'; 0 by the template 'total and deterministic' (their statements: YtjmllggjaplldaaTotals.lean).
  GIVEN WITH THE SEED: the statements are not yours to turn. If you find one false, say at which input.
  Laid BY PROGRAM, IN A SANDBOX (cutbox-rows.mjs): the forced cells as the released guide's own fill.sh prints them over the translation 0a9adaada64ce0a3… (all of the seat's roots in one cut). By AI agents, Wed Nov 11 2026. No macro, syntax, notation, axiom, sorry.
-/
import Derived.Test.YtjmllggjaplldaaChecked
import GoSem.Claim
import GoSem.ClaimJoined
import GoSem.ClaimMapViews
import Derived.JoinedTies
import Derived.KernelRfl
namespace Go.Proofs.Ytjmllggjaplldaa
/- THE CELL 'sum', in the pinned program and in every row, IS THE sha256 OF THE DUMP (.gsa) THAT YtjmllggjaplldaaProg.lean LOADS. Nothing in Lean hashes anything: it is a label: what it is worth is what the hold of that sum in a sandbox is worth. -/
noncomputable def Try.pinned : Pinned := { name := "ytjmllggjaplldaa", sum := "0a9adaada64ce0a3468e831cb5a260952d092f3631328dfe434665db15e3b919", checked := Try.checked }
namespace Rows
def none {H : Type} : Left H := { results := [], args := [] }

/-- 'headracelaw12.AggEnds': WHATEVER THE INPUT: true; the input reads as it did. -/
def aggEndsSpec : ChangeSpec := { name := "aggEnds", fn := fun _ => fun
  | [d] => { results := [.lit (.bool true)], args := [d] }
  | _ => none }
def aggEndsRow : OpenClaim := { program := "ytjmllggjaplldaa", sum := "0a9adaada64ce0a3468e831cb5a260952d092f3631328dfe434665db15e3b919", func := "headrace/headracelaw12.AggEnds", spec := "aggEnds", inPlace := ["math.Float64frombits", "math.Float64bits", "math/bits.Sub64", "math/bits.Add64"], apart := false }
def AggEndsSaid : Prop := aggEndsRow.holds Try.pinned (OpenSpec.ofChange aggEndsSpec)

/-- ITS FALSE NEIGHBOUR: 'it returns false'. Refute it at one input. -/
def aggEndsWrong : ChangeSpec := { name := "aggEnds", fn := fun _ => fun
  | [d] => { results := [.lit (.bool false)], args := [d] }
  | _ => none }
def AggEndsWrongFalsely : Prop := aggEndsRow.holds Try.pinned (OpenSpec.ofChange aggEndsWrong)

/-- 'headracelaw12.AggValues': WHATEVER THE INPUT: true; the input reads as it did. -/
def aggValuesSpec : ChangeSpec := { name := "aggValues", fn := fun _ => fun
  | [d] => { results := [.lit (.bool true)], args := [d] }
  | _ => none }
def aggValuesRow : OpenClaim := { program := "ytjmllggjaplldaa", sum := "0a9adaada64ce0a3468e831cb5a260952d092f3631328dfe434665db15e3b919", func := "headrace/headracelaw12.AggValues", spec := "aggValues", inPlace := ["math.Float64frombits", "math.Float64bits", "math/bits.Sub64", "math/bits.Add64"], apart := false }
def AggValuesSaid : Prop := aggValuesRow.holds Try.pinned (OpenSpec.ofChange aggValuesSpec)

/-- ITS FALSE NEIGHBOUR: 'it returns false'. Refute it at one input. -/
def aggValuesWrong : ChangeSpec := { name := "aggValues", fn := fun _ => fun
  | [d] => { results := [.lit (.bool false)], args := [d] }
  | _ => none }
def AggValuesWrongFalsely : Prop := aggValuesRow.holds Try.pinned (OpenSpec.ofChange aggValuesWrong)

/-- 'headracelaw12.AggSame': WHATEVER THE INPUT: true; the input reads as it did. -/
def aggSameSpec : ChangeSpec := { name := "aggSame", fn := fun _ => fun
  | [d1, d2] => { results := [.lit (.bool true)], args := [d1, d2] }
  | _ => none }
def aggSameRow : OpenClaim := { program := "ytjmllggjaplldaa", sum := "0a9adaada64ce0a3468e831cb5a260952d092f3631328dfe434665db15e3b919", func := "headrace/headracelaw12.AggSame", spec := "aggSame", inPlace := ["math.Float64frombits", "math.Float64bits", "math/bits.Sub64", "math/bits.Add64"], apart := false }
def AggSameSaid : Prop := aggSameRow.holds Try.pinned (OpenSpec.ofChange aggSameSpec)

/-- ITS FALSE NEIGHBOUR: 'it returns false'. Refute it at one input. -/
def aggSameWrong : ChangeSpec := { name := "aggSame", fn := fun _ => fun
  | [d1, d2] => { results := [.lit (.bool false)], args := [d1, d2] }
  | _ => none }
def AggSameWrongFalsely : Prop := aggSameRow.holds Try.pinned (OpenSpec.ofChange aggSameWrong)

/-- 'headracelaw12.AggOrder': WHATEVER THE INPUT: true; the input reads as it did. -/
def aggOrderSpec : ChangeSpec := { name := "aggOrder", fn := fun _ => fun
  | [d1, d2, d3] => { results := [.lit (.bool true)], args := [d1, d2, d3] }
  | _ => none }
def aggOrderRow : OpenClaim := { program := "ytjmllggjaplldaa", sum := "0a9adaada64ce0a3468e831cb5a260952d092f3631328dfe434665db15e3b919", func := "headrace/headracelaw12.AggOrder", spec := "aggOrder", inPlace := ["math.Float64frombits", "math.Float64bits", "math/bits.Sub64", "math/bits.Add64"], apart := false }
def AggOrderSaid : Prop := aggOrderRow.holds Try.pinned (OpenSpec.ofChange aggOrderSpec)

/-- ITS FALSE NEIGHBOUR: 'it returns false'. Refute it at one input. -/
def aggOrderWrong : ChangeSpec := { name := "aggOrder", fn := fun _ => fun
  | [d1, d2, d3] => { results := [.lit (.bool false)], args := [d1, d2, d3] }
  | _ => none }
def AggOrderWrongFalsely : Prop := aggOrderRow.holds Try.pinned (OpenSpec.ofChange aggOrderWrong)

/-- 'headracelaw12.AggNone': WHATEVER THE INPUT: true; the input reads as it did. -/
def aggNoneSpec : ChangeSpec := { name := "aggNone", fn := fun _ => fun
  | [d] => { results := [.lit (.bool true)], args := [d] }
  | _ => none }
def aggNoneRow : OpenClaim := { program := "ytjmllggjaplldaa", sum := "0a9adaada64ce0a3468e831cb5a260952d092f3631328dfe434665db15e3b919", func := "headrace/headracelaw12.AggNone", spec := "aggNone", inPlace := ["math.Float64frombits", "math.Float64bits", "math/bits.Sub64", "math/bits.Add64"], recurses := true, apart := false }
def AggNoneSaid : Prop := aggNoneRow.holds Try.pinned (OpenSpec.ofChange aggNoneSpec)

/-- ITS FALSE NEIGHBOUR: 'it returns false'. Refute it at one input. -/
def aggNoneWrong : ChangeSpec := { name := "aggNone", fn := fun _ => fun
  | [d] => { results := [.lit (.bool false)], args := [d] }
  | _ => none }
def AggNoneWrongFalsely : Prop := aggNoneRow.holds Try.pinned (OpenSpec.ofChange aggNoneWrong)

/-- 'headracelaw12.AggTellings': WHATEVER THE INPUT: true; the input reads as it did. -/
def aggTellingsSpec : ChangeSpec := { name := "aggTellings", fn := fun _ => fun
  | [d1, d2] => { results := [.lit (.bool true)], args := [d1, d2] }
  | _ => none }
def aggTellingsRow : OpenClaim := { program := "ytjmllggjaplldaa", sum := "0a9adaada64ce0a3468e831cb5a260952d092f3631328dfe434665db15e3b919", func := "headrace/headracelaw12.AggTellings", spec := "aggTellings", inPlace := ["math.Float64frombits", "math.Float64bits", "math/bits.Sub64", "math/bits.Add64"], unfollowed := true, recurses := true, apart := false }
def AggTellingsSaid : Prop := aggTellingsRow.holds Try.pinned (OpenSpec.ofChange aggTellingsSpec)

/-- ITS FALSE NEIGHBOUR: 'it returns false'. Refute it at one input. -/
def aggTellingsWrong : ChangeSpec := { name := "aggTellings", fn := fun _ => fun
  | [d1, d2] => { results := [.lit (.bool false)], args := [d1, d2] }
  | _ => none }
def AggTellingsWrongFalsely : Prop := aggTellingsRow.holds Try.pinned (OpenSpec.ofChange aggTellingsWrong)

/-- 'headracelaw12.AggBack': WHATEVER THE INPUT: true; the input reads as it did. -/
def aggBackSpec : ChangeSpec := { name := "aggBack", fn := fun _ => fun
  | [d1, d2] => { results := [.lit (.bool true)], args := [d1, d2] }
  | _ => none }
def aggBackRow : OpenClaim := { program := "ytjmllggjaplldaa", sum := "0a9adaada64ce0a3468e831cb5a260952d092f3631328dfe434665db15e3b919", func := "headrace/headracelaw12.AggBack", spec := "aggBack", inPlace := ["math.Float64frombits", "math.Float64bits", "math/bits.Sub64", "math/bits.Add64"], unfollowed := true, recurses := true, apart := false }
def AggBackSaid : Prop := aggBackRow.holds Try.pinned (OpenSpec.ofChange aggBackSpec)

/-- ITS FALSE NEIGHBOUR: 'it returns false'. Refute it at one input. -/
def aggBackWrong : ChangeSpec := { name := "aggBack", fn := fun _ => fun
  | [d1, d2] => { results := [.lit (.bool false)], args := [d1, d2] }
  | _ => none }
def AggBackWrongFalsely : Prop := aggBackRow.holds Try.pinned (OpenSpec.ofChange aggBackWrong)

/- THE SECOND FORM. 'bulk': how many values and letters a reading holds, each counted each time it is reached (what is shared counts as often as it is met; a slice's spare places count too). A statement '..UptoSaid' is the law's where the arguments, and the package variables that the reading takes, are together of bulk at most 1048576: NARROWER than '..Said'. Prove '..Said' where nothing that the law and all that it calls make is longer than what came in: it says more and counts as full. Else prove '..UptoSaid'. A law counts once. -/
mutual
def uptoBulk {H : Type} : DataW H → Nat
  | .lit (.string bytes) => bytes.length + 1
  | .lit _ => 1
  | .nil => 1
  | .ptr d => uptoBulk d + 1
  | .slice elems spare => uptoBulkAll elems + uptoBulkAll spare + 1
  | .agg parts => uptoBulkAll parts + 1
  | .iface _ d => uptoBulk d + 1
  | .map entries => uptoBulkEntries entries + 1
  | .held _ => 1
def uptoBulkAll {H : Type} : List (DataW H) → Nat
  | [] => 0
  | d :: r => uptoBulk d + uptoBulkAll r
def uptoBulkEntries {H : Type} : List (Lit × DataW H) → Nat
  | [] => 0
  | x :: r => uptoBulkEntry x + uptoBulkEntries r
def uptoBulkEntry {H : Type} : Lit × DataW H → Nat
  | (.string bytes, d) => bytes.length + uptoBulk d + 1
  | (_, d) => uptoBulk d + 1
 end
def uptoSmall : (H : Type) → List (DataW H) → Bool := fun _ ds => decide (uptoBulkAll ds ≤ 1048576)
def OpenSpec.upto (s : _root_.Go.ChangeSpec) : _root_.Go.OpenSpec := { _root_.Go.OpenSpec.ofChange s with cond := some uptoSmall }

/-- 'headracelaw12.AggEnds', WHERE WHAT IT READS IS OF BULK AT MOST 1048576: true; the input reads as it did. -/
def aggEndsUptoRow : OpenClaim := { program := "ytjmllggjaplldaa", sum := "0a9adaada64ce0a3468e831cb5a260952d092f3631328dfe434665db15e3b919", func := "headrace/headracelaw12.AggEnds", spec := "aggEnds", inPlace := ["math.Float64frombits", "math.Float64bits", "math/bits.Sub64", "math/bits.Add64"], apart := false, narrowed := true }
def AggEndsUptoSaid : Prop := aggEndsUptoRow.holds Try.pinned (OpenSpec.upto aggEndsSpec)

/-- 'headracelaw12.AggValues', WHERE WHAT IT READS IS OF BULK AT MOST 1048576: true; the input reads as it did. -/
def aggValuesUptoRow : OpenClaim := { program := "ytjmllggjaplldaa", sum := "0a9adaada64ce0a3468e831cb5a260952d092f3631328dfe434665db15e3b919", func := "headrace/headracelaw12.AggValues", spec := "aggValues", inPlace := ["math.Float64frombits", "math.Float64bits", "math/bits.Sub64", "math/bits.Add64"], apart := false, narrowed := true }
def AggValuesUptoSaid : Prop := aggValuesUptoRow.holds Try.pinned (OpenSpec.upto aggValuesSpec)

/-- 'headracelaw12.AggSame', WHERE WHAT IT READS IS OF BULK AT MOST 1048576: true; the input reads as it did. -/
def aggSameUptoRow : OpenClaim := { program := "ytjmllggjaplldaa", sum := "0a9adaada64ce0a3468e831cb5a260952d092f3631328dfe434665db15e3b919", func := "headrace/headracelaw12.AggSame", spec := "aggSame", inPlace := ["math.Float64frombits", "math.Float64bits", "math/bits.Sub64", "math/bits.Add64"], apart := false, narrowed := true }
def AggSameUptoSaid : Prop := aggSameUptoRow.holds Try.pinned (OpenSpec.upto aggSameSpec)

/-- 'headracelaw12.AggOrder', WHERE WHAT IT READS IS OF BULK AT MOST 1048576: true; the input reads as it did. -/
def aggOrderUptoRow : OpenClaim := { program := "ytjmllggjaplldaa", sum := "0a9adaada64ce0a3468e831cb5a260952d092f3631328dfe434665db15e3b919", func := "headrace/headracelaw12.AggOrder", spec := "aggOrder", inPlace := ["math.Float64frombits", "math.Float64bits", "math/bits.Sub64", "math/bits.Add64"], apart := false, narrowed := true }
def AggOrderUptoSaid : Prop := aggOrderUptoRow.holds Try.pinned (OpenSpec.upto aggOrderSpec)

/-- 'headracelaw12.AggNone', WHERE WHAT IT READS IS OF BULK AT MOST 1048576: true; the input reads as it did. -/
def aggNoneUptoRow : OpenClaim := { program := "ytjmllggjaplldaa", sum := "0a9adaada64ce0a3468e831cb5a260952d092f3631328dfe434665db15e3b919", func := "headrace/headracelaw12.AggNone", spec := "aggNone", inPlace := ["math.Float64frombits", "math.Float64bits", "math/bits.Sub64", "math/bits.Add64"], recurses := true, apart := false, narrowed := true }
def AggNoneUptoSaid : Prop := aggNoneUptoRow.holds Try.pinned (OpenSpec.upto aggNoneSpec)

/-- 'headracelaw12.AggTellings', WHERE WHAT IT READS IS OF BULK AT MOST 1048576: true; the input reads as it did. -/
def aggTellingsUptoRow : OpenClaim := { program := "ytjmllggjaplldaa", sum := "0a9adaada64ce0a3468e831cb5a260952d092f3631328dfe434665db15e3b919", func := "headrace/headracelaw12.AggTellings", spec := "aggTellings", inPlace := ["math.Float64frombits", "math.Float64bits", "math/bits.Sub64", "math/bits.Add64"], unfollowed := true, recurses := true, apart := false, narrowed := true }
def AggTellingsUptoSaid : Prop := aggTellingsUptoRow.holds Try.pinned (OpenSpec.upto aggTellingsSpec)

/-- 'headracelaw12.AggBack', WHERE WHAT IT READS IS OF BULK AT MOST 1048576: true; the input reads as it did. -/
def aggBackUptoRow : OpenClaim := { program := "ytjmllggjaplldaa", sum := "0a9adaada64ce0a3468e831cb5a260952d092f3631328dfe434665db15e3b919", func := "headrace/headracelaw12.AggBack", spec := "aggBack", inPlace := ["math.Float64frombits", "math.Float64bits", "math/bits.Sub64", "math/bits.Add64"], unfollowed := true, recurses := true, apart := false, narrowed := true }
def AggBackUptoSaid : Prop := aggBackUptoRow.holds Try.pinned (OpenSpec.upto aggBackSpec)

end Rows
end Go.Proofs.Ytjmllggjaplldaa
