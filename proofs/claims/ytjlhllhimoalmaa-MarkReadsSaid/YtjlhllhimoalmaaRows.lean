/-
  No cell of these rows narrows 'for every input' (looked for: loops, veiled, ifaces, maps, wideKeys, modest, calm, conditions, laid).
  DERIVED. THE GIVEN ROWS OF THIS SEAT. 3 by the template 'for every input the law returns true; each argument reads behind the call as it read before'; 0 by the template 'total and deterministic' (their statements: YtjlhllhimoalmaaTotals.lean).
  GIVEN WITH THE SEED: the statements are not yours to turn. If you find one false, say at which input.
  Laid BY PROGRAM, IN A SANDBOX (cutbox-rows.mjs): the forced cells as the released guide's own fill.sh prints them over the translation 5e3131fb410757b6… (all of the seat's roots in one cut). By AI agents, Wed Nov 11 2026. No macro, syntax, notation, axiom, sorry.
-/
import Derived.Test.YtjlhllhimoalmaaChecked
import GoSem.Claim
import GoSem.ClaimJoined
import GoSem.ClaimMapViews
import Derived.JoinedTies
import Derived.KernelRfl
namespace Go.Proofs.Ytjlhllhimoalmaa
/- THE CELL 'sum', in the pinned program and in every row, IS THE sha256 OF THE DUMP (.gsa) THAT YtjlhllhimoalmaaProg.lean LOADS. Nothing in Lean hashes anything: it is a label: what it is worth is what the hold of that sum in a sandbox is worth. -/
noncomputable def Try.pinned : Pinned := { name := "ytjlhllhimoalmaa", sum := "5e3131fb410757b6774bc59229c8ca5b72bf7dcf39919b573bc919d506c1141b", checked := Try.checked }
namespace Rows
def none {H : Type} : Left H := { results := [], args := [] }

/-- 'headracelaw14.MarkSees': WHATEVER THE INPUT: true; the input reads as it did. -/
def markSeesSpec : ChangeSpec := { name := "markSees", fn := fun _ => fun
  | [d1, d2] => { results := [.lit (.bool true)], args := [d1, d2] }
  | _ => none }
def markSeesRow : OpenClaim := { program := "ytjlhllhimoalmaa", sum := "5e3131fb410757b6774bc59229c8ca5b72bf7dcf39919b573bc919d506c1141b", func := "headrace/headracelaw14.MarkSees", spec := "markSees", apart := false }
def MarkSeesSaid : Prop := markSeesRow.holds Try.pinned (OpenSpec.ofChange markSeesSpec)

/-- ITS FALSE NEIGHBOUR: 'it returns false'. Refute it at one input. -/
def markSeesWrong : ChangeSpec := { name := "markSees", fn := fun _ => fun
  | [d1, d2] => { results := [.lit (.bool false)], args := [d1, d2] }
  | _ => none }
def MarkSeesWrongFalsely : Prop := markSeesRow.holds Try.pinned (OpenSpec.ofChange markSeesWrong)

/-- 'headracelaw14.MarkNone': WHATEVER THE INPUT: true; the input reads as it did. -/
def markNoneSpec : ChangeSpec := { name := "markNone", fn := fun _ => fun
  | [d1, d2, d3] => { results := [.lit (.bool true)], args := [d1, d2, d3] }
  | _ => none }
def markNoneRow : OpenClaim := { program := "ytjlhllhimoalmaa", sum := "5e3131fb410757b6774bc59229c8ca5b72bf7dcf39919b573bc919d506c1141b", func := "headrace/headracelaw14.MarkNone", spec := "markNone", apart := false }
def MarkNoneSaid : Prop := markNoneRow.holds Try.pinned (OpenSpec.ofChange markNoneSpec)

/-- ITS FALSE NEIGHBOUR: 'it returns false'. Refute it at one input. -/
def markNoneWrong : ChangeSpec := { name := "markNone", fn := fun _ => fun
  | [d1, d2, d3] => { results := [.lit (.bool false)], args := [d1, d2, d3] }
  | _ => none }
def MarkNoneWrongFalsely : Prop := markNoneRow.holds Try.pinned (OpenSpec.ofChange markNoneWrong)

/-- 'headracelaw14.MarkReads': WHATEVER THE INPUT: true; the input reads as it did. -/
def markReadsSpec : ChangeSpec := { name := "markReads", fn := fun _ => fun
  | [d] => { results := [.lit (.bool true)], args := [d] }
  | _ => none }
def markReadsRow : OpenClaim := { program := "ytjlhllhimoalmaa", sum := "5e3131fb410757b6774bc59229c8ca5b72bf7dcf39919b573bc919d506c1141b", func := "headrace/headracelaw14.MarkReads", spec := "markReads", unfollowed := true, recurses := true, apart := false }
def MarkReadsSaid : Prop := markReadsRow.holds Try.pinned (OpenSpec.ofChange markReadsSpec)

/-- ITS FALSE NEIGHBOUR: 'it returns false'. Refute it at one input. -/
def markReadsWrong : ChangeSpec := { name := "markReads", fn := fun _ => fun
  | [d] => { results := [.lit (.bool false)], args := [d] }
  | _ => none }
def MarkReadsWrongFalsely : Prop := markReadsRow.holds Try.pinned (OpenSpec.ofChange markReadsWrong)

/- THE SECOND FORM. 'bulk': how many values and letters a reading holds, each counted each time it is reached (what is shared counts as often as it is met; a slice's spare places count too). A statement '..UptoSaid' is the law's where the arguments, and the package variables that the reading takes, are together of bulk at most 1048576: NARROWER than '..Said'. Prove '..Said' where nothing that the law and all that it calls make is longer than what came in: it says more and counts as full. Else prove '..UptoSaid'. A law counts once. -/
mutual
def uptoBulk {H : Type} : DataW H → Nat
  | .lit (.string bytes) => bytes.length + 1
  | .lit _ => 1
  | .nil => 1
  | .ptr d => uptoBulk d + 1
  | .slice elems spare => uptoBulkAll elems + uptoBulkAll spare + 1
  | .agg parts => uptoBulkAll parts + 1
  | .iface _ d => uptoBulk d + 1
  | .map entries => uptoBulkEntries entries + 1
  | .held _ => 1
def uptoBulkAll {H : Type} : List (DataW H) → Nat
  | [] => 0
  | d :: r => uptoBulk d + uptoBulkAll r
def uptoBulkEntries {H : Type} : List (Lit × DataW H) → Nat
  | [] => 0
  | x :: r => uptoBulkEntry x + uptoBulkEntries r
def uptoBulkEntry {H : Type} : Lit × DataW H → Nat
  | (.string bytes, d) => bytes.length + uptoBulk d + 1
  | (_, d) => uptoBulk d + 1
 end
def uptoSmall : (H : Type) → List (DataW H) → Bool := fun _ ds => decide (uptoBulkAll ds ≤ 1048576)
def OpenSpec.upto (s : _root_.Go.ChangeSpec) : _root_.Go.OpenSpec := { _root_.Go.OpenSpec.ofChange s with cond := some uptoSmall }

/-- 'headracelaw14.MarkSees', WHERE WHAT IT READS IS OF BULK AT MOST 1048576: true; the input reads as it did. -/
def markSeesUptoRow : OpenClaim := { program := "ytjlhllhimoalmaa", sum := "5e3131fb410757b6774bc59229c8ca5b72bf7dcf39919b573bc919d506c1141b", func := "headrace/headracelaw14.MarkSees", spec := "markSees", apart := false, narrowed := true }
def MarkSeesUptoSaid : Prop := markSeesUptoRow.holds Try.pinned (OpenSpec.upto markSeesSpec)

/-- 'headracelaw14.MarkNone', WHERE WHAT IT READS IS OF BULK AT MOST 1048576: true; the input reads as it did. -/
def markNoneUptoRow : OpenClaim := { program := "ytjlhllhimoalmaa", sum := "5e3131fb410757b6774bc59229c8ca5b72bf7dcf39919b573bc919d506c1141b", func := "headrace/headracelaw14.MarkNone", spec := "markNone", apart := false, narrowed := true }
def MarkNoneUptoSaid : Prop := markNoneUptoRow.holds Try.pinned (OpenSpec.upto markNoneSpec)

/-- 'headracelaw14.MarkReads', WHERE WHAT IT READS IS OF BULK AT MOST 1048576: true; the input reads as it did. -/
def markReadsUptoRow : OpenClaim := { program := "ytjlhllhimoalmaa", sum := "5e3131fb410757b6774bc59229c8ca5b72bf7dcf39919b573bc919d506c1141b", func := "headrace/headracelaw14.MarkReads", spec := "markReads", unfollowed := true, recurses := true, apart := false, narrowed := true }
def MarkReadsUptoSaid : Prop := markReadsUptoRow.holds Try.pinned (OpenSpec.upto markReadsSpec)

end Rows
end Go.Proofs.Ytjlhllhimoalmaa
