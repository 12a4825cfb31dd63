/-
  NARROWER THAN 'FOR EVERY INPUT', by the rows' own cells (each row's printed sentence says how): PageSums: laid · PageTurned: laid · PageLengths: laid · PageSeveral: laid · PageReads: laid · PageLays: laid.
  DERIVED. THE GIVEN ROWS OF THIS SEAT. 6 by the template 'for every input the law returns true; each argument reads behind the call as it read before'; 0 by the template 'total and deterministic' (their statements: YtnpdamahennojaaDoorTotals.lean).
  GIVEN WITH THE SEED: the statements are not yours to turn. If you find one false, say at which input.
  Laid BY PROGRAM, IN A SANDBOX (cutbox-rows.mjs): the forced cells as the released guide's own fill.sh prints them over the translation 8279b34db5e5c80b… (all of the seat's roots in one cut). By AI agents, Wed Nov 11 2026. No macro, syntax, notation, axiom, sorry.
-/
import Derived.Test.YtnpdamahennojaaDoorChecked
import GoSem.Claim
import GoSem.ClaimJoined
import GoSem.ClaimMapViews
import Derived.JoinedTies
import Derived.KernelRfl
namespace Go.Proofs.YtnpdamahennojaaDoor
/- THE CELL 'sum', in the pinned program and in every row, IS THE sha256 OF THE DUMP (.gsa) THAT YtnpdamahennojaaDoorProg.lean LOADS. Nothing in Lean hashes anything: it is a label: what it is worth is what the hold of that sum in a sandbox is worth. -/
noncomputable def Tryd.pinned : Pinned := { name := "ytnpdamahennojaadoor", sum := "8279b34db5e5c80beadfe262b6b79a2427000d9b4c876d91573def700a3df9d1", checked := Tryd.checked }
namespace Rows
def none {H : Type} : Left H := { results := [], args := [] }

/- WHAT THE LISTED PACKAGE-LEVEL VARIABLES READ AS WHEN THE CALL BEGINS. Each datum BY PROGRAM (the guide's laid-datum.mjs) off the statement by which the dump's own 'gosem.cut.vars' lays the variable. In a bare row this is a premise. The card (YtnpdamahennojaaDoorCards.lean) ties it to the program's text. -/
def laid_headrace_page_table {H : Type} : DataW H := .agg [.lit (.int .u32 0), .lit (.int .u32 498536548), .lit (.int .u32 997073096), .lit (.int .u32 651767980), .lit (.int .u32 1994146192), .lit (.int .u32 1802195444), .lit (.int .u32 1303535960), .lit (.int .u32 1342533948), .lit (.int .u32 3988292384), .lit (.int .u32 4027552580), .lit (.int .u32 3604390888), .lit (.int .u32 3412177804), .lit (.int .u32 2607071920), .lit (.int .u32 2262029012), .lit (.int .u32 2685067896), .lit (.int .u32 3183342108)]

/-- 'headracelaw04.PageSums': WHATEVER THE INPUT: true; the input reads as it did. -/
def pageSumsSpec : ChangeSpec := { name := "pageSums", fn := fun _ => fun
  | [d] => { results := [.lit (.bool true)], args := [d] }
  | _ => none }
def pageSumsRow : OpenClaim := { program := "ytnpdamahennojaadoor", sum := "8279b34db5e5c80beadfe262b6b79a2427000d9b4c876d91573def700a3df9d1", func := "headrace/headracelaw04.PageSums", spec := "pageSums", named := ["headrace/page.table"], apart := false, laid := [("headrace/page.table", laid_headrace_page_table)] }
def PageSumsSaid : Prop := pageSumsRow.holds Tryd.pinned (OpenSpec.ofChange pageSumsSpec)

/-- ITS FALSE NEIGHBOUR: 'it returns false'. Refute it at one input. -/
def pageSumsWrong : ChangeSpec := { name := "pageSums", fn := fun _ => fun
  | [d] => { results := [.lit (.bool false)], args := [d] }
  | _ => none }
def PageSumsWrongFalsely : Prop := pageSumsRow.holds Tryd.pinned (OpenSpec.ofChange pageSumsWrong)

/-- 'headracelaw04.PageTurned': WHATEVER THE INPUT: true; the input reads as it did. -/
def pageTurnedSpec : ChangeSpec := { name := "pageTurned", fn := fun _ => fun
  | [d1, d2, d3, d4] => { results := [.lit (.bool true)], args := [d1, d2, d3, d4] }
  | _ => none }
def pageTurnedRow : OpenClaim := { program := "ytnpdamahennojaadoor", sum := "8279b34db5e5c80beadfe262b6b79a2427000d9b4c876d91573def700a3df9d1", func := "headrace/headracelaw04.PageTurned", spec := "pageTurned", named := ["headrace/page.table"], apart := false, laid := [("headrace/page.table", laid_headrace_page_table)] }
def PageTurnedSaid : Prop := pageTurnedRow.holds Tryd.pinned (OpenSpec.ofChange pageTurnedSpec)

/-- ITS FALSE NEIGHBOUR: 'it returns false'. Refute it at one input. -/
def pageTurnedWrong : ChangeSpec := { name := "pageTurned", fn := fun _ => fun
  | [d1, d2, d3, d4] => { results := [.lit (.bool false)], args := [d1, d2, d3, d4] }
  | _ => none }
def PageTurnedWrongFalsely : Prop := pageTurnedRow.holds Tryd.pinned (OpenSpec.ofChange pageTurnedWrong)

/-- 'headracelaw04.PageLengths': WHATEVER THE INPUT: true; the input reads as it did. -/
def pageLengthsSpec : ChangeSpec := { name := "pageLengths", fn := fun _ => fun
  | [d1, d2, d3] => { results := [.lit (.bool true)], args := [d1, d2, d3] }
  | _ => none }
def pageLengthsRow : OpenClaim := { program := "ytnpdamahennojaadoor", sum := "8279b34db5e5c80beadfe262b6b79a2427000d9b4c876d91573def700a3df9d1", func := "headrace/headracelaw04.PageLengths", spec := "pageLengths", named := ["headrace/page.table"], apart := false, laid := [("headrace/page.table", laid_headrace_page_table)] }
def PageLengthsSaid : Prop := pageLengthsRow.holds Tryd.pinned (OpenSpec.ofChange pageLengthsSpec)

/-- ITS FALSE NEIGHBOUR: 'it returns false'. Refute it at one input. -/
def pageLengthsWrong : ChangeSpec := { name := "pageLengths", fn := fun _ => fun
  | [d1, d2, d3] => { results := [.lit (.bool false)], args := [d1, d2, d3] }
  | _ => none }
def PageLengthsWrongFalsely : Prop := pageLengthsRow.holds Tryd.pinned (OpenSpec.ofChange pageLengthsWrong)

/-- 'headracelaw04.PageSeveral': WHATEVER THE INPUT: true; the input reads as it did. -/
def pageSeveralSpec : ChangeSpec := { name := "pageSeveral", fn := fun _ => fun
  | [d] => { results := [.lit (.bool true)], args := [d] }
  | _ => none }
def pageSeveralRow : OpenClaim := { program := "ytnpdamahennojaadoor", sum := "8279b34db5e5c80beadfe262b6b79a2427000d9b4c876d91573def700a3df9d1", func := "headrace/headracelaw04.PageSeveral", spec := "pageSeveral", named := ["headrace/page.table"], apart := false, laid := [("headrace/page.table", laid_headrace_page_table)] }
def PageSeveralSaid : Prop := pageSeveralRow.holds Tryd.pinned (OpenSpec.ofChange pageSeveralSpec)

/-- ITS FALSE NEIGHBOUR: 'it returns false'. Refute it at one input. -/
def pageSeveralWrong : ChangeSpec := { name := "pageSeveral", fn := fun _ => fun
  | [d] => { results := [.lit (.bool false)], args := [d] }
  | _ => none }
def PageSeveralWrongFalsely : Prop := pageSeveralRow.holds Tryd.pinned (OpenSpec.ofChange pageSeveralWrong)

/-- 'headracelaw04.PageReads': WHATEVER THE INPUT: true; the input reads as it did. -/
def pageReadsSpec : ChangeSpec := { name := "pageReads", fn := fun _ => fun
  | [d1, d2, d3] => { results := [.lit (.bool true)], args := [d1, d2, d3] }
  | _ => none }
def pageReadsRow : OpenClaim := { program := "ytnpdamahennojaadoor", sum := "8279b34db5e5c80beadfe262b6b79a2427000d9b4c876d91573def700a3df9d1", func := "headrace/headracelaw04.PageReads", spec := "pageReads", named := ["headrace/page.table"], apart := false, laid := [("headrace/page.table", laid_headrace_page_table)] }
def PageReadsSaid : Prop := pageReadsRow.holds Tryd.pinned (OpenSpec.ofChange pageReadsSpec)

/-- ITS FALSE NEIGHBOUR: 'it returns false'. Refute it at one input. -/
def pageReadsWrong : ChangeSpec := { name := "pageReads", fn := fun _ => fun
  | [d1, d2, d3] => { results := [.lit (.bool false)], args := [d1, d2, d3] }
  | _ => none }
def PageReadsWrongFalsely : Prop := pageReadsRow.holds Tryd.pinned (OpenSpec.ofChange pageReadsWrong)

/-- 'headracelaw04.PageLays': WHATEVER THE INPUT: true; the input reads as it did. -/
def pageLaysSpec : ChangeSpec := { name := "pageLays", fn := fun _ => fun
  | [d1, d2, d3] => { results := [.lit (.bool true)], args := [d1, d2, d3] }
  | _ => none }
def pageLaysRow : OpenClaim := { program := "ytnpdamahennojaadoor", sum := "8279b34db5e5c80beadfe262b6b79a2427000d9b4c876d91573def700a3df9d1", func := "headrace/headracelaw04.PageLays", spec := "pageLays", named := ["headrace/page.table"], apart := false, laid := [("headrace/page.table", laid_headrace_page_table)] }
def PageLaysSaid : Prop := pageLaysRow.holds Tryd.pinned (OpenSpec.ofChange pageLaysSpec)

/-- ITS FALSE NEIGHBOUR: 'it returns false'. Refute it at one input. -/
def pageLaysWrong : ChangeSpec := { name := "pageLays", fn := fun _ => fun
  | [d1, d2, d3] => { results := [.lit (.bool false)], args := [d1, d2, d3] }
  | _ => none }
def PageLaysWrongFalsely : Prop := pageLaysRow.holds Tryd.pinned (OpenSpec.ofChange pageLaysWrong)

/- THE SECOND FORM. 'bulk': how many values and letters a reading holds, each counted each time it is reached (what is shared counts as often as it is met; a slice's spare places count too). A statement '..UptoSaid' is the law's where the arguments, and the package variables that the reading takes, are together of bulk at most 1048576: NARROWER than '..Said'. Prove '..Said' where nothing that the law and all that it calls make is longer than what came in: it says more and counts as full. Else prove '..UptoSaid'. A law counts once. -/
mutual
def uptoBulk {H : Type} : DataW H → Nat
  | .lit (.string bytes) => bytes.length + 1
  | .lit _ => 1
  | .nil => 1
  | .ptr d => uptoBulk d + 1
  | .slice elems spare => uptoBulkAll elems + uptoBulkAll spare + 1
  | .agg parts => uptoBulkAll parts + 1
  | .iface _ d => uptoBulk d + 1
  | .map entries => uptoBulkEntries entries + 1
  | .held _ => 1
def uptoBulkAll {H : Type} : List (DataW H) → Nat
  | [] => 0
  | d :: r => uptoBulk d + uptoBulkAll r
def uptoBulkEntries {H : Type} : List (Lit × DataW H) → Nat
  | [] => 0
  | x :: r => uptoBulkEntry x + uptoBulkEntries r
def uptoBulkEntry {H : Type} : Lit × DataW H → Nat
  | (.string bytes, d) => bytes.length + uptoBulk d + 1
  | (_, d) => uptoBulk d + 1
 end
def uptoSmall : (H : Type) → List (DataW H) → Bool := fun _ ds => decide (uptoBulkAll ds ≤ 1048576)
def OpenSpec.upto (s : _root_.Go.ChangeSpec) : _root_.Go.OpenSpec := { _root_.Go.OpenSpec.ofChange s with cond := some uptoSmall }

/-- 'headracelaw04.PageSums', WHERE WHAT IT READS IS OF BULK AT MOST 1048576: true; the input reads as it did. -/
def pageSumsUptoRow : OpenClaim := { program := "ytnpdamahennojaadoor", sum := "8279b34db5e5c80beadfe262b6b79a2427000d9b4c876d91573def700a3df9d1", func := "headrace/headracelaw04.PageSums", spec := "pageSums", named := ["headrace/page.table"], apart := false, laid := [("headrace/page.table", laid_headrace_page_table)], narrowed := true }
def PageSumsUptoSaid : Prop := pageSumsUptoRow.holds Tryd.pinned (OpenSpec.upto pageSumsSpec)

/-- 'headracelaw04.PageTurned', WHERE WHAT IT READS IS OF BULK AT MOST 1048576: true; the input reads as it did. -/
def pageTurnedUptoRow : OpenClaim := { program := "ytnpdamahennojaadoor", sum := "8279b34db5e5c80beadfe262b6b79a2427000d9b4c876d91573def700a3df9d1", func := "headrace/headracelaw04.PageTurned", spec := "pageTurned", named := ["headrace/page.table"], apart := false, laid := [("headrace/page.table", laid_headrace_page_table)], narrowed := true }
def PageTurnedUptoSaid : Prop := pageTurnedUptoRow.holds Tryd.pinned (OpenSpec.upto pageTurnedSpec)

/-- 'headracelaw04.PageLengths', WHERE WHAT IT READS IS OF BULK AT MOST 1048576: true; the input reads as it did. -/
def pageLengthsUptoRow : OpenClaim := { program := "ytnpdamahennojaadoor", sum := "8279b34db5e5c80beadfe262b6b79a2427000d9b4c876d91573def700a3df9d1", func := "headrace/headracelaw04.PageLengths", spec := "pageLengths", named := ["headrace/page.table"], apart := false, laid := [("headrace/page.table", laid_headrace_page_table)], narrowed := true }
def PageLengthsUptoSaid : Prop := pageLengthsUptoRow.holds Tryd.pinned (OpenSpec.upto pageLengthsSpec)

/-- 'headracelaw04.PageSeveral', WHERE WHAT IT READS IS OF BULK AT MOST 1048576: true; the input reads as it did. -/
def pageSeveralUptoRow : OpenClaim := { program := "ytnpdamahennojaadoor", sum := "8279b34db5e5c80beadfe262b6b79a2427000d9b4c876d91573def700a3df9d1", func := "headrace/headracelaw04.PageSeveral", spec := "pageSeveral", named := ["headrace/page.table"], apart := false, laid := [("headrace/page.table", laid_headrace_page_table)], narrowed := true }
def PageSeveralUptoSaid : Prop := pageSeveralUptoRow.holds Tryd.pinned (OpenSpec.upto pageSeveralSpec)

/-- 'headracelaw04.PageReads', WHERE WHAT IT READS IS OF BULK AT MOST 1048576: true; the input reads as it did. -/
def pageReadsUptoRow : OpenClaim := { program := "ytnpdamahennojaadoor", sum := "8279b34db5e5c80beadfe262b6b79a2427000d9b4c876d91573def700a3df9d1", func := "headrace/headracelaw04.PageReads", spec := "pageReads", named := ["headrace/page.table"], apart := false, laid := [("headrace/page.table", laid_headrace_page_table)], narrowed := true }
def PageReadsUptoSaid : Prop := pageReadsUptoRow.holds Tryd.pinned (OpenSpec.upto pageReadsSpec)

/-- 'headracelaw04.PageLays', WHERE WHAT IT READS IS OF BULK AT MOST 1048576: true; the input reads as it did. -/
def pageLaysUptoRow : OpenClaim := { program := "ytnpdamahennojaadoor", sum := "8279b34db5e5c80beadfe262b6b79a2427000d9b4c876d91573def700a3df9d1", func := "headrace/headracelaw04.PageLays", spec := "pageLays", named := ["headrace/page.table"], apart := false, laid := [("headrace/page.table", laid_headrace_page_table)], narrowed := true }
def PageLaysUptoSaid : Prop := pageLaysUptoRow.holds Tryd.pinned (OpenSpec.upto pageLaysSpec)

end Rows
end Go.Proofs.YtnpdamahennojaaDoor
