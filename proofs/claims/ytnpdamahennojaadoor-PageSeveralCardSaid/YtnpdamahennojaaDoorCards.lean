/-
  DERIVED. GIVEN WITH THE SEED: THE CARDS: each row of YtnpdamahennojaaDoorRows.lean that lists a variable, with what it lists TIED to the program's text (the seventh form; the later family's looks); each row that meets fmt, with fmt's text TOLD by the authors' own Lean function (tested against real Go, not proved from fmt's source: count such statements apart). THE CARD IS WHAT COUNTS. Prove the row's statement (the work); the ties are given (YtnpdamahennojaaDoorTie.lean); close each card by the builder's one call (the guide's Derived/Test/ToyasCard.lean, 'card_holds'). Laid BY PROGRAM, IN A SANDBOX (cutbox-door.mjs). By AI agents, Wed Nov 11 2026. No macro, syntax, notation, axiom, sorry.
-/
import Derived.Test.YtnpdamahennojaaDoorRows
import GoSem.ClaimSeven
namespace Go.Proofs.YtnpdamahennojaaDoor
namespace Rows

/-- THE TIED CARD OF 'headracelaw04.PageSums'. -/
def pageSumsCard : Claim7 := { stood := { row := pageSumsRow, standIns := [], harness := (true, "6656d266212f89c330ecaeac69991676e081b51525e3d5a5ade1f3867a7eacaa"), looks := false }, kinds := [], alts := [], laidByText := true, laidKinds := [.data], laidTests := true, laidLooks := .later }
def PageSumsCardSaid : Prop := Claim7.holds Tryd.pinned (.plain (OpenSpec.ofChange pageSumsSpec)) pageSumsCard

/-- THE TIED CARD OF 'headracelaw04.PageTurned'. -/
def pageTurnedCard : Claim7 := { stood := { row := pageTurnedRow, standIns := [], harness := (true, "6656d266212f89c330ecaeac69991676e081b51525e3d5a5ade1f3867a7eacaa"), looks := false }, kinds := [], alts := [], laidByText := true, laidKinds := [.data], laidTests := true, laidLooks := .later }
def PageTurnedCardSaid : Prop := Claim7.holds Tryd.pinned (.plain (OpenSpec.ofChange pageTurnedSpec)) pageTurnedCard

/-- THE TIED CARD OF 'headracelaw04.PageLengths'. -/
def pageLengthsCard : Claim7 := { stood := { row := pageLengthsRow, standIns := [], harness := (true, "6656d266212f89c330ecaeac69991676e081b51525e3d5a5ade1f3867a7eacaa"), looks := false }, kinds := [], alts := [], laidByText := true, laidKinds := [.data], laidTests := true, laidLooks := .later }
def PageLengthsCardSaid : Prop := Claim7.holds Tryd.pinned (.plain (OpenSpec.ofChange pageLengthsSpec)) pageLengthsCard

/-- THE TIED CARD OF 'headracelaw04.PageSeveral'. -/
def pageSeveralCard : Claim7 := { stood := { row := pageSeveralRow, standIns := [], harness := (true, "6656d266212f89c330ecaeac69991676e081b51525e3d5a5ade1f3867a7eacaa"), looks := false }, kinds := [], alts := [], laidByText := true, laidKinds := [.data], laidTests := true, laidLooks := .later }
def PageSeveralCardSaid : Prop := Claim7.holds Tryd.pinned (.plain (OpenSpec.ofChange pageSeveralSpec)) pageSeveralCard

/-- THE TIED CARD OF 'headracelaw04.PageReads'. -/
def pageReadsCard : Claim7 := { stood := { row := pageReadsRow, standIns := [], harness := (true, "6656d266212f89c330ecaeac69991676e081b51525e3d5a5ade1f3867a7eacaa"), looks := false }, kinds := [], alts := [], laidByText := true, laidKinds := [.data], laidTests := true, laidLooks := .later }
def PageReadsCardSaid : Prop := Claim7.holds Tryd.pinned (.plain (OpenSpec.ofChange pageReadsSpec)) pageReadsCard

/-- THE TIED CARD OF 'headracelaw04.PageLays'. -/
def pageLaysCard : Claim7 := { stood := { row := pageLaysRow, standIns := [], harness := (true, "6656d266212f89c330ecaeac69991676e081b51525e3d5a5ade1f3867a7eacaa"), looks := false }, kinds := [], alts := [], laidByText := true, laidKinds := [.data], laidTests := true, laidLooks := .later }
def PageLaysCardSaid : Prop := Claim7.holds Tryd.pinned (.plain (OpenSpec.ofChange pageLaysSpec)) pageLaysCard

/-- THE SECOND FORM's CARD OF 'headracelaw04.PageSums'. -/
def pageSumsUptoCard : Claim7 := { stood := { row := pageSumsUptoRow, standIns := [], harness := (true, "6656d266212f89c330ecaeac69991676e081b51525e3d5a5ade1f3867a7eacaa"), looks := false }, kinds := [], alts := [], laidByText := true, laidKinds := [.data], laidTests := true, laidLooks := .later }
def PageSumsUptoCardSaid : Prop := Claim7.holds Tryd.pinned (.plain (OpenSpec.upto pageSumsSpec)) pageSumsUptoCard

/-- THE SECOND FORM's CARD OF 'headracelaw04.PageTurned'. -/
def pageTurnedUptoCard : Claim7 := { stood := { row := pageTurnedUptoRow, standIns := [], harness := (true, "6656d266212f89c330ecaeac69991676e081b51525e3d5a5ade1f3867a7eacaa"), looks := false }, kinds := [], alts := [], laidByText := true, laidKinds := [.data], laidTests := true, laidLooks := .later }
def PageTurnedUptoCardSaid : Prop := Claim7.holds Tryd.pinned (.plain (OpenSpec.upto pageTurnedSpec)) pageTurnedUptoCard

/-- THE SECOND FORM's CARD OF 'headracelaw04.PageLengths'. -/
def pageLengthsUptoCard : Claim7 := { stood := { row := pageLengthsUptoRow, standIns := [], harness := (true, "6656d266212f89c330ecaeac69991676e081b51525e3d5a5ade1f3867a7eacaa"), looks := false }, kinds := [], alts := [], laidByText := true, laidKinds := [.data], laidTests := true, laidLooks := .later }
def PageLengthsUptoCardSaid : Prop := Claim7.holds Tryd.pinned (.plain (OpenSpec.upto pageLengthsSpec)) pageLengthsUptoCard

/-- THE SECOND FORM's CARD OF 'headracelaw04.PageSeveral'. -/
def pageSeveralUptoCard : Claim7 := { stood := { row := pageSeveralUptoRow, standIns := [], harness := (true, "6656d266212f89c330ecaeac69991676e081b51525e3d5a5ade1f3867a7eacaa"), looks := false }, kinds := [], alts := [], laidByText := true, laidKinds := [.data], laidTests := true, laidLooks := .later }
def PageSeveralUptoCardSaid : Prop := Claim7.holds Tryd.pinned (.plain (OpenSpec.upto pageSeveralSpec)) pageSeveralUptoCard

/-- THE SECOND FORM's CARD OF 'headracelaw04.PageReads'. -/
def pageReadsUptoCard : Claim7 := { stood := { row := pageReadsUptoRow, standIns := [], harness := (true, "6656d266212f89c330ecaeac69991676e081b51525e3d5a5ade1f3867a7eacaa"), looks := false }, kinds := [], alts := [], laidByText := true, laidKinds := [.data], laidTests := true, laidLooks := .later }
def PageReadsUptoCardSaid : Prop := Claim7.holds Tryd.pinned (.plain (OpenSpec.upto pageReadsSpec)) pageReadsUptoCard

/-- THE SECOND FORM's CARD OF 'headracelaw04.PageLays'. -/
def pageLaysUptoCard : Claim7 := { stood := { row := pageLaysUptoRow, standIns := [], harness := (true, "6656d266212f89c330ecaeac69991676e081b51525e3d5a5ade1f3867a7eacaa"), looks := false }, kinds := [], alts := [], laidByText := true, laidKinds := [.data], laidTests := true, laidLooks := .later }
def PageLaysUptoCardSaid : Prop := Claim7.holds Tryd.pinned (.plain (OpenSpec.upto pageLaysSpec)) pageLaysUptoCard
end Rows
end Go.Proofs.YtnpdamahennojaaDoor
