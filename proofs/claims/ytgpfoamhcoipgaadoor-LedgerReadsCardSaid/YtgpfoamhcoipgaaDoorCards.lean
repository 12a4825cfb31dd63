/-
  DERIVED. GIVEN WITH THE SEED: THE CARDS: each row of YtgpfoamhcoipgaaDoorRows.lean that lists a variable, with what it lists TIED to the program's text (the seventh form; the later family's looks); each row that meets fmt, with fmt's text TOLD by the authors' own Lean function (tested against real Go, not proved from fmt's source: count such statements apart). THE CARD IS WHAT COUNTS. Prove the row's statement (the work); the ties are given (YtgpfoamhcoipgaaDoorTie.lean); close each card by the builder's one call (the guide's Derived/Test/ToyasCard.lean, 'card_holds'). Laid BY PROGRAM, IN A SANDBOX (cutbox-door.mjs). By AI agents, Wed Nov 11 2026. No macro, syntax, notation, axiom, sorry.
-/
import Derived.Test.YtgpfoamhcoipgaaDoorRows
import GoSem.ClaimSeven
namespace Go.Proofs.YtgpfoamhcoipgaaDoor
namespace Rows

/-- THE TIED CARD OF 'headracelaw16.LedgerReads'. -/
def ledgerReadsCard : Claim7 := { stood := { row := ledgerReadsRow, standIns := [], harness := (true, "9e517b74025c459ff6150fb25dfbf1d47256f670d8783b0a406c9a7cc5c35571"), looks := true }, kinds := [], alts := [], laidByText := true, laidKinds := [.data], laidTests := true, laidLooks := .later }
def LedgerReadsCardSaid : Prop := Claim7.holds Tryd.pinned (.plain (OpenSpec.ofChange ledgerReadsSpec)) ledgerReadsCard

/-- THE SECOND FORM's CARD OF 'headracelaw16.LedgerReads'. -/
def ledgerReadsUptoCard : Claim7 := { stood := { row := ledgerReadsUptoRow, standIns := [], harness := (true, "9e517b74025c459ff6150fb25dfbf1d47256f670d8783b0a406c9a7cc5c35571"), looks := true }, kinds := [], alts := [], laidByText := true, laidKinds := [.data], laidTests := true, laidLooks := .later }
def LedgerReadsUptoCardSaid : Prop := Claim7.holds Tryd.pinned (.plain (OpenSpec.upto ledgerReadsSpec)) ledgerReadsUptoCard
end Rows
end Go.Proofs.YtgpfoamhcoipgaaDoor
