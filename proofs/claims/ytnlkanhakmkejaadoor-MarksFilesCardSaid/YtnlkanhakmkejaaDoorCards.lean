/-
  DERIVED. GIVEN WITH THE SEED: THE CARDS: each row of YtnlkanhakmkejaaDoorRows.lean that lists a variable, with what it lists TIED to the program's text (the seventh form; the later family's looks); each row that meets fmt, with fmt's text TOLD by the authors' own Lean function (tested against real Go, not proved from fmt's source: count such statements apart). THE CARD IS WHAT COUNTS. Prove the row's statement (the work); the ties are given (YtnlkanhakmkejaaDoorTie.lean); close each card by the builder's one call (the guide's Derived/Test/ToyasCard.lean, 'card_holds'). Laid BY PROGRAM, IN A SANDBOX (cutbox-door.mjs). By AI agents, Wed Nov 11 2026. No macro, syntax, notation, axiom, sorry.
-/
import Derived.Test.YtnlkanhakmkejaaDoorRows
import GoSem.ClaimSeven
namespace Go.Proofs.YtnlkanhakmkejaaDoor
namespace Rows

/-- THE TIED CARD OF 'tramwaylaw24.MarksFiles'. -/
def marksFilesCard : Claim7 := { stood := { row := marksFilesRow, standIns := [], harness := (true, "79978e1f9d3409c3bd2f5610d69a2a67aa7b46a5c9a788462efb1ffd3e7015be"), looks := false }, kinds := [], alts := [], laidByText := true, laidKinds := [.data, .pinned], laidTests := true, laidLooks := .later }
def MarksFilesCardSaid : Prop := Claim7.holds Tryd.pinned (.plain (OpenSpec.ofChange marksFilesSpec)) marksFilesCard

/-- THE SECOND FORM's CARD OF 'tramwaylaw24.MarksFiles'. -/
def marksFilesUptoCard : Claim7 := { stood := { row := marksFilesUptoRow, standIns := [], harness := (true, "79978e1f9d3409c3bd2f5610d69a2a67aa7b46a5c9a788462efb1ffd3e7015be"), looks := false }, kinds := [], alts := [], laidByText := true, laidKinds := [.data, .pinned], laidTests := true, laidLooks := .later }
def MarksFilesUptoCardSaid : Prop := Claim7.holds Tryd.pinned (.plain (OpenSpec.upto marksFilesSpec)) marksFilesUptoCard
end Rows
end Go.Proofs.YtnlkanhakmkejaaDoor
