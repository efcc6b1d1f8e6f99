/-
  DERIVED. GIVEN WITH THE SEED: THE CARDS: each row of YtifoledkmjlmoaaDoorRows.lean that lists a variable, with what it lists TIED to the program's text (the seventh form; the later family's looks); each row that meets fmt, with fmt's text TOLD by the authors' own Lean function (tested against real Go, not proved from fmt's source: count such statements apart). THE CARD IS WHAT COUNTS. Prove the row's statement (the work); the ties are given (YtifoledkmjlmoaaDoorTie.lean); close each card by the builder's one call (the guide's Derived/Test/ToyasCard.lean, 'card_holds'). Laid BY PROGRAM, IN A SANDBOX (cutbox-door.mjs). By AI agents, Wed Nov 11 2026. No macro, syntax, notation, axiom, sorry.
-/
import Derived.Test.YtifoledkmjlmoaaDoorRows
import GoSem.ClaimSeven
namespace Go.Proofs.YtifoledkmjlmoaaDoor
namespace Rows

/-- THE TIED CARD OF 'tramwaylaw18.ManifestPrints'. -/
def manifestPrintsCard : Claim7 := { stood := { row := manifestPrintsRow, standIns := [], harness := (true, "a6bb21b4f32bd63670074a737217ade9928c7072104f8fdfa12558a9708fa8ec"), looks := false }, kinds := [], alts := [], laidByText := true, laidKinds := [.data, .pinned], laidTests := true, laidLooks := .later }
def ManifestPrintsCardSaid : Prop := Claim7.holds Tryd.pinned (.plain (OpenSpec.ofChange manifestPrintsSpec)) manifestPrintsCard

/-- THE TIED CARD OF 'tramwaylaw18.ManifestParses'. -/
def manifestParsesCard : Claim7 := { stood := { row := manifestParsesRow, standIns := [], harness := (true, "a6bb21b4f32bd63670074a737217ade9928c7072104f8fdfa12558a9708fa8ec"), looks := false }, kinds := [], alts := [], laidByText := true, laidKinds := [.data, .pinned], laidTests := true, laidLooks := .later }
def ManifestParsesCardSaid : Prop := Claim7.holds Tryd.pinned (.plain (OpenSpec.ofChange manifestParsesSpec)) manifestParsesCard

/-- THE TIED CARD OF 'tramwaylaw18.ManifestBack'. -/
def manifestBackCard : Claim7 := { stood := { row := manifestBackRow, standIns := [], harness := (true, "a6bb21b4f32bd63670074a737217ade9928c7072104f8fdfa12558a9708fa8ec"), looks := false }, kinds := [], alts := [], laidByText := true, laidKinds := [.data, .pinned], laidTests := true, laidLooks := .later }
def ManifestBackCardSaid : Prop := Claim7.holds Tryd.pinned (.plain (OpenSpec.ofChange manifestBackSpec)) manifestBackCard

/-- THE TIED CARD OF 'tramwaylaw18.ManifestSome'. -/
def manifestSomeCard : Claim7 := { stood := { row := manifestSomeRow, standIns := [], harness := (true, "a6bb21b4f32bd63670074a737217ade9928c7072104f8fdfa12558a9708fa8ec"), looks := false }, kinds := [], alts := [], laidByText := true, laidKinds := [.data, .pinned], laidTests := true, laidLooks := .later }
def ManifestSomeCardSaid : Prop := Claim7.holds Tryd.pinned (.plain (OpenSpec.ofChange manifestSomeSpec)) manifestSomeCard

/-- THE TIED CARD OF 'tramwaylaw18.ManifestDiffs'. -/
def manifestDiffsCard : Claim7 := { stood := { row := manifestDiffsRow, standIns := [], harness := (true, "a6bb21b4f32bd63670074a737217ade9928c7072104f8fdfa12558a9708fa8ec"), looks := false }, kinds := [], alts := [], laidByText := true, laidKinds := [.data, .pinned], laidTests := true, laidLooks := .later }
def ManifestDiffsCardSaid : Prop := Claim7.holds Tryd.pinned (.plain (OpenSpec.ofChange manifestDiffsSpec)) manifestDiffsCard

/-- THE SECOND FORM's CARD OF 'tramwaylaw18.ManifestPrints'. -/
def manifestPrintsUptoCard : Claim7 := { stood := { row := manifestPrintsUptoRow, standIns := [], harness := (true, "a6bb21b4f32bd63670074a737217ade9928c7072104f8fdfa12558a9708fa8ec"), looks := false }, kinds := [], alts := [], laidByText := true, laidKinds := [.data, .pinned], laidTests := true, laidLooks := .later }
def ManifestPrintsUptoCardSaid : Prop := Claim7.holds Tryd.pinned (.plain (OpenSpec.upto manifestPrintsSpec)) manifestPrintsUptoCard

/-- THE SECOND FORM's CARD OF 'tramwaylaw18.ManifestParses'. -/
def manifestParsesUptoCard : Claim7 := { stood := { row := manifestParsesUptoRow, standIns := [], harness := (true, "a6bb21b4f32bd63670074a737217ade9928c7072104f8fdfa12558a9708fa8ec"), looks := false }, kinds := [], alts := [], laidByText := true, laidKinds := [.data, .pinned], laidTests := true, laidLooks := .later }
def ManifestParsesUptoCardSaid : Prop := Claim7.holds Tryd.pinned (.plain (OpenSpec.upto manifestParsesSpec)) manifestParsesUptoCard

/-- THE SECOND FORM's CARD OF 'tramwaylaw18.ManifestBack'. -/
def manifestBackUptoCard : Claim7 := { stood := { row := manifestBackUptoRow, standIns := [], harness := (true, "a6bb21b4f32bd63670074a737217ade9928c7072104f8fdfa12558a9708fa8ec"), looks := false }, kinds := [], alts := [], laidByText := true, laidKinds := [.data, .pinned], laidTests := true, laidLooks := .later }
def ManifestBackUptoCardSaid : Prop := Claim7.holds Tryd.pinned (.plain (OpenSpec.upto manifestBackSpec)) manifestBackUptoCard

/-- THE SECOND FORM's CARD OF 'tramwaylaw18.ManifestSome'. -/
def manifestSomeUptoCard : Claim7 := { stood := { row := manifestSomeUptoRow, standIns := [], harness := (true, "a6bb21b4f32bd63670074a737217ade9928c7072104f8fdfa12558a9708fa8ec"), looks := false }, kinds := [], alts := [], laidByText := true, laidKinds := [.data, .pinned], laidTests := true, laidLooks := .later }
def ManifestSomeUptoCardSaid : Prop := Claim7.holds Tryd.pinned (.plain (OpenSpec.upto manifestSomeSpec)) manifestSomeUptoCard

/-- THE SECOND FORM's CARD OF 'tramwaylaw18.ManifestDiffs'. -/
def manifestDiffsUptoCard : Claim7 := { stood := { row := manifestDiffsUptoRow, standIns := [], harness := (true, "a6bb21b4f32bd63670074a737217ade9928c7072104f8fdfa12558a9708fa8ec"), looks := false }, kinds := [], alts := [], laidByText := true, laidKinds := [.data, .pinned], laidTests := true, laidLooks := .later }
def ManifestDiffsUptoCardSaid : Prop := Claim7.holds Tryd.pinned (.plain (OpenSpec.upto manifestDiffsSpec)) manifestDiffsUptoCard
end Rows
end Go.Proofs.YtifoledkmjlmoaaDoor
