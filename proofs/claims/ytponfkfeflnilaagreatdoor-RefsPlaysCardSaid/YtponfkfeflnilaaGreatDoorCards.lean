/-
  DERIVED. GIVEN WITH THE SEED: THE CARDS: each row of YtponfkfeflnilaaGreatDoorRows.lean that lists a variable, with what it lists TIED to the program's text (the seventh form; the later family's looks); each row that meets fmt, with fmt's text TOLD by the authors' own Lean function (tested against real Go, not proved from fmt's source: count such statements apart). THE CARD IS WHAT COUNTS. Prove the row's statement (the work); the ties are given (YtponfkfeflnilaaGreatDoorTie.lean); close each card by the builder's one call (the guide's Derived/Test/ToyasCard.lean, 'card_holds'). Laid BY PROGRAM, IN A SANDBOX (cutbox-door.mjs). By AI agents, Wed Nov 11 2026. No macro, syntax, notation, axiom, sorry.
-/
import Derived.Test.YtponfkfeflnilaaGreatDoorRows
import GoSem.ClaimSeven
namespace Go.Proofs.YtponfkfeflnilaaGreatDoor
namespace Rows

/-- THE TIED CARD OF 'tramwaylaw14.RefsNames'. -/
def refsNamesCard : Claim7 := { stood := { row := refsNamesRow, standIns := [], harness := (true, "df53c2105ca85ffb18ce4d74b0363ad7fe33882d8734fc4de5d7ffd9164ce442"), looks := false }, kinds := [], alts := [], laidByText := true, laidKinds := [.data, .pinned], laidTests := true, laidLooks := .later }
def RefsNamesCardSaid : Prop := Claim7.holds Tryz.pinned (.plain (OpenSpec.ofChange refsNamesSpec)) refsNamesCard

/-- THE TIED CARD OF 'tramwaylaw14.RefsPacked'. -/
def refsPackedCard : Claim7 := { stood := { row := refsPackedRow, standIns := [], harness := (true, "df53c2105ca85ffb18ce4d74b0363ad7fe33882d8734fc4de5d7ffd9164ce442"), looks := false }, kinds := [], alts := [], laidByText := true, laidKinds := [.data, .pinned], laidTests := true, laidLooks := .later }
def RefsPackedCardSaid : Prop := Claim7.holds Tryz.pinned (.plain (OpenSpec.ofChange refsPackedSpec)) refsPackedCard

/-- THE TIED CARD OF 'tramwaylaw14.RefsErrors'. -/
def refsErrorsCard : Claim7 := { stood := { row := refsErrorsRow, standIns := [], harness := (true, "df53c2105ca85ffb18ce4d74b0363ad7fe33882d8734fc4de5d7ffd9164ce442"), looks := false }, kinds := [], alts := [], laidByText := true, laidKinds := [.data, .pinned], laidTests := true, laidLooks := .later }
def RefsErrorsCardSaid : Prop := Claim7.holds Tryz.pinned (.plain (OpenSpec.ofChange refsErrorsSpec)) refsErrorsCard

/-- THE TIED CARD OF 'tramwaylaw14.RefsReads'. -/
def refsReadsCard : Claim7 := { stood := { row := refsReadsRow, standIns := [], harness := (true, "df53c2105ca85ffb18ce4d74b0363ad7fe33882d8734fc4de5d7ffd9164ce442"), looks := false }, kinds := [], alts := [], laidByText := true, laidKinds := [.data, .pinned], laidTests := true, laidLooks := .later }
def RefsReadsCardSaid : Prop := Claim7.holds Tryz.pinned (.plain (OpenSpec.ofChange refsReadsSpec)) refsReadsCard

/-- THE TIED CARD OF 'tramwaylaw14.RefsOthers'. -/
def refsOthersCard : Claim7 := { stood := { row := refsOthersRow, standIns := [], harness := (true, "df53c2105ca85ffb18ce4d74b0363ad7fe33882d8734fc4de5d7ffd9164ce442"), looks := false }, kinds := [], alts := [], laidByText := true, laidKinds := [.data, .pinned], laidTests := true, laidLooks := .later }
def RefsOthersCardSaid : Prop := Claim7.holds Tryz.pinned (.plain (OpenSpec.ofChange refsOthersSpec)) refsOthersCard

/-- THE TIED CARD OF 'tramwaylaw14.RefsPlays'. -/
def refsPlaysCard : Claim7 := { stood := { row := refsPlaysRow, standIns := [], harness := (true, "df53c2105ca85ffb18ce4d74b0363ad7fe33882d8734fc4de5d7ffd9164ce442"), looks := false }, kinds := [], alts := [], laidByText := true, laidKinds := [.data, .pinned], laidTests := true, laidLooks := .later }
def RefsPlaysCardSaid : Prop := Claim7.holds Tryz.pinned (.plain (OpenSpec.ofChange refsPlaysSpec)) refsPlaysCard

/-- THE SECOND FORM's CARD OF 'tramwaylaw14.RefsNames'. -/
def refsNamesUptoCard : Claim7 := { stood := { row := refsNamesUptoRow, standIns := [], harness := (true, "df53c2105ca85ffb18ce4d74b0363ad7fe33882d8734fc4de5d7ffd9164ce442"), looks := false }, kinds := [], alts := [], laidByText := true, laidKinds := [.data, .pinned], laidTests := true, laidLooks := .later }
def RefsNamesUptoCardSaid : Prop := Claim7.holds Tryz.pinned (.plain (OpenSpec.upto refsNamesSpec)) refsNamesUptoCard

/-- THE SECOND FORM's CARD OF 'tramwaylaw14.RefsPacked'. -/
def refsPackedUptoCard : Claim7 := { stood := { row := refsPackedUptoRow, standIns := [], harness := (true, "df53c2105ca85ffb18ce4d74b0363ad7fe33882d8734fc4de5d7ffd9164ce442"), looks := false }, kinds := [], alts := [], laidByText := true, laidKinds := [.data, .pinned], laidTests := true, laidLooks := .later }
def RefsPackedUptoCardSaid : Prop := Claim7.holds Tryz.pinned (.plain (OpenSpec.upto refsPackedSpec)) refsPackedUptoCard

/-- THE SECOND FORM's CARD OF 'tramwaylaw14.RefsErrors'. -/
def refsErrorsUptoCard : Claim7 := { stood := { row := refsErrorsUptoRow, standIns := [], harness := (true, "df53c2105ca85ffb18ce4d74b0363ad7fe33882d8734fc4de5d7ffd9164ce442"), looks := false }, kinds := [], alts := [], laidByText := true, laidKinds := [.data, .pinned], laidTests := true, laidLooks := .later }
def RefsErrorsUptoCardSaid : Prop := Claim7.holds Tryz.pinned (.plain (OpenSpec.upto refsErrorsSpec)) refsErrorsUptoCard

/-- THE SECOND FORM's CARD OF 'tramwaylaw14.RefsReads'. -/
def refsReadsUptoCard : Claim7 := { stood := { row := refsReadsUptoRow, standIns := [], harness := (true, "df53c2105ca85ffb18ce4d74b0363ad7fe33882d8734fc4de5d7ffd9164ce442"), looks := false }, kinds := [], alts := [], laidByText := true, laidKinds := [.data, .pinned], laidTests := true, laidLooks := .later }
def RefsReadsUptoCardSaid : Prop := Claim7.holds Tryz.pinned (.plain (OpenSpec.upto refsReadsSpec)) refsReadsUptoCard

/-- THE SECOND FORM's CARD OF 'tramwaylaw14.RefsOthers'. -/
def refsOthersUptoCard : Claim7 := { stood := { row := refsOthersUptoRow, standIns := [], harness := (true, "df53c2105ca85ffb18ce4d74b0363ad7fe33882d8734fc4de5d7ffd9164ce442"), looks := false }, kinds := [], alts := [], laidByText := true, laidKinds := [.data, .pinned], laidTests := true, laidLooks := .later }
def RefsOthersUptoCardSaid : Prop := Claim7.holds Tryz.pinned (.plain (OpenSpec.upto refsOthersSpec)) refsOthersUptoCard

/-- THE SECOND FORM's CARD OF 'tramwaylaw14.RefsPlays'. -/
def refsPlaysUptoCard : Claim7 := { stood := { row := refsPlaysUptoRow, standIns := [], harness := (true, "df53c2105ca85ffb18ce4d74b0363ad7fe33882d8734fc4de5d7ffd9164ce442"), looks := false }, kinds := [], alts := [], laidByText := true, laidKinds := [.data, .pinned], laidTests := true, laidLooks := .later }
def RefsPlaysUptoCardSaid : Prop := Claim7.holds Tryz.pinned (.plain (OpenSpec.upto refsPlaysSpec)) refsPlaysUptoCard
end Rows
end Go.Proofs.YtponfkfeflnilaaGreatDoor
