/-
  DERIVED. GIVEN WITH THE SEED: THE CARDS: each row of YthjjdcfkdmhmlaaDoorRows.lean that lists a variable, with what it lists TIED to the program's text (the seventh form; the later family's looks); each row that meets fmt, with fmt's text TOLD by the authors' own Lean function (tested against real Go, not proved from fmt's source: count such statements apart). THE CARD IS WHAT COUNTS. Prove the row's statement (the work); the ties are given (YthjjdcfkdmhmlaaDoorTie.lean); close each card by the builder's one call (the guide's Derived/Test/ToyasCard.lean, 'card_holds'). Laid BY PROGRAM, IN A SANDBOX (cutbox-door.mjs). By AI agents, Wed Nov 11 2026. No macro, syntax, notation, axiom, sorry.
-/
import Derived.Test.YthjjdcfkdmhmlaaDoorRows
import GoSem.ClaimSeven
namespace Go.Proofs.YthjjdcfkdmhmlaaDoor
namespace Rows

/-- THE TIED CARD OF 'tramwaylaw07.FilesArmed'. -/
def filesArmedCard : Claim7 := { stood := { row := filesArmedRow, standIns := [], harness := (true, "0f80c71b7f507edac6666baf424a053106921aad8079b9839409991a8804d1b4"), looks := false }, kinds := [], alts := [], laidByText := true, laidKinds := [.data, .pinned], laidTests := true, laidLooks := .later }
def FilesArmedCardSaid : Prop := Claim7.holds Tryd.pinned (.plain (OpenSpec.ofChange filesArmedSpec)) filesArmedCard

/-- THE TIED CARD OF 'tramwaylaw07.FilesLists'. -/
def filesListsCard : Claim7 := { stood := { row := filesListsRow, standIns := [], harness := (true, "0f80c71b7f507edac6666baf424a053106921aad8079b9839409991a8804d1b4"), looks := false }, kinds := [], alts := [], laidByText := true, laidKinds := [.data, .pinned], laidTests := true, laidLooks := .later }
def FilesListsCardSaid : Prop := Claim7.holds Tryd.pinned (.plain (OpenSpec.ofChange filesListsSpec)) filesListsCard

/-- THE TIED CARD OF 'tramwaylaw07.FilesKept'. -/
def filesKeptCard : Claim7 := { stood := { row := filesKeptRow, standIns := [], harness := (true, "0f80c71b7f507edac6666baf424a053106921aad8079b9839409991a8804d1b4"), looks := false }, kinds := [], alts := [], laidByText := true, laidKinds := [.data, .pinned], laidTests := true, laidLooks := .later }
def FilesKeptCardSaid : Prop := Claim7.holds Tryd.pinned (.plain (OpenSpec.ofChange filesKeptSpec)) filesKeptCard

/-- THE TIED CARD OF 'tramwaylaw07.FilesOwn'. -/
def filesOwnCard : Claim7 := { stood := { row := filesOwnRow, standIns := [], harness := (true, "0f80c71b7f507edac6666baf424a053106921aad8079b9839409991a8804d1b4"), looks := false }, kinds := [], alts := [], laidByText := true, laidKinds := [.data, .pinned], laidTests := true, laidLooks := .later }
def FilesOwnCardSaid : Prop := Claim7.holds Tryd.pinned (.plain (OpenSpec.ofChange filesOwnSpec)) filesOwnCard

/-- THE TIED CARD OF 'tramwaylaw07.FilesPlay'. -/
def filesPlayCard : Claim7 := { stood := { row := filesPlayRow, standIns := [], harness := (true, "0f80c71b7f507edac6666baf424a053106921aad8079b9839409991a8804d1b4"), looks := false }, kinds := [], alts := [], laidByText := true, laidKinds := [.data, .pinned], laidTests := true, laidLooks := .later }
def FilesPlayCardSaid : Prop := Claim7.holds Tryd.pinned (.plain (OpenSpec.ofChange filesPlaySpec)) filesPlayCard

/-- THE TIED CARD OF 'tramwaylaw07.FilesRoom'. -/
def filesRoomCard : Claim7 := { stood := { row := filesRoomRow, standIns := [], harness := (true, "0f80c71b7f507edac6666baf424a053106921aad8079b9839409991a8804d1b4"), looks := false }, kinds := [], alts := [], laidByText := true, laidKinds := [.data, .pinned], laidTests := true, laidLooks := .later }
def FilesRoomCardSaid : Prop := Claim7.holds Tryd.pinned (.plain (OpenSpec.ofChange filesRoomSpec)) filesRoomCard

/-- THE SECOND FORM's CARD OF 'tramwaylaw07.FilesArmed'. -/
def filesArmedUptoCard : Claim7 := { stood := { row := filesArmedUptoRow, standIns := [], harness := (true, "0f80c71b7f507edac6666baf424a053106921aad8079b9839409991a8804d1b4"), looks := false }, kinds := [], alts := [], laidByText := true, laidKinds := [.data, .pinned], laidTests := true, laidLooks := .later }
def FilesArmedUptoCardSaid : Prop := Claim7.holds Tryd.pinned (.plain (OpenSpec.upto filesArmedSpec)) filesArmedUptoCard

/-- THE SECOND FORM's CARD OF 'tramwaylaw07.FilesLists'. -/
def filesListsUptoCard : Claim7 := { stood := { row := filesListsUptoRow, standIns := [], harness := (true, "0f80c71b7f507edac6666baf424a053106921aad8079b9839409991a8804d1b4"), looks := false }, kinds := [], alts := [], laidByText := true, laidKinds := [.data, .pinned], laidTests := true, laidLooks := .later }
def FilesListsUptoCardSaid : Prop := Claim7.holds Tryd.pinned (.plain (OpenSpec.upto filesListsSpec)) filesListsUptoCard

/-- THE SECOND FORM's CARD OF 'tramwaylaw07.FilesKept'. -/
def filesKeptUptoCard : Claim7 := { stood := { row := filesKeptUptoRow, standIns := [], harness := (true, "0f80c71b7f507edac6666baf424a053106921aad8079b9839409991a8804d1b4"), looks := false }, kinds := [], alts := [], laidByText := true, laidKinds := [.data, .pinned], laidTests := true, laidLooks := .later }
def FilesKeptUptoCardSaid : Prop := Claim7.holds Tryd.pinned (.plain (OpenSpec.upto filesKeptSpec)) filesKeptUptoCard

/-- THE SECOND FORM's CARD OF 'tramwaylaw07.FilesOwn'. -/
def filesOwnUptoCard : Claim7 := { stood := { row := filesOwnUptoRow, standIns := [], harness := (true, "0f80c71b7f507edac6666baf424a053106921aad8079b9839409991a8804d1b4"), looks := false }, kinds := [], alts := [], laidByText := true, laidKinds := [.data, .pinned], laidTests := true, laidLooks := .later }
def FilesOwnUptoCardSaid : Prop := Claim7.holds Tryd.pinned (.plain (OpenSpec.upto filesOwnSpec)) filesOwnUptoCard

/-- THE SECOND FORM's CARD OF 'tramwaylaw07.FilesPlay'. -/
def filesPlayUptoCard : Claim7 := { stood := { row := filesPlayUptoRow, standIns := [], harness := (true, "0f80c71b7f507edac6666baf424a053106921aad8079b9839409991a8804d1b4"), looks := false }, kinds := [], alts := [], laidByText := true, laidKinds := [.data, .pinned], laidTests := true, laidLooks := .later }
def FilesPlayUptoCardSaid : Prop := Claim7.holds Tryd.pinned (.plain (OpenSpec.upto filesPlaySpec)) filesPlayUptoCard

/-- THE SECOND FORM's CARD OF 'tramwaylaw07.FilesRoom'. -/
def filesRoomUptoCard : Claim7 := { stood := { row := filesRoomUptoRow, standIns := [], harness := (true, "0f80c71b7f507edac6666baf424a053106921aad8079b9839409991a8804d1b4"), looks := false }, kinds := [], alts := [], laidByText := true, laidKinds := [.data, .pinned], laidTests := true, laidLooks := .later }
def FilesRoomUptoCardSaid : Prop := Claim7.holds Tryd.pinned (.plain (OpenSpec.upto filesRoomSpec)) filesRoomUptoCard
end Rows
end Go.Proofs.YthjjdcfkdmhmlaaDoor
