/-
  NARROWER THAN 'FOR EVERY INPUT', by the rows' own cells (each row's printed sentence says how): FilesArmed: laid · FilesLists: laid · FilesKept: laid · FilesOwn: laid · FilesPlay: laid · FilesRoom: laid.
  DERIVED. THE GIVEN ROWS OF THIS SEAT. 6 by the template 'for every input the law returns true; each argument reads behind the call as it read before'; 0 by the template 'total and deterministic' (their statements: YthjjdcfkdmhmlaaDoorTotals.lean).
  GIVEN WITH THE SEED: the statements are not yours to turn. If you find one false, say at which input.
  Laid BY PROGRAM, IN A SANDBOX (cutbox-rows.mjs): the forced cells as the released guide's own fill.sh prints them over the translation abd17e5260931ca0… (all of the seat's roots in one cut). By AI agents, Wed Nov 11 2026. No macro, syntax, notation, axiom, sorry.
-/
import Derived.Test.YthjjdcfkdmhmlaaDoorChecked
import GoSem.PinnedTables
import GoSem.Claim
import GoSem.ClaimJoined
import GoSem.ClaimMapViews
import Derived.JoinedTies
import Derived.KernelRfl
namespace Go.Proofs.YthjjdcfkdmhmlaaDoor
/- THE CELL 'sum', in the pinned program and in every row, IS THE sha256 OF THE DUMP (.gsa) THAT YthjjdcfkdmhmlaaDoorProg.lean LOADS. Nothing in Lean hashes anything: it is a label: what it is worth is what the hold of that sum in a sandbox is worth. -/
noncomputable def Tryd.pinned : Pinned := { name := "ythjjdcfkdmhmlaadoor", sum := "abd17e5260931ca00c3a9011bc43a9a2b8e909215c9f756e5cc11bd08099c87b", checked := Tryd.checked }
namespace Rows
def none {H : Type} : Left H := { results := [], args := [] }

/- WHAT THE LISTED PACKAGE-LEVEL VARIABLES READ AS WHEN THE CALL BEGINS. Each datum BY PROGRAM (the guide's laid-datum.mjs) off the statement by which the dump's own 'gosem.cut.vars' lays the variable. In a bare row this is a premise. The card (YthjjdcfkdmhmlaaDoorCards.lean) ties it to the program's text. -/
def laid_unicode_utf8_acceptRanges {H : Type} : DataW H := .agg [.agg [.lit (.int .u8 128), .lit (.int .u8 191)], .agg [.lit (.int .u8 160), .lit (.int .u8 191)], .agg [.lit (.int .u8 128), .lit (.int .u8 159)], .agg [.lit (.int .u8 144), .lit (.int .u8 191)], .agg [.lit (.int .u8 128), .lit (.int .u8 143)], .agg [.lit (.int .u8 0), .lit (.int .u8 0)], .agg [.lit (.int .u8 0), .lit (.int .u8 0)], .agg [.lit (.int .u8 0), .lit (.int .u8 0)], .agg [.lit (.int .u8 0), .lit (.int .u8 0)], .agg [.lit (.int .u8 0), .lit (.int .u8 0)], .agg [.lit (.int .u8 0), .lit (.int .u8 0)], .agg [.lit (.int .u8 0), .lit (.int .u8 0)], .agg [.lit (.int .u8 0), .lit (.int .u8 0)], .agg [.lit (.int .u8 0), .lit (.int .u8 0)], .agg [.lit (.int .u8 0), .lit (.int .u8 0)], .agg [.lit (.int .u8 0), .lit (.int .u8 0)]]
/-- One of Go's own tables, pinned by name: the form's constant. -/
def laid_unicode_utf8_first : DataW Unit := Go.Pinned.utf8First

/-- 'tramwaylaw07.FilesArmed': WHATEVER THE INPUT: true; the input reads as it did. -/
def filesArmedSpec : ChangeSpec := { name := "filesArmed", fn := fun _ => fun
  | [d1, d2] => { results := [.lit (.bool true)], args := [d1, d2] }
  | _ => none }
def filesArmedRow : OpenClaim := { program := "ythjjdcfkdmhmlaadoor", sum := "abd17e5260931ca00c3a9011bc43a9a2b8e909215c9f756e5cc11bd08099c87b", func := "tramway/tramwaylaw07.FilesArmed", spec := "filesArmed", inPlace := ["internal/bytealg.IndexByteString", "internal/bytealg.CountString", "internal/bytealg.IndexString"], unfollowed := true, recurses := true, named := ["unicode/utf8.first", "unicode/utf8.acceptRanges", "internal/bytealg.MaxLen"], apart := false, laid := [("unicode/utf8.acceptRanges", laid_unicode_utf8_acceptRanges), ("unicode/utf8.first", laid_unicode_utf8_first)] }
def FilesArmedSaid : Prop := filesArmedRow.holds Tryd.pinned (OpenSpec.ofChange filesArmedSpec)

/-- ITS FALSE NEIGHBOUR: 'it returns false'. Refute it at one input. -/
def filesArmedWrong : ChangeSpec := { name := "filesArmed", fn := fun _ => fun
  | [d1, d2] => { results := [.lit (.bool false)], args := [d1, d2] }
  | _ => none }
def FilesArmedWrongFalsely : Prop := filesArmedRow.holds Tryd.pinned (OpenSpec.ofChange filesArmedWrong)

/-- 'tramwaylaw07.FilesLists': WHATEVER THE INPUT: true; the input reads as it did. -/
def filesListsSpec : ChangeSpec := { name := "filesLists", fn := fun _ => fun
  | [d1, d2] => { results := [.lit (.bool true)], args := [d1, d2] }
  | _ => none }
def filesListsRow : OpenClaim := { program := "ythjjdcfkdmhmlaadoor", sum := "abd17e5260931ca00c3a9011bc43a9a2b8e909215c9f756e5cc11bd08099c87b", func := "tramway/tramwaylaw07.FilesLists", spec := "filesLists", inPlace := ["internal/bytealg.IndexByteString", "internal/bytealg.CountString", "internal/bytealg.IndexString"], unfollowed := true, recurses := true, named := ["unicode/utf8.first", "unicode/utf8.acceptRanges", "internal/bytealg.MaxLen"], apart := false, laid := [("unicode/utf8.acceptRanges", laid_unicode_utf8_acceptRanges), ("unicode/utf8.first", laid_unicode_utf8_first)] }
def FilesListsSaid : Prop := filesListsRow.holds Tryd.pinned (OpenSpec.ofChange filesListsSpec)

/-- ITS FALSE NEIGHBOUR: 'it returns false'. Refute it at one input. -/
def filesListsWrong : ChangeSpec := { name := "filesLists", fn := fun _ => fun
  | [d1, d2] => { results := [.lit (.bool false)], args := [d1, d2] }
  | _ => none }
def FilesListsWrongFalsely : Prop := filesListsRow.holds Tryd.pinned (OpenSpec.ofChange filesListsWrong)

/-- 'tramwaylaw07.FilesKept': WHATEVER THE INPUT: true; the input reads as it did. -/
def filesKeptSpec : ChangeSpec := { name := "filesKept", fn := fun _ => fun
  | [d1, d2, d3, d4] => { results := [.lit (.bool true)], args := [d1, d2, d3, d4] }
  | _ => none }
def filesKeptRow : OpenClaim := { program := "ythjjdcfkdmhmlaadoor", sum := "abd17e5260931ca00c3a9011bc43a9a2b8e909215c9f756e5cc11bd08099c87b", func := "tramway/tramwaylaw07.FilesKept", spec := "filesKept", inPlace := ["internal/bytealg.IndexByteString", "internal/bytealg.CountString", "internal/bytealg.IndexString"], unfollowed := true, recurses := true, named := ["unicode/utf8.first", "unicode/utf8.acceptRanges", "internal/bytealg.MaxLen"], apart := false, laid := [("unicode/utf8.acceptRanges", laid_unicode_utf8_acceptRanges), ("unicode/utf8.first", laid_unicode_utf8_first)] }
def FilesKeptSaid : Prop := filesKeptRow.holds Tryd.pinned (OpenSpec.ofChange filesKeptSpec)

/-- ITS FALSE NEIGHBOUR: 'it returns false'. Refute it at one input. -/
def filesKeptWrong : ChangeSpec := { name := "filesKept", fn := fun _ => fun
  | [d1, d2, d3, d4] => { results := [.lit (.bool false)], args := [d1, d2, d3, d4] }
  | _ => none }
def FilesKeptWrongFalsely : Prop := filesKeptRow.holds Tryd.pinned (OpenSpec.ofChange filesKeptWrong)

/-- 'tramwaylaw07.FilesOwn': WHATEVER THE INPUT: true; the input reads as it did. -/
def filesOwnSpec : ChangeSpec := { name := "filesOwn", fn := fun _ => fun
  | [d] => { results := [.lit (.bool true)], args := [d] }
  | _ => none }
def filesOwnRow : OpenClaim := { program := "ythjjdcfkdmhmlaadoor", sum := "abd17e5260931ca00c3a9011bc43a9a2b8e909215c9f756e5cc11bd08099c87b", func := "tramway/tramwaylaw07.FilesOwn", spec := "filesOwn", inPlace := ["internal/bytealg.IndexByteString", "internal/bytealg.CountString", "internal/bytealg.IndexString"], unfollowed := true, recurses := true, named := ["unicode/utf8.first", "unicode/utf8.acceptRanges", "internal/bytealg.MaxLen"], apart := false, laid := [("unicode/utf8.acceptRanges", laid_unicode_utf8_acceptRanges), ("unicode/utf8.first", laid_unicode_utf8_first)] }
def FilesOwnSaid : Prop := filesOwnRow.holds Tryd.pinned (OpenSpec.ofChange filesOwnSpec)

/-- ITS FALSE NEIGHBOUR: 'it returns false'. Refute it at one input. -/
def filesOwnWrong : ChangeSpec := { name := "filesOwn", fn := fun _ => fun
  | [d] => { results := [.lit (.bool false)], args := [d] }
  | _ => none }
def FilesOwnWrongFalsely : Prop := filesOwnRow.holds Tryd.pinned (OpenSpec.ofChange filesOwnWrong)

/-- 'tramwaylaw07.FilesPlay': WHATEVER THE INPUT: true; the input reads as it did. -/
def filesPlaySpec : ChangeSpec := { name := "filesPlay", fn := fun _ => fun
  | [d1, d2] => { results := [.lit (.bool true)], args := [d1, d2] }
  | _ => none }
def filesPlayRow : OpenClaim := { program := "ythjjdcfkdmhmlaadoor", sum := "abd17e5260931ca00c3a9011bc43a9a2b8e909215c9f756e5cc11bd08099c87b", func := "tramway/tramwaylaw07.FilesPlay", spec := "filesPlay", inPlace := ["internal/bytealg.IndexByteString", "internal/bytealg.CountString", "internal/bytealg.IndexString"], unfollowed := true, recurses := true, named := ["unicode/utf8.first", "unicode/utf8.acceptRanges", "internal/bytealg.MaxLen"], apart := false, laid := [("unicode/utf8.acceptRanges", laid_unicode_utf8_acceptRanges), ("unicode/utf8.first", laid_unicode_utf8_first)] }
def FilesPlaySaid : Prop := filesPlayRow.holds Tryd.pinned (OpenSpec.ofChange filesPlaySpec)

/-- ITS FALSE NEIGHBOUR: 'it returns false'. Refute it at one input. -/
def filesPlayWrong : ChangeSpec := { name := "filesPlay", fn := fun _ => fun
  | [d1, d2] => { results := [.lit (.bool false)], args := [d1, d2] }
  | _ => none }
def FilesPlayWrongFalsely : Prop := filesPlayRow.holds Tryd.pinned (OpenSpec.ofChange filesPlayWrong)

/-- 'tramwaylaw07.FilesRoom': WHATEVER THE INPUT: true; the input reads as it did. -/
def filesRoomSpec : ChangeSpec := { name := "filesRoom", fn := fun _ => fun
  | [d1, d2] => { results := [.lit (.bool true)], args := [d1, d2] }
  | _ => none }
def filesRoomRow : OpenClaim := { program := "ythjjdcfkdmhmlaadoor", sum := "abd17e5260931ca00c3a9011bc43a9a2b8e909215c9f756e5cc11bd08099c87b", func := "tramway/tramwaylaw07.FilesRoom", spec := "filesRoom", inPlace := ["internal/bytealg.IndexByteString", "internal/bytealg.CountString", "internal/bytealg.IndexString"], unfollowed := true, recurses := true, named := ["unicode/utf8.first", "unicode/utf8.acceptRanges", "internal/bytealg.MaxLen"], apart := false, laid := [("unicode/utf8.acceptRanges", laid_unicode_utf8_acceptRanges), ("unicode/utf8.first", laid_unicode_utf8_first)] }
def FilesRoomSaid : Prop := filesRoomRow.holds Tryd.pinned (OpenSpec.ofChange filesRoomSpec)

/-- ITS FALSE NEIGHBOUR: 'it returns false'. Refute it at one input. -/
def filesRoomWrong : ChangeSpec := { name := "filesRoom", fn := fun _ => fun
  | [d1, d2] => { results := [.lit (.bool false)], args := [d1, d2] }
  | _ => none }
def FilesRoomWrongFalsely : Prop := filesRoomRow.holds Tryd.pinned (OpenSpec.ofChange filesRoomWrong)

/- THE SECOND FORM. 'bulk': how many values and letters a reading holds, each counted each time it is reached (what is shared counts as often as it is met; a slice's spare places count too). A statement '..UptoSaid' is the law's where the arguments, and the package variables that the reading takes, are together of bulk at most 1048576: NARROWER than '..Said'. Prove '..Said' where nothing that the law and all that it calls make is longer than what came in: it says more and counts as full. Else prove '..UptoSaid'. A law counts once. -/
mutual
def uptoBulk {H : Type} : DataW H → Nat
  | .lit (.string bytes) => bytes.length + 1
  | .lit _ => 1
  | .nil => 1
  | .ptr d => uptoBulk d + 1
  | .slice elems spare => uptoBulkAll elems + uptoBulkAll spare + 1
  | .agg parts => uptoBulkAll parts + 1
  | .iface _ d => uptoBulk d + 1
  | .map entries => uptoBulkEntries entries + 1
  | .held _ => 1
def uptoBulkAll {H : Type} : List (DataW H) → Nat
  | [] => 0
  | d :: r => uptoBulk d + uptoBulkAll r
def uptoBulkEntries {H : Type} : List (Lit × DataW H) → Nat
  | [] => 0
  | x :: r => uptoBulkEntry x + uptoBulkEntries r
def uptoBulkEntry {H : Type} : Lit × DataW H → Nat
  | (.string bytes, d) => bytes.length + uptoBulk d + 1
  | (_, d) => uptoBulk d + 1
 end
def uptoSmall : (H : Type) → List (DataW H) → Bool := fun _ ds => decide (uptoBulkAll ds ≤ 1048576)
def OpenSpec.upto (s : _root_.Go.ChangeSpec) : _root_.Go.OpenSpec := { _root_.Go.OpenSpec.ofChange s with cond := some uptoSmall }

/-- 'tramwaylaw07.FilesArmed', WHERE WHAT IT READS IS OF BULK AT MOST 1048576: true; the input reads as it did. -/
def filesArmedUptoRow : OpenClaim := { program := "ythjjdcfkdmhmlaadoor", sum := "abd17e5260931ca00c3a9011bc43a9a2b8e909215c9f756e5cc11bd08099c87b", func := "tramway/tramwaylaw07.FilesArmed", spec := "filesArmed", inPlace := ["internal/bytealg.IndexByteString", "internal/bytealg.CountString", "internal/bytealg.IndexString"], unfollowed := true, recurses := true, named := ["unicode/utf8.first", "unicode/utf8.acceptRanges", "internal/bytealg.MaxLen"], apart := false, laid := [("unicode/utf8.acceptRanges", laid_unicode_utf8_acceptRanges), ("unicode/utf8.first", laid_unicode_utf8_first)], narrowed := true }
def FilesArmedUptoSaid : Prop := filesArmedUptoRow.holds Tryd.pinned (OpenSpec.upto filesArmedSpec)

/-- 'tramwaylaw07.FilesLists', WHERE WHAT IT READS IS OF BULK AT MOST 1048576: true; the input reads as it did. -/
def filesListsUptoRow : OpenClaim := { program := "ythjjdcfkdmhmlaadoor", sum := "abd17e5260931ca00c3a9011bc43a9a2b8e909215c9f756e5cc11bd08099c87b", func := "tramway/tramwaylaw07.FilesLists", spec := "filesLists", inPlace := ["internal/bytealg.IndexByteString", "internal/bytealg.CountString", "internal/bytealg.IndexString"], unfollowed := true, recurses := true, named := ["unicode/utf8.first", "unicode/utf8.acceptRanges", "internal/bytealg.MaxLen"], apart := false, laid := [("unicode/utf8.acceptRanges", laid_unicode_utf8_acceptRanges), ("unicode/utf8.first", laid_unicode_utf8_first)], narrowed := true }
def FilesListsUptoSaid : Prop := filesListsUptoRow.holds Tryd.pinned (OpenSpec.upto filesListsSpec)

/-- 'tramwaylaw07.FilesKept', WHERE WHAT IT READS IS OF BULK AT MOST 1048576: true; the input reads as it did. -/
def filesKeptUptoRow : OpenClaim := { program := "ythjjdcfkdmhmlaadoor", sum := "abd17e5260931ca00c3a9011bc43a9a2b8e909215c9f756e5cc11bd08099c87b", func := "tramway/tramwaylaw07.FilesKept", spec := "filesKept", inPlace := ["internal/bytealg.IndexByteString", "internal/bytealg.CountString", "internal/bytealg.IndexString"], unfollowed := true, recurses := true, named := ["unicode/utf8.first", "unicode/utf8.acceptRanges", "internal/bytealg.MaxLen"], apart := false, laid := [("unicode/utf8.acceptRanges", laid_unicode_utf8_acceptRanges), ("unicode/utf8.first", laid_unicode_utf8_first)], narrowed := true }
def FilesKeptUptoSaid : Prop := filesKeptUptoRow.holds Tryd.pinned (OpenSpec.upto filesKeptSpec)

/-- 'tramwaylaw07.FilesOwn', WHERE WHAT IT READS IS OF BULK AT MOST 1048576: true; the input reads as it did. -/
def filesOwnUptoRow : OpenClaim := { program := "ythjjdcfkdmhmlaadoor", sum := "abd17e5260931ca00c3a9011bc43a9a2b8e909215c9f756e5cc11bd08099c87b", func := "tramway/tramwaylaw07.FilesOwn", spec := "filesOwn", inPlace := ["internal/bytealg.IndexByteString", "internal/bytealg.CountString", "internal/bytealg.IndexString"], unfollowed := true, recurses := true, named := ["unicode/utf8.first", "unicode/utf8.acceptRanges", "internal/bytealg.MaxLen"], apart := false, laid := [("unicode/utf8.acceptRanges", laid_unicode_utf8_acceptRanges), ("unicode/utf8.first", laid_unicode_utf8_first)], narrowed := true }
def FilesOwnUptoSaid : Prop := filesOwnUptoRow.holds Tryd.pinned (OpenSpec.upto filesOwnSpec)

/-- 'tramwaylaw07.FilesPlay', WHERE WHAT IT READS IS OF BULK AT MOST 1048576: true; the input reads as it did. -/
def filesPlayUptoRow : OpenClaim := { program := "ythjjdcfkdmhmlaadoor", sum := "abd17e5260931ca00c3a9011bc43a9a2b8e909215c9f756e5cc11bd08099c87b", func := "tramway/tramwaylaw07.FilesPlay", spec := "filesPlay", inPlace := ["internal/bytealg.IndexByteString", "internal/bytealg.CountString", "internal/bytealg.IndexString"], unfollowed := true, recurses := true, named := ["unicode/utf8.first", "unicode/utf8.acceptRanges", "internal/bytealg.MaxLen"], apart := false, laid := [("unicode/utf8.acceptRanges", laid_unicode_utf8_acceptRanges), ("unicode/utf8.first", laid_unicode_utf8_first)], narrowed := true }
def FilesPlayUptoSaid : Prop := filesPlayUptoRow.holds Tryd.pinned (OpenSpec.upto filesPlaySpec)

/-- 'tramwaylaw07.FilesRoom', WHERE WHAT IT READS IS OF BULK AT MOST 1048576: true; the input reads as it did. -/
def filesRoomUptoRow : OpenClaim := { program := "ythjjdcfkdmhmlaadoor", sum := "abd17e5260931ca00c3a9011bc43a9a2b8e909215c9f756e5cc11bd08099c87b", func := "tramway/tramwaylaw07.FilesRoom", spec := "filesRoom", inPlace := ["internal/bytealg.IndexByteString", "internal/bytealg.CountString", "internal/bytealg.IndexString"], unfollowed := true, recurses := true, named := ["unicode/utf8.first", "unicode/utf8.acceptRanges", "internal/bytealg.MaxLen"], apart := false, laid := [("unicode/utf8.acceptRanges", laid_unicode_utf8_acceptRanges), ("unicode/utf8.first", laid_unicode_utf8_first)], narrowed := true }
def FilesRoomUptoSaid : Prop := filesRoomUptoRow.holds Tryd.pinned (OpenSpec.upto filesRoomSpec)

end Rows
end Go.Proofs.YthjjdcfkdmhmlaaDoor
