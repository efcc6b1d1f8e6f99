/-
  NARROWER THAN 'FOR EVERY INPUT', by the rows' own cells (each row's printed sentence says how): RefsNames: laid · RefsPacked: laid · RefsErrors: laid · RefsReads: laid · RefsOthers: laid · RefsPlays: laid.
  DERIVED. THE GIVEN ROWS OF THIS SEAT. 6 by the template 'for every input the law returns true; each argument reads behind the call as it read before'; 0 by the template 'total and deterministic' (their statements: YtponfkfeflnilaaGreatDoorTotals.lean).
  GIVEN WITH THE SEED: the statements are not yours to turn. If you find one false, say at which input.
  Laid BY PROGRAM, IN A SANDBOX (cutbox-rows.mjs): the forced cells as the released guide's own fill.sh prints them over the translation 932347dfb106e438… (all of the seat's roots in one cut). By AI agents, Wed Nov 11 2026. No macro, syntax, notation, axiom, sorry.
-/
import Derived.Test.YtponfkfeflnilaaGreatDoorChecked
import GoSem.PinnedTables
import GoSem.Claim
import GoSem.ClaimJoined
import GoSem.ClaimMapViews
import Derived.JoinedTies
import Derived.KernelRfl
namespace Go.Proofs.YtponfkfeflnilaaGreatDoor
/- THE CELL 'sum', in the pinned program and in every row, IS THE sha256 OF THE DUMP (.gsa) THAT YtponfkfeflnilaaGreatDoorProg.lean LOADS. Nothing in Lean hashes anything: it is a label: what it is worth is what the hold of that sum in a sandbox is worth. -/
noncomputable def Tryz.pinned : Pinned := { name := "ytponfkfeflnilaagreatdoor", sum := "932347dfb106e4384ffaf3a64e2af718da224a99e67c5e119d8ce25115ebe861", checked := Tryz.checked }
namespace Rows
def none {H : Type} : Left H := { results := [], args := [] }

/- WHAT THE LISTED PACKAGE-LEVEL VARIABLES READ AS WHEN THE CALL BEGINS. Each datum BY PROGRAM (the guide's laid-datum.mjs) off the statement by which the dump's own 'gosem.cut.vars' lays the variable. In a bare row this is a premise. The card (YtponfkfeflnilaaGreatDoorCards.lean) ties it to the program's text. -/
def laid_unicode_utf8_acceptRanges {H : Type} : DataW H := .agg [.agg [.lit (.int .u8 128), .lit (.int .u8 191)], .agg [.lit (.int .u8 160), .lit (.int .u8 191)], .agg [.lit (.int .u8 128), .lit (.int .u8 159)], .agg [.lit (.int .u8 144), .lit (.int .u8 191)], .agg [.lit (.int .u8 128), .lit (.int .u8 143)], .agg [.lit (.int .u8 0), .lit (.int .u8 0)], .agg [.lit (.int .u8 0), .lit (.int .u8 0)], .agg [.lit (.int .u8 0), .lit (.int .u8 0)], .agg [.lit (.int .u8 0), .lit (.int .u8 0)], .agg [.lit (.int .u8 0), .lit (.int .u8 0)], .agg [.lit (.int .u8 0), .lit (.int .u8 0)], .agg [.lit (.int .u8 0), .lit (.int .u8 0)], .agg [.lit (.int .u8 0), .lit (.int .u8 0)], .agg [.lit (.int .u8 0), .lit (.int .u8 0)], .agg [.lit (.int .u8 0), .lit (.int .u8 0)], .agg [.lit (.int .u8 0), .lit (.int .u8 0)]]
/-- One of Go's own tables, pinned by name: the form's constant. -/
def laid_unicode_utf8_first : DataW Unit := Go.Pinned.utf8First

/-- 'tramwaylaw14.RefsNames': WHATEVER THE INPUT: true; the input reads as it did. -/
def refsNamesSpec : ChangeSpec := { name := "refsNames", fn := fun _ => fun
  | [d] => { results := [.lit (.bool true)], args := [d] }
  | _ => none }
def refsNamesRow : OpenClaim := { program := "ytponfkfeflnilaagreatdoor", sum := "932347dfb106e4384ffaf3a64e2af718da224a99e67c5e119d8ce25115ebe861", func := "tramway/tramwaylaw14.RefsNames", spec := "refsNames", inPlace := ["internal/bytealg.IndexByteString", "internal/bytealg.IndexString", "internal/bytealg.CountString", "internal/abi.NoEscape"], unfollowed := true, recurses := true, named := ["internal/bytealg.MaxLen", "unicode/utf8.first", "unicode/utf8.acceptRanges"], apart := false, laid := [("unicode/utf8.acceptRanges", laid_unicode_utf8_acceptRanges), ("unicode/utf8.first", laid_unicode_utf8_first)] }
def RefsNamesSaid : Prop := refsNamesRow.holds Tryz.pinned (OpenSpec.ofChange refsNamesSpec)

/-- ITS FALSE NEIGHBOUR: 'it returns false'. Refute it at one input. -/
def refsNamesWrong : ChangeSpec := { name := "refsNames", fn := fun _ => fun
  | [d] => { results := [.lit (.bool false)], args := [d] }
  | _ => none }
def RefsNamesWrongFalsely : Prop := refsNamesRow.holds Tryz.pinned (OpenSpec.ofChange refsNamesWrong)

/-- 'tramwaylaw14.RefsPacked': WHATEVER THE INPUT: true; the input reads as it did. -/
def refsPackedSpec : ChangeSpec := { name := "refsPacked", fn := fun _ => fun
  | [d1, d2] => { results := [.lit (.bool true)], args := [d1, d2] }
  | _ => none }
def refsPackedRow : OpenClaim := { program := "ytponfkfeflnilaagreatdoor", sum := "932347dfb106e4384ffaf3a64e2af718da224a99e67c5e119d8ce25115ebe861", func := "tramway/tramwaylaw14.RefsPacked", spec := "refsPacked", inPlace := ["internal/bytealg.IndexByteString", "internal/bytealg.IndexString", "internal/bytealg.CountString", "internal/abi.NoEscape"], unfollowed := true, recurses := true, named := ["internal/bytealg.MaxLen", "unicode/utf8.first", "unicode/utf8.acceptRanges"], apart := false, laid := [("unicode/utf8.acceptRanges", laid_unicode_utf8_acceptRanges), ("unicode/utf8.first", laid_unicode_utf8_first)] }
def RefsPackedSaid : Prop := refsPackedRow.holds Tryz.pinned (OpenSpec.ofChange refsPackedSpec)

/-- ITS FALSE NEIGHBOUR: 'it returns false'. Refute it at one input. -/
def refsPackedWrong : ChangeSpec := { name := "refsPacked", fn := fun _ => fun
  | [d1, d2] => { results := [.lit (.bool false)], args := [d1, d2] }
  | _ => none }
def RefsPackedWrongFalsely : Prop := refsPackedRow.holds Tryz.pinned (OpenSpec.ofChange refsPackedWrong)

/-- 'tramwaylaw14.RefsErrors': WHATEVER THE INPUT: true; the input reads as it did. -/
def refsErrorsSpec : ChangeSpec := { name := "refsErrors", fn := fun _ => fun
  | [d1, d2, d3] => { results := [.lit (.bool true)], args := [d1, d2, d3] }
  | _ => none }
def refsErrorsRow : OpenClaim := { program := "ytponfkfeflnilaagreatdoor", sum := "932347dfb106e4384ffaf3a64e2af718da224a99e67c5e119d8ce25115ebe861", func := "tramway/tramwaylaw14.RefsErrors", spec := "refsErrors", inPlace := ["internal/bytealg.IndexByteString", "internal/bytealg.CountString", "internal/bytealg.IndexString", "internal/abi.NoEscape"], unfollowed := true, recurses := true, named := ["unicode/utf8.first", "unicode/utf8.acceptRanges", "internal/bytealg.MaxLen"], apart := false, laid := [("unicode/utf8.acceptRanges", laid_unicode_utf8_acceptRanges), ("unicode/utf8.first", laid_unicode_utf8_first)] }
def RefsErrorsSaid : Prop := refsErrorsRow.holds Tryz.pinned (OpenSpec.ofChange refsErrorsSpec)

/-- ITS FALSE NEIGHBOUR: 'it returns false'. Refute it at one input. -/
def refsErrorsWrong : ChangeSpec := { name := "refsErrors", fn := fun _ => fun
  | [d1, d2, d3] => { results := [.lit (.bool false)], args := [d1, d2, d3] }
  | _ => none }
def RefsErrorsWrongFalsely : Prop := refsErrorsRow.holds Tryz.pinned (OpenSpec.ofChange refsErrorsWrong)

/-- 'tramwaylaw14.RefsReads': WHATEVER THE INPUT: true; the input reads as it did. -/
def refsReadsSpec : ChangeSpec := { name := "refsReads", fn := fun _ => fun
  | [d1, d2] => { results := [.lit (.bool true)], args := [d1, d2] }
  | _ => none }
def refsReadsRow : OpenClaim := { program := "ytponfkfeflnilaagreatdoor", sum := "932347dfb106e4384ffaf3a64e2af718da224a99e67c5e119d8ce25115ebe861", func := "tramway/tramwaylaw14.RefsReads", spec := "refsReads", inPlace := ["internal/bytealg.IndexByteString", "internal/bytealg.CountString", "internal/bytealg.IndexString", "internal/abi.NoEscape"], unfollowed := true, recurses := true, named := ["unicode/utf8.first", "unicode/utf8.acceptRanges", "internal/bytealg.MaxLen"], apart := false, laid := [("unicode/utf8.acceptRanges", laid_unicode_utf8_acceptRanges), ("unicode/utf8.first", laid_unicode_utf8_first)] }
def RefsReadsSaid : Prop := refsReadsRow.holds Tryz.pinned (OpenSpec.ofChange refsReadsSpec)

/-- ITS FALSE NEIGHBOUR: 'it returns false'. Refute it at one input. -/
def refsReadsWrong : ChangeSpec := { name := "refsReads", fn := fun _ => fun
  | [d1, d2] => { results := [.lit (.bool false)], args := [d1, d2] }
  | _ => none }
def RefsReadsWrongFalsely : Prop := refsReadsRow.holds Tryz.pinned (OpenSpec.ofChange refsReadsWrong)

/-- 'tramwaylaw14.RefsOthers': WHATEVER THE INPUT: true; the input reads as it did. -/
def refsOthersSpec : ChangeSpec := { name := "refsOthers", fn := fun _ => fun
  | [d1, d2, d3, d4] => { results := [.lit (.bool true)], args := [d1, d2, d3, d4] }
  | _ => none }
def refsOthersRow : OpenClaim := { program := "ytponfkfeflnilaagreatdoor", sum := "932347dfb106e4384ffaf3a64e2af718da224a99e67c5e119d8ce25115ebe861", func := "tramway/tramwaylaw14.RefsOthers", spec := "refsOthers", inPlace := ["internal/bytealg.IndexByteString", "internal/bytealg.CountString", "internal/bytealg.IndexString", "internal/abi.NoEscape"], unfollowed := true, recurses := true, named := ["unicode/utf8.first", "unicode/utf8.acceptRanges", "internal/bytealg.MaxLen"], apart := false, laid := [("unicode/utf8.acceptRanges", laid_unicode_utf8_acceptRanges), ("unicode/utf8.first", laid_unicode_utf8_first)] }
def RefsOthersSaid : Prop := refsOthersRow.holds Tryz.pinned (OpenSpec.ofChange refsOthersSpec)

/-- ITS FALSE NEIGHBOUR: 'it returns false'. Refute it at one input. -/
def refsOthersWrong : ChangeSpec := { name := "refsOthers", fn := fun _ => fun
  | [d1, d2, d3, d4] => { results := [.lit (.bool false)], args := [d1, d2, d3, d4] }
  | _ => none }
def RefsOthersWrongFalsely : Prop := refsOthersRow.holds Tryz.pinned (OpenSpec.ofChange refsOthersWrong)

/-- 'tramwaylaw14.RefsPlays': WHATEVER THE INPUT: true; the input reads as it did. -/
def refsPlaysSpec : ChangeSpec := { name := "refsPlays", fn := fun _ => fun
  | [d] => { results := [.lit (.bool true)], args := [d] }
  | _ => none }
def refsPlaysRow : OpenClaim := { program := "ytponfkfeflnilaagreatdoor", sum := "932347dfb106e4384ffaf3a64e2af718da224a99e67c5e119d8ce25115ebe861", func := "tramway/tramwaylaw14.RefsPlays", spec := "refsPlays", inPlace := ["internal/bytealg.IndexByteString", "internal/bytealg.IndexString", "internal/bytealg.CountString", "internal/abi.NoEscape"], unfollowed := true, recurses := true, named := ["internal/bytealg.MaxLen", "unicode/utf8.first", "unicode/utf8.acceptRanges"], apart := false, laid := [("unicode/utf8.acceptRanges", laid_unicode_utf8_acceptRanges), ("unicode/utf8.first", laid_unicode_utf8_first)] }
def RefsPlaysSaid : Prop := refsPlaysRow.holds Tryz.pinned (OpenSpec.ofChange refsPlaysSpec)

/-- ITS FALSE NEIGHBOUR: 'it returns false'. Refute it at one input. -/
def refsPlaysWrong : ChangeSpec := { name := "refsPlays", fn := fun _ => fun
  | [d] => { results := [.lit (.bool false)], args := [d] }
  | _ => none }
def RefsPlaysWrongFalsely : Prop := refsPlaysRow.holds Tryz.pinned (OpenSpec.ofChange refsPlaysWrong)

/- THE SECOND FORM. 'bulk': how many values and letters a reading holds, each counted each time it is reached (what is shared counts as often as it is met; a slice's spare places count too). A statement '..UptoSaid' is the law's where the arguments, and the package variables that the reading takes, are together of bulk at most 1048576: NARROWER than '..Said'. Prove '..Said' where nothing that the law and all that it calls make is longer than what came in: it says more and counts as full. Else prove '..UptoSaid'. A law counts once. -/
mutual
def uptoBulk {H : Type} : DataW H → Nat
  | .lit (.string bytes) => bytes.length + 1
  | .lit _ => 1
  | .nil => 1
  | .ptr d => uptoBulk d + 1
  | .slice elems spare => uptoBulkAll elems + uptoBulkAll spare + 1
  | .agg parts => uptoBulkAll parts + 1
  | .iface _ d => uptoBulk d + 1
  | .map entries => uptoBulkEntries entries + 1
  | .held _ => 1
def uptoBulkAll {H : Type} : List (DataW H) → Nat
  | [] => 0
  | d :: r => uptoBulk d + uptoBulkAll r
def uptoBulkEntries {H : Type} : List (Lit × DataW H) → Nat
  | [] => 0
  | x :: r => uptoBulkEntry x + uptoBulkEntries r
def uptoBulkEntry {H : Type} : Lit × DataW H → Nat
  | (.string bytes, d) => bytes.length + uptoBulk d + 1
  | (_, d) => uptoBulk d + 1
 end
def uptoSmall : (H : Type) → List (DataW H) → Bool := fun _ ds => decide (uptoBulkAll ds ≤ 1048576)
def OpenSpec.upto (s : _root_.Go.ChangeSpec) : _root_.Go.OpenSpec := { _root_.Go.OpenSpec.ofChange s with cond := some uptoSmall }

/-- 'tramwaylaw14.RefsNames', WHERE WHAT IT READS IS OF BULK AT MOST 1048576: true; the input reads as it did. -/
def refsNamesUptoRow : OpenClaim := { program := "ytponfkfeflnilaagreatdoor", sum := "932347dfb106e4384ffaf3a64e2af718da224a99e67c5e119d8ce25115ebe861", func := "tramway/tramwaylaw14.RefsNames", spec := "refsNames", inPlace := ["internal/bytealg.IndexByteString", "internal/bytealg.IndexString", "internal/bytealg.CountString", "internal/abi.NoEscape"], unfollowed := true, recurses := true, named := ["internal/bytealg.MaxLen", "unicode/utf8.first", "unicode/utf8.acceptRanges"], apart := false, laid := [("unicode/utf8.acceptRanges", laid_unicode_utf8_acceptRanges), ("unicode/utf8.first", laid_unicode_utf8_first)], narrowed := true }
def RefsNamesUptoSaid : Prop := refsNamesUptoRow.holds Tryz.pinned (OpenSpec.upto refsNamesSpec)

/-- 'tramwaylaw14.RefsPacked', WHERE WHAT IT READS IS OF BULK AT MOST 1048576: true; the input reads as it did. -/
def refsPackedUptoRow : OpenClaim := { program := "ytponfkfeflnilaagreatdoor", sum := "932347dfb106e4384ffaf3a64e2af718da224a99e67c5e119d8ce25115ebe861", func := "tramway/tramwaylaw14.RefsPacked", spec := "refsPacked", inPlace := ["internal/bytealg.IndexByteString", "internal/bytealg.IndexString", "internal/bytealg.CountString", "internal/abi.NoEscape"], unfollowed := true, recurses := true, named := ["internal/bytealg.MaxLen", "unicode/utf8.first", "unicode/utf8.acceptRanges"], apart := false, laid := [("unicode/utf8.acceptRanges", laid_unicode_utf8_acceptRanges), ("unicode/utf8.first", laid_unicode_utf8_first)], narrowed := true }
def RefsPackedUptoSaid : Prop := refsPackedUptoRow.holds Tryz.pinned (OpenSpec.upto refsPackedSpec)

/-- 'tramwaylaw14.RefsErrors', WHERE WHAT IT READS IS OF BULK AT MOST 1048576: true; the input reads as it did. -/
def refsErrorsUptoRow : OpenClaim := { program := "ytponfkfeflnilaagreatdoor", sum := "932347dfb106e4384ffaf3a64e2af718da224a99e67c5e119d8ce25115ebe861", func := "tramway/tramwaylaw14.RefsErrors", spec := "refsErrors", inPlace := ["internal/bytealg.IndexByteString", "internal/bytealg.CountString", "internal/bytealg.IndexString", "internal/abi.NoEscape"], unfollowed := true, recurses := true, named := ["unicode/utf8.first", "unicode/utf8.acceptRanges", "internal/bytealg.MaxLen"], apart := false, laid := [("unicode/utf8.acceptRanges", laid_unicode_utf8_acceptRanges), ("unicode/utf8.first", laid_unicode_utf8_first)], narrowed := true }
def RefsErrorsUptoSaid : Prop := refsErrorsUptoRow.holds Tryz.pinned (OpenSpec.upto refsErrorsSpec)

/-- 'tramwaylaw14.RefsReads', WHERE WHAT IT READS IS OF BULK AT MOST 1048576: true; the input reads as it did. -/
def refsReadsUptoRow : OpenClaim := { program := "ytponfkfeflnilaagreatdoor", sum := "932347dfb106e4384ffaf3a64e2af718da224a99e67c5e119d8ce25115ebe861", func := "tramway/tramwaylaw14.RefsReads", spec := "refsReads", inPlace := ["internal/bytealg.IndexByteString", "internal/bytealg.CountString", "internal/bytealg.IndexString", "internal/abi.NoEscape"], unfollowed := true, recurses := true, named := ["unicode/utf8.first", "unicode/utf8.acceptRanges", "internal/bytealg.MaxLen"], apart := false, laid := [("unicode/utf8.acceptRanges", laid_unicode_utf8_acceptRanges), ("unicode/utf8.first", laid_unicode_utf8_first)], narrowed := true }
def RefsReadsUptoSaid : Prop := refsReadsUptoRow.holds Tryz.pinned (OpenSpec.upto refsReadsSpec)

/-- 'tramwaylaw14.RefsOthers', WHERE WHAT IT READS IS OF BULK AT MOST 1048576: true; the input reads as it did. -/
def refsOthersUptoRow : OpenClaim := { program := "ytponfkfeflnilaagreatdoor", sum := "932347dfb106e4384ffaf3a64e2af718da224a99e67c5e119d8ce25115ebe861", func := "tramway/tramwaylaw14.RefsOthers", spec := "refsOthers", inPlace := ["internal/bytealg.IndexByteString", "internal/bytealg.CountString", "internal/bytealg.IndexString", "internal/abi.NoEscape"], unfollowed := true, recurses := true, named := ["unicode/utf8.first", "unicode/utf8.acceptRanges", "internal/bytealg.MaxLen"], apart := false, laid := [("unicode/utf8.acceptRanges", laid_unicode_utf8_acceptRanges), ("unicode/utf8.first", laid_unicode_utf8_first)], narrowed := true }
def RefsOthersUptoSaid : Prop := refsOthersUptoRow.holds Tryz.pinned (OpenSpec.upto refsOthersSpec)

/-- 'tramwaylaw14.RefsPlays', WHERE WHAT IT READS IS OF BULK AT MOST 1048576: true; the input reads as it did. -/
def refsPlaysUptoRow : OpenClaim := { program := "ytponfkfeflnilaagreatdoor", sum := "932347dfb106e4384ffaf3a64e2af718da224a99e67c5e119d8ce25115ebe861", func := "tramway/tramwaylaw14.RefsPlays", spec := "refsPlays", inPlace := ["internal/bytealg.IndexByteString", "internal/bytealg.IndexString", "internal/bytealg.CountString", "internal/abi.NoEscape"], unfollowed := true, recurses := true, named := ["internal/bytealg.MaxLen", "unicode/utf8.first", "unicode/utf8.acceptRanges"], apart := false, laid := [("unicode/utf8.acceptRanges", laid_unicode_utf8_acceptRanges), ("unicode/utf8.first", laid_unicode_utf8_first)], narrowed := true }
def RefsPlaysUptoSaid : Prop := refsPlaysUptoRow.holds Tryz.pinned (OpenSpec.upto refsPlaysSpec)

end Rows
end Go.Proofs.YtponfkfeflnilaaGreatDoor
