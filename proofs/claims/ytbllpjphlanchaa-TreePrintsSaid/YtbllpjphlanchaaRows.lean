/-
  No cell of these rows narrows 'for every input' (looked for: loops, veiled, ifaces, maps, wideKeys, modest, calm, conditions, laid).
  DERIVED. THE GIVEN ROWS OF THIS SEAT. 5 by the template 'for every input the law returns true; each argument reads behind the call as it read before'; 0 by the template 'total and deterministic' (their statements: YtbllpjphlanchaaTotals.lean).
  GIVEN WITH THE SEED: the statements are not yours to turn. If you find one false, say at which input.
  Laid BY PROGRAM, IN A SANDBOX (cutbox-rows.mjs): the forced cells as the released guide's own fill.sh prints them over the translation 1519eb055ca59446… (all of the seat's roots in one cut). By AI agents, Wed Nov 11 2026. No macro, syntax, notation, axiom, sorry.
-/
import Derived.Test.YtbllpjphlanchaaChecked
import GoSem.Claim
import GoSem.ClaimJoined
import GoSem.ClaimMapViews
import Derived.JoinedTies
import Derived.KernelRfl
namespace Go.Proofs.Ytbllpjphlanchaa
/- THE CELL 'sum', in the pinned program and in every row, IS THE sha256 OF THE DUMP (.gsa) THAT YtbllpjphlanchaaProg.lean LOADS. Nothing in Lean hashes anything: it is a label: what it is worth is what the hold of that sum in a sandbox is worth. -/
noncomputable def Try.pinned : Pinned := { name := "ytbllpjphlanchaa", sum := "1519eb055ca5944640898943e7076eb137571809cd0f194d97fb43dffab19c9f", checked := Try.checked }
namespace Rows
def none {H : Type} : Left H := { results := [], args := [] }

/-- 'tramwaylaw10.TreePrints': WHATEVER THE INPUT: true; the input reads as it did. -/
def treePrintsSpec : ChangeSpec := { name := "treePrints", fn := fun _ => fun
  | [d] => { results := [.lit (.bool true)], args := [d] }
  | _ => none }
def treePrintsRow : OpenClaim := { program := "ytbllpjphlanchaa", sum := "1519eb055ca5944640898943e7076eb137571809cd0f194d97fb43dffab19c9f", func := "tramway/tramwaylaw10.TreePrints", spec := "treePrints", inPlace := ["internal/bytealg.IndexByteString", "internal/bytealg.IndexString", "internal/bytealg.abigen_runtime_cmpstring"], unfollowed := true, recurses := true, named := ["internal/bytealg.MaxLen"], apart := false }
def TreePrintsSaid : Prop := treePrintsRow.holds Try.pinned (OpenSpec.ofChange treePrintsSpec)

/-- ITS FALSE NEIGHBOUR: 'it returns false'. Refute it at one input. -/
def treePrintsWrong : ChangeSpec := { name := "treePrints", fn := fun _ => fun
  | [d] => { results := [.lit (.bool false)], args := [d] }
  | _ => none }
def TreePrintsWrongFalsely : Prop := treePrintsRow.holds Try.pinned (OpenSpec.ofChange treePrintsWrong)

/-- 'tramwaylaw10.TreeSorts': WHATEVER THE INPUT: true; the input reads as it did. -/
def treeSortsSpec : ChangeSpec := { name := "treeSorts", fn := fun _ => fun
  | [d1, d2] => { results := [.lit (.bool true)], args := [d1, d2] }
  | _ => none }
def treeSortsRow : OpenClaim := { program := "ytbllpjphlanchaa", sum := "1519eb055ca5944640898943e7076eb137571809cd0f194d97fb43dffab19c9f", func := "tramway/tramwaylaw10.TreeSorts", spec := "treeSorts", inPlace := ["internal/bytealg.abigen_runtime_cmpstring", "internal/bytealg.IndexByteString", "internal/bytealg.IndexString"], unfollowed := true, recurses := true, named := ["internal/bytealg.MaxLen"], apart := false }
def TreeSortsSaid : Prop := treeSortsRow.holds Try.pinned (OpenSpec.ofChange treeSortsSpec)

/-- ITS FALSE NEIGHBOUR: 'it returns false'. Refute it at one input. -/
def treeSortsWrong : ChangeSpec := { name := "treeSorts", fn := fun _ => fun
  | [d1, d2] => { results := [.lit (.bool false)], args := [d1, d2] }
  | _ => none }
def TreeSortsWrongFalsely : Prop := treeSortsRow.holds Try.pinned (OpenSpec.ofChange treeSortsWrong)

/-- 'tramwaylaw10.TreeParses': WHATEVER THE INPUT: true; the input reads as it did. -/
def treeParsesSpec : ChangeSpec := { name := "treeParses", fn := fun _ => fun
  | [d] => { results := [.lit (.bool true)], args := [d] }
  | _ => none }
def treeParsesRow : OpenClaim := { program := "ytbllpjphlanchaa", sum := "1519eb055ca5944640898943e7076eb137571809cd0f194d97fb43dffab19c9f", func := "tramway/tramwaylaw10.TreeParses", spec := "treeParses", inPlace := ["internal/bytealg.IndexByte", "internal/bytealg.Index", "internal/bytealg.IndexByteString", "internal/bytealg.IndexString", "internal/bytealg.abigen_runtime_cmpstring"], unfollowed := true, recurses := true, named := ["internal/bytealg.MaxLen"], apart := false }
def TreeParsesSaid : Prop := treeParsesRow.holds Try.pinned (OpenSpec.ofChange treeParsesSpec)

/-- ITS FALSE NEIGHBOUR: 'it returns false'. Refute it at one input. -/
def treeParsesWrong : ChangeSpec := { name := "treeParses", fn := fun _ => fun
  | [d] => { results := [.lit (.bool false)], args := [d] }
  | _ => none }
def TreeParsesWrongFalsely : Prop := treeParsesRow.holds Try.pinned (OpenSpec.ofChange treeParsesWrong)

/-- 'tramwaylaw10.TreeBack': WHATEVER THE INPUT: true; the input reads as it did. -/
def treeBackSpec : ChangeSpec := { name := "treeBack", fn := fun _ => fun
  | [d1, d2, d3] => { results := [.lit (.bool true)], args := [d1, d2, d3] }
  | _ => none }
def treeBackRow : OpenClaim := { program := "ytbllpjphlanchaa", sum := "1519eb055ca5944640898943e7076eb137571809cd0f194d97fb43dffab19c9f", func := "tramway/tramwaylaw10.TreeBack", spec := "treeBack", inPlace := ["internal/bytealg.IndexByte", "internal/bytealg.Index", "internal/bytealg.IndexByteString", "internal/bytealg.IndexString", "internal/bytealg.abigen_runtime_cmpstring"], unfollowed := true, recurses := true, named := ["internal/bytealg.MaxLen"], apart := false }
def TreeBackSaid : Prop := treeBackRow.holds Try.pinned (OpenSpec.ofChange treeBackSpec)

/-- ITS FALSE NEIGHBOUR: 'it returns false'. Refute it at one input. -/
def treeBackWrong : ChangeSpec := { name := "treeBack", fn := fun _ => fun
  | [d1, d2, d3] => { results := [.lit (.bool false)], args := [d1, d2, d3] }
  | _ => none }
def TreeBackWrongFalsely : Prop := treeBackRow.holds Try.pinned (OpenSpec.ofChange treeBackWrong)

/-- 'tramwaylaw10.TreeSome': WHATEVER THE INPUT: true; the input reads as it did. -/
def treeSomeSpec : ChangeSpec := { name := "treeSome", fn := fun _ => fun
  | [d1, d2, d3] => { results := [.lit (.bool true)], args := [d1, d2, d3] }
  | _ => none }
def treeSomeRow : OpenClaim := { program := "ytbllpjphlanchaa", sum := "1519eb055ca5944640898943e7076eb137571809cd0f194d97fb43dffab19c9f", func := "tramway/tramwaylaw10.TreeSome", spec := "treeSome", inPlace := ["internal/bytealg.IndexByteString", "internal/bytealg.IndexString", "internal/bytealg.abigen_runtime_cmpstring", "internal/bytealg.IndexByte", "internal/bytealg.Index"], unfollowed := true, recurses := true, named := ["internal/bytealg.MaxLen"], apart := false }
def TreeSomeSaid : Prop := treeSomeRow.holds Try.pinned (OpenSpec.ofChange treeSomeSpec)

/-- ITS FALSE NEIGHBOUR: 'it returns false'. Refute it at one input. -/
def treeSomeWrong : ChangeSpec := { name := "treeSome", fn := fun _ => fun
  | [d1, d2, d3] => { results := [.lit (.bool false)], args := [d1, d2, d3] }
  | _ => none }
def TreeSomeWrongFalsely : Prop := treeSomeRow.holds Try.pinned (OpenSpec.ofChange treeSomeWrong)

/- THE SECOND FORM. 'bulk': how many values and letters a reading holds, each counted each time it is reached (what is shared counts as often as it is met; a slice's spare places count too). A statement '..UptoSaid' is the law's where the arguments, and the package variables that the reading takes, are together of bulk at most 1048576: NARROWER than '..Said'. Prove '..Said' where nothing that the law and all that it calls make is longer than what came in: it says more and counts as full. Else prove '..UptoSaid'. A law counts once. -/
mutual
def uptoBulk {H : Type} : DataW H → Nat
  | .lit (.string bytes) => bytes.length + 1
  | .lit _ => 1
  | .nil => 1
  | .ptr d => uptoBulk d + 1
  | .slice elems spare => uptoBulkAll elems + uptoBulkAll spare + 1
  | .agg parts => uptoBulkAll parts + 1
  | .iface _ d => uptoBulk d + 1
  | .map entries => uptoBulkEntries entries + 1
  | .held _ => 1
def uptoBulkAll {H : Type} : List (DataW H) → Nat
  | [] => 0
  | d :: r => uptoBulk d + uptoBulkAll r
def uptoBulkEntries {H : Type} : List (Lit × DataW H) → Nat
  | [] => 0
  | x :: r => uptoBulkEntry x + uptoBulkEntries r
def uptoBulkEntry {H : Type} : Lit × DataW H → Nat
  | (.string bytes, d) => bytes.length + uptoBulk d + 1
  | (_, d) => uptoBulk d + 1
 end
def uptoSmall : (H : Type) → List (DataW H) → Bool := fun _ ds => decide (uptoBulkAll ds ≤ 1048576)
def OpenSpec.upto (s : _root_.Go.ChangeSpec) : _root_.Go.OpenSpec := { _root_.Go.OpenSpec.ofChange s with cond := some uptoSmall }

/-- 'tramwaylaw10.TreePrints', WHERE WHAT IT READS IS OF BULK AT MOST 1048576: true; the input reads as it did. -/
def treePrintsUptoRow : OpenClaim := { program := "ytbllpjphlanchaa", sum := "1519eb055ca5944640898943e7076eb137571809cd0f194d97fb43dffab19c9f", func := "tramway/tramwaylaw10.TreePrints", spec := "treePrints", inPlace := ["internal/bytealg.IndexByteString", "internal/bytealg.IndexString", "internal/bytealg.abigen_runtime_cmpstring"], unfollowed := true, recurses := true, named := ["internal/bytealg.MaxLen"], apart := false, narrowed := true }
def TreePrintsUptoSaid : Prop := treePrintsUptoRow.holds Try.pinned (OpenSpec.upto treePrintsSpec)

/-- 'tramwaylaw10.TreeSorts', WHERE WHAT IT READS IS OF BULK AT MOST 1048576: true; the input reads as it did. -/
def treeSortsUptoRow : OpenClaim := { program := "ytbllpjphlanchaa", sum := "1519eb055ca5944640898943e7076eb137571809cd0f194d97fb43dffab19c9f", func := "tramway/tramwaylaw10.TreeSorts", spec := "treeSorts", inPlace := ["internal/bytealg.abigen_runtime_cmpstring", "internal/bytealg.IndexByteString", "internal/bytealg.IndexString"], unfollowed := true, recurses := true, named := ["internal/bytealg.MaxLen"], apart := false, narrowed := true }
def TreeSortsUptoSaid : Prop := treeSortsUptoRow.holds Try.pinned (OpenSpec.upto treeSortsSpec)

/-- 'tramwaylaw10.TreeParses', WHERE WHAT IT READS IS OF BULK AT MOST 1048576: true; the input reads as it did. -/
def treeParsesUptoRow : OpenClaim := { program := "ytbllpjphlanchaa", sum := "1519eb055ca5944640898943e7076eb137571809cd0f194d97fb43dffab19c9f", func := "tramway/tramwaylaw10.TreeParses", spec := "treeParses", inPlace := ["internal/bytealg.IndexByte", "internal/bytealg.Index", "internal/bytealg.IndexByteString", "internal/bytealg.IndexString", "internal/bytealg.abigen_runtime_cmpstring"], unfollowed := true, recurses := true, named := ["internal/bytealg.MaxLen"], apart := false, narrowed := true }
def TreeParsesUptoSaid : Prop := treeParsesUptoRow.holds Try.pinned (OpenSpec.upto treeParsesSpec)

/-- 'tramwaylaw10.TreeBack', WHERE WHAT IT READS IS OF BULK AT MOST 1048576: true; the input reads as it did. -/
def treeBackUptoRow : OpenClaim := { program := "ytbllpjphlanchaa", sum := "1519eb055ca5944640898943e7076eb137571809cd0f194d97fb43dffab19c9f", func := "tramway/tramwaylaw10.TreeBack", spec := "treeBack", inPlace := ["internal/bytealg.IndexByte", "internal/bytealg.Index", "internal/bytealg.IndexByteString", "internal/bytealg.IndexString", "internal/bytealg.abigen_runtime_cmpstring"], unfollowed := true, recurses := true, named := ["internal/bytealg.MaxLen"], apart := false, narrowed := true }
def TreeBackUptoSaid : Prop := treeBackUptoRow.holds Try.pinned (OpenSpec.upto treeBackSpec)

/-- 'tramwaylaw10.TreeSome', WHERE WHAT IT READS IS OF BULK AT MOST 1048576: true; the input reads as it did. -/
def treeSomeUptoRow : OpenClaim := { program := "ytbllpjphlanchaa", sum := "1519eb055ca5944640898943e7076eb137571809cd0f194d97fb43dffab19c9f", func := "tramway/tramwaylaw10.TreeSome", spec := "treeSome", inPlace := ["internal/bytealg.IndexByteString", "internal/bytealg.IndexString", "internal/bytealg.abigen_runtime_cmpstring", "internal/bytealg.IndexByte", "internal/bytealg.Index"], unfollowed := true, recurses := true, named := ["internal/bytealg.MaxLen"], apart := false, narrowed := true }
def TreeSomeUptoSaid : Prop := treeSomeUptoRow.holds Try.pinned (OpenSpec.upto treeSomeSpec)

end Rows
end Go.Proofs.Ytbllpjphlanchaa
