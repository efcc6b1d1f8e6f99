/-
  No cell of these rows narrows 'for every input' (looked for: loops, veiled, ifaces, maps, wideKeys, modest, calm, conditions, laid).
  DERIVED. THE GIVEN ROWS OF THIS SEAT. 15 by the template 'for every input the law returns true; each argument reads behind the call as it read before'; 0 by the template 'total and deterministic' (their statements: YtaapnjhkflpiiaaTotals.lean).
  GIVEN WITH THE SEED: the statements are not yours to turn. If you find one false, say at which input.
  Laid BY PROGRAM, IN A SANDBOX (cutbox-rows.mjs): the forced cells as the released guide's own fill.sh prints them over the translation ae2f3946fb9db643… (all of the seat's roots in one cut). By AI agents, Wed Nov 11 2026. No macro, syntax, notation, axiom, sorry.
-/
import Derived.Test.YtaapnjhkflpiiaaChecked
import GoSem.Claim
import GoSem.ClaimJoined
import GoSem.ClaimMapViews
import Derived.JoinedTies
import Derived.KernelRfl
namespace Go.Proofs.Ytaapnjhkflpiiaa
/- THE CELL 'sum', in the pinned program and in every row, IS THE sha256 OF THE DUMP (.gsa) THAT YtaapnjhkflpiiaaProg.lean LOADS. Nothing in Lean hashes anything: it is a label: what it is worth is what the hold of that sum in a sandbox is worth. -/
noncomputable def Try.pinned : Pinned := { name := "ytaapnjhkflpiiaa", sum := "ae2f3946fb9db6435eb5cf144952bd3425e7c55dd4f10a68c1c1482bcdef0334", checked := Try.checked }
namespace Rows
def none {H : Type} : Left H := { results := [], args := [] }

/-- 'tramwaylaw04.DeflateShort': WHATEVER THE INPUT: true; the input reads as it did. -/
def deflateShortSpec : ChangeSpec := { name := "deflateShort", fn := fun _ => fun
  | [d1, d2] => { results := [.lit (.bool true)], args := [d1, d2] }
  | _ => none }
def deflateShortRow : OpenClaim := { program := "ytaapnjhkflpiiaa", sum := "ae2f3946fb9db6435eb5cf144952bd3425e7c55dd4f10a68c1c1482bcdef0334", func := "tramway/tramwaylaw04.DeflateShort", spec := "deflateShort", plainKeys := false, apart := false }
def DeflateShortSaid : Prop := deflateShortRow.holds Try.pinned (OpenSpec.ofChange deflateShortSpec)

/-- ITS FALSE NEIGHBOUR: 'it returns false'. Refute it at one input. -/
def deflateShortWrong : ChangeSpec := { name := "deflateShort", fn := fun _ => fun
  | [d1, d2] => { results := [.lit (.bool false)], args := [d1, d2] }
  | _ => none }
def DeflateShortWrongFalsely : Prop := deflateShortRow.holds Try.pinned (OpenSpec.ofChange deflateShortWrong)

/-- 'tramwaylaw04.DeflateSizes': WHATEVER THE INPUT: true; the input reads as it did. -/
def deflateSizesSpec : ChangeSpec := { name := "deflateSizes", fn := fun _ => fun
  | [d1, d2] => { results := [.lit (.bool true)], args := [d1, d2] }
  | _ => none }
def deflateSizesRow : OpenClaim := { program := "ytaapnjhkflpiiaa", sum := "ae2f3946fb9db6435eb5cf144952bd3425e7c55dd4f10a68c1c1482bcdef0334", func := "tramway/tramwaylaw04.DeflateSizes", spec := "deflateSizes", plainKeys := false, apart := false }
def DeflateSizesSaid : Prop := deflateSizesRow.holds Try.pinned (OpenSpec.ofChange deflateSizesSpec)

/-- ITS FALSE NEIGHBOUR: 'it returns false'. Refute it at one input. -/
def deflateSizesWrong : ChangeSpec := { name := "deflateSizes", fn := fun _ => fun
  | [d1, d2] => { results := [.lit (.bool false)], args := [d1, d2] }
  | _ => none }
def DeflateSizesWrongFalsely : Prop := deflateSizesRow.holds Try.pinned (OpenSpec.ofChange deflateSizesWrong)

/-- 'tramwaylaw04.DeflateBack': WHATEVER THE INPUT: true; the input reads as it did. -/
def deflateBackSpec : ChangeSpec := { name := "deflateBack", fn := fun _ => fun
  | [d1, d2] => { results := [.lit (.bool true)], args := [d1, d2] }
  | _ => none }
def deflateBackRow : OpenClaim := { program := "ytaapnjhkflpiiaa", sum := "ae2f3946fb9db6435eb5cf144952bd3425e7c55dd4f10a68c1c1482bcdef0334", func := "tramway/tramwaylaw04.DeflateBack", spec := "deflateBack", unfollowed := true, recurses := true, plainKeys := false, apart := false }
def DeflateBackSaid : Prop := deflateBackRow.holds Try.pinned (OpenSpec.ofChange deflateBackSpec)

/-- ITS FALSE NEIGHBOUR: 'it returns false'. Refute it at one input. -/
def deflateBackWrong : ChangeSpec := { name := "deflateBack", fn := fun _ => fun
  | [d1, d2] => { results := [.lit (.bool false)], args := [d1, d2] }
  | _ => none }
def DeflateBackWrongFalsely : Prop := deflateBackRow.holds Try.pinned (OpenSpec.ofChange deflateBackWrong)

/-- 'tramwaylaw04.DeflateStored': WHATEVER THE INPUT: true; the input reads as it did. -/
def deflateStoredSpec : ChangeSpec := { name := "deflateStored", fn := fun _ => fun
  | [d1, d2, d3] => { results := [.lit (.bool true)], args := [d1, d2, d3] }
  | _ => none }
def deflateStoredRow : OpenClaim := { program := "ytaapnjhkflpiiaa", sum := "ae2f3946fb9db6435eb5cf144952bd3425e7c55dd4f10a68c1c1482bcdef0334", func := "tramway/tramwaylaw04.DeflateStored", spec := "deflateStored", unfollowed := true, recurses := true, plainKeys := false, apart := false }
def DeflateStoredSaid : Prop := deflateStoredRow.holds Try.pinned (OpenSpec.ofChange deflateStoredSpec)

/-- ITS FALSE NEIGHBOUR: 'it returns false'. Refute it at one input. -/
def deflateStoredWrong : ChangeSpec := { name := "deflateStored", fn := fun _ => fun
  | [d1, d2, d3] => { results := [.lit (.bool false)], args := [d1, d2, d3] }
  | _ => none }
def DeflateStoredWrongFalsely : Prop := deflateStoredRow.holds Try.pinned (OpenSpec.ofChange deflateStoredWrong)

/-- 'tramwaylaw04.DeflateRuns': WHATEVER THE INPUT: true; the input reads as it did. -/
def deflateRunsSpec : ChangeSpec := { name := "deflateRuns", fn := fun _ => fun
  | [d1, d2] => { results := [.lit (.bool true)], args := [d1, d2] }
  | _ => none }
def deflateRunsRow : OpenClaim := { program := "ytaapnjhkflpiiaa", sum := "ae2f3946fb9db6435eb5cf144952bd3425e7c55dd4f10a68c1c1482bcdef0334", func := "tramway/tramwaylaw04.DeflateRuns", spec := "deflateRuns", unfollowed := true, recurses := true, plainKeys := false, apart := false }
def DeflateRunsSaid : Prop := deflateRunsRow.holds Try.pinned (OpenSpec.ofChange deflateRunsSpec)

/-- ITS FALSE NEIGHBOUR: 'it returns false'. Refute it at one input. -/
def deflateRunsWrong : ChangeSpec := { name := "deflateRuns", fn := fun _ => fun
  | [d1, d2] => { results := [.lit (.bool false)], args := [d1, d2] }
  | _ => none }
def DeflateRunsWrongFalsely : Prop := deflateRunsRow.holds Try.pinned (OpenSpec.ofChange deflateRunsWrong)

/-- 'tramwaylaw03.InflateRaw': WHATEVER THE INPUT: true; the input reads as it did. -/
def inflateRawSpec : ChangeSpec := { name := "inflateRaw", fn := fun _ => fun
  | [d1, d2] => { results := [.lit (.bool true)], args := [d1, d2] }
  | _ => none }
def inflateRawRow : OpenClaim := { program := "ytaapnjhkflpiiaa", sum := "ae2f3946fb9db6435eb5cf144952bd3425e7c55dd4f10a68c1c1482bcdef0334", func := "tramway/tramwaylaw03.InflateRaw", spec := "inflateRaw", unfollowed := true, recurses := true, plainKeys := false, apart := false }
def InflateRawSaid : Prop := inflateRawRow.holds Try.pinned (OpenSpec.ofChange inflateRawSpec)

/-- ITS FALSE NEIGHBOUR: 'it returns false'. Refute it at one input. -/
def inflateRawWrong : ChangeSpec := { name := "inflateRaw", fn := fun _ => fun
  | [d1, d2] => { results := [.lit (.bool false)], args := [d1, d2] }
  | _ => none }
def InflateRawWrongFalsely : Prop := inflateRawRow.holds Try.pinned (OpenSpec.ofChange inflateRawWrong)

/-- 'tramwaylaw03.InflateMore': WHATEVER THE INPUT: true; the input reads as it did. -/
def inflateMoreSpec : ChangeSpec := { name := "inflateMore", fn := fun _ => fun
  | [d1, d2, d3] => { results := [.lit (.bool true)], args := [d1, d2, d3] }
  | _ => none }
def inflateMoreRow : OpenClaim := { program := "ytaapnjhkflpiiaa", sum := "ae2f3946fb9db6435eb5cf144952bd3425e7c55dd4f10a68c1c1482bcdef0334", func := "tramway/tramwaylaw03.InflateMore", spec := "inflateMore", unfollowed := true, recurses := true, plainKeys := false, apart := false }
def InflateMoreSaid : Prop := inflateMoreRow.holds Try.pinned (OpenSpec.ofChange inflateMoreSpec)

/-- ITS FALSE NEIGHBOUR: 'it returns false'. Refute it at one input. -/
def inflateMoreWrong : ChangeSpec := { name := "inflateMore", fn := fun _ => fun
  | [d1, d2, d3] => { results := [.lit (.bool false)], args := [d1, d2, d3] }
  | _ => none }
def InflateMoreWrongFalsely : Prop := inflateMoreRow.holds Try.pinned (OpenSpec.ofChange inflateMoreWrong)

/-- 'tramwaylaw03.InflateStored': WHATEVER THE INPUT: true; the input reads as it did. -/
def inflateStoredSpec : ChangeSpec := { name := "inflateStored", fn := fun _ => fun
  | [d1, d2] => { results := [.lit (.bool true)], args := [d1, d2] }
  | _ => none }
def inflateStoredRow : OpenClaim := { program := "ytaapnjhkflpiiaa", sum := "ae2f3946fb9db6435eb5cf144952bd3425e7c55dd4f10a68c1c1482bcdef0334", func := "tramway/tramwaylaw03.InflateStored", spec := "inflateStored", unfollowed := true, recurses := true, plainKeys := false, apart := false }
def InflateStoredSaid : Prop := inflateStoredRow.holds Try.pinned (OpenSpec.ofChange inflateStoredSpec)

/-- ITS FALSE NEIGHBOUR: 'it returns false'. Refute it at one input. -/
def inflateStoredWrong : ChangeSpec := { name := "inflateStored", fn := fun _ => fun
  | [d1, d2] => { results := [.lit (.bool false)], args := [d1, d2] }
  | _ => none }
def InflateStoredWrongFalsely : Prop := inflateStoredRow.holds Try.pinned (OpenSpec.ofChange inflateStoredWrong)

/-- 'tramwaylaw03.InflateFixed': WHATEVER THE INPUT: true; the input reads as it did. -/
def inflateFixedSpec : ChangeSpec := { name := "inflateFixed", fn := fun _ => fun
  | [d1, d2] => { results := [.lit (.bool true)], args := [d1, d2] }
  | _ => none }
def inflateFixedRow : OpenClaim := { program := "ytaapnjhkflpiiaa", sum := "ae2f3946fb9db6435eb5cf144952bd3425e7c55dd4f10a68c1c1482bcdef0334", func := "tramway/tramwaylaw03.InflateFixed", spec := "inflateFixed", unfollowed := true, recurses := true, plainKeys := false, apart := false }
def InflateFixedSaid : Prop := inflateFixedRow.holds Try.pinned (OpenSpec.ofChange inflateFixedSpec)

/-- ITS FALSE NEIGHBOUR: 'it returns false'. Refute it at one input. -/
def inflateFixedWrong : ChangeSpec := { name := "inflateFixed", fn := fun _ => fun
  | [d1, d2] => { results := [.lit (.bool false)], args := [d1, d2] }
  | _ => none }
def InflateFixedWrongFalsely : Prop := inflateFixedRow.holds Try.pinned (OpenSpec.ofChange inflateFixedWrong)

/-- 'tramwaylaw03.InflateAhead': WHATEVER THE INPUT: true; the input reads as it did. -/
def inflateAheadSpec : ChangeSpec := { name := "inflateAhead", fn := fun _ => fun
  | [d1, d2] => { results := [.lit (.bool true)], args := [d1, d2] }
  | _ => none }
def inflateAheadRow : OpenClaim := { program := "ytaapnjhkflpiiaa", sum := "ae2f3946fb9db6435eb5cf144952bd3425e7c55dd4f10a68c1c1482bcdef0334", func := "tramway/tramwaylaw03.InflateAhead", spec := "inflateAhead", unfollowed := true, recurses := true, plainKeys := false, apart := false }
def InflateAheadSaid : Prop := inflateAheadRow.holds Try.pinned (OpenSpec.ofChange inflateAheadSpec)

/-- ITS FALSE NEIGHBOUR: 'it returns false'. Refute it at one input. -/
def inflateAheadWrong : ChangeSpec := { name := "inflateAhead", fn := fun _ => fun
  | [d1, d2] => { results := [.lit (.bool false)], args := [d1, d2] }
  | _ => none }
def InflateAheadWrongFalsely : Prop := inflateAheadRow.holds Try.pinned (OpenSpec.ofChange inflateAheadWrong)

/-- 'tramwaylaw05.ZlibOpens': WHATEVER THE INPUT: true; the input reads as it did. -/
def zlibOpensSpec : ChangeSpec := { name := "zlibOpens", fn := fun _ => fun
  | [d1, d2] => { results := [.lit (.bool true)], args := [d1, d2] }
  | _ => none }
def zlibOpensRow : OpenClaim := { program := "ytaapnjhkflpiiaa", sum := "ae2f3946fb9db6435eb5cf144952bd3425e7c55dd4f10a68c1c1482bcdef0334", func := "tramway/tramwaylaw05.ZlibOpens", spec := "zlibOpens", unfollowed := true, recurses := true, plainKeys := false, apart := false }
def ZlibOpensSaid : Prop := zlibOpensRow.holds Try.pinned (OpenSpec.ofChange zlibOpensSpec)

/-- ITS FALSE NEIGHBOUR: 'it returns false'. Refute it at one input. -/
def zlibOpensWrong : ChangeSpec := { name := "zlibOpens", fn := fun _ => fun
  | [d1, d2] => { results := [.lit (.bool false)], args := [d1, d2] }
  | _ => none }
def ZlibOpensWrongFalsely : Prop := zlibOpensRow.holds Try.pinned (OpenSpec.ofChange zlibOpensWrong)

/-- 'tramwaylaw05.ZlibAny': WHATEVER THE INPUT: true; the input reads as it did. -/
def zlibAnySpec : ChangeSpec := { name := "zlibAny", fn := fun _ => fun
  | [d1, d2] => { results := [.lit (.bool true)], args := [d1, d2] }
  | _ => none }
def zlibAnyRow : OpenClaim := { program := "ytaapnjhkflpiiaa", sum := "ae2f3946fb9db6435eb5cf144952bd3425e7c55dd4f10a68c1c1482bcdef0334", func := "tramway/tramwaylaw05.ZlibAny", spec := "zlibAny", unfollowed := true, recurses := true, plainKeys := false, apart := false }
def ZlibAnySaid : Prop := zlibAnyRow.holds Try.pinned (OpenSpec.ofChange zlibAnySpec)

/-- ITS FALSE NEIGHBOUR: 'it returns false'. Refute it at one input. -/
def zlibAnyWrong : ChangeSpec := { name := "zlibAny", fn := fun _ => fun
  | [d1, d2] => { results := [.lit (.bool false)], args := [d1, d2] }
  | _ => none }
def ZlibAnyWrongFalsely : Prop := zlibAnyRow.holds Try.pinned (OpenSpec.ofChange zlibAnyWrong)

/-- 'tramwaylaw05.ZlibWraps': WHATEVER THE INPUT: true; the input reads as it did. -/
def zlibWrapsSpec : ChangeSpec := { name := "zlibWraps", fn := fun _ => fun
  | [d] => { results := [.lit (.bool true)], args := [d] }
  | _ => none }
def zlibWrapsRow : OpenClaim := { program := "ytaapnjhkflpiiaa", sum := "ae2f3946fb9db6435eb5cf144952bd3425e7c55dd4f10a68c1c1482bcdef0334", func := "tramway/tramwaylaw05.ZlibWraps", spec := "zlibWraps", unfollowed := true, recurses := true, plainKeys := false, apart := false }
def ZlibWrapsSaid : Prop := zlibWrapsRow.holds Try.pinned (OpenSpec.ofChange zlibWrapsSpec)

/-- ITS FALSE NEIGHBOUR: 'it returns false'. Refute it at one input. -/
def zlibWrapsWrong : ChangeSpec := { name := "zlibWraps", fn := fun _ => fun
  | [d] => { results := [.lit (.bool false)], args := [d] }
  | _ => none }
def ZlibWrapsWrongFalsely : Prop := zlibWrapsRow.holds Try.pinned (OpenSpec.ofChange zlibWrapsWrong)

/-- 'tramwaylaw05.ZlibBack': WHATEVER THE INPUT: true; the input reads as it did. -/
def zlibBackSpec : ChangeSpec := { name := "zlibBack", fn := fun _ => fun
  | [d1, d2, d3, d4] => { results := [.lit (.bool true)], args := [d1, d2, d3, d4] }
  | _ => none }
def zlibBackRow : OpenClaim := { program := "ytaapnjhkflpiiaa", sum := "ae2f3946fb9db6435eb5cf144952bd3425e7c55dd4f10a68c1c1482bcdef0334", func := "tramway/tramwaylaw05.ZlibBack", spec := "zlibBack", unfollowed := true, recurses := true, plainKeys := false, apart := false }
def ZlibBackSaid : Prop := zlibBackRow.holds Try.pinned (OpenSpec.ofChange zlibBackSpec)

/-- ITS FALSE NEIGHBOUR: 'it returns false'. Refute it at one input. -/
def zlibBackWrong : ChangeSpec := { name := "zlibBack", fn := fun _ => fun
  | [d1, d2, d3, d4] => { results := [.lit (.bool false)], args := [d1, d2, d3, d4] }
  | _ => none }
def ZlibBackWrongFalsely : Prop := zlibBackRow.holds Try.pinned (OpenSpec.ofChange zlibBackWrong)

/-- 'tramwaylaw05.ZlibHeads': WHATEVER THE INPUT: true; the input reads as it did. -/
def zlibHeadsSpec : ChangeSpec := { name := "zlibHeads", fn := fun _ => fun
  | [d1, d2, d3] => { results := [.lit (.bool true)], args := [d1, d2, d3] }
  | _ => none }
def zlibHeadsRow : OpenClaim := { program := "ytaapnjhkflpiiaa", sum := "ae2f3946fb9db6435eb5cf144952bd3425e7c55dd4f10a68c1c1482bcdef0334", func := "tramway/tramwaylaw05.ZlibHeads", spec := "zlibHeads", unfollowed := true, recurses := true, plainKeys := false, apart := false }
def ZlibHeadsSaid : Prop := zlibHeadsRow.holds Try.pinned (OpenSpec.ofChange zlibHeadsSpec)

/-- ITS FALSE NEIGHBOUR: 'it returns false'. Refute it at one input. -/
def zlibHeadsWrong : ChangeSpec := { name := "zlibHeads", fn := fun _ => fun
  | [d1, d2, d3] => { results := [.lit (.bool false)], args := [d1, d2, d3] }
  | _ => none }
def ZlibHeadsWrongFalsely : Prop := zlibHeadsRow.holds Try.pinned (OpenSpec.ofChange zlibHeadsWrong)

/- THE SECOND FORM. 'bulk': how many values and letters a reading holds, each counted each time it is reached (what is shared counts as often as it is met; a slice's spare places count too). A statement '..UptoSaid' is the law's where the arguments, and the package variables that the reading takes, are together of bulk at most 1048576: NARROWER than '..Said'. Prove '..Said' where nothing that the law and all that it calls make is longer than what came in: it says more and counts as full. Else prove '..UptoSaid'. A law counts once. -/
mutual
def uptoBulk {H : Type} : DataW H → Nat
  | .lit (.string bytes) => bytes.length + 1
  | .lit _ => 1
  | .nil => 1
  | .ptr d => uptoBulk d + 1
  | .slice elems spare => uptoBulkAll elems + uptoBulkAll spare + 1
  | .agg parts => uptoBulkAll parts + 1
  | .iface _ d => uptoBulk d + 1
  | .map entries => uptoBulkEntries entries + 1
  | .held _ => 1
def uptoBulkAll {H : Type} : List (DataW H) → Nat
  | [] => 0
  | d :: r => uptoBulk d + uptoBulkAll r
def uptoBulkEntries {H : Type} : List (Lit × DataW H) → Nat
  | [] => 0
  | x :: r => uptoBulkEntry x + uptoBulkEntries r
def uptoBulkEntry {H : Type} : Lit × DataW H → Nat
  | (.string bytes, d) => bytes.length + uptoBulk d + 1
  | (_, d) => uptoBulk d + 1
 end
def uptoSmall : (H : Type) → List (DataW H) → Bool := fun _ ds => decide (uptoBulkAll ds ≤ 1048576)
def OpenSpec.upto (s : _root_.Go.ChangeSpec) : _root_.Go.OpenSpec := { _root_.Go.OpenSpec.ofChange s with cond := some uptoSmall }

/-- 'tramwaylaw04.DeflateShort', WHERE WHAT IT READS IS OF BULK AT MOST 1048576: true; the input reads as it did. -/
def deflateShortUptoRow : OpenClaim := { program := "ytaapnjhkflpiiaa", sum := "ae2f3946fb9db6435eb5cf144952bd3425e7c55dd4f10a68c1c1482bcdef0334", func := "tramway/tramwaylaw04.DeflateShort", spec := "deflateShort", plainKeys := false, apart := false, narrowed := true }
def DeflateShortUptoSaid : Prop := deflateShortUptoRow.holds Try.pinned (OpenSpec.upto deflateShortSpec)

/-- 'tramwaylaw04.DeflateSizes', WHERE WHAT IT READS IS OF BULK AT MOST 1048576: true; the input reads as it did. -/
def deflateSizesUptoRow : OpenClaim := { program := "ytaapnjhkflpiiaa", sum := "ae2f3946fb9db6435eb5cf144952bd3425e7c55dd4f10a68c1c1482bcdef0334", func := "tramway/tramwaylaw04.DeflateSizes", spec := "deflateSizes", plainKeys := false, apart := false, narrowed := true }
def DeflateSizesUptoSaid : Prop := deflateSizesUptoRow.holds Try.pinned (OpenSpec.upto deflateSizesSpec)

/-- 'tramwaylaw04.DeflateBack', WHERE WHAT IT READS IS OF BULK AT MOST 1048576: true; the input reads as it did. -/
def deflateBackUptoRow : OpenClaim := { program := "ytaapnjhkflpiiaa", sum := "ae2f3946fb9db6435eb5cf144952bd3425e7c55dd4f10a68c1c1482bcdef0334", func := "tramway/tramwaylaw04.DeflateBack", spec := "deflateBack", unfollowed := true, recurses := true, plainKeys := false, apart := false, narrowed := true }
def DeflateBackUptoSaid : Prop := deflateBackUptoRow.holds Try.pinned (OpenSpec.upto deflateBackSpec)

/-- 'tramwaylaw04.DeflateStored', WHERE WHAT IT READS IS OF BULK AT MOST 1048576: true; the input reads as it did. -/
def deflateStoredUptoRow : OpenClaim := { program := "ytaapnjhkflpiiaa", sum := "ae2f3946fb9db6435eb5cf144952bd3425e7c55dd4f10a68c1c1482bcdef0334", func := "tramway/tramwaylaw04.DeflateStored", spec := "deflateStored", unfollowed := true, recurses := true, plainKeys := false, apart := false, narrowed := true }
def DeflateStoredUptoSaid : Prop := deflateStoredUptoRow.holds Try.pinned (OpenSpec.upto deflateStoredSpec)

/-- 'tramwaylaw04.DeflateRuns', WHERE WHAT IT READS IS OF BULK AT MOST 1048576: true; the input reads as it did. -/
def deflateRunsUptoRow : OpenClaim := { program := "ytaapnjhkflpiiaa", sum := "ae2f3946fb9db6435eb5cf144952bd3425e7c55dd4f10a68c1c1482bcdef0334", func := "tramway/tramwaylaw04.DeflateRuns", spec := "deflateRuns", unfollowed := true, recurses := true, plainKeys := false, apart := false, narrowed := true }
def DeflateRunsUptoSaid : Prop := deflateRunsUptoRow.holds Try.pinned (OpenSpec.upto deflateRunsSpec)

/-- 'tramwaylaw03.InflateRaw', WHERE WHAT IT READS IS OF BULK AT MOST 1048576: true; the input reads as it did. -/
def inflateRawUptoRow : OpenClaim := { program := "ytaapnjhkflpiiaa", sum := "ae2f3946fb9db6435eb5cf144952bd3425e7c55dd4f10a68c1c1482bcdef0334", func := "tramway/tramwaylaw03.InflateRaw", spec := "inflateRaw", unfollowed := true, recurses := true, plainKeys := false, apart := false, narrowed := true }
def InflateRawUptoSaid : Prop := inflateRawUptoRow.holds Try.pinned (OpenSpec.upto inflateRawSpec)

/-- 'tramwaylaw03.InflateMore', WHERE WHAT IT READS IS OF BULK AT MOST 1048576: true; the input reads as it did. -/
def inflateMoreUptoRow : OpenClaim := { program := "ytaapnjhkflpiiaa", sum := "ae2f3946fb9db6435eb5cf144952bd3425e7c55dd4f10a68c1c1482bcdef0334", func := "tramway/tramwaylaw03.InflateMore", spec := "inflateMore", unfollowed := true, recurses := true, plainKeys := false, apart := false, narrowed := true }
def InflateMoreUptoSaid : Prop := inflateMoreUptoRow.holds Try.pinned (OpenSpec.upto inflateMoreSpec)

/-- 'tramwaylaw03.InflateStored', WHERE WHAT IT READS IS OF BULK AT MOST 1048576: true; the input reads as it did. -/
def inflateStoredUptoRow : OpenClaim := { program := "ytaapnjhkflpiiaa", sum := "ae2f3946fb9db6435eb5cf144952bd3425e7c55dd4f10a68c1c1482bcdef0334", func := "tramway/tramwaylaw03.InflateStored", spec := "inflateStored", unfollowed := true, recurses := true, plainKeys := false, apart := false, narrowed := true }
def InflateStoredUptoSaid : Prop := inflateStoredUptoRow.holds Try.pinned (OpenSpec.upto inflateStoredSpec)

/-- 'tramwaylaw03.InflateFixed', WHERE WHAT IT READS IS OF BULK AT MOST 1048576: true; the input reads as it did. -/
def inflateFixedUptoRow : OpenClaim := { program := "ytaapnjhkflpiiaa", sum := "ae2f3946fb9db6435eb5cf144952bd3425e7c55dd4f10a68c1c1482bcdef0334", func := "tramway/tramwaylaw03.InflateFixed", spec := "inflateFixed", unfollowed := true, recurses := true, plainKeys := false, apart := false, narrowed := true }
def InflateFixedUptoSaid : Prop := inflateFixedUptoRow.holds Try.pinned (OpenSpec.upto inflateFixedSpec)

/-- 'tramwaylaw03.InflateAhead', WHERE WHAT IT READS IS OF BULK AT MOST 1048576: true; the input reads as it did. -/
def inflateAheadUptoRow : OpenClaim := { program := "ytaapnjhkflpiiaa", sum := "ae2f3946fb9db6435eb5cf144952bd3425e7c55dd4f10a68c1c1482bcdef0334", func := "tramway/tramwaylaw03.InflateAhead", spec := "inflateAhead", unfollowed := true, recurses := true, plainKeys := false, apart := false, narrowed := true }
def InflateAheadUptoSaid : Prop := inflateAheadUptoRow.holds Try.pinned (OpenSpec.upto inflateAheadSpec)

/-- 'tramwaylaw05.ZlibOpens', WHERE WHAT IT READS IS OF BULK AT MOST 1048576: true; the input reads as it did. -/
def zlibOpensUptoRow : OpenClaim := { program := "ytaapnjhkflpiiaa", sum := "ae2f3946fb9db6435eb5cf144952bd3425e7c55dd4f10a68c1c1482bcdef0334", func := "tramway/tramwaylaw05.ZlibOpens", spec := "zlibOpens", unfollowed := true, recurses := true, plainKeys := false, apart := false, narrowed := true }
def ZlibOpensUptoSaid : Prop := zlibOpensUptoRow.holds Try.pinned (OpenSpec.upto zlibOpensSpec)

/-- 'tramwaylaw05.ZlibAny', WHERE WHAT IT READS IS OF BULK AT MOST 1048576: true; the input reads as it did. -/
def zlibAnyUptoRow : OpenClaim := { program := "ytaapnjhkflpiiaa", sum := "ae2f3946fb9db6435eb5cf144952bd3425e7c55dd4f10a68c1c1482bcdef0334", func := "tramway/tramwaylaw05.ZlibAny", spec := "zlibAny", unfollowed := true, recurses := true, plainKeys := false, apart := false, narrowed := true }
def ZlibAnyUptoSaid : Prop := zlibAnyUptoRow.holds Try.pinned (OpenSpec.upto zlibAnySpec)

/-- 'tramwaylaw05.ZlibWraps', WHERE WHAT IT READS IS OF BULK AT MOST 1048576: true; the input reads as it did. -/
def zlibWrapsUptoRow : OpenClaim := { program := "ytaapnjhkflpiiaa", sum := "ae2f3946fb9db6435eb5cf144952bd3425e7c55dd4f10a68c1c1482bcdef0334", func := "tramway/tramwaylaw05.ZlibWraps", spec := "zlibWraps", unfollowed := true, recurses := true, plainKeys := false, apart := false, narrowed := true }
def ZlibWrapsUptoSaid : Prop := zlibWrapsUptoRow.holds Try.pinned (OpenSpec.upto zlibWrapsSpec)

/-- 'tramwaylaw05.ZlibBack', WHERE WHAT IT READS IS OF BULK AT MOST 1048576: true; the input reads as it did. -/
def zlibBackUptoRow : OpenClaim := { program := "ytaapnjhkflpiiaa", sum := "ae2f3946fb9db6435eb5cf144952bd3425e7c55dd4f10a68c1c1482bcdef0334", func := "tramway/tramwaylaw05.ZlibBack", spec := "zlibBack", unfollowed := true, recurses := true, plainKeys := false, apart := false, narrowed := true }
def ZlibBackUptoSaid : Prop := zlibBackUptoRow.holds Try.pinned (OpenSpec.upto zlibBackSpec)

/-- 'tramwaylaw05.ZlibHeads', WHERE WHAT IT READS IS OF BULK AT MOST 1048576: true; the input reads as it did. -/
def zlibHeadsUptoRow : OpenClaim := { program := "ytaapnjhkflpiiaa", sum := "ae2f3946fb9db6435eb5cf144952bd3425e7c55dd4f10a68c1c1482bcdef0334", func := "tramway/tramwaylaw05.ZlibHeads", spec := "zlibHeads", unfollowed := true, recurses := true, plainKeys := false, apart := false, narrowed := true }
def ZlibHeadsUptoSaid : Prop := zlibHeadsUptoRow.holds Try.pinned (OpenSpec.upto zlibHeadsSpec)

end Rows
end Go.Proofs.Ytaapnjhkflpiiaa
