/-
  No cell of these rows narrows 'for every input' (looked for: loops, veiled, ifaces, maps, wideKeys, modest, calm, conditions, laid).
  DERIVED. THE GIVEN ROWS OF THIS SEAT. 6 by the template 'for every input the law returns true; each argument reads behind the call as it read before'; 0 by the template 'total and deterministic' (their statements: YtfpklkncdimajaaTotals.lean).
  GIVEN WITH THE SEED: the statements are not yours to turn. If you find one false, say at which input.
  Laid BY PROGRAM, IN A SANDBOX (cutbox-rows.mjs): the forced cells as the released guide's own fill.sh prints them over the translation 3e5521d9e329404c… (all of the seat's roots in one cut). By AI agents, Wed Nov 11 2026. No macro, syntax, notation, axiom, sorry.
-/
import Derived.Test.YtfpklkncdimajaaChecked
import GoSem.Claim
import GoSem.ClaimJoined
import GoSem.ClaimMapViews
import Derived.JoinedTies
import Derived.KernelRfl
namespace Go.Proofs.Ytfpklkncdimajaa
/- THE CELL 'sum', in the pinned program and in every row, IS THE sha256 OF THE DUMP (.gsa) THAT YtfpklkncdimajaaProg.lean LOADS. Nothing in Lean hashes anything: it is a label: what it is worth is what the hold of that sum in a sandbox is worth. -/
noncomputable def Try.pinned : Pinned := { name := "ytfpklkncdimajaa", sum := "3e5521d9e329404c1b1822fe623ab3276c51b858003cffd7391e3b8a394503c5", checked := Try.checked }
namespace Rows
def none {H : Type} : Left H := { results := [], args := [] }

/-- 'tramwaylaw01.SumsAre': WHATEVER THE INPUT: true; the input reads as it did. -/
def sumsAreSpec : ChangeSpec := { name := "sumsAre", fn := fun _ => fun
  | [d] => { results := [.lit (.bool true)], args := [d] }
  | _ => none }
def sumsAreRow : OpenClaim := { program := "ytfpklkncdimajaa", sum := "3e5521d9e329404c1b1822fe623ab3276c51b858003cffd7391e3b8a394503c5", func := "tramway/tramwaylaw01.SumsAre", spec := "sumsAre", apart := false }
def SumsAreSaid : Prop := sumsAreRow.holds Try.pinned (OpenSpec.ofChange sumsAreSpec)

/-- ITS FALSE NEIGHBOUR: 'it returns false'. Refute it at one input. -/
def sumsAreWrong : ChangeSpec := { name := "sumsAre", fn := fun _ => fun
  | [d] => { results := [.lit (.bool false)], args := [d] }
  | _ => none }
def SumsAreWrongFalsely : Prop := sumsAreRow.holds Try.pinned (OpenSpec.ofChange sumsAreWrong)

/-- 'tramwaylaw01.SumsMore': WHATEVER THE INPUT: true; the input reads as it did. -/
def sumsMoreSpec : ChangeSpec := { name := "sumsMore", fn := fun _ => fun
  | [d1, d2] => { results := [.lit (.bool true)], args := [d1, d2] }
  | _ => none }
def sumsMoreRow : OpenClaim := { program := "ytfpklkncdimajaa", sum := "3e5521d9e329404c1b1822fe623ab3276c51b858003cffd7391e3b8a394503c5", func := "tramway/tramwaylaw01.SumsMore", spec := "sumsMore", apart := false }
def SumsMoreSaid : Prop := sumsMoreRow.holds Try.pinned (OpenSpec.ofChange sumsMoreSpec)

/-- ITS FALSE NEIGHBOUR: 'it returns false'. Refute it at one input. -/
def sumsMoreWrong : ChangeSpec := { name := "sumsMore", fn := fun _ => fun
  | [d1, d2] => { results := [.lit (.bool false)], args := [d1, d2] }
  | _ => none }
def SumsMoreWrongFalsely : Prop := sumsMoreRow.holds Try.pinned (OpenSpec.ofChange sumsMoreWrong)

/-- 'tramwaylaw01.SumsJoin': WHATEVER THE INPUT: true; the input reads as it did. -/
def sumsJoinSpec : ChangeSpec := { name := "sumsJoin", fn := fun _ => fun
  | [d1, d2, d3] => { results := [.lit (.bool true)], args := [d1, d2, d3] }
  | _ => none }
def sumsJoinRow : OpenClaim := { program := "ytfpklkncdimajaa", sum := "3e5521d9e329404c1b1822fe623ab3276c51b858003cffd7391e3b8a394503c5", func := "tramway/tramwaylaw01.SumsJoin", spec := "sumsJoin", apart := false }
def SumsJoinSaid : Prop := sumsJoinRow.holds Try.pinned (OpenSpec.ofChange sumsJoinSpec)

/-- ITS FALSE NEIGHBOUR: 'it returns false'. Refute it at one input. -/
def sumsJoinWrong : ChangeSpec := { name := "sumsJoin", fn := fun _ => fun
  | [d1, d2, d3] => { results := [.lit (.bool false)], args := [d1, d2, d3] }
  | _ => none }
def SumsJoinWrongFalsely : Prop := sumsJoinRow.holds Try.pinned (OpenSpec.ofChange sumsJoinWrong)

/-- 'tramwaylaw01.SumsShow': WHATEVER THE INPUT: true; the input reads as it did. -/
def sumsShowSpec : ChangeSpec := { name := "sumsShow", fn := fun _ => fun
  | [d1, d2, d3] => { results := [.lit (.bool true)], args := [d1, d2, d3] }
  | _ => none }
def sumsShowRow : OpenClaim := { program := "ytfpklkncdimajaa", sum := "3e5521d9e329404c1b1822fe623ab3276c51b858003cffd7391e3b8a394503c5", func := "tramway/tramwaylaw01.SumsShow", spec := "sumsShow", apart := false }
def SumsShowSaid : Prop := sumsShowRow.holds Try.pinned (OpenSpec.ofChange sumsShowSpec)

/-- ITS FALSE NEIGHBOUR: 'it returns false'. Refute it at one input. -/
def sumsShowWrong : ChangeSpec := { name := "sumsShow", fn := fun _ => fun
  | [d1, d2, d3] => { results := [.lit (.bool false)], args := [d1, d2, d3] }
  | _ => none }
def SumsShowWrongFalsely : Prop := sumsShowRow.holds Try.pinned (OpenSpec.ofChange sumsShowWrong)

/-- 'tramwaylaw01.SumsTogether': WHATEVER THE INPUT: true; the input reads as it did. -/
def sumsTogetherSpec : ChangeSpec := { name := "sumsTogether", fn := fun _ => fun
  | [d1, d2, d3] => { results := [.lit (.bool true)], args := [d1, d2, d3] }
  | _ => none }
def sumsTogetherRow : OpenClaim := { program := "ytfpklkncdimajaa", sum := "3e5521d9e329404c1b1822fe623ab3276c51b858003cffd7391e3b8a394503c5", func := "tramway/tramwaylaw01.SumsTogether", spec := "sumsTogether", apart := false }
def SumsTogetherSaid : Prop := sumsTogetherRow.holds Try.pinned (OpenSpec.ofChange sumsTogetherSpec)

/-- ITS FALSE NEIGHBOUR: 'it returns false'. Refute it at one input. -/
def sumsTogetherWrong : ChangeSpec := { name := "sumsTogether", fn := fun _ => fun
  | [d1, d2, d3] => { results := [.lit (.bool false)], args := [d1, d2, d3] }
  | _ => none }
def SumsTogetherWrongFalsely : Prop := sumsTogetherRow.holds Try.pinned (OpenSpec.ofChange sumsTogetherWrong)

/-- 'tramwaylaw01.SumsZeros': WHATEVER THE INPUT: true; the input reads as it did. -/
def sumsZerosSpec : ChangeSpec := { name := "sumsZeros", fn := fun _ => fun
  | [d1, d2] => { results := [.lit (.bool true)], args := [d1, d2] }
  | _ => none }
def sumsZerosRow : OpenClaim := { program := "ytfpklkncdimajaa", sum := "3e5521d9e329404c1b1822fe623ab3276c51b858003cffd7391e3b8a394503c5", func := "tramway/tramwaylaw01.SumsZeros", spec := "sumsZeros", apart := false }
def SumsZerosSaid : Prop := sumsZerosRow.holds Try.pinned (OpenSpec.ofChange sumsZerosSpec)

/-- ITS FALSE NEIGHBOUR: 'it returns false'. Refute it at one input. -/
def sumsZerosWrong : ChangeSpec := { name := "sumsZeros", fn := fun _ => fun
  | [d1, d2] => { results := [.lit (.bool false)], args := [d1, d2] }
  | _ => none }
def SumsZerosWrongFalsely : Prop := sumsZerosRow.holds Try.pinned (OpenSpec.ofChange sumsZerosWrong)

/- THE SECOND FORM. 'bulk': how many values and letters a reading holds, each counted each time it is reached (what is shared counts as often as it is met; a slice's spare places count too). A statement '..UptoSaid' is the law's where the arguments, and the package variables that the reading takes, are together of bulk at most 1048576: NARROWER than '..Said'. Prove '..Said' where nothing that the law and all that it calls make is longer than what came in: it says more and counts as full. Else prove '..UptoSaid'. A law counts once. -/
mutual
def uptoBulk {H : Type} : DataW H → Nat
  | .lit (.string bytes) => bytes.length + 1
  | .lit _ => 1
  | .nil => 1
  | .ptr d => uptoBulk d + 1
  | .slice elems spare => uptoBulkAll elems + uptoBulkAll spare + 1
  | .agg parts => uptoBulkAll parts + 1
  | .iface _ d => uptoBulk d + 1
  | .map entries => uptoBulkEntries entries + 1
  | .held _ => 1
def uptoBulkAll {H : Type} : List (DataW H) → Nat
  | [] => 0
  | d :: r => uptoBulk d + uptoBulkAll r
def uptoBulkEntries {H : Type} : List (Lit × DataW H) → Nat
  | [] => 0
  | x :: r => uptoBulkEntry x + uptoBulkEntries r
def uptoBulkEntry {H : Type} : Lit × DataW H → Nat
  | (.string bytes, d) => bytes.length + uptoBulk d + 1
  | (_, d) => uptoBulk d + 1
 end
def uptoSmall : (H : Type) → List (DataW H) → Bool := fun _ ds => decide (uptoBulkAll ds ≤ 1048576)
def OpenSpec.upto (s : _root_.Go.ChangeSpec) : _root_.Go.OpenSpec := { _root_.Go.OpenSpec.ofChange s with cond := some uptoSmall }

/-- 'tramwaylaw01.SumsAre', WHERE WHAT IT READS IS OF BULK AT MOST 1048576: true; the input reads as it did. -/
def sumsAreUptoRow : OpenClaim := { program := "ytfpklkncdimajaa", sum := "3e5521d9e329404c1b1822fe623ab3276c51b858003cffd7391e3b8a394503c5", func := "tramway/tramwaylaw01.SumsAre", spec := "sumsAre", apart := false, narrowed := true }
def SumsAreUptoSaid : Prop := sumsAreUptoRow.holds Try.pinned (OpenSpec.upto sumsAreSpec)

/-- 'tramwaylaw01.SumsMore', WHERE WHAT IT READS IS OF BULK AT MOST 1048576: true; the input reads as it did. -/
def sumsMoreUptoRow : OpenClaim := { program := "ytfpklkncdimajaa", sum := "3e5521d9e329404c1b1822fe623ab3276c51b858003cffd7391e3b8a394503c5", func := "tramway/tramwaylaw01.SumsMore", spec := "sumsMore", apart := false, narrowed := true }
def SumsMoreUptoSaid : Prop := sumsMoreUptoRow.holds Try.pinned (OpenSpec.upto sumsMoreSpec)

/-- 'tramwaylaw01.SumsJoin', WHERE WHAT IT READS IS OF BULK AT MOST 1048576: true; the input reads as it did. -/
def sumsJoinUptoRow : OpenClaim := { program := "ytfpklkncdimajaa", sum := "3e5521d9e329404c1b1822fe623ab3276c51b858003cffd7391e3b8a394503c5", func := "tramway/tramwaylaw01.SumsJoin", spec := "sumsJoin", apart := false, narrowed := true }
def SumsJoinUptoSaid : Prop := sumsJoinUptoRow.holds Try.pinned (OpenSpec.upto sumsJoinSpec)

/-- 'tramwaylaw01.SumsShow', WHERE WHAT IT READS IS OF BULK AT MOST 1048576: true; the input reads as it did. -/
def sumsShowUptoRow : OpenClaim := { program := "ytfpklkncdimajaa", sum := "3e5521d9e329404c1b1822fe623ab3276c51b858003cffd7391e3b8a394503c5", func := "tramway/tramwaylaw01.SumsShow", spec := "sumsShow", apart := false, narrowed := true }
def SumsShowUptoSaid : Prop := sumsShowUptoRow.holds Try.pinned (OpenSpec.upto sumsShowSpec)

/-- 'tramwaylaw01.SumsTogether', WHERE WHAT IT READS IS OF BULK AT MOST 1048576: true; the input reads as it did. -/
def sumsTogetherUptoRow : OpenClaim := { program := "ytfpklkncdimajaa", sum := "3e5521d9e329404c1b1822fe623ab3276c51b858003cffd7391e3b8a394503c5", func := "tramway/tramwaylaw01.SumsTogether", spec := "sumsTogether", apart := false, narrowed := true }
def SumsTogetherUptoSaid : Prop := sumsTogetherUptoRow.holds Try.pinned (OpenSpec.upto sumsTogetherSpec)

/-- 'tramwaylaw01.SumsZeros', WHERE WHAT IT READS IS OF BULK AT MOST 1048576: true; the input reads as it did. -/
def sumsZerosUptoRow : OpenClaim := { program := "ytfpklkncdimajaa", sum := "3e5521d9e329404c1b1822fe623ab3276c51b858003cffd7391e3b8a394503c5", func := "tramway/tramwaylaw01.SumsZeros", spec := "sumsZeros", apart := false, narrowed := true }
def SumsZerosUptoSaid : Prop := sumsZerosUptoRow.holds Try.pinned (OpenSpec.upto sumsZerosSpec)

end Rows
end Go.Proofs.Ytfpklkncdimajaa
