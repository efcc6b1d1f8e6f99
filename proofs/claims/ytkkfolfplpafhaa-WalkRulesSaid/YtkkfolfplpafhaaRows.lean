/-
  No cell of these rows narrows 'for every input' (looked for: loops, veiled, ifaces, maps, wideKeys, modest, calm, conditions, laid).
  DERIVED. THE GIVEN ROWS OF THIS SEAT. 5 by the template 'for every input the law returns true; each argument reads behind the call as it read before'; 0 by the template 'total and deterministic' (their statements: YtkkfolfplpafhaaTotals.lean).
  GIVEN WITH THE SEED: the statements are not yours to turn. If you find one false, say at which input.
  Laid BY PROGRAM, IN A SANDBOX (cutbox-rows.mjs): the forced cells as the released guide's own fill.sh prints them over the translation 5859c231ae0bf35b… (all of the seat's roots in one cut). By AI agents, Wed Nov 11 2026. No macro, syntax, notation, axiom, sorry.
-/
import Derived.Test.YtkkfolfplpafhaaChecked
import GoSem.Claim
import GoSem.ClaimJoined
import GoSem.ClaimMapViews
import Derived.JoinedTies
import Derived.KernelRfl
namespace Go.Proofs.Ytkkfolfplpafhaa
/- THE CELL 'sum', in the pinned program and in every row, IS THE sha256 OF THE DUMP (.gsa) THAT YtkkfolfplpafhaaProg.lean LOADS. Nothing in Lean hashes anything: it is a label: what it is worth is what the hold of that sum in a sandbox is worth. -/
noncomputable def Try.pinned : Pinned := { name := "ytkkfolfplpafhaa", sum := "5859c231ae0bf35b45ca8ac752090901c29babcfdf5bec7dd8df8a44c4a6d5c7", checked := Try.checked }
namespace Rows
def none {H : Type} : Left H := { results := [], args := [] }

/-- 'tramwaylaw22.WalkOrders': WHATEVER THE INPUT: true; the input reads as it did. -/
def walkOrdersSpec : ChangeSpec := { name := "walkOrders", fn := fun _ => fun
  | [d] => { results := [.lit (.bool true)], args := [d] }
  | _ => none }
def walkOrdersRow : OpenClaim := { program := "ytkkfolfplpafhaa", sum := "5859c231ae0bf35b45ca8ac752090901c29babcfdf5bec7dd8df8a44c4a6d5c7", func := "tramway/tramwaylaw22.WalkOrders", spec := "walkOrders", unfollowed := true, recurses := true, apart := false }
def WalkOrdersSaid : Prop := walkOrdersRow.holds Try.pinned (OpenSpec.ofChange walkOrdersSpec)

/-- ITS FALSE NEIGHBOUR: 'it returns false'. Refute it at one input. -/
def walkOrdersWrong : ChangeSpec := { name := "walkOrders", fn := fun _ => fun
  | [d] => { results := [.lit (.bool false)], args := [d] }
  | _ => none }
def WalkOrdersWrongFalsely : Prop := walkOrdersRow.holds Try.pinned (OpenSpec.ofChange walkOrdersWrong)

/-- 'tramwaylaw22.WalkSome': WHATEVER THE INPUT: true; the input reads as it did. -/
def walkSomeSpec : ChangeSpec := { name := "walkSome", fn := fun _ => fun
  | [d1, d2] => { results := [.lit (.bool true)], args := [d1, d2] }
  | _ => none }
def walkSomeRow : OpenClaim := { program := "ytkkfolfplpafhaa", sum := "5859c231ae0bf35b45ca8ac752090901c29babcfdf5bec7dd8df8a44c4a6d5c7", func := "tramway/tramwaylaw22.WalkSome", spec := "walkSome", unfollowed := true, recurses := true, apart := false }
def WalkSomeSaid : Prop := walkSomeRow.holds Try.pinned (OpenSpec.ofChange walkSomeSpec)

/-- ITS FALSE NEIGHBOUR: 'it returns false'. Refute it at one input. -/
def walkSomeWrong : ChangeSpec := { name := "walkSome", fn := fun _ => fun
  | [d1, d2] => { results := [.lit (.bool false)], args := [d1, d2] }
  | _ => none }
def WalkSomeWrongFalsely : Prop := walkSomeRow.holds Try.pinned (OpenSpec.ofChange walkSomeWrong)

/-- 'tramwaylaw22.WalkCloses': WHATEVER THE INPUT: true; the input reads as it did. -/
def walkClosesSpec : ChangeSpec := { name := "walkCloses", fn := fun _ => fun
  | [d1, d2] => { results := [.lit (.bool true)], args := [d1, d2] }
  | _ => none }
def walkClosesRow : OpenClaim := { program := "ytkkfolfplpafhaa", sum := "5859c231ae0bf35b45ca8ac752090901c29babcfdf5bec7dd8df8a44c4a6d5c7", func := "tramway/tramwaylaw22.WalkCloses", spec := "walkCloses", unfollowed := true, recurses := true, apart := false }
def WalkClosesSaid : Prop := walkClosesRow.holds Try.pinned (OpenSpec.ofChange walkClosesSpec)

/-- ITS FALSE NEIGHBOUR: 'it returns false'. Refute it at one input. -/
def walkClosesWrong : ChangeSpec := { name := "walkCloses", fn := fun _ => fun
  | [d1, d2] => { results := [.lit (.bool false)], args := [d1, d2] }
  | _ => none }
def WalkClosesWrongFalsely : Prop := walkClosesRow.holds Try.pinned (OpenSpec.ofChange walkClosesWrong)

/-- 'tramwaylaw22.WalkReaches': WHATEVER THE INPUT: true; the input reads as it did. -/
def walkReachesSpec : ChangeSpec := { name := "walkReaches", fn := fun _ => fun
  | [d1, d2] => { results := [.lit (.bool true)], args := [d1, d2] }
  | _ => none }
def walkReachesRow : OpenClaim := { program := "ytkkfolfplpafhaa", sum := "5859c231ae0bf35b45ca8ac752090901c29babcfdf5bec7dd8df8a44c4a6d5c7", func := "tramway/tramwaylaw22.WalkReaches", spec := "walkReaches", unfollowed := true, recurses := true, apart := false }
def WalkReachesSaid : Prop := walkReachesRow.holds Try.pinned (OpenSpec.ofChange walkReachesSpec)

/-- ITS FALSE NEIGHBOUR: 'it returns false'. Refute it at one input. -/
def walkReachesWrong : ChangeSpec := { name := "walkReaches", fn := fun _ => fun
  | [d1, d2] => { results := [.lit (.bool false)], args := [d1, d2] }
  | _ => none }
def WalkReachesWrongFalsely : Prop := walkReachesRow.holds Try.pinned (OpenSpec.ofChange walkReachesWrong)

/-- 'tramwaylaw22.WalkRules': WHATEVER THE INPUT: true; the input reads as it did. -/
def walkRulesSpec : ChangeSpec := { name := "walkRules", fn := fun _ => fun
  | [d1, d2] => { results := [.lit (.bool true)], args := [d1, d2] }
  | _ => none }
def walkRulesRow : OpenClaim := { program := "ytkkfolfplpafhaa", sum := "5859c231ae0bf35b45ca8ac752090901c29babcfdf5bec7dd8df8a44c4a6d5c7", func := "tramway/tramwaylaw22.WalkRules", spec := "walkRules", unfollowed := true, recurses := true, apart := false }
def WalkRulesSaid : Prop := walkRulesRow.holds Try.pinned (OpenSpec.ofChange walkRulesSpec)

/-- ITS FALSE NEIGHBOUR: 'it returns false'. Refute it at one input. -/
def walkRulesWrong : ChangeSpec := { name := "walkRules", fn := fun _ => fun
  | [d1, d2] => { results := [.lit (.bool false)], args := [d1, d2] }
  | _ => none }
def WalkRulesWrongFalsely : Prop := walkRulesRow.holds Try.pinned (OpenSpec.ofChange walkRulesWrong)

/- THE SECOND FORM. 'bulk': how many values and letters a reading holds, each counted each time it is reached (what is shared counts as often as it is met; a slice's spare places count too). A statement '..UptoSaid' is the law's where the arguments, and the package variables that the reading takes, are together of bulk at most 1048576: NARROWER than '..Said'. Prove '..Said' where nothing that the law and all that it calls make is longer than what came in: it says more and counts as full. Else prove '..UptoSaid'. A law counts once. -/
mutual
def uptoBulk {H : Type} : DataW H → Nat
  | .lit (.string bytes) => bytes.length + 1
  | .lit _ => 1
  | .nil => 1
  | .ptr d => uptoBulk d + 1
  | .slice elems spare => uptoBulkAll elems + uptoBulkAll spare + 1
  | .agg parts => uptoBulkAll parts + 1
  | .iface _ d => uptoBulk d + 1
  | .map entries => uptoBulkEntries entries + 1
  | .held _ => 1
def uptoBulkAll {H : Type} : List (DataW H) → Nat
  | [] => 0
  | d :: r => uptoBulk d + uptoBulkAll r
def uptoBulkEntries {H : Type} : List (Lit × DataW H) → Nat
  | [] => 0
  | x :: r => uptoBulkEntry x + uptoBulkEntries r
def uptoBulkEntry {H : Type} : Lit × DataW H → Nat
  | (.string bytes, d) => bytes.length + uptoBulk d + 1
  | (_, d) => uptoBulk d + 1
 end
def uptoSmall : (H : Type) → List (DataW H) → Bool := fun _ ds => decide (uptoBulkAll ds ≤ 1048576)
def OpenSpec.upto (s : _root_.Go.ChangeSpec) : _root_.Go.OpenSpec := { _root_.Go.OpenSpec.ofChange s with cond := some uptoSmall }

/-- 'tramwaylaw22.WalkOrders', WHERE WHAT IT READS IS OF BULK AT MOST 1048576: true; the input reads as it did. -/
def walkOrdersUptoRow : OpenClaim := { program := "ytkkfolfplpafhaa", sum := "5859c231ae0bf35b45ca8ac752090901c29babcfdf5bec7dd8df8a44c4a6d5c7", func := "tramway/tramwaylaw22.WalkOrders", spec := "walkOrders", unfollowed := true, recurses := true, apart := false, narrowed := true }
def WalkOrdersUptoSaid : Prop := walkOrdersUptoRow.holds Try.pinned (OpenSpec.upto walkOrdersSpec)

/-- 'tramwaylaw22.WalkSome', WHERE WHAT IT READS IS OF BULK AT MOST 1048576: true; the input reads as it did. -/
def walkSomeUptoRow : OpenClaim := { program := "ytkkfolfplpafhaa", sum := "5859c231ae0bf35b45ca8ac752090901c29babcfdf5bec7dd8df8a44c4a6d5c7", func := "tramway/tramwaylaw22.WalkSome", spec := "walkSome", unfollowed := true, recurses := true, apart := false, narrowed := true }
def WalkSomeUptoSaid : Prop := walkSomeUptoRow.holds Try.pinned (OpenSpec.upto walkSomeSpec)

/-- 'tramwaylaw22.WalkCloses', WHERE WHAT IT READS IS OF BULK AT MOST 1048576: true; the input reads as it did. -/
def walkClosesUptoRow : OpenClaim := { program := "ytkkfolfplpafhaa", sum := "5859c231ae0bf35b45ca8ac752090901c29babcfdf5bec7dd8df8a44c4a6d5c7", func := "tramway/tramwaylaw22.WalkCloses", spec := "walkCloses", unfollowed := true, recurses := true, apart := false, narrowed := true }
def WalkClosesUptoSaid : Prop := walkClosesUptoRow.holds Try.pinned (OpenSpec.upto walkClosesSpec)

/-- 'tramwaylaw22.WalkReaches', WHERE WHAT IT READS IS OF BULK AT MOST 1048576: true; the input reads as it did. -/
def walkReachesUptoRow : OpenClaim := { program := "ytkkfolfplpafhaa", sum := "5859c231ae0bf35b45ca8ac752090901c29babcfdf5bec7dd8df8a44c4a6d5c7", func := "tramway/tramwaylaw22.WalkReaches", spec := "walkReaches", unfollowed := true, recurses := true, apart := false, narrowed := true }
def WalkReachesUptoSaid : Prop := walkReachesUptoRow.holds Try.pinned (OpenSpec.upto walkReachesSpec)

/-- 'tramwaylaw22.WalkRules', WHERE WHAT IT READS IS OF BULK AT MOST 1048576: true; the input reads as it did. -/
def walkRulesUptoRow : OpenClaim := { program := "ytkkfolfplpafhaa", sum := "5859c231ae0bf35b45ca8ac752090901c29babcfdf5bec7dd8df8a44c4a6d5c7", func := "tramway/tramwaylaw22.WalkRules", spec := "walkRules", unfollowed := true, recurses := true, apart := false, narrowed := true }
def WalkRulesUptoSaid : Prop := walkRulesUptoRow.holds Try.pinned (OpenSpec.upto walkRulesSpec)

end Rows
end Go.Proofs.Ytkkfolfplpafhaa
