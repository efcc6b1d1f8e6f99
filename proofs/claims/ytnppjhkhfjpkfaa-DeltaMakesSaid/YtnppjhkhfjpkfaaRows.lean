/-
  No cell of these rows narrows 'for every input' (looked for: loops, veiled, ifaces, maps, wideKeys, modest, calm, conditions, laid).
  DERIVED. THE GIVEN ROWS OF THIS SEAT. 5 by the template 'for every input the law returns true; each argument reads behind the call as it read before'; 0 by the template 'total and deterministic' (their statements: YtnppjhkhfjpkfaaTotals.lean).
  GIVEN WITH THE SEED: the statements are not yours to turn. If you find one false, say at which input.
  Laid BY PROGRAM, IN A SANDBOX (cutbox-rows.mjs): the forced cells as the released guide's own fill.sh prints them over the translation b6f5a41e44342f55… (all of the seat's roots in one cut). By AI agents, Wed Nov 11 2026. No macro, syntax, notation, axiom, sorry.
-/
import Derived.Test.YtnppjhkhfjpkfaaChecked
import GoSem.Claim
import GoSem.ClaimJoined
import GoSem.ClaimMapViews
import Derived.JoinedTies
import Derived.KernelRfl
namespace Go.Proofs.Ytnppjhkhfjpkfaa
/- THE CELL 'sum', in the pinned program and in every row, IS THE sha256 OF THE DUMP (.gsa) THAT YtnppjhkhfjpkfaaProg.lean LOADS. Nothing in Lean hashes anything: it is a label: what it is worth is what the hold of that sum in a sandbox is worth. -/
noncomputable def Try.pinned : Pinned := { name := "ytnppjhkhfjpkfaa", sum := "b6f5a41e44342f55358d2412ffb80cb491103f959eab13d2d9b7d368fe6be759", checked := Try.checked }
namespace Rows
def none {H : Type} : Left H := { results := [], args := [] }

/-- 'tramwaylaw08.DeltaApplies': WHATEVER THE INPUT: true; the input reads as it did. -/
def deltaAppliesSpec : ChangeSpec := { name := "deltaApplies", fn := fun _ => fun
  | [d1, d2, d3] => { results := [.lit (.bool true)], args := [d1, d2, d3] }
  | _ => none }
def deltaAppliesRow : OpenClaim := { program := "ytnppjhkhfjpkfaa", sum := "b6f5a41e44342f55358d2412ffb80cb491103f959eab13d2d9b7d368fe6be759", func := "tramway/tramwaylaw08.DeltaApplies", spec := "deltaApplies", unfollowed := true, recurses := true, apart := false }
def DeltaAppliesSaid : Prop := deltaAppliesRow.holds Try.pinned (OpenSpec.ofChange deltaAppliesSpec)

/-- ITS FALSE NEIGHBOUR: 'it returns false'. Refute it at one input. -/
def deltaAppliesWrong : ChangeSpec := { name := "deltaApplies", fn := fun _ => fun
  | [d1, d2, d3] => { results := [.lit (.bool false)], args := [d1, d2, d3] }
  | _ => none }
def DeltaAppliesWrongFalsely : Prop := deltaAppliesRow.holds Try.pinned (OpenSpec.ofChange deltaAppliesWrong)

/-- 'tramwaylaw08.DeltaSame': WHATEVER THE INPUT: true; the input reads as it did. -/
def deltaSameSpec : ChangeSpec := { name := "deltaSame", fn := fun _ => fun
  | [d1, d2] => { results := [.lit (.bool true)], args := [d1, d2] }
  | _ => none }
def deltaSameRow : OpenClaim := { program := "ytnppjhkhfjpkfaa", sum := "b6f5a41e44342f55358d2412ffb80cb491103f959eab13d2d9b7d368fe6be759", func := "tramway/tramwaylaw08.DeltaSame", spec := "deltaSame", unfollowed := true, recurses := true, apart := false }
def DeltaSameSaid : Prop := deltaSameRow.holds Try.pinned (OpenSpec.ofChange deltaSameSpec)

/-- ITS FALSE NEIGHBOUR: 'it returns false'. Refute it at one input. -/
def deltaSameWrong : ChangeSpec := { name := "deltaSame", fn := fun _ => fun
  | [d1, d2] => { results := [.lit (.bool false)], args := [d1, d2] }
  | _ => none }
def DeltaSameWrongFalsely : Prop := deltaSameRow.holds Try.pinned (OpenSpec.ofChange deltaSameWrong)

/-- 'tramwaylaw08.DeltaRooms': WHATEVER THE INPUT: true; the input reads as it did. -/
def deltaRoomsSpec : ChangeSpec := { name := "deltaRooms", fn := fun _ => fun
  | [d1, d2, d3] => { results := [.lit (.bool true)], args := [d1, d2, d3] }
  | _ => none }
def deltaRoomsRow : OpenClaim := { program := "ytnppjhkhfjpkfaa", sum := "b6f5a41e44342f55358d2412ffb80cb491103f959eab13d2d9b7d368fe6be759", func := "tramway/tramwaylaw08.DeltaRooms", spec := "deltaRooms", unfollowed := true, recurses := true, apart := false }
def DeltaRoomsSaid : Prop := deltaRoomsRow.holds Try.pinned (OpenSpec.ofChange deltaRoomsSpec)

/-- ITS FALSE NEIGHBOUR: 'it returns false'. Refute it at one input. -/
def deltaRoomsWrong : ChangeSpec := { name := "deltaRooms", fn := fun _ => fun
  | [d1, d2, d3] => { results := [.lit (.bool false)], args := [d1, d2, d3] }
  | _ => none }
def DeltaRoomsWrongFalsely : Prop := deltaRoomsRow.holds Try.pinned (OpenSpec.ofChange deltaRoomsWrong)

/-- 'tramwaylaw08.DeltaChain': WHATEVER THE INPUT: true; the input reads as it did. -/
def deltaChainSpec : ChangeSpec := { name := "deltaChain", fn := fun _ => fun
  | [d1, d2, d3] => { results := [.lit (.bool true)], args := [d1, d2, d3] }
  | _ => none }
def deltaChainRow : OpenClaim := { program := "ytnppjhkhfjpkfaa", sum := "b6f5a41e44342f55358d2412ffb80cb491103f959eab13d2d9b7d368fe6be759", func := "tramway/tramwaylaw08.DeltaChain", spec := "deltaChain", unfollowed := true, recurses := true, apart := false }
def DeltaChainSaid : Prop := deltaChainRow.holds Try.pinned (OpenSpec.ofChange deltaChainSpec)

/-- ITS FALSE NEIGHBOUR: 'it returns false'. Refute it at one input. -/
def deltaChainWrong : ChangeSpec := { name := "deltaChain", fn := fun _ => fun
  | [d1, d2, d3] => { results := [.lit (.bool false)], args := [d1, d2, d3] }
  | _ => none }
def DeltaChainWrongFalsely : Prop := deltaChainRow.holds Try.pinned (OpenSpec.ofChange deltaChainWrong)

/-- 'tramwaylaw08.DeltaMakes': WHATEVER THE INPUT: true; the input reads as it did. -/
def deltaMakesSpec : ChangeSpec := { name := "deltaMakes", fn := fun _ => fun
  | [d1, d2] => { results := [.lit (.bool true)], args := [d1, d2] }
  | _ => none }
def deltaMakesRow : OpenClaim := { program := "ytnppjhkhfjpkfaa", sum := "b6f5a41e44342f55358d2412ffb80cb491103f959eab13d2d9b7d368fe6be759", func := "tramway/tramwaylaw08.DeltaMakes", spec := "deltaMakes", unfollowed := true, recurses := true, apart := false }
def DeltaMakesSaid : Prop := deltaMakesRow.holds Try.pinned (OpenSpec.ofChange deltaMakesSpec)

/-- ITS FALSE NEIGHBOUR: 'it returns false'. Refute it at one input. -/
def deltaMakesWrong : ChangeSpec := { name := "deltaMakes", fn := fun _ => fun
  | [d1, d2] => { results := [.lit (.bool false)], args := [d1, d2] }
  | _ => none }
def DeltaMakesWrongFalsely : Prop := deltaMakesRow.holds Try.pinned (OpenSpec.ofChange deltaMakesWrong)

/- THE SECOND FORM. 'bulk': how many values and letters a reading holds, each counted each time it is reached (what is shared counts as often as it is met; a slice's spare places count too). A statement '..UptoSaid' is the law's where the arguments, and the package variables that the reading takes, are together of bulk at most 1048576: NARROWER than '..Said'. Prove '..Said' where nothing that the law and all that it calls make is longer than what came in: it says more and counts as full. Else prove '..UptoSaid'. A law counts once. -/
mutual
def uptoBulk {H : Type} : DataW H → Nat
  | .lit (.string bytes) => bytes.length + 1
  | .lit _ => 1
  | .nil => 1
  | .ptr d => uptoBulk d + 1
  | .slice elems spare => uptoBulkAll elems + uptoBulkAll spare + 1
  | .agg parts => uptoBulkAll parts + 1
  | .iface _ d => uptoBulk d + 1
  | .map entries => uptoBulkEntries entries + 1
  | .held _ => 1
def uptoBulkAll {H : Type} : List (DataW H) → Nat
  | [] => 0
  | d :: r => uptoBulk d + uptoBulkAll r
def uptoBulkEntries {H : Type} : List (Lit × DataW H) → Nat
  | [] => 0
  | x :: r => uptoBulkEntry x + uptoBulkEntries r
def uptoBulkEntry {H : Type} : Lit × DataW H → Nat
  | (.string bytes, d) => bytes.length + uptoBulk d + 1
  | (_, d) => uptoBulk d + 1
 end
def uptoSmall : (H : Type) → List (DataW H) → Bool := fun _ ds => decide (uptoBulkAll ds ≤ 1048576)
def OpenSpec.upto (s : _root_.Go.ChangeSpec) : _root_.Go.OpenSpec := { _root_.Go.OpenSpec.ofChange s with cond := some uptoSmall }

/-- 'tramwaylaw08.DeltaApplies', WHERE WHAT IT READS IS OF BULK AT MOST 1048576: true; the input reads as it did. -/
def deltaAppliesUptoRow : OpenClaim := { program := "ytnppjhkhfjpkfaa", sum := "b6f5a41e44342f55358d2412ffb80cb491103f959eab13d2d9b7d368fe6be759", func := "tramway/tramwaylaw08.DeltaApplies", spec := "deltaApplies", unfollowed := true, recurses := true, apart := false, narrowed := true }
def DeltaAppliesUptoSaid : Prop := deltaAppliesUptoRow.holds Try.pinned (OpenSpec.upto deltaAppliesSpec)

/-- 'tramwaylaw08.DeltaSame', WHERE WHAT IT READS IS OF BULK AT MOST 1048576: true; the input reads as it did. -/
def deltaSameUptoRow : OpenClaim := { program := "ytnppjhkhfjpkfaa", sum := "b6f5a41e44342f55358d2412ffb80cb491103f959eab13d2d9b7d368fe6be759", func := "tramway/tramwaylaw08.DeltaSame", spec := "deltaSame", unfollowed := true, recurses := true, apart := false, narrowed := true }
def DeltaSameUptoSaid : Prop := deltaSameUptoRow.holds Try.pinned (OpenSpec.upto deltaSameSpec)

/-- 'tramwaylaw08.DeltaRooms', WHERE WHAT IT READS IS OF BULK AT MOST 1048576: true; the input reads as it did. -/
def deltaRoomsUptoRow : OpenClaim := { program := "ytnppjhkhfjpkfaa", sum := "b6f5a41e44342f55358d2412ffb80cb491103f959eab13d2d9b7d368fe6be759", func := "tramway/tramwaylaw08.DeltaRooms", spec := "deltaRooms", unfollowed := true, recurses := true, apart := false, narrowed := true }
def DeltaRoomsUptoSaid : Prop := deltaRoomsUptoRow.holds Try.pinned (OpenSpec.upto deltaRoomsSpec)

/-- 'tramwaylaw08.DeltaChain', WHERE WHAT IT READS IS OF BULK AT MOST 1048576: true; the input reads as it did. -/
def deltaChainUptoRow : OpenClaim := { program := "ytnppjhkhfjpkfaa", sum := "b6f5a41e44342f55358d2412ffb80cb491103f959eab13d2d9b7d368fe6be759", func := "tramway/tramwaylaw08.DeltaChain", spec := "deltaChain", unfollowed := true, recurses := true, apart := false, narrowed := true }
def DeltaChainUptoSaid : Prop := deltaChainUptoRow.holds Try.pinned (OpenSpec.upto deltaChainSpec)

/-- 'tramwaylaw08.DeltaMakes', WHERE WHAT IT READS IS OF BULK AT MOST 1048576: true; the input reads as it did. -/
def deltaMakesUptoRow : OpenClaim := { program := "ytnppjhkhfjpkfaa", sum := "b6f5a41e44342f55358d2412ffb80cb491103f959eab13d2d9b7d368fe6be759", func := "tramway/tramwaylaw08.DeltaMakes", spec := "deltaMakes", unfollowed := true, recurses := true, apart := false, narrowed := true }
def DeltaMakesUptoSaid : Prop := deltaMakesUptoRow.holds Try.pinned (OpenSpec.upto deltaMakesSpec)

end Rows
end Go.Proofs.Ytnppjhkhfjpkfaa
