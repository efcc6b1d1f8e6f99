/-
  No cell of these rows narrows 'for every input' (looked for: loops, veiled, ifaces, maps, wideKeys, modest, calm, conditions, laid).
  DERIVED. THE GIVEN ROWS OF THIS SEAT. 4 by the template 'for every input the law returns true; each argument reads behind the call as it read before'; 0 by the template 'total and deterministic' (their statements: YtnlkanhakmkejaaTotals.lean).
  GIVEN WITH THE SEED: the statements are not yours to turn. If you find one false, say at which input.
  Laid BY PROGRAM, IN A SANDBOX (cutbox-rows.mjs): the forced cells as the released guide's own fill.sh prints them over the translation d22f35acb6da1ddc… (all of the seat's roots in one cut). By AI agents, Wed Nov 11 2026. No macro, syntax, notation, axiom, sorry.
-/
import Derived.Test.YtnlkanhakmkejaaChecked
import GoSem.Claim
import GoSem.ClaimJoined
import GoSem.ClaimMapViews
import Derived.JoinedTies
import Derived.KernelRfl
namespace Go.Proofs.Ytnlkanhakmkejaa
/- THE CELL 'sum', in the pinned program and in every row, IS THE sha256 OF THE DUMP (.gsa) THAT YtnlkanhakmkejaaProg.lean LOADS. Nothing in Lean hashes anything: it is a label: what it is worth is what the hold of that sum in a sandbox is worth. -/
noncomputable def Try.pinned : Pinned := { name := "ytnlkanhakmkejaa", sum := "d22f35acb6da1ddc7b9cf85f6ea4d76875527b334418f3fe0a40df7732b2b3bb", checked := Try.checked }
namespace Rows
def none {H : Type} : Left H := { results := [], args := [] }

/-- 'tramwaylaw24.MarksAdds': WHATEVER THE INPUT: true; the input reads as it did. -/
def marksAddsSpec : ChangeSpec := { name := "marksAdds", fn := fun _ => fun
  | [d] => { results := [.lit (.bool true)], args := [d] }
  | _ => none }
def marksAddsRow : OpenClaim := { program := "ytnlkanhakmkejaa", sum := "d22f35acb6da1ddc7b9cf85f6ea4d76875527b334418f3fe0a40df7732b2b3bb", func := "tramway/tramwaylaw24.MarksAdds", spec := "marksAdds", unfollowed := true, recurses := true, plainKeys := false, apart := false }
def MarksAddsSaid : Prop := marksAddsRow.holds Try.pinned (OpenSpec.ofChange marksAddsSpec)

/-- ITS FALSE NEIGHBOUR: 'it returns false'. Refute it at one input. -/
def marksAddsWrong : ChangeSpec := { name := "marksAdds", fn := fun _ => fun
  | [d] => { results := [.lit (.bool false)], args := [d] }
  | _ => none }
def MarksAddsWrongFalsely : Prop := marksAddsRow.holds Try.pinned (OpenSpec.ofChange marksAddsWrong)

/-- 'tramwaylaw24.MarksFinds': WHATEVER THE INPUT: true; the input reads as it did. -/
def marksFindsSpec : ChangeSpec := { name := "marksFinds", fn := fun _ => fun
  | [d1, d2] => { results := [.lit (.bool true)], args := [d1, d2] }
  | _ => none }
def marksFindsRow : OpenClaim := { program := "ytnlkanhakmkejaa", sum := "d22f35acb6da1ddc7b9cf85f6ea4d76875527b334418f3fe0a40df7732b2b3bb", func := "tramway/tramwaylaw24.MarksFinds", spec := "marksFinds", unfollowed := true, recurses := true, plainKeys := false, apart := false }
def MarksFindsSaid : Prop := marksFindsRow.holds Try.pinned (OpenSpec.ofChange marksFindsSpec)

/-- ITS FALSE NEIGHBOUR: 'it returns false'. Refute it at one input. -/
def marksFindsWrong : ChangeSpec := { name := "marksFinds", fn := fun _ => fun
  | [d1, d2] => { results := [.lit (.bool false)], args := [d1, d2] }
  | _ => none }
def MarksFindsWrongFalsely : Prop := marksFindsRow.holds Try.pinned (OpenSpec.ofChange marksFindsWrong)

/-- 'tramwaylaw24.MarksTexts': WHATEVER THE INPUT: true; the input reads as it did. -/
def marksTextsSpec : ChangeSpec := { name := "marksTexts", fn := fun _ => fun
  | [d1, d2] => { results := [.lit (.bool true)], args := [d1, d2] }
  | _ => none }
def marksTextsRow : OpenClaim := { program := "ytnlkanhakmkejaa", sum := "d22f35acb6da1ddc7b9cf85f6ea4d76875527b334418f3fe0a40df7732b2b3bb", func := "tramway/tramwaylaw24.MarksTexts", spec := "marksTexts", inPlace := ["internal/abi.NoEscape", "internal/bytealg.IndexByteString", "internal/bytealg.IndexString"], unfollowed := true, recurses := true, named := ["internal/bytealg.MaxLen"], plainKeys := false, apart := false }
def MarksTextsSaid : Prop := marksTextsRow.holds Try.pinned (OpenSpec.ofChange marksTextsSpec)

/-- ITS FALSE NEIGHBOUR: 'it returns false'. Refute it at one input. -/
def marksTextsWrong : ChangeSpec := { name := "marksTexts", fn := fun _ => fun
  | [d1, d2] => { results := [.lit (.bool false)], args := [d1, d2] }
  | _ => none }
def MarksTextsWrongFalsely : Prop := marksTextsRow.holds Try.pinned (OpenSpec.ofChange marksTextsWrong)

/-- 'tramwaylaw24.MarksJoins': WHATEVER THE INPUT: true; the input reads as it did. -/
def marksJoinsSpec : ChangeSpec := { name := "marksJoins", fn := fun _ => fun
  | [d1, d2] => { results := [.lit (.bool true)], args := [d1, d2] }
  | _ => none }
def marksJoinsRow : OpenClaim := { program := "ytnlkanhakmkejaa", sum := "d22f35acb6da1ddc7b9cf85f6ea4d76875527b334418f3fe0a40df7732b2b3bb", func := "tramway/tramwaylaw24.MarksJoins", spec := "marksJoins", inPlace := ["internal/abi.NoEscape", "internal/bytealg.IndexByteString", "internal/bytealg.IndexString"], unfollowed := true, recurses := true, named := ["internal/bytealg.MaxLen"], plainKeys := false, apart := false }
def MarksJoinsSaid : Prop := marksJoinsRow.holds Try.pinned (OpenSpec.ofChange marksJoinsSpec)

/-- ITS FALSE NEIGHBOUR: 'it returns false'. Refute it at one input. -/
def marksJoinsWrong : ChangeSpec := { name := "marksJoins", fn := fun _ => fun
  | [d1, d2] => { results := [.lit (.bool false)], args := [d1, d2] }
  | _ => none }
def MarksJoinsWrongFalsely : Prop := marksJoinsRow.holds Try.pinned (OpenSpec.ofChange marksJoinsWrong)

/- THE SECOND FORM. 'bulk': how many values and letters a reading holds, each counted each time it is reached (what is shared counts as often as it is met; a slice's spare places count too). A statement '..UptoSaid' is the law's where the arguments, and the package variables that the reading takes, are together of bulk at most 1048576: NARROWER than '..Said'. Prove '..Said' where nothing that the law and all that it calls make is longer than what came in: it says more and counts as full. Else prove '..UptoSaid'. A law counts once. -/
mutual
def uptoBulk {H : Type} : DataW H → Nat
  | .lit (.string bytes) => bytes.length + 1
  | .lit _ => 1
  | .nil => 1
  | .ptr d => uptoBulk d + 1
  | .slice elems spare => uptoBulkAll elems + uptoBulkAll spare + 1
  | .agg parts => uptoBulkAll parts + 1
  | .iface _ d => uptoBulk d + 1
  | .map entries => uptoBulkEntries entries + 1
  | .held _ => 1
def uptoBulkAll {H : Type} : List (DataW H) → Nat
  | [] => 0
  | d :: r => uptoBulk d + uptoBulkAll r
def uptoBulkEntries {H : Type} : List (Lit × DataW H) → Nat
  | [] => 0
  | x :: r => uptoBulkEntry x + uptoBulkEntries r
def uptoBulkEntry {H : Type} : Lit × DataW H → Nat
  | (.string bytes, d) => bytes.length + uptoBulk d + 1
  | (_, d) => uptoBulk d + 1
 end
def uptoSmall : (H : Type) → List (DataW H) → Bool := fun _ ds => decide (uptoBulkAll ds ≤ 1048576)
def OpenSpec.upto (s : _root_.Go.ChangeSpec) : _root_.Go.OpenSpec := { _root_.Go.OpenSpec.ofChange s with cond := some uptoSmall }

/-- 'tramwaylaw24.MarksAdds', WHERE WHAT IT READS IS OF BULK AT MOST 1048576: true; the input reads as it did. -/
def marksAddsUptoRow : OpenClaim := { program := "ytnlkanhakmkejaa", sum := "d22f35acb6da1ddc7b9cf85f6ea4d76875527b334418f3fe0a40df7732b2b3bb", func := "tramway/tramwaylaw24.MarksAdds", spec := "marksAdds", unfollowed := true, recurses := true, plainKeys := false, apart := false, narrowed := true }
def MarksAddsUptoSaid : Prop := marksAddsUptoRow.holds Try.pinned (OpenSpec.upto marksAddsSpec)

/-- 'tramwaylaw24.MarksFinds', WHERE WHAT IT READS IS OF BULK AT MOST 1048576: true; the input reads as it did. -/
def marksFindsUptoRow : OpenClaim := { program := "ytnlkanhakmkejaa", sum := "d22f35acb6da1ddc7b9cf85f6ea4d76875527b334418f3fe0a40df7732b2b3bb", func := "tramway/tramwaylaw24.MarksFinds", spec := "marksFinds", unfollowed := true, recurses := true, plainKeys := false, apart := false, narrowed := true }
def MarksFindsUptoSaid : Prop := marksFindsUptoRow.holds Try.pinned (OpenSpec.upto marksFindsSpec)

/-- 'tramwaylaw24.MarksTexts', WHERE WHAT IT READS IS OF BULK AT MOST 1048576: true; the input reads as it did. -/
def marksTextsUptoRow : OpenClaim := { program := "ytnlkanhakmkejaa", sum := "d22f35acb6da1ddc7b9cf85f6ea4d76875527b334418f3fe0a40df7732b2b3bb", func := "tramway/tramwaylaw24.MarksTexts", spec := "marksTexts", inPlace := ["internal/abi.NoEscape", "internal/bytealg.IndexByteString", "internal/bytealg.IndexString"], unfollowed := true, recurses := true, named := ["internal/bytealg.MaxLen"], plainKeys := false, apart := false, narrowed := true }
def MarksTextsUptoSaid : Prop := marksTextsUptoRow.holds Try.pinned (OpenSpec.upto marksTextsSpec)

/-- 'tramwaylaw24.MarksJoins', WHERE WHAT IT READS IS OF BULK AT MOST 1048576: true; the input reads as it did. -/
def marksJoinsUptoRow : OpenClaim := { program := "ytnlkanhakmkejaa", sum := "d22f35acb6da1ddc7b9cf85f6ea4d76875527b334418f3fe0a40df7732b2b3bb", func := "tramway/tramwaylaw24.MarksJoins", spec := "marksJoins", inPlace := ["internal/abi.NoEscape", "internal/bytealg.IndexByteString", "internal/bytealg.IndexString"], unfollowed := true, recurses := true, named := ["internal/bytealg.MaxLen"], plainKeys := false, apart := false, narrowed := true }
def MarksJoinsUptoSaid : Prop := marksJoinsUptoRow.holds Try.pinned (OpenSpec.upto marksJoinsSpec)

end Rows
end Go.Proofs.Ytnlkanhakmkejaa
