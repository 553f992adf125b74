/-
  No cell of these rows narrows 'for every input' (looked for: loops, veiled, ifaces, maps, wideKeys, modest, calm, conditions, laid).
  DERIVED. THE GIVEN ROWS OF THIS SEAT. 12 by the template 'for every input the law returns true; each argument reads behind the call as it read before'; 0 by the template 'total and deterministic' (their statements: YtagmeeplgmocdaaTotals.lean).
  GIVEN WITH THE SEED: the statements are not yours to turn. If you find one false, say at which input.
  Laid BY PROGRAM, IN A SANDBOX (cutbox-rows.mjs): the forced cells as the released guide's own fill.sh prints them over the translation 8c111bdd813d9580… (all of the seat's roots in one cut). By AI agents, Wed Nov 11 2026. No macro, syntax, notation, axiom, sorry.
-/
import Derived.Test.YtagmeeplgmocdaaChecked
import GoSem.Claim
import GoSem.ClaimJoined
import GoSem.ClaimMapViews
import Derived.JoinedTies
import Derived.KernelRfl
namespace Go.Proofs.Ytagmeeplgmocdaa
/- THE CELL 'sum', in the pinned program and in every row, IS THE sha256 OF THE DUMP (.gsa) THAT YtagmeeplgmocdaaProg.lean LOADS. Nothing in Lean hashes anything: it is a label: what it is worth is what the hold of that sum in a sandbox is worth. -/
noncomputable def Try.pinned : Pinned := { name := "ytagmeeplgmocdaa", sum := "8c111bdd813d9580370a5c179a24bebf2e3527f5cfc50abf333e22a0fb4de73a", checked := Try.checked }
namespace Rows
def none {H : Type} : Left H := { results := [], args := [] }

/-- 'laws.FnExactConstants': WHATEVER THE INPUT: true; the input reads as it did. -/
def fnExactConstantsSpec : ChangeSpec := { name := "fnExactConstants", fn := fun _ => fun
  | [] => { results := [.lit (.bool true)], args := [] }
  | _ => none }
def fnExactConstantsRow : OpenClaim := { program := "ytagmeeplgmocdaa", sum := "8c111bdd813d9580370a5c179a24bebf2e3527f5cfc50abf333e22a0fb4de73a", func := "loop.example/g03221/laws.FnExactConstants", spec := "fnExactConstants", apart := false }
def FnExactConstantsSaid : Prop := fnExactConstantsRow.holds Try.pinned (OpenSpec.ofChange fnExactConstantsSpec)

/-- ITS FALSE NEIGHBOUR: 'it returns false'. Refute it at one input. -/
def fnExactConstantsWrong : ChangeSpec := { name := "fnExactConstants", fn := fun _ => fun
  | [] => { results := [.lit (.bool false)], args := [] }
  | _ => none }
def FnExactConstantsWrongFalsely : Prop := fnExactConstantsRow.holds Try.pinned (OpenSpec.ofChange fnExactConstantsWrong)

/-- 'laws.FnExactIsName': WHATEVER THE INPUT: true; the input reads as it did. -/
def fnExactIsNameSpec : ChangeSpec := { name := "fnExactIsName", fn := fun _ => fun
  | [d] => { results := [.lit (.bool true)], args := [d] }
  | _ => none }
def fnExactIsNameRow : OpenClaim := { program := "ytagmeeplgmocdaa", sum := "8c111bdd813d9580370a5c179a24bebf2e3527f5cfc50abf333e22a0fb4de73a", func := "loop.example/g03221/laws.FnExactIsName", spec := "fnExactIsName", apart := false }
def FnExactIsNameSaid : Prop := fnExactIsNameRow.holds Try.pinned (OpenSpec.ofChange fnExactIsNameSpec)

/-- ITS FALSE NEIGHBOUR: 'it returns false'. Refute it at one input. -/
def fnExactIsNameWrong : ChangeSpec := { name := "fnExactIsName", fn := fun _ => fun
  | [d] => { results := [.lit (.bool false)], args := [d] }
  | _ => none }
def FnExactIsNameWrongFalsely : Prop := fnExactIsNameRow.holds Try.pinned (OpenSpec.ofChange fnExactIsNameWrong)

/-- 'laws.FnExactEqualTypes': WHATEVER THE INPUT: true; the input reads as it did. -/
def fnExactEqualTypesSpec : ChangeSpec := { name := "fnExactEqualTypes", fn := fun _ => fun
  | [d1, d2] => { results := [.lit (.bool true)], args := [d1, d2] }
  | _ => none }
def fnExactEqualTypesRow : OpenClaim := { program := "ytagmeeplgmocdaa", sum := "8c111bdd813d9580370a5c179a24bebf2e3527f5cfc50abf333e22a0fb4de73a", func := "loop.example/g03221/laws.FnExactEqualTypes", spec := "fnExactEqualTypes", apart := false }
def FnExactEqualTypesSaid : Prop := fnExactEqualTypesRow.holds Try.pinned (OpenSpec.ofChange fnExactEqualTypesSpec)

/-- ITS FALSE NEIGHBOUR: 'it returns false'. Refute it at one input. -/
def fnExactEqualTypesWrong : ChangeSpec := { name := "fnExactEqualTypes", fn := fun _ => fun
  | [d1, d2] => { results := [.lit (.bool false)], args := [d1, d2] }
  | _ => none }
def FnExactEqualTypesWrongFalsely : Prop := fnExactEqualTypesRow.holds Try.pinned (OpenSpec.ofChange fnExactEqualTypesWrong)

/-- 'laws.FnExactIsRelation': WHATEVER THE INPUT: true; the input reads as it did. -/
def fnExactIsRelationSpec : ChangeSpec := { name := "fnExactIsRelation", fn := fun _ => fun
  | [d] => { results := [.lit (.bool true)], args := [d] }
  | _ => none }
def fnExactIsRelationRow : OpenClaim := { program := "ytagmeeplgmocdaa", sum := "8c111bdd813d9580370a5c179a24bebf2e3527f5cfc50abf333e22a0fb4de73a", func := "loop.example/g03221/laws.FnExactIsRelation", spec := "fnExactIsRelation", apart := false }
def FnExactIsRelationSaid : Prop := fnExactIsRelationRow.holds Try.pinned (OpenSpec.ofChange fnExactIsRelationSpec)

/-- ITS FALSE NEIGHBOUR: 'it returns false'. Refute it at one input. -/
def fnExactIsRelationWrong : ChangeSpec := { name := "fnExactIsRelation", fn := fun _ => fun
  | [d] => { results := [.lit (.bool false)], args := [d] }
  | _ => none }
def FnExactIsRelationWrongFalsely : Prop := fnExactIsRelationRow.holds Try.pinned (OpenSpec.ofChange fnExactIsRelationWrong)

/-- 'laws.FnExactEmptyRelation': WHATEVER THE INPUT: true; the input reads as it did. -/
def fnExactEmptyRelationSpec : ChangeSpec := { name := "fnExactEmptyRelation", fn := fun _ => fun
  | [d] => { results := [.lit (.bool true)], args := [d] }
  | _ => none }
def fnExactEmptyRelationRow : OpenClaim := { program := "ytagmeeplgmocdaa", sum := "8c111bdd813d9580370a5c179a24bebf2e3527f5cfc50abf333e22a0fb4de73a", func := "loop.example/g03221/laws.FnExactEmptyRelation", spec := "fnExactEmptyRelation", unfollowed := true, recurses := true, apart := false }
def FnExactEmptyRelationSaid : Prop := fnExactEmptyRelationRow.holds Try.pinned (OpenSpec.ofChange fnExactEmptyRelationSpec)

/-- ITS FALSE NEIGHBOUR: 'it returns false'. Refute it at one input. -/
def fnExactEmptyRelationWrong : ChangeSpec := { name := "fnExactEmptyRelation", fn := fun _ => fun
  | [d] => { results := [.lit (.bool false)], args := [d] }
  | _ => none }
def FnExactEmptyRelationWrongFalsely : Prop := fnExactEmptyRelationRow.holds Try.pinned (OpenSpec.ofChange fnExactEmptyRelationWrong)

/-- 'laws.FnExactIsType': WHATEVER THE INPUT: true; the input reads as it did. -/
def fnExactIsTypeSpec : ChangeSpec := { name := "fnExactIsType", fn := fun _ => fun
  | [d] => { results := [.lit (.bool true)], args := [d] }
  | _ => none }
def fnExactIsTypeRow : OpenClaim := { program := "ytagmeeplgmocdaa", sum := "8c111bdd813d9580370a5c179a24bebf2e3527f5cfc50abf333e22a0fb4de73a", func := "loop.example/g03221/laws.FnExactIsType", spec := "fnExactIsType", apart := false }
def FnExactIsTypeSaid : Prop := fnExactIsTypeRow.holds Try.pinned (OpenSpec.ofChange fnExactIsTypeSpec)

/-- ITS FALSE NEIGHBOUR: 'it returns false'. Refute it at one input. -/
def fnExactIsTypeWrong : ChangeSpec := { name := "fnExactIsType", fn := fun _ => fun
  | [d] => { results := [.lit (.bool false)], args := [d] }
  | _ => none }
def FnExactIsTypeWrongFalsely : Prop := fnExactIsTypeRow.holds Try.pinned (OpenSpec.ofChange fnExactIsTypeWrong)

/-- 'laws.FnExactIdentityRelation': WHATEVER THE INPUT: true; the input reads as it did. -/
def fnExactIdentityRelationSpec : ChangeSpec := { name := "fnExactIdentityRelation", fn := fun _ => fun
  | [d] => { results := [.lit (.bool true)], args := [d] }
  | _ => none }
def fnExactIdentityRelationRow : OpenClaim := { program := "ytagmeeplgmocdaa", sum := "8c111bdd813d9580370a5c179a24bebf2e3527f5cfc50abf333e22a0fb4de73a", func := "loop.example/g03221/laws.FnExactIdentityRelation", spec := "fnExactIdentityRelation", unfollowed := true, recurses := true, apart := false }
def FnExactIdentityRelationSaid : Prop := fnExactIdentityRelationRow.holds Try.pinned (OpenSpec.ofChange fnExactIdentityRelationSpec)

/-- ITS FALSE NEIGHBOUR: 'it returns false'. Refute it at one input. -/
def fnExactIdentityRelationWrong : ChangeSpec := { name := "fnExactIdentityRelation", fn := fun _ => fun
  | [d] => { results := [.lit (.bool false)], args := [d] }
  | _ => none }
def FnExactIdentityRelationWrongFalsely : Prop := fnExactIdentityRelationRow.holds Try.pinned (OpenSpec.ofChange fnExactIdentityRelationWrong)

/-- 'laws.FnExactSexOfType': WHATEVER THE INPUT: true; the input reads as it did. -/
def fnExactSexOfTypeSpec : ChangeSpec := { name := "fnExactSexOfType", fn := fun _ => fun
  | [d] => { results := [.lit (.bool true)], args := [d] }
  | _ => none }
def fnExactSexOfTypeRow : OpenClaim := { program := "ytagmeeplgmocdaa", sum := "8c111bdd813d9580370a5c179a24bebf2e3527f5cfc50abf333e22a0fb4de73a", func := "loop.example/g03221/laws.FnExactSexOfType", spec := "fnExactSexOfType", apart := false }
def FnExactSexOfTypeSaid : Prop := fnExactSexOfTypeRow.holds Try.pinned (OpenSpec.ofChange fnExactSexOfTypeSpec)

/-- ITS FALSE NEIGHBOUR: 'it returns false'. Refute it at one input. -/
def fnExactSexOfTypeWrong : ChangeSpec := { name := "fnExactSexOfType", fn := fun _ => fun
  | [d] => { results := [.lit (.bool false)], args := [d] }
  | _ => none }
def FnExactSexOfTypeWrongFalsely : Prop := fnExactSexOfTypeRow.holds Try.pinned (OpenSpec.ofChange fnExactSexOfTypeWrong)

/-- 'laws.FnExactIsRelated': WHATEVER THE INPUT: true; the input reads as it did. -/
def fnExactIsRelatedSpec : ChangeSpec := { name := "fnExactIsRelated", fn := fun _ => fun
  | [d1, d2, d3] => { results := [.lit (.bool true)], args := [d1, d2, d3] }
  | _ => none }
def fnExactIsRelatedRow : OpenClaim := { program := "ytagmeeplgmocdaa", sum := "8c111bdd813d9580370a5c179a24bebf2e3527f5cfc50abf333e22a0fb4de73a", func := "loop.example/g03221/laws.FnExactIsRelated", spec := "fnExactIsRelated", apart := false }
def FnExactIsRelatedSaid : Prop := fnExactIsRelatedRow.holds Try.pinned (OpenSpec.ofChange fnExactIsRelatedSpec)

/-- ITS FALSE NEIGHBOUR: 'it returns false'. Refute it at one input. -/
def fnExactIsRelatedWrong : ChangeSpec := { name := "fnExactIsRelated", fn := fun _ => fun
  | [d1, d2, d3] => { results := [.lit (.bool false)], args := [d1, d2, d3] }
  | _ => none }
def FnExactIsRelatedWrongFalsely : Prop := fnExactIsRelatedRow.holds Try.pinned (OpenSpec.ofChange fnExactIsRelatedWrong)

/-- 'laws.FnExactEgoOfType': WHATEVER THE INPUT: true; the input reads as it did. -/
def fnExactEgoOfTypeSpec : ChangeSpec := { name := "fnExactEgoOfType", fn := fun _ => fun
  | [d] => { results := [.lit (.bool true)], args := [d] }
  | _ => none }
def fnExactEgoOfTypeRow : OpenClaim := { program := "ytagmeeplgmocdaa", sum := "8c111bdd813d9580370a5c179a24bebf2e3527f5cfc50abf333e22a0fb4de73a", func := "loop.example/g03221/laws.FnExactEgoOfType", spec := "fnExactEgoOfType", apart := false }
def FnExactEgoOfTypeSaid : Prop := fnExactEgoOfTypeRow.holds Try.pinned (OpenSpec.ofChange fnExactEgoOfTypeSpec)

/-- ITS FALSE NEIGHBOUR: 'it returns false'. Refute it at one input. -/
def fnExactEgoOfTypeWrong : ChangeSpec := { name := "fnExactEgoOfType", fn := fun _ => fun
  | [d] => { results := [.lit (.bool false)], args := [d] }
  | _ => none }
def FnExactEgoOfTypeWrongFalsely : Prop := fnExactEgoOfTypeRow.holds Try.pinned (OpenSpec.ofChange fnExactEgoOfTypeWrong)

/-- 'laws.FnExactEqualRelations': WHATEVER THE INPUT: true; the input reads as it did. -/
def fnExactEqualRelationsSpec : ChangeSpec := { name := "fnExactEqualRelations", fn := fun _ => fun
  | [d1, d2] => { results := [.lit (.bool true)], args := [d1, d2] }
  | _ => none }
def fnExactEqualRelationsRow : OpenClaim := { program := "ytagmeeplgmocdaa", sum := "8c111bdd813d9580370a5c179a24bebf2e3527f5cfc50abf333e22a0fb4de73a", func := "loop.example/g03221/laws.FnExactEqualRelations", spec := "fnExactEqualRelations", apart := false }
def FnExactEqualRelationsSaid : Prop := fnExactEqualRelationsRow.holds Try.pinned (OpenSpec.ofChange fnExactEqualRelationsSpec)

/-- ITS FALSE NEIGHBOUR: 'it returns false'. Refute it at one input. -/
def fnExactEqualRelationsWrong : ChangeSpec := { name := "fnExactEqualRelations", fn := fun _ => fun
  | [d1, d2] => { results := [.lit (.bool false)], args := [d1, d2] }
  | _ => none }
def FnExactEqualRelationsWrongFalsely : Prop := fnExactEqualRelationsRow.holds Try.pinned (OpenSpec.ofChange fnExactEqualRelationsWrong)

/-- 'laws.FnExactFormatType': WHATEVER THE INPUT: true; the input reads as it did. -/
def fnExactFormatTypeSpec : ChangeSpec := { name := "fnExactFormatType", fn := fun _ => fun
  | [d] => { results := [.lit (.bool true)], args := [d] }
  | _ => none }
def fnExactFormatTypeRow : OpenClaim := { program := "ytagmeeplgmocdaa", sum := "8c111bdd813d9580370a5c179a24bebf2e3527f5cfc50abf333e22a0fb4de73a", func := "loop.example/g03221/laws.FnExactFormatType", spec := "fnExactFormatType", apart := false }
def FnExactFormatTypeSaid : Prop := fnExactFormatTypeRow.holds Try.pinned (OpenSpec.ofChange fnExactFormatTypeSpec)

/-- ITS FALSE NEIGHBOUR: 'it returns false'. Refute it at one input. -/
def fnExactFormatTypeWrong : ChangeSpec := { name := "fnExactFormatType", fn := fun _ => fun
  | [d] => { results := [.lit (.bool false)], args := [d] }
  | _ => none }
def FnExactFormatTypeWrongFalsely : Prop := fnExactFormatTypeRow.holds Try.pinned (OpenSpec.ofChange fnExactFormatTypeWrong)

/- THE SECOND FORM. 'bulk': how many values and letters a reading holds, each counted each time it is reached (what is shared counts as often as it is met; a slice's spare places count too). A statement '..UptoSaid' is the law's where the arguments, and the package variables that the reading takes, are together of bulk at most 1048576: NARROWER than '..Said'. Prove '..Said' where nothing that the law and all that it calls make is longer than what came in: it says more and counts as full. Else prove '..UptoSaid'. A law counts once. -/
mutual
def uptoBulk {H : Type} : DataW H → Nat
  | .lit (.string bytes) => bytes.length + 1
  | .lit _ => 1
  | .nil => 1
  | .ptr d => uptoBulk d + 1
  | .slice elems spare => uptoBulkAll elems + uptoBulkAll spare + 1
  | .agg parts => uptoBulkAll parts + 1
  | .iface _ d => uptoBulk d + 1
  | .map entries => uptoBulkEntries entries + 1
  | .held _ => 1
def uptoBulkAll {H : Type} : List (DataW H) → Nat
  | [] => 0
  | d :: r => uptoBulk d + uptoBulkAll r
def uptoBulkEntries {H : Type} : List (Lit × DataW H) → Nat
  | [] => 0
  | x :: r => uptoBulkEntry x + uptoBulkEntries r
def uptoBulkEntry {H : Type} : Lit × DataW H → Nat
  | (.string bytes, d) => bytes.length + uptoBulk d + 1
  | (_, d) => uptoBulk d + 1
 end
def uptoSmall : (H : Type) → List (DataW H) → Bool := fun _ ds => decide (uptoBulkAll ds ≤ 1048576)
def OpenSpec.upto (s : _root_.Go.ChangeSpec) : _root_.Go.OpenSpec := { _root_.Go.OpenSpec.ofChange s with cond := some uptoSmall }

/-- 'laws.FnExactConstants', WHERE WHAT IT READS IS OF BULK AT MOST 1048576: true; the input reads as it did. -/
def fnExactConstantsUptoRow : OpenClaim := { program := "ytagmeeplgmocdaa", sum := "8c111bdd813d9580370a5c179a24bebf2e3527f5cfc50abf333e22a0fb4de73a", func := "loop.example/g03221/laws.FnExactConstants", spec := "fnExactConstants", apart := false, narrowed := true }
def FnExactConstantsUptoSaid : Prop := fnExactConstantsUptoRow.holds Try.pinned (OpenSpec.upto fnExactConstantsSpec)

/-- 'laws.FnExactIsName', WHERE WHAT IT READS IS OF BULK AT MOST 1048576: true; the input reads as it did. -/
def fnExactIsNameUptoRow : OpenClaim := { program := "ytagmeeplgmocdaa", sum := "8c111bdd813d9580370a5c179a24bebf2e3527f5cfc50abf333e22a0fb4de73a", func := "loop.example/g03221/laws.FnExactIsName", spec := "fnExactIsName", apart := false, narrowed := true }
def FnExactIsNameUptoSaid : Prop := fnExactIsNameUptoRow.holds Try.pinned (OpenSpec.upto fnExactIsNameSpec)

/-- 'laws.FnExactEqualTypes', WHERE WHAT IT READS IS OF BULK AT MOST 1048576: true; the input reads as it did. -/
def fnExactEqualTypesUptoRow : OpenClaim := { program := "ytagmeeplgmocdaa", sum := "8c111bdd813d9580370a5c179a24bebf2e3527f5cfc50abf333e22a0fb4de73a", func := "loop.example/g03221/laws.FnExactEqualTypes", spec := "fnExactEqualTypes", apart := false, narrowed := true }
def FnExactEqualTypesUptoSaid : Prop := fnExactEqualTypesUptoRow.holds Try.pinned (OpenSpec.upto fnExactEqualTypesSpec)

/-- 'laws.FnExactIsRelation', WHERE WHAT IT READS IS OF BULK AT MOST 1048576: true; the input reads as it did. -/
def fnExactIsRelationUptoRow : OpenClaim := { program := "ytagmeeplgmocdaa", sum := "8c111bdd813d9580370a5c179a24bebf2e3527f5cfc50abf333e22a0fb4de73a", func := "loop.example/g03221/laws.FnExactIsRelation", spec := "fnExactIsRelation", apart := false, narrowed := true }
def FnExactIsRelationUptoSaid : Prop := fnExactIsRelationUptoRow.holds Try.pinned (OpenSpec.upto fnExactIsRelationSpec)

/-- 'laws.FnExactEmptyRelation', WHERE WHAT IT READS IS OF BULK AT MOST 1048576: true; the input reads as it did. -/
def fnExactEmptyRelationUptoRow : OpenClaim := { program := "ytagmeeplgmocdaa", sum := "8c111bdd813d9580370a5c179a24bebf2e3527f5cfc50abf333e22a0fb4de73a", func := "loop.example/g03221/laws.FnExactEmptyRelation", spec := "fnExactEmptyRelation", unfollowed := true, recurses := true, apart := false, narrowed := true }
def FnExactEmptyRelationUptoSaid : Prop := fnExactEmptyRelationUptoRow.holds Try.pinned (OpenSpec.upto fnExactEmptyRelationSpec)

/-- 'laws.FnExactIsType', WHERE WHAT IT READS IS OF BULK AT MOST 1048576: true; the input reads as it did. -/
def fnExactIsTypeUptoRow : OpenClaim := { program := "ytagmeeplgmocdaa", sum := "8c111bdd813d9580370a5c179a24bebf2e3527f5cfc50abf333e22a0fb4de73a", func := "loop.example/g03221/laws.FnExactIsType", spec := "fnExactIsType", apart := false, narrowed := true }
def FnExactIsTypeUptoSaid : Prop := fnExactIsTypeUptoRow.holds Try.pinned (OpenSpec.upto fnExactIsTypeSpec)

/-- 'laws.FnExactIdentityRelation', WHERE WHAT IT READS IS OF BULK AT MOST 1048576: true; the input reads as it did. -/
def fnExactIdentityRelationUptoRow : OpenClaim := { program := "ytagmeeplgmocdaa", sum := "8c111bdd813d9580370a5c179a24bebf2e3527f5cfc50abf333e22a0fb4de73a", func := "loop.example/g03221/laws.FnExactIdentityRelation", spec := "fnExactIdentityRelation", unfollowed := true, recurses := true, apart := false, narrowed := true }
def FnExactIdentityRelationUptoSaid : Prop := fnExactIdentityRelationUptoRow.holds Try.pinned (OpenSpec.upto fnExactIdentityRelationSpec)

/-- 'laws.FnExactSexOfType', WHERE WHAT IT READS IS OF BULK AT MOST 1048576: true; the input reads as it did. -/
def fnExactSexOfTypeUptoRow : OpenClaim := { program := "ytagmeeplgmocdaa", sum := "8c111bdd813d9580370a5c179a24bebf2e3527f5cfc50abf333e22a0fb4de73a", func := "loop.example/g03221/laws.FnExactSexOfType", spec := "fnExactSexOfType", apart := false, narrowed := true }
def FnExactSexOfTypeUptoSaid : Prop := fnExactSexOfTypeUptoRow.holds Try.pinned (OpenSpec.upto fnExactSexOfTypeSpec)

/-- 'laws.FnExactIsRelated', WHERE WHAT IT READS IS OF BULK AT MOST 1048576: true; the input reads as it did. -/
def fnExactIsRelatedUptoRow : OpenClaim := { program := "ytagmeeplgmocdaa", sum := "8c111bdd813d9580370a5c179a24bebf2e3527f5cfc50abf333e22a0fb4de73a", func := "loop.example/g03221/laws.FnExactIsRelated", spec := "fnExactIsRelated", apart := false, narrowed := true }
def FnExactIsRelatedUptoSaid : Prop := fnExactIsRelatedUptoRow.holds Try.pinned (OpenSpec.upto fnExactIsRelatedSpec)

/-- 'laws.FnExactEgoOfType', WHERE WHAT IT READS IS OF BULK AT MOST 1048576: true; the input reads as it did. -/
def fnExactEgoOfTypeUptoRow : OpenClaim := { program := "ytagmeeplgmocdaa", sum := "8c111bdd813d9580370a5c179a24bebf2e3527f5cfc50abf333e22a0fb4de73a", func := "loop.example/g03221/laws.FnExactEgoOfType", spec := "fnExactEgoOfType", apart := false, narrowed := true }
def FnExactEgoOfTypeUptoSaid : Prop := fnExactEgoOfTypeUptoRow.holds Try.pinned (OpenSpec.upto fnExactEgoOfTypeSpec)

/-- 'laws.FnExactEqualRelations', WHERE WHAT IT READS IS OF BULK AT MOST 1048576: true; the input reads as it did. -/
def fnExactEqualRelationsUptoRow : OpenClaim := { program := "ytagmeeplgmocdaa", sum := "8c111bdd813d9580370a5c179a24bebf2e3527f5cfc50abf333e22a0fb4de73a", func := "loop.example/g03221/laws.FnExactEqualRelations", spec := "fnExactEqualRelations", apart := false, narrowed := true }
def FnExactEqualRelationsUptoSaid : Prop := fnExactEqualRelationsUptoRow.holds Try.pinned (OpenSpec.upto fnExactEqualRelationsSpec)

/-- 'laws.FnExactFormatType', WHERE WHAT IT READS IS OF BULK AT MOST 1048576: true; the input reads as it did. -/
def fnExactFormatTypeUptoRow : OpenClaim := { program := "ytagmeeplgmocdaa", sum := "8c111bdd813d9580370a5c179a24bebf2e3527f5cfc50abf333e22a0fb4de73a", func := "loop.example/g03221/laws.FnExactFormatType", spec := "fnExactFormatType", apart := false, narrowed := true }
def FnExactFormatTypeUptoSaid : Prop := fnExactFormatTypeUptoRow.holds Try.pinned (OpenSpec.upto fnExactFormatTypeSpec)

end Rows
end Go.Proofs.Ytagmeeplgmocdaa
