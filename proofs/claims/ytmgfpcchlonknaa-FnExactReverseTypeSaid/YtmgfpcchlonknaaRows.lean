/-
  No cell of these rows narrows 'for every input' (looked for: loops, veiled, ifaces, maps, wideKeys, modest, calm, conditions, laid).
  DERIVED. THE GIVEN ROWS OF THIS SEAT. 15 by the template 'for every input the law returns true; each argument reads behind the call as it read before'; 0 by the template 'total and deterministic' (their statements: YtmgfpcchlonknaaTotals.lean).
  GIVEN WITH THE SEED: the statements are not yours to turn. If you find one false, say at which input.
  Laid BY PROGRAM, IN A SANDBOX (cutbox-rows.mjs): the forced cells as the released guide's own fill.sh prints them over the translation bbd3f9b56efee439… (all of the seat's roots in one cut). By AI agents, Wed Nov 11 2026. No macro, syntax, notation, axiom, sorry.
-/
import Derived.Test.YtmgfpcchlonknaaChecked
import GoSem.Claim
import GoSem.ClaimJoined
import GoSem.ClaimMapViews
import Derived.JoinedTies
import Derived.KernelRfl
namespace Go.Proofs.Ytmgfpcchlonknaa
/- THE CELL 'sum', in the pinned program and in every row, IS THE sha256 OF THE DUMP (.gsa) THAT YtmgfpcchlonknaaProg.lean LOADS. Nothing in Lean hashes anything: it is a label: what it is worth is what the hold of that sum in a sandbox is worth. -/
noncomputable def Try.pinned : Pinned := { name := "ytmgfpcchlonknaa", sum := "bbd3f9b56efee4394ba95f8744b3d3517586e5a6eea09de250dff0653af3f50c", checked := Try.checked }
namespace Rows
def none {H : Type} : Left H := { results := [], args := [] }

/-- 'laws.FnExactIsWithin': WHATEVER THE INPUT: true; the input reads as it did. -/
def fnExactIsWithinSpec : ChangeSpec := { name := "fnExactIsWithin", fn := fun _ => fun
  | [d1, d2] => { results := [.lit (.bool true)], args := [d1, d2] }
  | _ => none }
def fnExactIsWithinRow : OpenClaim := { program := "ytmgfpcchlonknaa", sum := "bbd3f9b56efee4394ba95f8744b3d3517586e5a6eea09de250dff0653af3f50c", func := "loop.example/g03221/laws.FnExactIsWithin", spec := "fnExactIsWithin", plainKeys := false, apart := false }
def FnExactIsWithinSaid : Prop := fnExactIsWithinRow.holds Try.pinned (OpenSpec.ofChange fnExactIsWithinSpec)

/-- ITS FALSE NEIGHBOUR: 'it returns false'. Refute it at one input. -/
def fnExactIsWithinWrong : ChangeSpec := { name := "fnExactIsWithin", fn := fun _ => fun
  | [d1, d2] => { results := [.lit (.bool false)], args := [d1, d2] }
  | _ => none }
def FnExactIsWithinWrongFalsely : Prop := fnExactIsWithinRow.holds Try.pinned (OpenSpec.ofChange fnExactIsWithinWrong)

/-- 'laws.FnExactRelationOf': WHATEVER THE INPUT: true; the input reads as it did. -/
def fnExactRelationOfSpec : ChangeSpec := { name := "fnExactRelationOf", fn := fun _ => fun
  | [d1, d2] => { results := [.lit (.bool true)], args := [d1, d2] }
  | _ => none }
def fnExactRelationOfRow : OpenClaim := { program := "ytmgfpcchlonknaa", sum := "bbd3f9b56efee4394ba95f8744b3d3517586e5a6eea09de250dff0653af3f50c", func := "loop.example/g03221/laws.FnExactRelationOf", spec := "fnExactRelationOf", unfollowed := true, recurses := true, plainKeys := false, apart := false }
def FnExactRelationOfSaid : Prop := fnExactRelationOfRow.holds Try.pinned (OpenSpec.ofChange fnExactRelationOfSpec)

/-- ITS FALSE NEIGHBOUR: 'it returns false'. Refute it at one input. -/
def fnExactRelationOfWrong : ChangeSpec := { name := "fnExactRelationOf", fn := fun _ => fun
  | [d1, d2] => { results := [.lit (.bool false)], args := [d1, d2] }
  | _ => none }
def FnExactRelationOfWrongFalsely : Prop := fnExactRelationOfRow.holds Try.pinned (OpenSpec.ofChange fnExactRelationOfWrong)

/-- 'laws.FnExactTypesFrom': WHATEVER THE INPUT: true; the input reads as it did. -/
def fnExactTypesFromSpec : ChangeSpec := { name := "fnExactTypesFrom", fn := fun _ => fun
  | [d1, d2] => { results := [.lit (.bool true)], args := [d1, d2] }
  | _ => none }
def fnExactTypesFromRow : OpenClaim := { program := "ytmgfpcchlonknaa", sum := "bbd3f9b56efee4394ba95f8744b3d3517586e5a6eea09de250dff0653af3f50c", func := "loop.example/g03221/laws.FnExactTypesFrom", spec := "fnExactTypesFrom", plainKeys := false, apart := false }
def FnExactTypesFromSaid : Prop := fnExactTypesFromRow.holds Try.pinned (OpenSpec.ofChange fnExactTypesFromSpec)

/-- ITS FALSE NEIGHBOUR: 'it returns false'. Refute it at one input. -/
def fnExactTypesFromWrong : ChangeSpec := { name := "fnExactTypesFrom", fn := fun _ => fun
  | [d1, d2] => { results := [.lit (.bool false)], args := [d1, d2] }
  | _ => none }
def FnExactTypesFromWrongFalsely : Prop := fnExactTypesFromRow.holds Try.pinned (OpenSpec.ofChange fnExactTypesFromWrong)

/-- 'laws.FnExactPairsOf': WHATEVER THE INPUT: true; the input reads as it did. -/
def fnExactPairsOfSpec : ChangeSpec := { name := "fnExactPairsOf", fn := fun _ => fun
  | [d] => { results := [.lit (.bool true)], args := [d] }
  | _ => none }
def fnExactPairsOfRow : OpenClaim := { program := "ytmgfpcchlonknaa", sum := "bbd3f9b56efee4394ba95f8744b3d3517586e5a6eea09de250dff0653af3f50c", func := "loop.example/g03221/laws.FnExactPairsOf", spec := "fnExactPairsOf", plainKeys := false, apart := false }
def FnExactPairsOfSaid : Prop := fnExactPairsOfRow.holds Try.pinned (OpenSpec.ofChange fnExactPairsOfSpec)

/-- ITS FALSE NEIGHBOUR: 'it returns false'. Refute it at one input. -/
def fnExactPairsOfWrong : ChangeSpec := { name := "fnExactPairsOf", fn := fun _ => fun
  | [d] => { results := [.lit (.bool false)], args := [d] }
  | _ => none }
def FnExactPairsOfWrongFalsely : Prop := fnExactPairsOfRow.holds Try.pinned (OpenSpec.ofChange fnExactPairsOfWrong)

/-- 'laws.FnExactJoinTypes': WHATEVER THE INPUT: true; the input reads as it did. -/
def fnExactJoinTypesSpec : ChangeSpec := { name := "fnExactJoinTypes", fn := fun _ => fun
  | [d1, d2] => { results := [.lit (.bool true)], args := [d1, d2] }
  | _ => none }
def fnExactJoinTypesRow : OpenClaim := { program := "ytmgfpcchlonknaa", sum := "bbd3f9b56efee4394ba95f8744b3d3517586e5a6eea09de250dff0653af3f50c", func := "loop.example/g03221/laws.FnExactJoinTypes", spec := "fnExactJoinTypes", plainKeys := false, apart := false }
def FnExactJoinTypesSaid : Prop := fnExactJoinTypesRow.holds Try.pinned (OpenSpec.ofChange fnExactJoinTypesSpec)

/-- ITS FALSE NEIGHBOUR: 'it returns false'. Refute it at one input. -/
def fnExactJoinTypesWrong : ChangeSpec := { name := "fnExactJoinTypes", fn := fun _ => fun
  | [d1, d2] => { results := [.lit (.bool false)], args := [d1, d2] }
  | _ => none }
def FnExactJoinTypesWrongFalsely : Prop := fnExactJoinTypesRow.holds Try.pinned (OpenSpec.ofChange fnExactJoinTypesWrong)

/-- 'laws.FnExactConverseRelation': WHATEVER THE INPUT: true; the input reads as it did. -/
def fnExactConverseRelationSpec : ChangeSpec := { name := "fnExactConverseRelation", fn := fun _ => fun
  | [d] => { results := [.lit (.bool true)], args := [d] }
  | _ => none }
def fnExactConverseRelationRow : OpenClaim := { program := "ytmgfpcchlonknaa", sum := "bbd3f9b56efee4394ba95f8744b3d3517586e5a6eea09de250dff0653af3f50c", func := "loop.example/g03221/laws.FnExactConverseRelation", spec := "fnExactConverseRelation", unfollowed := true, recurses := true, plainKeys := false, apart := false }
def FnExactConverseRelationSaid : Prop := fnExactConverseRelationRow.holds Try.pinned (OpenSpec.ofChange fnExactConverseRelationSpec)

/-- ITS FALSE NEIGHBOUR: 'it returns false'. Refute it at one input. -/
def fnExactConverseRelationWrong : ChangeSpec := { name := "fnExactConverseRelation", fn := fun _ => fun
  | [d] => { results := [.lit (.bool false)], args := [d] }
  | _ => none }
def FnExactConverseRelationWrongFalsely : Prop := fnExactConverseRelationRow.holds Try.pinned (OpenSpec.ofChange fnExactConverseRelationWrong)

/-- 'laws.FnExactClosureRelation': WHATEVER THE INPUT: true; the input reads as it did. -/
def fnExactClosureRelationSpec : ChangeSpec := { name := "fnExactClosureRelation", fn := fun _ => fun
  | [d] => { results := [.lit (.bool true)], args := [d] }
  | _ => none }
def fnExactClosureRelationRow : OpenClaim := { program := "ytmgfpcchlonknaa", sum := "bbd3f9b56efee4394ba95f8744b3d3517586e5a6eea09de250dff0653af3f50c", func := "loop.example/g03221/laws.FnExactClosureRelation", spec := "fnExactClosureRelation", unfollowed := true, recurses := true, plainKeys := false, apart := false }
def FnExactClosureRelationSaid : Prop := fnExactClosureRelationRow.holds Try.pinned (OpenSpec.ofChange fnExactClosureRelationSpec)

/-- ITS FALSE NEIGHBOUR: 'it returns false'. Refute it at one input. -/
def fnExactClosureRelationWrong : ChangeSpec := { name := "fnExactClosureRelation", fn := fun _ => fun
  | [d] => { results := [.lit (.bool false)], args := [d] }
  | _ => none }
def FnExactClosureRelationWrongFalsely : Prop := fnExactClosureRelationRow.holds Try.pinned (OpenSpec.ofChange fnExactClosureRelationWrong)

/-- 'laws.FnExactJoinRelations': WHATEVER THE INPUT: true; the input reads as it did. -/
def fnExactJoinRelationsSpec : ChangeSpec := { name := "fnExactJoinRelations", fn := fun _ => fun
  | [d1, d2] => { results := [.lit (.bool true)], args := [d1, d2] }
  | _ => none }
def fnExactJoinRelationsRow : OpenClaim := { program := "ytmgfpcchlonknaa", sum := "bbd3f9b56efee4394ba95f8744b3d3517586e5a6eea09de250dff0653af3f50c", func := "loop.example/g03221/laws.FnExactJoinRelations", spec := "fnExactJoinRelations", unfollowed := true, recurses := true, plainKeys := false, apart := false }
def FnExactJoinRelationsSaid : Prop := fnExactJoinRelationsRow.holds Try.pinned (OpenSpec.ofChange fnExactJoinRelationsSpec)

/-- ITS FALSE NEIGHBOUR: 'it returns false'. Refute it at one input. -/
def fnExactJoinRelationsWrong : ChangeSpec := { name := "fnExactJoinRelations", fn := fun _ => fun
  | [d1, d2] => { results := [.lit (.bool false)], args := [d1, d2] }
  | _ => none }
def FnExactJoinRelationsWrongFalsely : Prop := fnExactJoinRelationsRow.holds Try.pinned (OpenSpec.ofChange fnExactJoinRelationsWrong)

/-- 'laws.FnExactLessRelation': WHATEVER THE INPUT: true; the input reads as it did. -/
def fnExactLessRelationSpec : ChangeSpec := { name := "fnExactLessRelation", fn := fun _ => fun
  | [d1, d2] => { results := [.lit (.bool true)], args := [d1, d2] }
  | _ => none }
def fnExactLessRelationRow : OpenClaim := { program := "ytmgfpcchlonknaa", sum := "bbd3f9b56efee4394ba95f8744b3d3517586e5a6eea09de250dff0653af3f50c", func := "loop.example/g03221/laws.FnExactLessRelation", spec := "fnExactLessRelation", unfollowed := true, recurses := true, plainKeys := false, apart := false }
def FnExactLessRelationSaid : Prop := fnExactLessRelationRow.holds Try.pinned (OpenSpec.ofChange fnExactLessRelationSpec)

/-- ITS FALSE NEIGHBOUR: 'it returns false'. Refute it at one input. -/
def fnExactLessRelationWrong : ChangeSpec := { name := "fnExactLessRelation", fn := fun _ => fun
  | [d1, d2] => { results := [.lit (.bool false)], args := [d1, d2] }
  | _ => none }
def FnExactLessRelationWrongFalsely : Prop := fnExactLessRelationRow.holds Try.pinned (OpenSpec.ofChange fnExactLessRelationWrong)

/-- 'laws.FnExactMeetRelations': WHATEVER THE INPUT: true; the input reads as it did. -/
def fnExactMeetRelationsSpec : ChangeSpec := { name := "fnExactMeetRelations", fn := fun _ => fun
  | [d1, d2] => { results := [.lit (.bool true)], args := [d1, d2] }
  | _ => none }
def fnExactMeetRelationsRow : OpenClaim := { program := "ytmgfpcchlonknaa", sum := "bbd3f9b56efee4394ba95f8744b3d3517586e5a6eea09de250dff0653af3f50c", func := "loop.example/g03221/laws.FnExactMeetRelations", spec := "fnExactMeetRelations", unfollowed := true, recurses := true, plainKeys := false, apart := false }
def FnExactMeetRelationsSaid : Prop := fnExactMeetRelationsRow.holds Try.pinned (OpenSpec.ofChange fnExactMeetRelationsSpec)

/-- ITS FALSE NEIGHBOUR: 'it returns false'. Refute it at one input. -/
def fnExactMeetRelationsWrong : ChangeSpec := { name := "fnExactMeetRelations", fn := fun _ => fun
  | [d1, d2] => { results := [.lit (.bool false)], args := [d1, d2] }
  | _ => none }
def FnExactMeetRelationsWrongFalsely : Prop := fnExactMeetRelationsRow.holds Try.pinned (OpenSpec.ofChange fnExactMeetRelationsWrong)

/-- 'laws.FnExactComposeRelations': WHATEVER THE INPUT: true; the input reads as it did. -/
def fnExactComposeRelationsSpec : ChangeSpec := { name := "fnExactComposeRelations", fn := fun _ => fun
  | [d1, d2] => { results := [.lit (.bool true)], args := [d1, d2] }
  | _ => none }
def fnExactComposeRelationsRow : OpenClaim := { program := "ytmgfpcchlonknaa", sum := "bbd3f9b56efee4394ba95f8744b3d3517586e5a6eea09de250dff0653af3f50c", func := "loop.example/g03221/laws.FnExactComposeRelations", spec := "fnExactComposeRelations", unfollowed := true, recurses := true, plainKeys := false, apart := false }
def FnExactComposeRelationsSaid : Prop := fnExactComposeRelationsRow.holds Try.pinned (OpenSpec.ofChange fnExactComposeRelationsSpec)

/-- ITS FALSE NEIGHBOUR: 'it returns false'. Refute it at one input. -/
def fnExactComposeRelationsWrong : ChangeSpec := { name := "fnExactComposeRelations", fn := fun _ => fun
  | [d1, d2] => { results := [.lit (.bool false)], args := [d1, d2] }
  | _ => none }
def FnExactComposeRelationsWrongFalsely : Prop := fnExactComposeRelationsRow.holds Try.pinned (OpenSpec.ofChange fnExactComposeRelationsWrong)

/-- 'laws.FnExactParseType': WHATEVER THE INPUT: true; the input reads as it did. -/
def fnExactParseTypeSpec : ChangeSpec := { name := "fnExactParseType", fn := fun _ => fun
  | [d] => { results := [.lit (.bool true)], args := [d] }
  | _ => none }
def fnExactParseTypeRow : OpenClaim := { program := "ytmgfpcchlonknaa", sum := "bbd3f9b56efee4394ba95f8744b3d3517586e5a6eea09de250dff0653af3f50c", func := "loop.example/g03221/laws.FnExactParseType", spec := "fnExactParseType", inPlace := ["internal/bytealg.IndexByteString"], plainKeys := false, apart := false }
def FnExactParseTypeSaid : Prop := fnExactParseTypeRow.holds Try.pinned (OpenSpec.ofChange fnExactParseTypeSpec)

/-- ITS FALSE NEIGHBOUR: 'it returns false'. Refute it at one input. -/
def fnExactParseTypeWrong : ChangeSpec := { name := "fnExactParseType", fn := fun _ => fun
  | [d] => { results := [.lit (.bool false)], args := [d] }
  | _ => none }
def FnExactParseTypeWrongFalsely : Prop := fnExactParseTypeRow.holds Try.pinned (OpenSpec.ofChange fnExactParseTypeWrong)

/-- 'laws.FnExactReverseType': WHATEVER THE INPUT: true; the input reads as it did. -/
def fnExactReverseTypeSpec : ChangeSpec := { name := "fnExactReverseType", fn := fun _ => fun
  | [d] => { results := [.lit (.bool true)], args := [d] }
  | _ => none }
def fnExactReverseTypeRow : OpenClaim := { program := "ytmgfpcchlonknaa", sum := "bbd3f9b56efee4394ba95f8744b3d3517586e5a6eea09de250dff0653af3f50c", func := "loop.example/g03221/laws.FnExactReverseType", spec := "fnExactReverseType", unfollowed := true, recurses := true, plainKeys := false, apart := false }
def FnExactReverseTypeSaid : Prop := fnExactReverseTypeRow.holds Try.pinned (OpenSpec.ofChange fnExactReverseTypeSpec)

/-- ITS FALSE NEIGHBOUR: 'it returns false'. Refute it at one input. -/
def fnExactReverseTypeWrong : ChangeSpec := { name := "fnExactReverseType", fn := fun _ => fun
  | [d] => { results := [.lit (.bool false)], args := [d] }
  | _ => none }
def FnExactReverseTypeWrongFalsely : Prop := fnExactReverseTypeRow.holds Try.pinned (OpenSpec.ofChange fnExactReverseTypeWrong)

/-- 'laws.FnAlgebra': WHATEVER THE INPUT: true; the input reads as it did. -/
def fnAlgebraSpec : ChangeSpec := { name := "fnAlgebra", fn := fun _ => fun
  | [d] => { results := [.lit (.bool true)], args := [d] }
  | _ => none }
def fnAlgebraRow : OpenClaim := { program := "ytmgfpcchlonknaa", sum := "bbd3f9b56efee4394ba95f8744b3d3517586e5a6eea09de250dff0653af3f50c", func := "loop.example/g03221/laws.FnAlgebra", spec := "fnAlgebra", unfollowed := true, recurses := true, plainKeys := false, apart := false }
def FnAlgebraSaid : Prop := fnAlgebraRow.holds Try.pinned (OpenSpec.ofChange fnAlgebraSpec)

/-- ITS FALSE NEIGHBOUR: 'it returns false'. Refute it at one input. -/
def fnAlgebraWrong : ChangeSpec := { name := "fnAlgebra", fn := fun _ => fun
  | [d] => { results := [.lit (.bool false)], args := [d] }
  | _ => none }
def FnAlgebraWrongFalsely : Prop := fnAlgebraRow.holds Try.pinned (OpenSpec.ofChange fnAlgebraWrong)

/-- 'laws.FnClosed': WHATEVER THE INPUT: true; the input reads as it did. -/
def fnClosedSpec : ChangeSpec := { name := "fnClosed", fn := fun _ => fun
  | [d] => { results := [.lit (.bool true)], args := [d] }
  | _ => none }
def fnClosedRow : OpenClaim := { program := "ytmgfpcchlonknaa", sum := "bbd3f9b56efee4394ba95f8744b3d3517586e5a6eea09de250dff0653af3f50c", func := "loop.example/g03221/laws.FnClosed", spec := "fnClosed", unfollowed := true, recurses := true, plainKeys := false, apart := false }
def FnClosedSaid : Prop := fnClosedRow.holds Try.pinned (OpenSpec.ofChange fnClosedSpec)

/-- ITS FALSE NEIGHBOUR: 'it returns false'. Refute it at one input. -/
def fnClosedWrong : ChangeSpec := { name := "fnClosed", fn := fun _ => fun
  | [d] => { results := [.lit (.bool false)], args := [d] }
  | _ => none }
def FnClosedWrongFalsely : Prop := fnClosedRow.holds Try.pinned (OpenSpec.ofChange fnClosedWrong)

/- THE SECOND FORM. 'bulk': how many values and letters a reading holds, each counted each time it is reached (what is shared counts as often as it is met; a slice's spare places count too). A statement '..UptoSaid' is the law's where the arguments, and the package variables that the reading takes, are together of bulk at most 1048576: NARROWER than '..Said'. Prove '..Said' where nothing that the law and all that it calls make is longer than what came in: it says more and counts as full. Else prove '..UptoSaid'. A law counts once. -/
mutual
def uptoBulk {H : Type} : DataW H → Nat
  | .lit (.string bytes) => bytes.length + 1
  | .lit _ => 1
  | .nil => 1
  | .ptr d => uptoBulk d + 1
  | .slice elems spare => uptoBulkAll elems + uptoBulkAll spare + 1
  | .agg parts => uptoBulkAll parts + 1
  | .iface _ d => uptoBulk d + 1
  | .map entries => uptoBulkEntries entries + 1
  | .held _ => 1
def uptoBulkAll {H : Type} : List (DataW H) → Nat
  | [] => 0
  | d :: r => uptoBulk d + uptoBulkAll r
def uptoBulkEntries {H : Type} : List (Lit × DataW H) → Nat
  | [] => 0
  | x :: r => uptoBulkEntry x + uptoBulkEntries r
def uptoBulkEntry {H : Type} : Lit × DataW H → Nat
  | (.string bytes, d) => bytes.length + uptoBulk d + 1
  | (_, d) => uptoBulk d + 1
 end
def uptoSmall : (H : Type) → List (DataW H) → Bool := fun _ ds => decide (uptoBulkAll ds ≤ 1048576)
def OpenSpec.upto (s : _root_.Go.ChangeSpec) : _root_.Go.OpenSpec := { _root_.Go.OpenSpec.ofChange s with cond := some uptoSmall }

/-- 'laws.FnExactIsWithin', WHERE WHAT IT READS IS OF BULK AT MOST 1048576: true; the input reads as it did. -/
def fnExactIsWithinUptoRow : OpenClaim := { program := "ytmgfpcchlonknaa", sum := "bbd3f9b56efee4394ba95f8744b3d3517586e5a6eea09de250dff0653af3f50c", func := "loop.example/g03221/laws.FnExactIsWithin", spec := "fnExactIsWithin", plainKeys := false, apart := false, narrowed := true }
def FnExactIsWithinUptoSaid : Prop := fnExactIsWithinUptoRow.holds Try.pinned (OpenSpec.upto fnExactIsWithinSpec)

/-- 'laws.FnExactRelationOf', WHERE WHAT IT READS IS OF BULK AT MOST 1048576: true; the input reads as it did. -/
def fnExactRelationOfUptoRow : OpenClaim := { program := "ytmgfpcchlonknaa", sum := "bbd3f9b56efee4394ba95f8744b3d3517586e5a6eea09de250dff0653af3f50c", func := "loop.example/g03221/laws.FnExactRelationOf", spec := "fnExactRelationOf", unfollowed := true, recurses := true, plainKeys := false, apart := false, narrowed := true }
def FnExactRelationOfUptoSaid : Prop := fnExactRelationOfUptoRow.holds Try.pinned (OpenSpec.upto fnExactRelationOfSpec)

/-- 'laws.FnExactTypesFrom', WHERE WHAT IT READS IS OF BULK AT MOST 1048576: true; the input reads as it did. -/
def fnExactTypesFromUptoRow : OpenClaim := { program := "ytmgfpcchlonknaa", sum := "bbd3f9b56efee4394ba95f8744b3d3517586e5a6eea09de250dff0653af3f50c", func := "loop.example/g03221/laws.FnExactTypesFrom", spec := "fnExactTypesFrom", plainKeys := false, apart := false, narrowed := true }
def FnExactTypesFromUptoSaid : Prop := fnExactTypesFromUptoRow.holds Try.pinned (OpenSpec.upto fnExactTypesFromSpec)

/-- 'laws.FnExactPairsOf', WHERE WHAT IT READS IS OF BULK AT MOST 1048576: true; the input reads as it did. -/
def fnExactPairsOfUptoRow : OpenClaim := { program := "ytmgfpcchlonknaa", sum := "bbd3f9b56efee4394ba95f8744b3d3517586e5a6eea09de250dff0653af3f50c", func := "loop.example/g03221/laws.FnExactPairsOf", spec := "fnExactPairsOf", plainKeys := false, apart := false, narrowed := true }
def FnExactPairsOfUptoSaid : Prop := fnExactPairsOfUptoRow.holds Try.pinned (OpenSpec.upto fnExactPairsOfSpec)

/-- 'laws.FnExactJoinTypes', WHERE WHAT IT READS IS OF BULK AT MOST 1048576: true; the input reads as it did. -/
def fnExactJoinTypesUptoRow : OpenClaim := { program := "ytmgfpcchlonknaa", sum := "bbd3f9b56efee4394ba95f8744b3d3517586e5a6eea09de250dff0653af3f50c", func := "loop.example/g03221/laws.FnExactJoinTypes", spec := "fnExactJoinTypes", plainKeys := false, apart := false, narrowed := true }
def FnExactJoinTypesUptoSaid : Prop := fnExactJoinTypesUptoRow.holds Try.pinned (OpenSpec.upto fnExactJoinTypesSpec)

/-- 'laws.FnExactConverseRelation', WHERE WHAT IT READS IS OF BULK AT MOST 1048576: true; the input reads as it did. -/
def fnExactConverseRelationUptoRow : OpenClaim := { program := "ytmgfpcchlonknaa", sum := "bbd3f9b56efee4394ba95f8744b3d3517586e5a6eea09de250dff0653af3f50c", func := "loop.example/g03221/laws.FnExactConverseRelation", spec := "fnExactConverseRelation", unfollowed := true, recurses := true, plainKeys := false, apart := false, narrowed := true }
def FnExactConverseRelationUptoSaid : Prop := fnExactConverseRelationUptoRow.holds Try.pinned (OpenSpec.upto fnExactConverseRelationSpec)

/-- 'laws.FnExactClosureRelation', WHERE WHAT IT READS IS OF BULK AT MOST 1048576: true; the input reads as it did. -/
def fnExactClosureRelationUptoRow : OpenClaim := { program := "ytmgfpcchlonknaa", sum := "bbd3f9b56efee4394ba95f8744b3d3517586e5a6eea09de250dff0653af3f50c", func := "loop.example/g03221/laws.FnExactClosureRelation", spec := "fnExactClosureRelation", unfollowed := true, recurses := true, plainKeys := false, apart := false, narrowed := true }
def FnExactClosureRelationUptoSaid : Prop := fnExactClosureRelationUptoRow.holds Try.pinned (OpenSpec.upto fnExactClosureRelationSpec)

/-- 'laws.FnExactJoinRelations', WHERE WHAT IT READS IS OF BULK AT MOST 1048576: true; the input reads as it did. -/
def fnExactJoinRelationsUptoRow : OpenClaim := { program := "ytmgfpcchlonknaa", sum := "bbd3f9b56efee4394ba95f8744b3d3517586e5a6eea09de250dff0653af3f50c", func := "loop.example/g03221/laws.FnExactJoinRelations", spec := "fnExactJoinRelations", unfollowed := true, recurses := true, plainKeys := false, apart := false, narrowed := true }
def FnExactJoinRelationsUptoSaid : Prop := fnExactJoinRelationsUptoRow.holds Try.pinned (OpenSpec.upto fnExactJoinRelationsSpec)

/-- 'laws.FnExactLessRelation', WHERE WHAT IT READS IS OF BULK AT MOST 1048576: true; the input reads as it did. -/
def fnExactLessRelationUptoRow : OpenClaim := { program := "ytmgfpcchlonknaa", sum := "bbd3f9b56efee4394ba95f8744b3d3517586e5a6eea09de250dff0653af3f50c", func := "loop.example/g03221/laws.FnExactLessRelation", spec := "fnExactLessRelation", unfollowed := true, recurses := true, plainKeys := false, apart := false, narrowed := true }
def FnExactLessRelationUptoSaid : Prop := fnExactLessRelationUptoRow.holds Try.pinned (OpenSpec.upto fnExactLessRelationSpec)

/-- 'laws.FnExactMeetRelations', WHERE WHAT IT READS IS OF BULK AT MOST 1048576: true; the input reads as it did. -/
def fnExactMeetRelationsUptoRow : OpenClaim := { program := "ytmgfpcchlonknaa", sum := "bbd3f9b56efee4394ba95f8744b3d3517586e5a6eea09de250dff0653af3f50c", func := "loop.example/g03221/laws.FnExactMeetRelations", spec := "fnExactMeetRelations", unfollowed := true, recurses := true, plainKeys := false, apart := false, narrowed := true }
def FnExactMeetRelationsUptoSaid : Prop := fnExactMeetRelationsUptoRow.holds Try.pinned (OpenSpec.upto fnExactMeetRelationsSpec)

/-- 'laws.FnExactComposeRelations', WHERE WHAT IT READS IS OF BULK AT MOST 1048576: true; the input reads as it did. -/
def fnExactComposeRelationsUptoRow : OpenClaim := { program := "ytmgfpcchlonknaa", sum := "bbd3f9b56efee4394ba95f8744b3d3517586e5a6eea09de250dff0653af3f50c", func := "loop.example/g03221/laws.FnExactComposeRelations", spec := "fnExactComposeRelations", unfollowed := true, recurses := true, plainKeys := false, apart := false, narrowed := true }
def FnExactComposeRelationsUptoSaid : Prop := fnExactComposeRelationsUptoRow.holds Try.pinned (OpenSpec.upto fnExactComposeRelationsSpec)

/-- 'laws.FnExactParseType', WHERE WHAT IT READS IS OF BULK AT MOST 1048576: true; the input reads as it did. -/
def fnExactParseTypeUptoRow : OpenClaim := { program := "ytmgfpcchlonknaa", sum := "bbd3f9b56efee4394ba95f8744b3d3517586e5a6eea09de250dff0653af3f50c", func := "loop.example/g03221/laws.FnExactParseType", spec := "fnExactParseType", inPlace := ["internal/bytealg.IndexByteString"], plainKeys := false, apart := false, narrowed := true }
def FnExactParseTypeUptoSaid : Prop := fnExactParseTypeUptoRow.holds Try.pinned (OpenSpec.upto fnExactParseTypeSpec)

/-- 'laws.FnExactReverseType', WHERE WHAT IT READS IS OF BULK AT MOST 1048576: true; the input reads as it did. -/
def fnExactReverseTypeUptoRow : OpenClaim := { program := "ytmgfpcchlonknaa", sum := "bbd3f9b56efee4394ba95f8744b3d3517586e5a6eea09de250dff0653af3f50c", func := "loop.example/g03221/laws.FnExactReverseType", spec := "fnExactReverseType", unfollowed := true, recurses := true, plainKeys := false, apart := false, narrowed := true }
def FnExactReverseTypeUptoSaid : Prop := fnExactReverseTypeUptoRow.holds Try.pinned (OpenSpec.upto fnExactReverseTypeSpec)

/-- 'laws.FnAlgebra', WHERE WHAT IT READS IS OF BULK AT MOST 1048576: true; the input reads as it did. -/
def fnAlgebraUptoRow : OpenClaim := { program := "ytmgfpcchlonknaa", sum := "bbd3f9b56efee4394ba95f8744b3d3517586e5a6eea09de250dff0653af3f50c", func := "loop.example/g03221/laws.FnAlgebra", spec := "fnAlgebra", unfollowed := true, recurses := true, plainKeys := false, apart := false, narrowed := true }
def FnAlgebraUptoSaid : Prop := fnAlgebraUptoRow.holds Try.pinned (OpenSpec.upto fnAlgebraSpec)

/-- 'laws.FnClosed', WHERE WHAT IT READS IS OF BULK AT MOST 1048576: true; the input reads as it did. -/
def fnClosedUptoRow : OpenClaim := { program := "ytmgfpcchlonknaa", sum := "bbd3f9b56efee4394ba95f8744b3d3517586e5a6eea09de250dff0653af3f50c", func := "loop.example/g03221/laws.FnClosed", spec := "fnClosed", unfollowed := true, recurses := true, plainKeys := false, apart := false, narrowed := true }
def FnClosedUptoSaid : Prop := fnClosedUptoRow.holds Try.pinned (OpenSpec.upto fnClosedSpec)

end Rows
end Go.Proofs.Ytmgfpcchlonknaa
