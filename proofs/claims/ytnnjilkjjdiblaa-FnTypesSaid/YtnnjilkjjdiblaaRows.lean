/-
  No cell of these rows narrows 'for every input' (looked for: loops, veiled, ifaces, maps, wideKeys, modest, calm, conditions, laid).
  DERIVED. THE GIVEN ROWS OF THIS SEAT. 15 by the template 'for every input the law returns true; each argument reads behind the call as it read before'; 0 by the template 'total and deterministic' (their statements: YtnnjilkjjdiblaaTotals.lean).
  GIVEN WITH THE SEED: the statements are not yours to turn. If you find one false, say at which input.
  Laid BY PROGRAM, IN A SANDBOX (cutbox-rows.mjs): the forced cells as the released guide's own fill.sh prints them over the translation a0711944cd35dc9e… (all of the seat's roots in one cut). By AI agents, Wed Nov 11 2026. No macro, syntax, notation, axiom, sorry.
-/
import Derived.Test.YtnnjilkjjdiblaaChecked
import GoSem.Claim
import GoSem.ClaimJoined
import GoSem.ClaimMapViews
import Derived.JoinedTies
import Derived.KernelRfl
namespace Go.Proofs.Ytnnjilkjjdiblaa
/- THE CELL 'sum', in the pinned program and in every row, IS THE sha256 OF THE DUMP (.gsa) THAT YtnnjilkjjdiblaaProg.lean LOADS. Nothing in Lean hashes anything: it is a label: what it is worth is what the hold of that sum in a sandbox is worth. -/
noncomputable def Try.pinned : Pinned := { name := "ytnnjilkjjdiblaa", sum := "a0711944cd35dc9e07d628bc4adc1327bdca6285a33eb487161c4e0de21fd1f9", checked := Try.checked }
namespace Rows
def none {H : Type} : Left H := { results := [], args := [] }

/-- 'laws.FnConverse': WHATEVER THE INPUT: true; the input reads as it did. -/
def fnConverseSpec : ChangeSpec := { name := "fnConverse", fn := fun _ => fun
  | [d] => { results := [.lit (.bool true)], args := [d] }
  | _ => none }
def fnConverseRow : OpenClaim := { program := "ytnnjilkjjdiblaa", sum := "a0711944cd35dc9e07d628bc4adc1327bdca6285a33eb487161c4e0de21fd1f9", func := "loop.example/g03221/laws.FnConverse", spec := "fnConverse", unfollowed := true, recurses := true, plainKeys := false, apart := false }
def FnConverseSaid : Prop := fnConverseRow.holds Try.pinned (OpenSpec.ofChange fnConverseSpec)

/-- ITS FALSE NEIGHBOUR: 'it returns false'. Refute it at one input. -/
def fnConverseWrong : ChangeSpec := { name := "fnConverse", fn := fun _ => fun
  | [d] => { results := [.lit (.bool false)], args := [d] }
  | _ => none }
def FnConverseWrongFalsely : Prop := fnConverseRow.holds Try.pinned (OpenSpec.ofChange fnConverseWrong)

/-- 'laws.FnShortest': WHATEVER THE INPUT: true; the input reads as it did. -/
def fnShortestSpec : ChangeSpec := { name := "fnShortest", fn := fun _ => fun
  | [d] => { results := [.lit (.bool true)], args := [d] }
  | _ => none }
def fnShortestRow : OpenClaim := { program := "ytnnjilkjjdiblaa", sum := "a0711944cd35dc9e07d628bc4adc1327bdca6285a33eb487161c4e0de21fd1f9", func := "loop.example/g03221/laws.FnShortest", spec := "fnShortest", unfollowed := true, recurses := true, plainKeys := false, apart := false }
def FnShortestSaid : Prop := fnShortestRow.holds Try.pinned (OpenSpec.ofChange fnShortestSpec)

/-- ITS FALSE NEIGHBOUR: 'it returns false'. Refute it at one input. -/
def fnShortestWrong : ChangeSpec := { name := "fnShortest", fn := fun _ => fun
  | [d] => { results := [.lit (.bool false)], args := [d] }
  | _ => none }
def FnShortestWrongFalsely : Prop := fnShortestRow.holds Try.pinned (OpenSpec.ofChange fnShortestWrong)

/-- 'laws.FnExactTypesFrom': WHATEVER THE INPUT: true; the input reads as it did. -/
def fnExactTypesFromSpec : ChangeSpec := { name := "fnExactTypesFrom", fn := fun _ => fun
  | [d1, d2] => { results := [.lit (.bool true)], args := [d1, d2] }
  | _ => none }
def fnExactTypesFromRow : OpenClaim := { program := "ytnnjilkjjdiblaa", sum := "a0711944cd35dc9e07d628bc4adc1327bdca6285a33eb487161c4e0de21fd1f9", func := "loop.example/g03221/laws.FnExactTypesFrom", spec := "fnExactTypesFrom", plainKeys := false, apart := false }
def FnExactTypesFromSaid : Prop := fnExactTypesFromRow.holds Try.pinned (OpenSpec.ofChange fnExactTypesFromSpec)

/-- ITS FALSE NEIGHBOUR: 'it returns false'. Refute it at one input. -/
def fnExactTypesFromWrong : ChangeSpec := { name := "fnExactTypesFrom", fn := fun _ => fun
  | [d1, d2] => { results := [.lit (.bool false)], args := [d1, d2] }
  | _ => none }
def FnExactTypesFromWrongFalsely : Prop := fnExactTypesFromRow.holds Try.pinned (OpenSpec.ofChange fnExactTypesFromWrong)

/-- 'laws.FnExactParseType': WHATEVER THE INPUT: true; the input reads as it did. -/
def fnExactParseTypeSpec : ChangeSpec := { name := "fnExactParseType", fn := fun _ => fun
  | [d] => { results := [.lit (.bool true)], args := [d] }
  | _ => none }
def fnExactParseTypeRow : OpenClaim := { program := "ytnnjilkjjdiblaa", sum := "a0711944cd35dc9e07d628bc4adc1327bdca6285a33eb487161c4e0de21fd1f9", func := "loop.example/g03221/laws.FnExactParseType", spec := "fnExactParseType", inPlace := ["internal/bytealg.IndexByteString"], plainKeys := false, apart := false }
def FnExactParseTypeSaid : Prop := fnExactParseTypeRow.holds Try.pinned (OpenSpec.ofChange fnExactParseTypeSpec)

/-- ITS FALSE NEIGHBOUR: 'it returns false'. Refute it at one input. -/
def fnExactParseTypeWrong : ChangeSpec := { name := "fnExactParseType", fn := fun _ => fun
  | [d] => { results := [.lit (.bool false)], args := [d] }
  | _ => none }
def FnExactParseTypeWrongFalsely : Prop := fnExactParseTypeRow.holds Try.pinned (OpenSpec.ofChange fnExactParseTypeWrong)

/-- 'laws.FnExactParseRule': WHATEVER THE INPUT: true; the input reads as it did. -/
def fnExactParseRuleSpec : ChangeSpec := { name := "fnExactParseRule", fn := fun _ => fun
  | [d] => { results := [.lit (.bool true)], args := [d] }
  | _ => none }
def fnExactParseRuleRow : OpenClaim := { program := "ytnnjilkjjdiblaa", sum := "a0711944cd35dc9e07d628bc4adc1327bdca6285a33eb487161c4e0de21fd1f9", func := "loop.example/g03221/laws.FnExactParseRule", spec := "fnExactParseRule", inPlace := ["internal/bytealg.IndexByteString", "internal/bytealg.IndexString"], named := ["internal/bytealg.MaxLen"], plainKeys := false, apart := false }
def FnExactParseRuleSaid : Prop := fnExactParseRuleRow.holds Try.pinned (OpenSpec.ofChange fnExactParseRuleSpec)

/-- ITS FALSE NEIGHBOUR: 'it returns false'. Refute it at one input. -/
def fnExactParseRuleWrong : ChangeSpec := { name := "fnExactParseRule", fn := fun _ => fun
  | [d] => { results := [.lit (.bool false)], args := [d] }
  | _ => none }
def FnExactParseRuleWrongFalsely : Prop := fnExactParseRuleRow.holds Try.pinned (OpenSpec.ofChange fnExactParseRuleWrong)

/-- 'laws.FnExactStepRelation': WHATEVER THE INPUT: true; the input reads as it did. -/
def fnExactStepRelationSpec : ChangeSpec := { name := "fnExactStepRelation", fn := fun _ => fun
  | [d1, d2] => { results := [.lit (.bool true)], args := [d1, d2] }
  | _ => none }
def fnExactStepRelationRow : OpenClaim := { program := "ytnnjilkjjdiblaa", sum := "a0711944cd35dc9e07d628bc4adc1327bdca6285a33eb487161c4e0de21fd1f9", func := "loop.example/g03221/laws.FnExactStepRelation", spec := "fnExactStepRelation", unfollowed := true, recurses := true, plainKeys := false, apart := false }
def FnExactStepRelationSaid : Prop := fnExactStepRelationRow.holds Try.pinned (OpenSpec.ofChange fnExactStepRelationSpec)

/-- ITS FALSE NEIGHBOUR: 'it returns false'. Refute it at one input. -/
def fnExactStepRelationWrong : ChangeSpec := { name := "fnExactStepRelation", fn := fun _ => fun
  | [d1, d2] => { results := [.lit (.bool false)], args := [d1, d2] }
  | _ => none }
def FnExactStepRelationWrongFalsely : Prop := fnExactStepRelationRow.holds Try.pinned (OpenSpec.ofChange fnExactStepRelationWrong)

/-- 'laws.FnExactShortestType': WHATEVER THE INPUT: true; the input reads as it did. -/
def fnExactShortestTypeSpec : ChangeSpec := { name := "fnExactShortestType", fn := fun _ => fun
  | [d1, d2, d3] => { results := [.lit (.bool true)], args := [d1, d2, d3] }
  | _ => none }
def fnExactShortestTypeRow : OpenClaim := { program := "ytnnjilkjjdiblaa", sum := "a0711944cd35dc9e07d628bc4adc1327bdca6285a33eb487161c4e0de21fd1f9", func := "loop.example/g03221/laws.FnExactShortestType", spec := "fnExactShortestType", unfollowed := true, recurses := true, plainKeys := false, apart := false }
def FnExactShortestTypeSaid : Prop := fnExactShortestTypeRow.holds Try.pinned (OpenSpec.ofChange fnExactShortestTypeSpec)

/-- ITS FALSE NEIGHBOUR: 'it returns false'. Refute it at one input. -/
def fnExactShortestTypeWrong : ChangeSpec := { name := "fnExactShortestType", fn := fun _ => fun
  | [d1, d2, d3] => { results := [.lit (.bool false)], args := [d1, d2, d3] }
  | _ => none }
def FnExactShortestTypeWrongFalsely : Prop := fnExactShortestTypeRow.holds Try.pinned (OpenSpec.ofChange fnExactShortestTypeWrong)

/-- 'laws.FnExactRelativesOf': WHATEVER THE INPUT: true; the input reads as it did. -/
def fnExactRelativesOfSpec : ChangeSpec := { name := "fnExactRelativesOf", fn := fun _ => fun
  | [d1, d2, d3] => { results := [.lit (.bool true)], args := [d1, d2, d3] }
  | _ => none }
def fnExactRelativesOfRow : OpenClaim := { program := "ytnnjilkjjdiblaa", sum := "a0711944cd35dc9e07d628bc4adc1327bdca6285a33eb487161c4e0de21fd1f9", func := "loop.example/g03221/laws.FnExactRelativesOf", spec := "fnExactRelativesOf", unfollowed := true, recurses := true, plainKeys := false, apart := false }
def FnExactRelativesOfSaid : Prop := fnExactRelativesOfRow.holds Try.pinned (OpenSpec.ofChange fnExactRelativesOfSpec)

/-- ITS FALSE NEIGHBOUR: 'it returns false'. Refute it at one input. -/
def fnExactRelativesOfWrong : ChangeSpec := { name := "fnExactRelativesOf", fn := fun _ => fun
  | [d1, d2, d3] => { results := [.lit (.bool false)], args := [d1, d2, d3] }
  | _ => none }
def FnExactRelativesOfWrongFalsely : Prop := fnExactRelativesOfRow.holds Try.pinned (OpenSpec.ofChange fnExactRelativesOfWrong)

/-- 'laws.FnExactTypesBetween': WHATEVER THE INPUT: true; the input reads as it did. -/
def fnExactTypesBetweenSpec : ChangeSpec := { name := "fnExactTypesBetween", fn := fun _ => fun
  | [d1, d2, d3, d4] => { results := [.lit (.bool true)], args := [d1, d2, d3, d4] }
  | _ => none }
def fnExactTypesBetweenRow : OpenClaim := { program := "ytnnjilkjjdiblaa", sum := "a0711944cd35dc9e07d628bc4adc1327bdca6285a33eb487161c4e0de21fd1f9", func := "loop.example/g03221/laws.FnExactTypesBetween", spec := "fnExactTypesBetween", unfollowed := true, recurses := true, plainKeys := false, apart := false }
def FnExactTypesBetweenSaid : Prop := fnExactTypesBetweenRow.holds Try.pinned (OpenSpec.ofChange fnExactTypesBetweenSpec)

/-- ITS FALSE NEIGHBOUR: 'it returns false'. Refute it at one input. -/
def fnExactTypesBetweenWrong : ChangeSpec := { name := "fnExactTypesBetween", fn := fun _ => fun
  | [d1, d2, d3, d4] => { results := [.lit (.bool false)], args := [d1, d2, d3, d4] }
  | _ => none }
def FnExactTypesBetweenWrongFalsely : Prop := fnExactTypesBetweenRow.holds Try.pinned (OpenSpec.ofChange fnExactTypesBetweenWrong)

/-- 'laws.FnExactRelationFor': WHATEVER THE INPUT: true; the input reads as it did. -/
def fnExactRelationForSpec : ChangeSpec := { name := "fnExactRelationFor", fn := fun _ => fun
  | [d1, d2] => { results := [.lit (.bool true)], args := [d1, d2] }
  | _ => none }
def fnExactRelationForRow : OpenClaim := { program := "ytnnjilkjjdiblaa", sum := "a0711944cd35dc9e07d628bc4adc1327bdca6285a33eb487161c4e0de21fd1f9", func := "loop.example/g03221/laws.FnExactRelationFor", spec := "fnExactRelationFor", unfollowed := true, recurses := true, plainKeys := false, apart := false }
def FnExactRelationForSaid : Prop := fnExactRelationForRow.holds Try.pinned (OpenSpec.ofChange fnExactRelationForSpec)

/-- ITS FALSE NEIGHBOUR: 'it returns false'. Refute it at one input. -/
def fnExactRelationForWrong : ChangeSpec := { name := "fnExactRelationFor", fn := fun _ => fun
  | [d1, d2] => { results := [.lit (.bool false)], args := [d1, d2] }
  | _ => none }
def FnExactRelationForWrongFalsely : Prop := fnExactRelationForRow.holds Try.pinned (OpenSpec.ofChange fnExactRelationForWrong)

/-- 'laws.FnTypes': WHATEVER THE INPUT: true; the input reads as it did. -/
def fnTypesSpec : ChangeSpec := { name := "fnTypes", fn := fun _ => fun
  | [d] => { results := [.lit (.bool true)], args := [d] }
  | _ => none }
def fnTypesRow : OpenClaim := { program := "ytnnjilkjjdiblaa", sum := "a0711944cd35dc9e07d628bc4adc1327bdca6285a33eb487161c4e0de21fd1f9", func := "loop.example/g03221/laws.FnTypes", spec := "fnTypes", inPlace := ["internal/bytealg.IndexByteString"], unfollowed := true, recurses := true, plainKeys := false, apart := false }
def FnTypesSaid : Prop := fnTypesRow.holds Try.pinned (OpenSpec.ofChange fnTypesSpec)

/-- ITS FALSE NEIGHBOUR: 'it returns false'. Refute it at one input. -/
def fnTypesWrong : ChangeSpec := { name := "fnTypes", fn := fun _ => fun
  | [d] => { results := [.lit (.bool false)], args := [d] }
  | _ => none }
def FnTypesWrongFalsely : Prop := fnTypesRow.holds Try.pinned (OpenSpec.ofChange fnTypesWrong)

/-- 'laws.FnSiblings': WHATEVER THE INPUT: true; the input reads as it did. -/
def fnSiblingsSpec : ChangeSpec := { name := "fnSiblings", fn := fun _ => fun
  | [d] => { results := [.lit (.bool true)], args := [d] }
  | _ => none }
def fnSiblingsRow : OpenClaim := { program := "ytnnjilkjjdiblaa", sum := "a0711944cd35dc9e07d628bc4adc1327bdca6285a33eb487161c4e0de21fd1f9", func := "loop.example/g03221/laws.FnSiblings", spec := "fnSiblings", inPlace := ["internal/reflectlite.ValueOf", "internal/reflectlite.Swapper", "(internal/reflectlite.Value).Len"], unfollowed := true, recurses := true, plainKeys := false, apart := false }
def FnSiblingsSaid : Prop := fnSiblingsRow.holds Try.pinned (OpenSpec.ofChange fnSiblingsSpec)

/-- ITS FALSE NEIGHBOUR: 'it returns false'. Refute it at one input. -/
def fnSiblingsWrong : ChangeSpec := { name := "fnSiblings", fn := fun _ => fun
  | [d] => { results := [.lit (.bool false)], args := [d] }
  | _ => none }
def FnSiblingsWrongFalsely : Prop := fnSiblingsRow.holds Try.pinned (OpenSpec.ofChange fnSiblingsWrong)

/-- 'laws.FnExactChildrenOf': WHATEVER THE INPUT: true; the input reads as it did. -/
def fnExactChildrenOfSpec : ChangeSpec := { name := "fnExactChildrenOf", fn := fun _ => fun
  | [d1, d2] => { results := [.lit (.bool true)], args := [d1, d2] }
  | _ => none }
def fnExactChildrenOfRow : OpenClaim := { program := "ytnnjilkjjdiblaa", sum := "a0711944cd35dc9e07d628bc4adc1327bdca6285a33eb487161c4e0de21fd1f9", func := "loop.example/g03221/laws.FnExactChildrenOf", spec := "fnExactChildrenOf", inPlace := ["internal/reflectlite.ValueOf", "internal/reflectlite.Swapper", "(internal/reflectlite.Value).Len"], unfollowed := true, recurses := true, plainKeys := false, apart := false }
def FnExactChildrenOfSaid : Prop := fnExactChildrenOfRow.holds Try.pinned (OpenSpec.ofChange fnExactChildrenOfSpec)

/-- ITS FALSE NEIGHBOUR: 'it returns false'. Refute it at one input. -/
def fnExactChildrenOfWrong : ChangeSpec := { name := "fnExactChildrenOf", fn := fun _ => fun
  | [d1, d2] => { results := [.lit (.bool false)], args := [d1, d2] }
  | _ => none }
def FnExactChildrenOfWrongFalsely : Prop := fnExactChildrenOfRow.holds Try.pinned (OpenSpec.ofChange fnExactChildrenOfWrong)

/-- 'laws.FnExactFullSiblings': WHATEVER THE INPUT: true; the input reads as it did. -/
def fnExactFullSiblingsSpec : ChangeSpec := { name := "fnExactFullSiblings", fn := fun _ => fun
  | [d1, d2] => { results := [.lit (.bool true)], args := [d1, d2] }
  | _ => none }
def fnExactFullSiblingsRow : OpenClaim := { program := "ytnnjilkjjdiblaa", sum := "a0711944cd35dc9e07d628bc4adc1327bdca6285a33eb487161c4e0de21fd1f9", func := "loop.example/g03221/laws.FnExactFullSiblings", spec := "fnExactFullSiblings", inPlace := ["internal/reflectlite.ValueOf", "internal/reflectlite.Swapper", "(internal/reflectlite.Value).Len"], unfollowed := true, recurses := true, plainKeys := false, apart := false }
def FnExactFullSiblingsSaid : Prop := fnExactFullSiblingsRow.holds Try.pinned (OpenSpec.ofChange fnExactFullSiblingsSpec)

/-- ITS FALSE NEIGHBOUR: 'it returns false'. Refute it at one input. -/
def fnExactFullSiblingsWrong : ChangeSpec := { name := "fnExactFullSiblings", fn := fun _ => fun
  | [d1, d2] => { results := [.lit (.bool false)], args := [d1, d2] }
  | _ => none }
def FnExactFullSiblingsWrongFalsely : Prop := fnExactFullSiblingsRow.holds Try.pinned (OpenSpec.ofChange fnExactFullSiblingsWrong)

/-- 'laws.FnExactHalfSiblings': WHATEVER THE INPUT: true; the input reads as it did. -/
def fnExactHalfSiblingsSpec : ChangeSpec := { name := "fnExactHalfSiblings", fn := fun _ => fun
  | [d1, d2] => { results := [.lit (.bool true)], args := [d1, d2] }
  | _ => none }
def fnExactHalfSiblingsRow : OpenClaim := { program := "ytnnjilkjjdiblaa", sum := "a0711944cd35dc9e07d628bc4adc1327bdca6285a33eb487161c4e0de21fd1f9", func := "loop.example/g03221/laws.FnExactHalfSiblings", spec := "fnExactHalfSiblings", inPlace := ["internal/reflectlite.ValueOf", "internal/reflectlite.Swapper", "(internal/reflectlite.Value).Len"], unfollowed := true, recurses := true, plainKeys := false, apart := false }
def FnExactHalfSiblingsSaid : Prop := fnExactHalfSiblingsRow.holds Try.pinned (OpenSpec.ofChange fnExactHalfSiblingsSpec)

/-- ITS FALSE NEIGHBOUR: 'it returns false'. Refute it at one input. -/
def fnExactHalfSiblingsWrong : ChangeSpec := { name := "fnExactHalfSiblings", fn := fun _ => fun
  | [d1, d2] => { results := [.lit (.bool false)], args := [d1, d2] }
  | _ => none }
def FnExactHalfSiblingsWrongFalsely : Prop := fnExactHalfSiblingsRow.holds Try.pinned (OpenSpec.ofChange fnExactHalfSiblingsWrong)

/- THE SECOND FORM. 'bulk': how many values and letters a reading holds, each counted each time it is reached (what is shared counts as often as it is met; a slice's spare places count too). A statement '..UptoSaid' is the law's where the arguments, and the package variables that the reading takes, are together of bulk at most 1048576: NARROWER than '..Said'. Prove '..Said' where nothing that the law and all that it calls make is longer than what came in: it says more and counts as full. Else prove '..UptoSaid'. A law counts once. -/
mutual
def uptoBulk {H : Type} : DataW H → Nat
  | .lit (.string bytes) => bytes.length + 1
  | .lit _ => 1
  | .nil => 1
  | .ptr d => uptoBulk d + 1
  | .slice elems spare => uptoBulkAll elems + uptoBulkAll spare + 1
  | .agg parts => uptoBulkAll parts + 1
  | .iface _ d => uptoBulk d + 1
  | .map entries => uptoBulkEntries entries + 1
  | .held _ => 1
def uptoBulkAll {H : Type} : List (DataW H) → Nat
  | [] => 0
  | d :: r => uptoBulk d + uptoBulkAll r
def uptoBulkEntries {H : Type} : List (Lit × DataW H) → Nat
  | [] => 0
  | x :: r => uptoBulkEntry x + uptoBulkEntries r
def uptoBulkEntry {H : Type} : Lit × DataW H → Nat
  | (.string bytes, d) => bytes.length + uptoBulk d + 1
  | (_, d) => uptoBulk d + 1
 end
def uptoSmall : (H : Type) → List (DataW H) → Bool := fun _ ds => decide (uptoBulkAll ds ≤ 1048576)
def OpenSpec.upto (s : _root_.Go.ChangeSpec) : _root_.Go.OpenSpec := { _root_.Go.OpenSpec.ofChange s with cond := some uptoSmall }

/-- 'laws.FnConverse', WHERE WHAT IT READS IS OF BULK AT MOST 1048576: true; the input reads as it did. -/
def fnConverseUptoRow : OpenClaim := { program := "ytnnjilkjjdiblaa", sum := "a0711944cd35dc9e07d628bc4adc1327bdca6285a33eb487161c4e0de21fd1f9", func := "loop.example/g03221/laws.FnConverse", spec := "fnConverse", unfollowed := true, recurses := true, plainKeys := false, apart := false, narrowed := true }
def FnConverseUptoSaid : Prop := fnConverseUptoRow.holds Try.pinned (OpenSpec.upto fnConverseSpec)

/-- 'laws.FnShortest', WHERE WHAT IT READS IS OF BULK AT MOST 1048576: true; the input reads as it did. -/
def fnShortestUptoRow : OpenClaim := { program := "ytnnjilkjjdiblaa", sum := "a0711944cd35dc9e07d628bc4adc1327bdca6285a33eb487161c4e0de21fd1f9", func := "loop.example/g03221/laws.FnShortest", spec := "fnShortest", unfollowed := true, recurses := true, plainKeys := false, apart := false, narrowed := true }
def FnShortestUptoSaid : Prop := fnShortestUptoRow.holds Try.pinned (OpenSpec.upto fnShortestSpec)

/-- 'laws.FnExactTypesFrom', WHERE WHAT IT READS IS OF BULK AT MOST 1048576: true; the input reads as it did. -/
def fnExactTypesFromUptoRow : OpenClaim := { program := "ytnnjilkjjdiblaa", sum := "a0711944cd35dc9e07d628bc4adc1327bdca6285a33eb487161c4e0de21fd1f9", func := "loop.example/g03221/laws.FnExactTypesFrom", spec := "fnExactTypesFrom", plainKeys := false, apart := false, narrowed := true }
def FnExactTypesFromUptoSaid : Prop := fnExactTypesFromUptoRow.holds Try.pinned (OpenSpec.upto fnExactTypesFromSpec)

/-- 'laws.FnExactParseType', WHERE WHAT IT READS IS OF BULK AT MOST 1048576: true; the input reads as it did. -/
def fnExactParseTypeUptoRow : OpenClaim := { program := "ytnnjilkjjdiblaa", sum := "a0711944cd35dc9e07d628bc4adc1327bdca6285a33eb487161c4e0de21fd1f9", func := "loop.example/g03221/laws.FnExactParseType", spec := "fnExactParseType", inPlace := ["internal/bytealg.IndexByteString"], plainKeys := false, apart := false, narrowed := true }
def FnExactParseTypeUptoSaid : Prop := fnExactParseTypeUptoRow.holds Try.pinned (OpenSpec.upto fnExactParseTypeSpec)

/-- 'laws.FnExactParseRule', WHERE WHAT IT READS IS OF BULK AT MOST 1048576: true; the input reads as it did. -/
def fnExactParseRuleUptoRow : OpenClaim := { program := "ytnnjilkjjdiblaa", sum := "a0711944cd35dc9e07d628bc4adc1327bdca6285a33eb487161c4e0de21fd1f9", func := "loop.example/g03221/laws.FnExactParseRule", spec := "fnExactParseRule", inPlace := ["internal/bytealg.IndexByteString", "internal/bytealg.IndexString"], named := ["internal/bytealg.MaxLen"], plainKeys := false, apart := false, narrowed := true }
def FnExactParseRuleUptoSaid : Prop := fnExactParseRuleUptoRow.holds Try.pinned (OpenSpec.upto fnExactParseRuleSpec)

/-- 'laws.FnExactStepRelation', WHERE WHAT IT READS IS OF BULK AT MOST 1048576: true; the input reads as it did. -/
def fnExactStepRelationUptoRow : OpenClaim := { program := "ytnnjilkjjdiblaa", sum := "a0711944cd35dc9e07d628bc4adc1327bdca6285a33eb487161c4e0de21fd1f9", func := "loop.example/g03221/laws.FnExactStepRelation", spec := "fnExactStepRelation", unfollowed := true, recurses := true, plainKeys := false, apart := false, narrowed := true }
def FnExactStepRelationUptoSaid : Prop := fnExactStepRelationUptoRow.holds Try.pinned (OpenSpec.upto fnExactStepRelationSpec)

/-- 'laws.FnExactShortestType', WHERE WHAT IT READS IS OF BULK AT MOST 1048576: true; the input reads as it did. -/
def fnExactShortestTypeUptoRow : OpenClaim := { program := "ytnnjilkjjdiblaa", sum := "a0711944cd35dc9e07d628bc4adc1327bdca6285a33eb487161c4e0de21fd1f9", func := "loop.example/g03221/laws.FnExactShortestType", spec := "fnExactShortestType", unfollowed := true, recurses := true, plainKeys := false, apart := false, narrowed := true }
def FnExactShortestTypeUptoSaid : Prop := fnExactShortestTypeUptoRow.holds Try.pinned (OpenSpec.upto fnExactShortestTypeSpec)

/-- 'laws.FnExactRelativesOf', WHERE WHAT IT READS IS OF BULK AT MOST 1048576: true; the input reads as it did. -/
def fnExactRelativesOfUptoRow : OpenClaim := { program := "ytnnjilkjjdiblaa", sum := "a0711944cd35dc9e07d628bc4adc1327bdca6285a33eb487161c4e0de21fd1f9", func := "loop.example/g03221/laws.FnExactRelativesOf", spec := "fnExactRelativesOf", unfollowed := true, recurses := true, plainKeys := false, apart := false, narrowed := true }
def FnExactRelativesOfUptoSaid : Prop := fnExactRelativesOfUptoRow.holds Try.pinned (OpenSpec.upto fnExactRelativesOfSpec)

/-- 'laws.FnExactTypesBetween', WHERE WHAT IT READS IS OF BULK AT MOST 1048576: true; the input reads as it did. -/
def fnExactTypesBetweenUptoRow : OpenClaim := { program := "ytnnjilkjjdiblaa", sum := "a0711944cd35dc9e07d628bc4adc1327bdca6285a33eb487161c4e0de21fd1f9", func := "loop.example/g03221/laws.FnExactTypesBetween", spec := "fnExactTypesBetween", unfollowed := true, recurses := true, plainKeys := false, apart := false, narrowed := true }
def FnExactTypesBetweenUptoSaid : Prop := fnExactTypesBetweenUptoRow.holds Try.pinned (OpenSpec.upto fnExactTypesBetweenSpec)

/-- 'laws.FnExactRelationFor', WHERE WHAT IT READS IS OF BULK AT MOST 1048576: true; the input reads as it did. -/
def fnExactRelationForUptoRow : OpenClaim := { program := "ytnnjilkjjdiblaa", sum := "a0711944cd35dc9e07d628bc4adc1327bdca6285a33eb487161c4e0de21fd1f9", func := "loop.example/g03221/laws.FnExactRelationFor", spec := "fnExactRelationFor", unfollowed := true, recurses := true, plainKeys := false, apart := false, narrowed := true }
def FnExactRelationForUptoSaid : Prop := fnExactRelationForUptoRow.holds Try.pinned (OpenSpec.upto fnExactRelationForSpec)

/-- 'laws.FnTypes', WHERE WHAT IT READS IS OF BULK AT MOST 1048576: true; the input reads as it did. -/
def fnTypesUptoRow : OpenClaim := { program := "ytnnjilkjjdiblaa", sum := "a0711944cd35dc9e07d628bc4adc1327bdca6285a33eb487161c4e0de21fd1f9", func := "loop.example/g03221/laws.FnTypes", spec := "fnTypes", inPlace := ["internal/bytealg.IndexByteString"], unfollowed := true, recurses := true, plainKeys := false, apart := false, narrowed := true }
def FnTypesUptoSaid : Prop := fnTypesUptoRow.holds Try.pinned (OpenSpec.upto fnTypesSpec)

/-- 'laws.FnSiblings', WHERE WHAT IT READS IS OF BULK AT MOST 1048576: true; the input reads as it did. -/
def fnSiblingsUptoRow : OpenClaim := { program := "ytnnjilkjjdiblaa", sum := "a0711944cd35dc9e07d628bc4adc1327bdca6285a33eb487161c4e0de21fd1f9", func := "loop.example/g03221/laws.FnSiblings", spec := "fnSiblings", inPlace := ["internal/reflectlite.ValueOf", "internal/reflectlite.Swapper", "(internal/reflectlite.Value).Len"], unfollowed := true, recurses := true, plainKeys := false, apart := false, narrowed := true }
def FnSiblingsUptoSaid : Prop := fnSiblingsUptoRow.holds Try.pinned (OpenSpec.upto fnSiblingsSpec)

/-- 'laws.FnExactChildrenOf', WHERE WHAT IT READS IS OF BULK AT MOST 1048576: true; the input reads as it did. -/
def fnExactChildrenOfUptoRow : OpenClaim := { program := "ytnnjilkjjdiblaa", sum := "a0711944cd35dc9e07d628bc4adc1327bdca6285a33eb487161c4e0de21fd1f9", func := "loop.example/g03221/laws.FnExactChildrenOf", spec := "fnExactChildrenOf", inPlace := ["internal/reflectlite.ValueOf", "internal/reflectlite.Swapper", "(internal/reflectlite.Value).Len"], unfollowed := true, recurses := true, plainKeys := false, apart := false, narrowed := true }
def FnExactChildrenOfUptoSaid : Prop := fnExactChildrenOfUptoRow.holds Try.pinned (OpenSpec.upto fnExactChildrenOfSpec)

/-- 'laws.FnExactFullSiblings', WHERE WHAT IT READS IS OF BULK AT MOST 1048576: true; the input reads as it did. -/
def fnExactFullSiblingsUptoRow : OpenClaim := { program := "ytnnjilkjjdiblaa", sum := "a0711944cd35dc9e07d628bc4adc1327bdca6285a33eb487161c4e0de21fd1f9", func := "loop.example/g03221/laws.FnExactFullSiblings", spec := "fnExactFullSiblings", inPlace := ["internal/reflectlite.ValueOf", "internal/reflectlite.Swapper", "(internal/reflectlite.Value).Len"], unfollowed := true, recurses := true, plainKeys := false, apart := false, narrowed := true }
def FnExactFullSiblingsUptoSaid : Prop := fnExactFullSiblingsUptoRow.holds Try.pinned (OpenSpec.upto fnExactFullSiblingsSpec)

/-- 'laws.FnExactHalfSiblings', WHERE WHAT IT READS IS OF BULK AT MOST 1048576: true; the input reads as it did. -/
def fnExactHalfSiblingsUptoRow : OpenClaim := { program := "ytnnjilkjjdiblaa", sum := "a0711944cd35dc9e07d628bc4adc1327bdca6285a33eb487161c4e0de21fd1f9", func := "loop.example/g03221/laws.FnExactHalfSiblings", spec := "fnExactHalfSiblings", inPlace := ["internal/reflectlite.ValueOf", "internal/reflectlite.Swapper", "(internal/reflectlite.Value).Len"], unfollowed := true, recurses := true, plainKeys := false, apart := false, narrowed := true }
def FnExactHalfSiblingsUptoSaid : Prop := fnExactHalfSiblingsUptoRow.holds Try.pinned (OpenSpec.upto fnExactHalfSiblingsSpec)

end Rows
end Go.Proofs.Ytnnjilkjjdiblaa
