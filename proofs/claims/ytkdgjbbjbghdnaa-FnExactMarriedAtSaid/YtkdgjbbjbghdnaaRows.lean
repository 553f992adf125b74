/-
  No cell of these rows narrows 'for every input' (looked for: loops, veiled, ifaces, maps, wideKeys, modest, calm, conditions, laid).
  DERIVED. THE GIVEN ROWS OF THIS SEAT. 11 by the template 'for every input the law returns true; each argument reads behind the call as it read before'; 0 by the template 'total and deterministic' (their statements: YtkdgjbbjbghdnaaTotals.lean).
  GIVEN WITH THE SEED: the statements are not yours to turn. If you find one false, say at which input.
  Laid BY PROGRAM, IN A SANDBOX (cutbox-rows.mjs): the forced cells as the released guide's own fill.sh prints them over the translation 95a23750c12d1c15… (all of the seat's roots in one cut). By AI agents, Wed Nov 11 2026. No macro, syntax, notation, axiom, sorry.
-/
import Derived.Test.YtkdgjbbjbghdnaaChecked
import GoSem.Claim
import GoSem.ClaimJoined
import GoSem.ClaimMapViews
import Derived.JoinedTies
import Derived.KernelRfl
namespace Go.Proofs.Ytkdgjbbjbghdnaa
/- THE CELL 'sum', in the pinned program and in every row, IS THE sha256 OF THE DUMP (.gsa) THAT YtkdgjbbjbghdnaaProg.lean LOADS. Nothing in Lean hashes anything: it is a label: what it is worth is what the hold of that sum in a sandbox is worth. -/
noncomputable def Try.pinned : Pinned := { name := "ytkdgjbbjbghdnaa", sum := "95a23750c12d1c151312f24b6baff4d2d23c78fda5e611f516e38d1d3ea33050", checked := Try.checked }
namespace Rows
def none {H : Type} : Left H := { results := [], args := [] }

/-- 'laws.FnExactEqualFamilies': WHATEVER THE INPUT: true; the input reads as it did. -/
def fnExactEqualFamiliesSpec : ChangeSpec := { name := "fnExactEqualFamilies", fn := fun _ => fun
  | [d1, d2] => { results := [.lit (.bool true)], args := [d1, d2] }
  | _ => none }
def fnExactEqualFamiliesRow : OpenClaim := { program := "ytkdgjbbjbghdnaa", sum := "95a23750c12d1c151312f24b6baff4d2d23c78fda5e611f516e38d1d3ea33050", func := "loop.example/g03221/laws.FnExactEqualFamilies", spec := "fnExactEqualFamilies", apart := false }
def FnExactEqualFamiliesSaid : Prop := fnExactEqualFamiliesRow.holds Try.pinned (OpenSpec.ofChange fnExactEqualFamiliesSpec)

/-- ITS FALSE NEIGHBOUR: 'it returns false'. Refute it at one input. -/
def fnExactEqualFamiliesWrong : ChangeSpec := { name := "fnExactEqualFamilies", fn := fun _ => fun
  | [d1, d2] => { results := [.lit (.bool false)], args := [d1, d2] }
  | _ => none }
def FnExactEqualFamiliesWrongFalsely : Prop := fnExactEqualFamiliesRow.holds Try.pinned (OpenSpec.ofChange fnExactEqualFamiliesWrong)

/-- 'laws.FnExactIsFamily': WHATEVER THE INPUT: true; the input reads as it did. -/
def fnExactIsFamilySpec : ChangeSpec := { name := "fnExactIsFamily", fn := fun _ => fun
  | [d] => { results := [.lit (.bool true)], args := [d] }
  | _ => none }
def fnExactIsFamilyRow : OpenClaim := { program := "ytkdgjbbjbghdnaa", sum := "95a23750c12d1c151312f24b6baff4d2d23c78fda5e611f516e38d1d3ea33050", func := "loop.example/g03221/laws.FnExactIsFamily", spec := "fnExactIsFamily", apart := false }
def FnExactIsFamilySaid : Prop := fnExactIsFamilyRow.holds Try.pinned (OpenSpec.ofChange fnExactIsFamilySpec)

/-- ITS FALSE NEIGHBOUR: 'it returns false'. Refute it at one input. -/
def fnExactIsFamilyWrong : ChangeSpec := { name := "fnExactIsFamily", fn := fun _ => fun
  | [d] => { results := [.lit (.bool false)], args := [d] }
  | _ => none }
def FnExactIsFamilyWrongFalsely : Prop := fnExactIsFamilyRow.holds Try.pinned (OpenSpec.ofChange fnExactIsFamilyWrong)

/-- 'laws.FnExactIsAlive': WHATEVER THE INPUT: true; the input reads as it did. -/
def fnExactIsAliveSpec : ChangeSpec := { name := "fnExactIsAlive", fn := fun _ => fun
  | [d1, d2, d3] => { results := [.lit (.bool true)], args := [d1, d2, d3] }
  | _ => none }
def fnExactIsAliveRow : OpenClaim := { program := "ytkdgjbbjbghdnaa", sum := "95a23750c12d1c151312f24b6baff4d2d23c78fda5e611f516e38d1d3ea33050", func := "loop.example/g03221/laws.FnExactIsAlive", spec := "fnExactIsAlive", apart := false }
def FnExactIsAliveSaid : Prop := fnExactIsAliveRow.holds Try.pinned (OpenSpec.ofChange fnExactIsAliveSpec)

/-- ITS FALSE NEIGHBOUR: 'it returns false'. Refute it at one input. -/
def fnExactIsAliveWrong : ChangeSpec := { name := "fnExactIsAlive", fn := fun _ => fun
  | [d1, d2, d3] => { results := [.lit (.bool false)], args := [d1, d2, d3] }
  | _ => none }
def FnExactIsAliveWrongFalsely : Prop := fnExactIsAliveRow.holds Try.pinned (OpenSpec.ofChange fnExactIsAliveWrong)

/-- 'laws.FnExactIsElder': WHATEVER THE INPUT: true; the input reads as it did. -/
def fnExactIsElderSpec : ChangeSpec := { name := "fnExactIsElder", fn := fun _ => fun
  | [d1, d2, d3] => { results := [.lit (.bool true)], args := [d1, d2, d3] }
  | _ => none }
def fnExactIsElderRow : OpenClaim := { program := "ytkdgjbbjbghdnaa", sum := "95a23750c12d1c151312f24b6baff4d2d23c78fda5e611f516e38d1d3ea33050", func := "loop.example/g03221/laws.FnExactIsElder", spec := "fnExactIsElder", apart := false }
def FnExactIsElderSaid : Prop := fnExactIsElderRow.holds Try.pinned (OpenSpec.ofChange fnExactIsElderSpec)

/-- ITS FALSE NEIGHBOUR: 'it returns false'. Refute it at one input. -/
def fnExactIsElderWrong : ChangeSpec := { name := "fnExactIsElder", fn := fun _ => fun
  | [d1, d2, d3] => { results := [.lit (.bool false)], args := [d1, d2, d3] }
  | _ => none }
def FnExactIsElderWrongFalsely : Prop := fnExactIsElderRow.holds Try.pinned (OpenSpec.ofChange fnExactIsElderWrong)

/-- 'laws.FnExactDepthOf': WHATEVER THE INPUT: true; the input reads as it did. -/
def fnExactDepthOfSpec : ChangeSpec := { name := "fnExactDepthOf", fn := fun _ => fun
  | [d1, d2] => { results := [.lit (.bool true)], args := [d1, d2] }
  | _ => none }
def fnExactDepthOfRow : OpenClaim := { program := "ytkdgjbbjbghdnaa", sum := "95a23750c12d1c151312f24b6baff4d2d23c78fda5e611f516e38d1d3ea33050", func := "loop.example/g03221/laws.FnExactDepthOf", spec := "fnExactDepthOf", apart := false }
def FnExactDepthOfSaid : Prop := fnExactDepthOfRow.holds Try.pinned (OpenSpec.ofChange fnExactDepthOfSpec)

/-- ITS FALSE NEIGHBOUR: 'it returns false'. Refute it at one input. -/
def fnExactDepthOfWrong : ChangeSpec := { name := "fnExactDepthOf", fn := fun _ => fun
  | [d1, d2] => { results := [.lit (.bool false)], args := [d1, d2] }
  | _ => none }
def FnExactDepthOfWrongFalsely : Prop := fnExactDepthOfRow.holds Try.pinned (OpenSpec.ofChange fnExactDepthOfWrong)

/-- 'laws.FnExactFindPerson': WHATEVER THE INPUT: true; the input reads as it did. -/
def fnExactFindPersonSpec : ChangeSpec := { name := "fnExactFindPerson", fn := fun _ => fun
  | [d1, d2] => { results := [.lit (.bool true)], args := [d1, d2] }
  | _ => none }
def fnExactFindPersonRow : OpenClaim := { program := "ytkdgjbbjbghdnaa", sum := "95a23750c12d1c151312f24b6baff4d2d23c78fda5e611f516e38d1d3ea33050", func := "loop.example/g03221/laws.FnExactFindPerson", spec := "fnExactFindPerson", apart := false }
def FnExactFindPersonSaid : Prop := fnExactFindPersonRow.holds Try.pinned (OpenSpec.ofChange fnExactFindPersonSpec)

/-- ITS FALSE NEIGHBOUR: 'it returns false'. Refute it at one input. -/
def fnExactFindPersonWrong : ChangeSpec := { name := "fnExactFindPerson", fn := fun _ => fun
  | [d1, d2] => { results := [.lit (.bool false)], args := [d1, d2] }
  | _ => none }
def FnExactFindPersonWrongFalsely : Prop := fnExactFindPersonRow.holds Try.pinned (OpenSpec.ofChange fnExactFindPersonWrong)

/-- 'laws.FnExactUnionEnd': WHATEVER THE INPUT: true; the input reads as it did. -/
def fnExactUnionEndSpec : ChangeSpec := { name := "fnExactUnionEnd", fn := fun _ => fun
  | [d1, d2] => { results := [.lit (.bool true)], args := [d1, d2] }
  | _ => none }
def fnExactUnionEndRow : OpenClaim := { program := "ytkdgjbbjbghdnaa", sum := "95a23750c12d1c151312f24b6baff4d2d23c78fda5e611f516e38d1d3ea33050", func := "loop.example/g03221/laws.FnExactUnionEnd", spec := "fnExactUnionEnd", apart := false }
def FnExactUnionEndSaid : Prop := fnExactUnionEndRow.holds Try.pinned (OpenSpec.ofChange fnExactUnionEndSpec)

/-- ITS FALSE NEIGHBOUR: 'it returns false'. Refute it at one input. -/
def fnExactUnionEndWrong : ChangeSpec := { name := "fnExactUnionEnd", fn := fun _ => fun
  | [d1, d2] => { results := [.lit (.bool false)], args := [d1, d2] }
  | _ => none }
def FnExactUnionEndWrongFalsely : Prop := fnExactUnionEndRow.holds Try.pinned (OpenSpec.ofChange fnExactUnionEndWrong)

/-- 'laws.FnExactParentsOf': WHATEVER THE INPUT: true; the input reads as it did. -/
def fnExactParentsOfSpec : ChangeSpec := { name := "fnExactParentsOf", fn := fun _ => fun
  | [d1, d2] => { results := [.lit (.bool true)], args := [d1, d2] }
  | _ => none }
def fnExactParentsOfRow : OpenClaim := { program := "ytkdgjbbjbghdnaa", sum := "95a23750c12d1c151312f24b6baff4d2d23c78fda5e611f516e38d1d3ea33050", func := "loop.example/g03221/laws.FnExactParentsOf", spec := "fnExactParentsOf", apart := false }
def FnExactParentsOfSaid : Prop := fnExactParentsOfRow.holds Try.pinned (OpenSpec.ofChange fnExactParentsOfSpec)

/-- ITS FALSE NEIGHBOUR: 'it returns false'. Refute it at one input. -/
def fnExactParentsOfWrong : ChangeSpec := { name := "fnExactParentsOf", fn := fun _ => fun
  | [d1, d2] => { results := [.lit (.bool false)], args := [d1, d2] }
  | _ => none }
def FnExactParentsOfWrongFalsely : Prop := fnExactParentsOfRow.holds Try.pinned (OpenSpec.ofChange fnExactParentsOfWrong)

/-- 'laws.FnExactPartnersOf': WHATEVER THE INPUT: true; the input reads as it did. -/
def fnExactPartnersOfSpec : ChangeSpec := { name := "fnExactPartnersOf", fn := fun _ => fun
  | [d1, d2] => { results := [.lit (.bool true)], args := [d1, d2] }
  | _ => none }
def fnExactPartnersOfRow : OpenClaim := { program := "ytkdgjbbjbghdnaa", sum := "95a23750c12d1c151312f24b6baff4d2d23c78fda5e611f516e38d1d3ea33050", func := "loop.example/g03221/laws.FnExactPartnersOf", spec := "fnExactPartnersOf", apart := false }
def FnExactPartnersOfSaid : Prop := fnExactPartnersOfRow.holds Try.pinned (OpenSpec.ofChange fnExactPartnersOfSpec)

/-- ITS FALSE NEIGHBOUR: 'it returns false'. Refute it at one input. -/
def fnExactPartnersOfWrong : ChangeSpec := { name := "fnExactPartnersOf", fn := fun _ => fun
  | [d1, d2] => { results := [.lit (.bool false)], args := [d1, d2] }
  | _ => none }
def FnExactPartnersOfWrongFalsely : Prop := fnExactPartnersOfRow.holds Try.pinned (OpenSpec.ofChange fnExactPartnersOfWrong)

/-- 'laws.FnExactMarriedAt': WHATEVER THE INPUT: true; the input reads as it did. -/
def fnExactMarriedAtSpec : ChangeSpec := { name := "fnExactMarriedAt", fn := fun _ => fun
  | [d1, d2, d3] => { results := [.lit (.bool true)], args := [d1, d2, d3] }
  | _ => none }
def fnExactMarriedAtRow : OpenClaim := { program := "ytkdgjbbjbghdnaa", sum := "95a23750c12d1c151312f24b6baff4d2d23c78fda5e611f516e38d1d3ea33050", func := "loop.example/g03221/laws.FnExactMarriedAt", spec := "fnExactMarriedAt", apart := false }
def FnExactMarriedAtSaid : Prop := fnExactMarriedAtRow.holds Try.pinned (OpenSpec.ofChange fnExactMarriedAtSpec)

/-- ITS FALSE NEIGHBOUR: 'it returns false'. Refute it at one input. -/
def fnExactMarriedAtWrong : ChangeSpec := { name := "fnExactMarriedAt", fn := fun _ => fun
  | [d1, d2, d3] => { results := [.lit (.bool false)], args := [d1, d2, d3] }
  | _ => none }
def FnExactMarriedAtWrongFalsely : Prop := fnExactMarriedAtRow.holds Try.pinned (OpenSpec.ofChange fnExactMarriedAtWrong)

/-- 'laws.FnExactRenamePeople': WHATEVER THE INPUT: true; the input reads as it did. -/
def fnExactRenamePeopleSpec : ChangeSpec := { name := "fnExactRenamePeople", fn := fun _ => fun
  | [d1, d2] => { results := [.lit (.bool true)], args := [d1, d2] }
  | _ => none }
def fnExactRenamePeopleRow : OpenClaim := { program := "ytkdgjbbjbghdnaa", sum := "95a23750c12d1c151312f24b6baff4d2d23c78fda5e611f516e38d1d3ea33050", func := "loop.example/g03221/laws.FnExactRenamePeople", spec := "fnExactRenamePeople", apart := false }
def FnExactRenamePeopleSaid : Prop := fnExactRenamePeopleRow.holds Try.pinned (OpenSpec.ofChange fnExactRenamePeopleSpec)

/-- ITS FALSE NEIGHBOUR: 'it returns false'. Refute it at one input. -/
def fnExactRenamePeopleWrong : ChangeSpec := { name := "fnExactRenamePeople", fn := fun _ => fun
  | [d1, d2] => { results := [.lit (.bool false)], args := [d1, d2] }
  | _ => none }
def FnExactRenamePeopleWrongFalsely : Prop := fnExactRenamePeopleRow.holds Try.pinned (OpenSpec.ofChange fnExactRenamePeopleWrong)

/- THE SECOND FORM. 'bulk': how many values and letters a reading holds, each counted each time it is reached (what is shared counts as often as it is met; a slice's spare places count too). A statement '..UptoSaid' is the law's where the arguments, and the package variables that the reading takes, are together of bulk at most 1048576: NARROWER than '..Said'. Prove '..Said' where nothing that the law and all that it calls make is longer than what came in: it says more and counts as full. Else prove '..UptoSaid'. A law counts once. -/
mutual
def uptoBulk {H : Type} : DataW H → Nat
  | .lit (.string bytes) => bytes.length + 1
  | .lit _ => 1
  | .nil => 1
  | .ptr d => uptoBulk d + 1
  | .slice elems spare => uptoBulkAll elems + uptoBulkAll spare + 1
  | .agg parts => uptoBulkAll parts + 1
  | .iface _ d => uptoBulk d + 1
  | .map entries => uptoBulkEntries entries + 1
  | .held _ => 1
def uptoBulkAll {H : Type} : List (DataW H) → Nat
  | [] => 0
  | d :: r => uptoBulk d + uptoBulkAll r
def uptoBulkEntries {H : Type} : List (Lit × DataW H) → Nat
  | [] => 0
  | x :: r => uptoBulkEntry x + uptoBulkEntries r
def uptoBulkEntry {H : Type} : Lit × DataW H → Nat
  | (.string bytes, d) => bytes.length + uptoBulk d + 1
  | (_, d) => uptoBulk d + 1
 end
def uptoSmall : (H : Type) → List (DataW H) → Bool := fun _ ds => decide (uptoBulkAll ds ≤ 1048576)
def OpenSpec.upto (s : _root_.Go.ChangeSpec) : _root_.Go.OpenSpec := { _root_.Go.OpenSpec.ofChange s with cond := some uptoSmall }

/-- 'laws.FnExactEqualFamilies', WHERE WHAT IT READS IS OF BULK AT MOST 1048576: true; the input reads as it did. -/
def fnExactEqualFamiliesUptoRow : OpenClaim := { program := "ytkdgjbbjbghdnaa", sum := "95a23750c12d1c151312f24b6baff4d2d23c78fda5e611f516e38d1d3ea33050", func := "loop.example/g03221/laws.FnExactEqualFamilies", spec := "fnExactEqualFamilies", apart := false, narrowed := true }
def FnExactEqualFamiliesUptoSaid : Prop := fnExactEqualFamiliesUptoRow.holds Try.pinned (OpenSpec.upto fnExactEqualFamiliesSpec)

/-- 'laws.FnExactIsFamily', WHERE WHAT IT READS IS OF BULK AT MOST 1048576: true; the input reads as it did. -/
def fnExactIsFamilyUptoRow : OpenClaim := { program := "ytkdgjbbjbghdnaa", sum := "95a23750c12d1c151312f24b6baff4d2d23c78fda5e611f516e38d1d3ea33050", func := "loop.example/g03221/laws.FnExactIsFamily", spec := "fnExactIsFamily", apart := false, narrowed := true }
def FnExactIsFamilyUptoSaid : Prop := fnExactIsFamilyUptoRow.holds Try.pinned (OpenSpec.upto fnExactIsFamilySpec)

/-- 'laws.FnExactIsAlive', WHERE WHAT IT READS IS OF BULK AT MOST 1048576: true; the input reads as it did. -/
def fnExactIsAliveUptoRow : OpenClaim := { program := "ytkdgjbbjbghdnaa", sum := "95a23750c12d1c151312f24b6baff4d2d23c78fda5e611f516e38d1d3ea33050", func := "loop.example/g03221/laws.FnExactIsAlive", spec := "fnExactIsAlive", apart := false, narrowed := true }
def FnExactIsAliveUptoSaid : Prop := fnExactIsAliveUptoRow.holds Try.pinned (OpenSpec.upto fnExactIsAliveSpec)

/-- 'laws.FnExactIsElder', WHERE WHAT IT READS IS OF BULK AT MOST 1048576: true; the input reads as it did. -/
def fnExactIsElderUptoRow : OpenClaim := { program := "ytkdgjbbjbghdnaa", sum := "95a23750c12d1c151312f24b6baff4d2d23c78fda5e611f516e38d1d3ea33050", func := "loop.example/g03221/laws.FnExactIsElder", spec := "fnExactIsElder", apart := false, narrowed := true }
def FnExactIsElderUptoSaid : Prop := fnExactIsElderUptoRow.holds Try.pinned (OpenSpec.upto fnExactIsElderSpec)

/-- 'laws.FnExactDepthOf', WHERE WHAT IT READS IS OF BULK AT MOST 1048576: true; the input reads as it did. -/
def fnExactDepthOfUptoRow : OpenClaim := { program := "ytkdgjbbjbghdnaa", sum := "95a23750c12d1c151312f24b6baff4d2d23c78fda5e611f516e38d1d3ea33050", func := "loop.example/g03221/laws.FnExactDepthOf", spec := "fnExactDepthOf", apart := false, narrowed := true }
def FnExactDepthOfUptoSaid : Prop := fnExactDepthOfUptoRow.holds Try.pinned (OpenSpec.upto fnExactDepthOfSpec)

/-- 'laws.FnExactFindPerson', WHERE WHAT IT READS IS OF BULK AT MOST 1048576: true; the input reads as it did. -/
def fnExactFindPersonUptoRow : OpenClaim := { program := "ytkdgjbbjbghdnaa", sum := "95a23750c12d1c151312f24b6baff4d2d23c78fda5e611f516e38d1d3ea33050", func := "loop.example/g03221/laws.FnExactFindPerson", spec := "fnExactFindPerson", apart := false, narrowed := true }
def FnExactFindPersonUptoSaid : Prop := fnExactFindPersonUptoRow.holds Try.pinned (OpenSpec.upto fnExactFindPersonSpec)

/-- 'laws.FnExactUnionEnd', WHERE WHAT IT READS IS OF BULK AT MOST 1048576: true; the input reads as it did. -/
def fnExactUnionEndUptoRow : OpenClaim := { program := "ytkdgjbbjbghdnaa", sum := "95a23750c12d1c151312f24b6baff4d2d23c78fda5e611f516e38d1d3ea33050", func := "loop.example/g03221/laws.FnExactUnionEnd", spec := "fnExactUnionEnd", apart := false, narrowed := true }
def FnExactUnionEndUptoSaid : Prop := fnExactUnionEndUptoRow.holds Try.pinned (OpenSpec.upto fnExactUnionEndSpec)

/-- 'laws.FnExactParentsOf', WHERE WHAT IT READS IS OF BULK AT MOST 1048576: true; the input reads as it did. -/
def fnExactParentsOfUptoRow : OpenClaim := { program := "ytkdgjbbjbghdnaa", sum := "95a23750c12d1c151312f24b6baff4d2d23c78fda5e611f516e38d1d3ea33050", func := "loop.example/g03221/laws.FnExactParentsOf", spec := "fnExactParentsOf", apart := false, narrowed := true }
def FnExactParentsOfUptoSaid : Prop := fnExactParentsOfUptoRow.holds Try.pinned (OpenSpec.upto fnExactParentsOfSpec)

/-- 'laws.FnExactPartnersOf', WHERE WHAT IT READS IS OF BULK AT MOST 1048576: true; the input reads as it did. -/
def fnExactPartnersOfUptoRow : OpenClaim := { program := "ytkdgjbbjbghdnaa", sum := "95a23750c12d1c151312f24b6baff4d2d23c78fda5e611f516e38d1d3ea33050", func := "loop.example/g03221/laws.FnExactPartnersOf", spec := "fnExactPartnersOf", apart := false, narrowed := true }
def FnExactPartnersOfUptoSaid : Prop := fnExactPartnersOfUptoRow.holds Try.pinned (OpenSpec.upto fnExactPartnersOfSpec)

/-- 'laws.FnExactMarriedAt', WHERE WHAT IT READS IS OF BULK AT MOST 1048576: true; the input reads as it did. -/
def fnExactMarriedAtUptoRow : OpenClaim := { program := "ytkdgjbbjbghdnaa", sum := "95a23750c12d1c151312f24b6baff4d2d23c78fda5e611f516e38d1d3ea33050", func := "loop.example/g03221/laws.FnExactMarriedAt", spec := "fnExactMarriedAt", apart := false, narrowed := true }
def FnExactMarriedAtUptoSaid : Prop := fnExactMarriedAtUptoRow.holds Try.pinned (OpenSpec.upto fnExactMarriedAtSpec)

/-- 'laws.FnExactRenamePeople', WHERE WHAT IT READS IS OF BULK AT MOST 1048576: true; the input reads as it did. -/
def fnExactRenamePeopleUptoRow : OpenClaim := { program := "ytkdgjbbjbghdnaa", sum := "95a23750c12d1c151312f24b6baff4d2d23c78fda5e611f516e38d1d3ea33050", func := "loop.example/g03221/laws.FnExactRenamePeople", spec := "fnExactRenamePeople", apart := false, narrowed := true }
def FnExactRenamePeopleUptoSaid : Prop := fnExactRenamePeopleUptoRow.holds Try.pinned (OpenSpec.upto fnExactRenamePeopleSpec)

end Rows
end Go.Proofs.Ytkdgjbbjbghdnaa
