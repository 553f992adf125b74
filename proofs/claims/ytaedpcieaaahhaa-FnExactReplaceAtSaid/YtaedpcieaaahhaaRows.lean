/-
  No cell of these rows narrows 'for every input' (looked for: loops, veiled, ifaces, maps, wideKeys, modest, calm, conditions, laid).
  DERIVED. THE GIVEN ROWS OF THIS SEAT. 8 by the template 'for every input the law returns true; each argument reads behind the call as it read before'; 0 by the template 'total and deterministic' (their statements: YtaedpcieaaahhaaTotals.lean).
  GIVEN WITH THE SEED: the statements are not yours to turn. If you find one false, say at which input.
  Laid BY PROGRAM, IN A SANDBOX (cutbox-rows.mjs): the forced cells as the released guide's own fill.sh prints them over the translation 076b421360e99811… (all of the seat's roots in one cut). By AI agents, Wed Nov 11 2026. No macro, syntax, notation, axiom, sorry.
-/
import Derived.Test.YtaedpcieaaahhaaChecked
import GoSem.Claim
import GoSem.ClaimJoined
import GoSem.ClaimMapViews
import Derived.JoinedTies
import Derived.KernelRfl
namespace Go.Proofs.Ytaedpcieaaahhaa
/- THE CELL 'sum', in the pinned program and in every row, IS THE sha256 OF THE DUMP (.gsa) THAT YtaedpcieaaahhaaProg.lean LOADS. Nothing in Lean hashes anything: it is a label: what it is worth is what the hold of that sum in a sandbox is worth. -/
noncomputable def Try.pinned : Pinned := { name := "ytaedpcieaaahhaa", sum := "076b421360e9981128d3509b62ce1edccab70e71553c86f2528a75d8a5e1cd45", checked := Try.checked }
namespace Rows
def none {H : Type} : Left H := { results := [], args := [] }

/-- 'laws.FnExactIsRule': WHATEVER THE INPUT: true; the input reads as it did. -/
def fnExactIsRuleSpec : ChangeSpec := { name := "fnExactIsRule", fn := fun _ => fun
  | [d] => { results := [.lit (.bool true)], args := [d] }
  | _ => none }
def fnExactIsRuleRow : OpenClaim := { program := "ytaedpcieaaahhaa", sum := "076b421360e9981128d3509b62ce1edccab70e71553c86f2528a75d8a5e1cd45", func := "loop.example/g03221/laws.FnExactIsRule", spec := "fnExactIsRule", apart := false }
def FnExactIsRuleSaid : Prop := fnExactIsRuleRow.holds Try.pinned (OpenSpec.ofChange fnExactIsRuleSpec)

/-- ITS FALSE NEIGHBOUR: 'it returns false'. Refute it at one input. -/
def fnExactIsRuleWrong : ChangeSpec := { name := "fnExactIsRule", fn := fun _ => fun
  | [d] => { results := [.lit (.bool false)], args := [d] }
  | _ => none }
def FnExactIsRuleWrongFalsely : Prop := fnExactIsRuleRow.holds Try.pinned (OpenSpec.ofChange fnExactIsRuleWrong)

/-- 'laws.FnExactAreRules': WHATEVER THE INPUT: true; the input reads as it did. -/
def fnExactAreRulesSpec : ChangeSpec := { name := "fnExactAreRules", fn := fun _ => fun
  | [d] => { results := [.lit (.bool true)], args := [d] }
  | _ => none }
def fnExactAreRulesRow : OpenClaim := { program := "ytaedpcieaaahhaa", sum := "076b421360e9981128d3509b62ce1edccab70e71553c86f2528a75d8a5e1cd45", func := "loop.example/g03221/laws.FnExactAreRules", spec := "fnExactAreRules", apart := false }
def FnExactAreRulesSaid : Prop := fnExactAreRulesRow.holds Try.pinned (OpenSpec.ofChange fnExactAreRulesSpec)

/-- ITS FALSE NEIGHBOUR: 'it returns false'. Refute it at one input. -/
def fnExactAreRulesWrong : ChangeSpec := { name := "fnExactAreRules", fn := fun _ => fun
  | [d] => { results := [.lit (.bool false)], args := [d] }
  | _ => none }
def FnExactAreRulesWrongFalsely : Prop := fnExactAreRulesRow.holds Try.pinned (OpenSpec.ofChange fnExactAreRulesWrong)

/-- 'laws.FnExactFormatRule': WHATEVER THE INPUT: true; the input reads as it did. -/
def fnExactFormatRuleSpec : ChangeSpec := { name := "fnExactFormatRule", fn := fun _ => fun
  | [d] => { results := [.lit (.bool true)], args := [d] }
  | _ => none }
def fnExactFormatRuleRow : OpenClaim := { program := "ytaedpcieaaahhaa", sum := "076b421360e9981128d3509b62ce1edccab70e71553c86f2528a75d8a5e1cd45", func := "loop.example/g03221/laws.FnExactFormatRule", spec := "fnExactFormatRule", apart := false }
def FnExactFormatRuleSaid : Prop := fnExactFormatRuleRow.holds Try.pinned (OpenSpec.ofChange fnExactFormatRuleSpec)

/-- ITS FALSE NEIGHBOUR: 'it returns false'. Refute it at one input. -/
def fnExactFormatRuleWrong : ChangeSpec := { name := "fnExactFormatRule", fn := fun _ => fun
  | [d] => { results := [.lit (.bool false)], args := [d] }
  | _ => none }
def FnExactFormatRuleWrongFalsely : Prop := fnExactFormatRuleRow.holds Try.pinned (OpenSpec.ofChange fnExactFormatRuleWrong)

/-- 'laws.FnExactFitsAt': WHATEVER THE INPUT: true; the input reads as it did. -/
def fnExactFitsAtSpec : ChangeSpec := { name := "fnExactFitsAt", fn := fun _ => fun
  | [d1, d2, d3] => { results := [.lit (.bool true)], args := [d1, d2, d3] }
  | _ => none }
def fnExactFitsAtRow : OpenClaim := { program := "ytaedpcieaaahhaa", sum := "076b421360e9981128d3509b62ce1edccab70e71553c86f2528a75d8a5e1cd45", func := "loop.example/g03221/laws.FnExactFitsAt", spec := "fnExactFitsAt", apart := false }
def FnExactFitsAtSaid : Prop := fnExactFitsAtRow.holds Try.pinned (OpenSpec.ofChange fnExactFitsAtSpec)

/-- ITS FALSE NEIGHBOUR: 'it returns false'. Refute it at one input. -/
def fnExactFitsAtWrong : ChangeSpec := { name := "fnExactFitsAt", fn := fun _ => fun
  | [d1, d2, d3] => { results := [.lit (.bool false)], args := [d1, d2, d3] }
  | _ => none }
def FnExactFitsAtWrongFalsely : Prop := fnExactFitsAtRow.holds Try.pinned (OpenSpec.ofChange fnExactFitsAtWrong)

/-- 'laws.FnExactReplaceAt': WHATEVER THE INPUT: true; the input reads as it did. -/
def fnExactReplaceAtSpec : ChangeSpec := { name := "fnExactReplaceAt", fn := fun _ => fun
  | [d1, d2, d3] => { results := [.lit (.bool true)], args := [d1, d2, d3] }
  | _ => none }
def fnExactReplaceAtRow : OpenClaim := { program := "ytaedpcieaaahhaa", sum := "076b421360e9981128d3509b62ce1edccab70e71553c86f2528a75d8a5e1cd45", func := "loop.example/g03221/laws.FnExactReplaceAt", spec := "fnExactReplaceAt", apart := false }
def FnExactReplaceAtSaid : Prop := fnExactReplaceAtRow.holds Try.pinned (OpenSpec.ofChange fnExactReplaceAtSpec)

/-- ITS FALSE NEIGHBOUR: 'it returns false'. Refute it at one input. -/
def fnExactReplaceAtWrong : ChangeSpec := { name := "fnExactReplaceAt", fn := fun _ => fun
  | [d1, d2, d3] => { results := [.lit (.bool false)], args := [d1, d2, d3] }
  | _ => none }
def FnExactReplaceAtWrongFalsely : Prop := fnExactReplaceAtRow.holds Try.pinned (OpenSpec.ofChange fnExactReplaceAtWrong)

/-- 'laws.FnExactRewriteStep': WHATEVER THE INPUT: true; the input reads as it did. -/
def fnExactRewriteStepSpec : ChangeSpec := { name := "fnExactRewriteStep", fn := fun _ => fun
  | [d1, d2] => { results := [.lit (.bool true)], args := [d1, d2] }
  | _ => none }
def fnExactRewriteStepRow : OpenClaim := { program := "ytaedpcieaaahhaa", sum := "076b421360e9981128d3509b62ce1edccab70e71553c86f2528a75d8a5e1cd45", func := "loop.example/g03221/laws.FnExactRewriteStep", spec := "fnExactRewriteStep", apart := false }
def FnExactRewriteStepSaid : Prop := fnExactRewriteStepRow.holds Try.pinned (OpenSpec.ofChange fnExactRewriteStepSpec)

/-- ITS FALSE NEIGHBOUR: 'it returns false'. Refute it at one input. -/
def fnExactRewriteStepWrong : ChangeSpec := { name := "fnExactRewriteStep", fn := fun _ => fun
  | [d1, d2] => { results := [.lit (.bool false)], args := [d1, d2] }
  | _ => none }
def FnExactRewriteStepWrongFalsely : Prop := fnExactRewriteStepRow.holds Try.pinned (OpenSpec.ofChange fnExactRewriteStepWrong)

/-- 'laws.FnExactNormalForm': WHATEVER THE INPUT: true; the input reads as it did. -/
def fnExactNormalFormSpec : ChangeSpec := { name := "fnExactNormalForm", fn := fun _ => fun
  | [d1, d2] => { results := [.lit (.bool true)], args := [d1, d2] }
  | _ => none }
def fnExactNormalFormRow : OpenClaim := { program := "ytaedpcieaaahhaa", sum := "076b421360e9981128d3509b62ce1edccab70e71553c86f2528a75d8a5e1cd45", func := "loop.example/g03221/laws.FnExactNormalForm", spec := "fnExactNormalForm", apart := false }
def FnExactNormalFormSaid : Prop := fnExactNormalFormRow.holds Try.pinned (OpenSpec.ofChange fnExactNormalFormSpec)

/-- ITS FALSE NEIGHBOUR: 'it returns false'. Refute it at one input. -/
def fnExactNormalFormWrong : ChangeSpec := { name := "fnExactNormalForm", fn := fun _ => fun
  | [d1, d2] => { results := [.lit (.bool false)], args := [d1, d2] }
  | _ => none }
def FnExactNormalFormWrongFalsely : Prop := fnExactNormalFormRow.holds Try.pinned (OpenSpec.ofChange fnExactNormalFormWrong)

/-- 'laws.FnExactParseRule': WHATEVER THE INPUT: true; the input reads as it did. -/
def fnExactParseRuleSpec : ChangeSpec := { name := "fnExactParseRule", fn := fun _ => fun
  | [d] => { results := [.lit (.bool true)], args := [d] }
  | _ => none }
def fnExactParseRuleRow : OpenClaim := { program := "ytaedpcieaaahhaa", sum := "076b421360e9981128d3509b62ce1edccab70e71553c86f2528a75d8a5e1cd45", func := "loop.example/g03221/laws.FnExactParseRule", spec := "fnExactParseRule", inPlace := ["internal/bytealg.IndexByteString", "internal/bytealg.IndexString"], named := ["internal/bytealg.MaxLen"], apart := false }
def FnExactParseRuleSaid : Prop := fnExactParseRuleRow.holds Try.pinned (OpenSpec.ofChange fnExactParseRuleSpec)

/-- ITS FALSE NEIGHBOUR: 'it returns false'. Refute it at one input. -/
def fnExactParseRuleWrong : ChangeSpec := { name := "fnExactParseRule", fn := fun _ => fun
  | [d] => { results := [.lit (.bool false)], args := [d] }
  | _ => none }
def FnExactParseRuleWrongFalsely : Prop := fnExactParseRuleRow.holds Try.pinned (OpenSpec.ofChange fnExactParseRuleWrong)

/- THE SECOND FORM. 'bulk': how many values and letters a reading holds, each counted each time it is reached (what is shared counts as often as it is met; a slice's spare places count too). A statement '..UptoSaid' is the law's where the arguments, and the package variables that the reading takes, are together of bulk at most 1048576: NARROWER than '..Said'. Prove '..Said' where nothing that the law and all that it calls make is longer than what came in: it says more and counts as full. Else prove '..UptoSaid'. A law counts once. -/
mutual
def uptoBulk {H : Type} : DataW H → Nat
  | .lit (.string bytes) => bytes.length + 1
  | .lit _ => 1
  | .nil => 1
  | .ptr d => uptoBulk d + 1
  | .slice elems spare => uptoBulkAll elems + uptoBulkAll spare + 1
  | .agg parts => uptoBulkAll parts + 1
  | .iface _ d => uptoBulk d + 1
  | .map entries => uptoBulkEntries entries + 1
  | .held _ => 1
def uptoBulkAll {H : Type} : List (DataW H) → Nat
  | [] => 0
  | d :: r => uptoBulk d + uptoBulkAll r
def uptoBulkEntries {H : Type} : List (Lit × DataW H) → Nat
  | [] => 0
  | x :: r => uptoBulkEntry x + uptoBulkEntries r
def uptoBulkEntry {H : Type} : Lit × DataW H → Nat
  | (.string bytes, d) => bytes.length + uptoBulk d + 1
  | (_, d) => uptoBulk d + 1
 end
def uptoSmall : (H : Type) → List (DataW H) → Bool := fun _ ds => decide (uptoBulkAll ds ≤ 1048576)
def OpenSpec.upto (s : _root_.Go.ChangeSpec) : _root_.Go.OpenSpec := { _root_.Go.OpenSpec.ofChange s with cond := some uptoSmall }

/-- 'laws.FnExactIsRule', WHERE WHAT IT READS IS OF BULK AT MOST 1048576: true; the input reads as it did. -/
def fnExactIsRuleUptoRow : OpenClaim := { program := "ytaedpcieaaahhaa", sum := "076b421360e9981128d3509b62ce1edccab70e71553c86f2528a75d8a5e1cd45", func := "loop.example/g03221/laws.FnExactIsRule", spec := "fnExactIsRule", apart := false, narrowed := true }
def FnExactIsRuleUptoSaid : Prop := fnExactIsRuleUptoRow.holds Try.pinned (OpenSpec.upto fnExactIsRuleSpec)

/-- 'laws.FnExactAreRules', WHERE WHAT IT READS IS OF BULK AT MOST 1048576: true; the input reads as it did. -/
def fnExactAreRulesUptoRow : OpenClaim := { program := "ytaedpcieaaahhaa", sum := "076b421360e9981128d3509b62ce1edccab70e71553c86f2528a75d8a5e1cd45", func := "loop.example/g03221/laws.FnExactAreRules", spec := "fnExactAreRules", apart := false, narrowed := true }
def FnExactAreRulesUptoSaid : Prop := fnExactAreRulesUptoRow.holds Try.pinned (OpenSpec.upto fnExactAreRulesSpec)

/-- 'laws.FnExactFormatRule', WHERE WHAT IT READS IS OF BULK AT MOST 1048576: true; the input reads as it did. -/
def fnExactFormatRuleUptoRow : OpenClaim := { program := "ytaedpcieaaahhaa", sum := "076b421360e9981128d3509b62ce1edccab70e71553c86f2528a75d8a5e1cd45", func := "loop.example/g03221/laws.FnExactFormatRule", spec := "fnExactFormatRule", apart := false, narrowed := true }
def FnExactFormatRuleUptoSaid : Prop := fnExactFormatRuleUptoRow.holds Try.pinned (OpenSpec.upto fnExactFormatRuleSpec)

/-- 'laws.FnExactFitsAt', WHERE WHAT IT READS IS OF BULK AT MOST 1048576: true; the input reads as it did. -/
def fnExactFitsAtUptoRow : OpenClaim := { program := "ytaedpcieaaahhaa", sum := "076b421360e9981128d3509b62ce1edccab70e71553c86f2528a75d8a5e1cd45", func := "loop.example/g03221/laws.FnExactFitsAt", spec := "fnExactFitsAt", apart := false, narrowed := true }
def FnExactFitsAtUptoSaid : Prop := fnExactFitsAtUptoRow.holds Try.pinned (OpenSpec.upto fnExactFitsAtSpec)

/-- 'laws.FnExactReplaceAt', WHERE WHAT IT READS IS OF BULK AT MOST 1048576: true; the input reads as it did. -/
def fnExactReplaceAtUptoRow : OpenClaim := { program := "ytaedpcieaaahhaa", sum := "076b421360e9981128d3509b62ce1edccab70e71553c86f2528a75d8a5e1cd45", func := "loop.example/g03221/laws.FnExactReplaceAt", spec := "fnExactReplaceAt", apart := false, narrowed := true }
def FnExactReplaceAtUptoSaid : Prop := fnExactReplaceAtUptoRow.holds Try.pinned (OpenSpec.upto fnExactReplaceAtSpec)

/-- 'laws.FnExactRewriteStep', WHERE WHAT IT READS IS OF BULK AT MOST 1048576: true; the input reads as it did. -/
def fnExactRewriteStepUptoRow : OpenClaim := { program := "ytaedpcieaaahhaa", sum := "076b421360e9981128d3509b62ce1edccab70e71553c86f2528a75d8a5e1cd45", func := "loop.example/g03221/laws.FnExactRewriteStep", spec := "fnExactRewriteStep", apart := false, narrowed := true }
def FnExactRewriteStepUptoSaid : Prop := fnExactRewriteStepUptoRow.holds Try.pinned (OpenSpec.upto fnExactRewriteStepSpec)

/-- 'laws.FnExactNormalForm', WHERE WHAT IT READS IS OF BULK AT MOST 1048576: true; the input reads as it did. -/
def fnExactNormalFormUptoRow : OpenClaim := { program := "ytaedpcieaaahhaa", sum := "076b421360e9981128d3509b62ce1edccab70e71553c86f2528a75d8a5e1cd45", func := "loop.example/g03221/laws.FnExactNormalForm", spec := "fnExactNormalForm", apart := false, narrowed := true }
def FnExactNormalFormUptoSaid : Prop := fnExactNormalFormUptoRow.holds Try.pinned (OpenSpec.upto fnExactNormalFormSpec)

/-- 'laws.FnExactParseRule', WHERE WHAT IT READS IS OF BULK AT MOST 1048576: true; the input reads as it did. -/
def fnExactParseRuleUptoRow : OpenClaim := { program := "ytaedpcieaaahhaa", sum := "076b421360e9981128d3509b62ce1edccab70e71553c86f2528a75d8a5e1cd45", func := "loop.example/g03221/laws.FnExactParseRule", spec := "fnExactParseRule", inPlace := ["internal/bytealg.IndexByteString", "internal/bytealg.IndexString"], named := ["internal/bytealg.MaxLen"], apart := false, narrowed := true }
def FnExactParseRuleUptoSaid : Prop := fnExactParseRuleUptoRow.holds Try.pinned (OpenSpec.upto fnExactParseRuleSpec)

end Rows
end Go.Proofs.Ytaedpcieaaahhaa
