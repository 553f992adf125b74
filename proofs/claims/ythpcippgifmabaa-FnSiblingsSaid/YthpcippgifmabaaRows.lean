/-
  No cell of these rows narrows 'for every input' (looked for: loops, veiled, ifaces, maps, wideKeys, modest, calm, conditions, laid).
  DERIVED. THE GIVEN ROWS OF THIS SEAT. 4 by the template 'for every input the law returns true; each argument reads behind the call as it read before'; 0 by the template 'total and deterministic' (their statements: YthpcippgifmabaaTotals.lean).
  GIVEN WITH THE SEED: the statements are not yours to turn. If you find one false, say at which input.
  Laid BY PROGRAM, IN A SANDBOX (cutbox-rows.mjs): the forced cells as the released guide's own fill.sh prints them over the translation c2a05d15a9be9f21… (all of the seat's roots in one cut). By AI agents, Wed Nov 11 2026. No macro, syntax, notation, axiom, sorry.
-/
import Derived.Test.YthpcippgifmabaaChecked
import GoSem.Claim
import GoSem.ClaimJoined
import GoSem.ClaimMapViews
import Derived.JoinedTies
import Derived.KernelRfl
namespace Go.Proofs.Ythpcippgifmabaa
/- THE CELL 'sum', in the pinned program and in every row, IS THE sha256 OF THE DUMP (.gsa) THAT YthpcippgifmabaaProg.lean LOADS. Nothing in Lean hashes anything: it is a label: what it is worth is what the hold of that sum in a sandbox is worth. -/
noncomputable def Try.pinned : Pinned := { name := "ythpcippgifmabaa", sum := "c2a05d15a9be9f21f227088d184572aa6473aa64efa06b6c5ea24e650e3c5113", checked := Try.checked }
namespace Rows
def none {H : Type} : Left H := { results := [], args := [] }

/-- 'laws.FnSiblings': WHATEVER THE INPUT: true; the input reads as it did. -/
def fnSiblingsSpec : ChangeSpec := { name := "fnSiblings", fn := fun _ => fun
  | [d] => { results := [.lit (.bool true)], args := [d] }
  | _ => none }
def fnSiblingsRow : OpenClaim := { program := "ythpcippgifmabaa", sum := "c2a05d15a9be9f21f227088d184572aa6473aa64efa06b6c5ea24e650e3c5113", func := "loop.example/g03221/laws.FnSiblings", spec := "fnSiblings", inPlace := ["internal/reflectlite.ValueOf", "internal/reflectlite.Swapper", "(internal/reflectlite.Value).Len"], unfollowed := true, recurses := true, apart := false }
def FnSiblingsSaid : Prop := fnSiblingsRow.holds Try.pinned (OpenSpec.ofChange fnSiblingsSpec)

/-- ITS FALSE NEIGHBOUR: 'it returns false'. Refute it at one input. -/
def fnSiblingsWrong : ChangeSpec := { name := "fnSiblings", fn := fun _ => fun
  | [d] => { results := [.lit (.bool false)], args := [d] }
  | _ => none }
def FnSiblingsWrongFalsely : Prop := fnSiblingsRow.holds Try.pinned (OpenSpec.ofChange fnSiblingsWrong)

/-- 'laws.FnExactChildrenOf': WHATEVER THE INPUT: true; the input reads as it did. -/
def fnExactChildrenOfSpec : ChangeSpec := { name := "fnExactChildrenOf", fn := fun _ => fun
  | [d1, d2] => { results := [.lit (.bool true)], args := [d1, d2] }
  | _ => none }
def fnExactChildrenOfRow : OpenClaim := { program := "ythpcippgifmabaa", sum := "c2a05d15a9be9f21f227088d184572aa6473aa64efa06b6c5ea24e650e3c5113", func := "loop.example/g03221/laws.FnExactChildrenOf", spec := "fnExactChildrenOf", inPlace := ["internal/reflectlite.ValueOf", "internal/reflectlite.Swapper", "(internal/reflectlite.Value).Len"], unfollowed := true, recurses := true, apart := false }
def FnExactChildrenOfSaid : Prop := fnExactChildrenOfRow.holds Try.pinned (OpenSpec.ofChange fnExactChildrenOfSpec)

/-- ITS FALSE NEIGHBOUR: 'it returns false'. Refute it at one input. -/
def fnExactChildrenOfWrong : ChangeSpec := { name := "fnExactChildrenOf", fn := fun _ => fun
  | [d1, d2] => { results := [.lit (.bool false)], args := [d1, d2] }
  | _ => none }
def FnExactChildrenOfWrongFalsely : Prop := fnExactChildrenOfRow.holds Try.pinned (OpenSpec.ofChange fnExactChildrenOfWrong)

/-- 'laws.FnExactFullSiblings': WHATEVER THE INPUT: true; the input reads as it did. -/
def fnExactFullSiblingsSpec : ChangeSpec := { name := "fnExactFullSiblings", fn := fun _ => fun
  | [d1, d2] => { results := [.lit (.bool true)], args := [d1, d2] }
  | _ => none }
def fnExactFullSiblingsRow : OpenClaim := { program := "ythpcippgifmabaa", sum := "c2a05d15a9be9f21f227088d184572aa6473aa64efa06b6c5ea24e650e3c5113", func := "loop.example/g03221/laws.FnExactFullSiblings", spec := "fnExactFullSiblings", inPlace := ["internal/reflectlite.ValueOf", "internal/reflectlite.Swapper", "(internal/reflectlite.Value).Len"], unfollowed := true, recurses := true, apart := false }
def FnExactFullSiblingsSaid : Prop := fnExactFullSiblingsRow.holds Try.pinned (OpenSpec.ofChange fnExactFullSiblingsSpec)

/-- ITS FALSE NEIGHBOUR: 'it returns false'. Refute it at one input. -/
def fnExactFullSiblingsWrong : ChangeSpec := { name := "fnExactFullSiblings", fn := fun _ => fun
  | [d1, d2] => { results := [.lit (.bool false)], args := [d1, d2] }
  | _ => none }
def FnExactFullSiblingsWrongFalsely : Prop := fnExactFullSiblingsRow.holds Try.pinned (OpenSpec.ofChange fnExactFullSiblingsWrong)

/-- 'laws.FnExactHalfSiblings': WHATEVER THE INPUT: true; the input reads as it did. -/
def fnExactHalfSiblingsSpec : ChangeSpec := { name := "fnExactHalfSiblings", fn := fun _ => fun
  | [d1, d2] => { results := [.lit (.bool true)], args := [d1, d2] }
  | _ => none }
def fnExactHalfSiblingsRow : OpenClaim := { program := "ythpcippgifmabaa", sum := "c2a05d15a9be9f21f227088d184572aa6473aa64efa06b6c5ea24e650e3c5113", func := "loop.example/g03221/laws.FnExactHalfSiblings", spec := "fnExactHalfSiblings", inPlace := ["internal/reflectlite.ValueOf", "internal/reflectlite.Swapper", "(internal/reflectlite.Value).Len"], unfollowed := true, recurses := true, apart := false }
def FnExactHalfSiblingsSaid : Prop := fnExactHalfSiblingsRow.holds Try.pinned (OpenSpec.ofChange fnExactHalfSiblingsSpec)

/-- ITS FALSE NEIGHBOUR: 'it returns false'. Refute it at one input. -/
def fnExactHalfSiblingsWrong : ChangeSpec := { name := "fnExactHalfSiblings", fn := fun _ => fun
  | [d1, d2] => { results := [.lit (.bool false)], args := [d1, d2] }
  | _ => none }
def FnExactHalfSiblingsWrongFalsely : Prop := fnExactHalfSiblingsRow.holds Try.pinned (OpenSpec.ofChange fnExactHalfSiblingsWrong)

/- THE SECOND FORM. 'bulk': how many values and letters a reading holds, each counted each time it is reached (what is shared counts as often as it is met; a slice's spare places count too). A statement '..UptoSaid' is the law's where the arguments, and the package variables that the reading takes, are together of bulk at most 1048576: NARROWER than '..Said'. Prove '..Said' where nothing that the law and all that it calls make is longer than what came in: it says more and counts as full. Else prove '..UptoSaid'. A law counts once. -/
mutual
def uptoBulk {H : Type} : DataW H → Nat
  | .lit (.string bytes) => bytes.length + 1
  | .lit _ => 1
  | .nil => 1
  | .ptr d => uptoBulk d + 1
  | .slice elems spare => uptoBulkAll elems + uptoBulkAll spare + 1
  | .agg parts => uptoBulkAll parts + 1
  | .iface _ d => uptoBulk d + 1
  | .map entries => uptoBulkEntries entries + 1
  | .held _ => 1
def uptoBulkAll {H : Type} : List (DataW H) → Nat
  | [] => 0
  | d :: r => uptoBulk d + uptoBulkAll r
def uptoBulkEntries {H : Type} : List (Lit × DataW H) → Nat
  | [] => 0
  | x :: r => uptoBulkEntry x + uptoBulkEntries r
def uptoBulkEntry {H : Type} : Lit × DataW H → Nat
  | (.string bytes, d) => bytes.length + uptoBulk d + 1
  | (_, d) => uptoBulk d + 1
 end
def uptoSmall : (H : Type) → List (DataW H) → Bool := fun _ ds => decide (uptoBulkAll ds ≤ 1048576)
def OpenSpec.upto (s : _root_.Go.ChangeSpec) : _root_.Go.OpenSpec := { _root_.Go.OpenSpec.ofChange s with cond := some uptoSmall }

/-- 'laws.FnSiblings', WHERE WHAT IT READS IS OF BULK AT MOST 1048576: true; the input reads as it did. -/
def fnSiblingsUptoRow : OpenClaim := { program := "ythpcippgifmabaa", sum := "c2a05d15a9be9f21f227088d184572aa6473aa64efa06b6c5ea24e650e3c5113", func := "loop.example/g03221/laws.FnSiblings", spec := "fnSiblings", inPlace := ["internal/reflectlite.ValueOf", "internal/reflectlite.Swapper", "(internal/reflectlite.Value).Len"], unfollowed := true, recurses := true, apart := false, narrowed := true }
def FnSiblingsUptoSaid : Prop := fnSiblingsUptoRow.holds Try.pinned (OpenSpec.upto fnSiblingsSpec)

/-- 'laws.FnExactChildrenOf', WHERE WHAT IT READS IS OF BULK AT MOST 1048576: true; the input reads as it did. -/
def fnExactChildrenOfUptoRow : OpenClaim := { program := "ythpcippgifmabaa", sum := "c2a05d15a9be9f21f227088d184572aa6473aa64efa06b6c5ea24e650e3c5113", func := "loop.example/g03221/laws.FnExactChildrenOf", spec := "fnExactChildrenOf", inPlace := ["internal/reflectlite.ValueOf", "internal/reflectlite.Swapper", "(internal/reflectlite.Value).Len"], unfollowed := true, recurses := true, apart := false, narrowed := true }
def FnExactChildrenOfUptoSaid : Prop := fnExactChildrenOfUptoRow.holds Try.pinned (OpenSpec.upto fnExactChildrenOfSpec)

/-- 'laws.FnExactFullSiblings', WHERE WHAT IT READS IS OF BULK AT MOST 1048576: true; the input reads as it did. -/
def fnExactFullSiblingsUptoRow : OpenClaim := { program := "ythpcippgifmabaa", sum := "c2a05d15a9be9f21f227088d184572aa6473aa64efa06b6c5ea24e650e3c5113", func := "loop.example/g03221/laws.FnExactFullSiblings", spec := "fnExactFullSiblings", inPlace := ["internal/reflectlite.ValueOf", "internal/reflectlite.Swapper", "(internal/reflectlite.Value).Len"], unfollowed := true, recurses := true, apart := false, narrowed := true }
def FnExactFullSiblingsUptoSaid : Prop := fnExactFullSiblingsUptoRow.holds Try.pinned (OpenSpec.upto fnExactFullSiblingsSpec)

/-- 'laws.FnExactHalfSiblings', WHERE WHAT IT READS IS OF BULK AT MOST 1048576: true; the input reads as it did. -/
def fnExactHalfSiblingsUptoRow : OpenClaim := { program := "ythpcippgifmabaa", sum := "c2a05d15a9be9f21f227088d184572aa6473aa64efa06b6c5ea24e650e3c5113", func := "loop.example/g03221/laws.FnExactHalfSiblings", spec := "fnExactHalfSiblings", inPlace := ["internal/reflectlite.ValueOf", "internal/reflectlite.Swapper", "(internal/reflectlite.Value).Len"], unfollowed := true, recurses := true, apart := false, narrowed := true }
def FnExactHalfSiblingsUptoSaid : Prop := fnExactHalfSiblingsUptoRow.holds Try.pinned (OpenSpec.upto fnExactHalfSiblingsSpec)

end Rows
end Go.Proofs.Ythpcippgifmabaa
