/-
  DERIVED. GIVEN WITH THE SEED: THE CARDS: each row of YthpcippgifmabaaGreatDoorRows.lean that lists a variable, with what it lists TIED to the program's text (the seventh form; the later family's looks); each row that meets fmt, with fmt's text TOLD by the authors' own Lean function (tested against real Go, not proved from fmt's source: count such statements apart). THE CARD IS WHAT COUNTS. Prove the row's statement (the work); the ties are given (YthpcippgifmabaaGreatDoorTie.lean); close each card by the builder's one call (the guide's Derived/Test/ToyasCard.lean, 'card_holds'). Laid BY PROGRAM, IN A SANDBOX (cutbox-door.mjs). By AI agents, Wed Nov 11 2026. No macro, syntax, notation, axiom, sorry.
-/
import Derived.Test.YthpcippgifmabaaGreatDoorRows
import GoSem.ClaimSeven
namespace Go.Proofs.YthpcippgifmabaaGreatDoor
namespace Rows

/-- THE TIED CARD OF 'laws.FnExactParseFamily'. -/
def fnExactParseFamilyCard : Claim7 := { stood := { row := fnExactParseFamilyRow, standIns := [], harness := (true, "42960c94eb3df380914d1bc0b66e77eeaccffe0f239e7f63d6072957adf87ce8"), looks := true }, kinds := [], alts := [], laidByText := true, laidKinds := [.data, .data, .data, .data, .sentinel, .sentinel, .pinned], laidTests := true, laidLooks := .later }
def FnExactParseFamilyCardSaid : Prop := Claim7.holds Tryz.pinned (.plain (OpenSpec.ofChange fnExactParseFamilySpec)) fnExactParseFamilyCard

/-- THE SECOND FORM's CARD OF 'laws.FnExactParseFamily'. -/
def fnExactParseFamilyUptoCard : Claim7 := { stood := { row := fnExactParseFamilyUptoRow, standIns := [], harness := (true, "42960c94eb3df380914d1bc0b66e77eeaccffe0f239e7f63d6072957adf87ce8"), looks := true }, kinds := [], alts := [], laidByText := true, laidKinds := [.data, .data, .data, .data, .sentinel, .sentinel, .pinned], laidTests := true, laidLooks := .later }
def FnExactParseFamilyUptoCardSaid : Prop := Claim7.holds Tryz.pinned (.plain (OpenSpec.upto fnExactParseFamilySpec)) fnExactParseFamilyUptoCard
end Rows
end Go.Proofs.YthpcippgifmabaaGreatDoor
