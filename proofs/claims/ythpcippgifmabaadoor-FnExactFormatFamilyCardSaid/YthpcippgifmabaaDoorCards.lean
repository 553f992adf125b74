/-
  DERIVED. GIVEN WITH THE SEED: THE CARDS: each row of YthpcippgifmabaaDoorRows.lean that lists a variable, with what it lists TIED to the program's text (the seventh form; the later family's looks); each row that meets fmt, with fmt's text TOLD by the authors' own Lean function (tested against real Go, not proved from fmt's source: count such statements apart). THE CARD IS WHAT COUNTS. Prove the row's statement (the work); the ties are given (YthpcippgifmabaaDoorTie.lean); close each card by the builder's one call (the guide's Derived/Test/ToyasCard.lean, 'card_holds'). Laid BY PROGRAM, IN A SANDBOX (cutbox-door.mjs). By AI agents, Wed Nov 11 2026. No macro, syntax, notation, axiom, sorry.
-/
import Derived.Test.YthpcippgifmabaaDoorRows
import GoSem.ClaimSeven
namespace Go.Proofs.YthpcippgifmabaaDoor
namespace Rows

/-- THE TIED CARD OF 'laws.FnExactFormatFamily'. -/
def fnExactFormatFamilyCard : Claim7 := { stood := { row := fnExactFormatFamilyRow, standIns := [], harness := (true, "89e519650e15caee41a0808af073e73d863c188599b6a3c879a0b19e3b8ae67d"), looks := false }, kinds := [], alts := [], laidByText := true, laidKinds := [.data, .data, .data], laidTests := true, laidLooks := .later }
def FnExactFormatFamilyCardSaid : Prop := Claim7.holds Tryd.pinned (.plain (OpenSpec.ofChange fnExactFormatFamilySpec)) fnExactFormatFamilyCard

/-- THE SECOND FORM's CARD OF 'laws.FnExactFormatFamily'. -/
def fnExactFormatFamilyUptoCard : Claim7 := { stood := { row := fnExactFormatFamilyUptoRow, standIns := [], harness := (true, "89e519650e15caee41a0808af073e73d863c188599b6a3c879a0b19e3b8ae67d"), looks := false }, kinds := [], alts := [], laidByText := true, laidKinds := [.data, .data, .data], laidTests := true, laidLooks := .later }
def FnExactFormatFamilyUptoCardSaid : Prop := Claim7.holds Tryd.pinned (.plain (OpenSpec.upto fnExactFormatFamilySpec)) fnExactFormatFamilyUptoCard
end Rows
end Go.Proofs.YthpcippgifmabaaDoor
