/-
  DERIVED. GIVEN WITH THE SEED: THE CARDS: each row of YtibginmlhjkgbaaDoorRows.lean that lists a variable, with what it lists TIED to the program's text (the seventh form; the later family's looks); each row that meets fmt, with fmt's text TOLD by the authors' own Lean function (tested against real Go, not proved from fmt's source: count such statements apart). THE CARD IS WHAT COUNTS. Prove the row's statement (the work); the ties are given (YtibginmlhjkgbaaDoorTie.lean); close each card by the builder's one call (the guide's Derived/Test/ToyasCard.lean, 'card_holds'). Laid BY PROGRAM, IN A SANDBOX (cutbox-door.mjs). By AI agents, Wed Nov 11 2026. No macro, syntax, notation, axiom, sorry.
-/
import Derived.Test.YtibginmlhjkgbaaDoorRows
import GoSem.ClaimSeven
namespace Go.Proofs.YtibginmlhjkgbaaDoor
namespace Rows

/-- THE TIED CARD OF 'wicketlaw08.HomeNames'. -/
def homeNamesCard : Claim7 := { stood := { row := homeNamesRow, standIns := [], harness := (true, "5f1ce16421f65290e92f3e7abfb5b9fd10b7286363f38a8473476f6c7239a354"), looks := false }, kinds := [], alts := [], laidByText := true, laidKinds := [.data, .data], laidTests := true, laidLooks := .later }
def HomeNamesCardSaid : Prop := Claim7.holds Tryd.pinned (.plain (OpenSpec.ofChange homeNamesSpec)) homeNamesCard

/-- THE SECOND FORM's CARD OF 'wicketlaw08.HomeNames'. -/
def homeNamesUptoCard : Claim7 := { stood := { row := homeNamesUptoRow, standIns := [], harness := (true, "5f1ce16421f65290e92f3e7abfb5b9fd10b7286363f38a8473476f6c7239a354"), looks := false }, kinds := [], alts := [], laidByText := true, laidKinds := [.data, .data], laidTests := true, laidLooks := .later }
def HomeNamesUptoCardSaid : Prop := Claim7.holds Tryd.pinned (.plain (OpenSpec.upto homeNamesSpec)) homeNamesUptoCard
end Rows
end Go.Proofs.YtibginmlhjkgbaaDoor
