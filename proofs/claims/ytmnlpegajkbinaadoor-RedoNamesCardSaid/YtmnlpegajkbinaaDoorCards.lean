/-
  DERIVED. GIVEN WITH THE SEED: THE CARDS: each row of YtmnlpegajkbinaaDoorRows.lean that lists a variable, with what it lists TIED to the program's text (the seventh form; the later family's looks); each row that meets fmt, with fmt's text TOLD by the authors' own Lean function (tested against real Go, not proved from fmt's source: count such statements apart). THE CARD IS WHAT COUNTS. Prove the row's statement (the work); the ties are given (YtmnlpegajkbinaaDoorTie.lean); close each card by the builder's one call (the guide's Derived/Test/ToyasCard.lean, 'card_holds'). Laid BY PROGRAM, IN A SANDBOX (cutbox-door.mjs). By AI agents, Wed Nov 11 2026. No macro, syntax, notation, axiom, sorry.
-/
import Derived.Test.YtmnlpegajkbinaaDoorRows
import GoSem.ClaimSeven
namespace Go.Proofs.YtmnlpegajkbinaaDoor
namespace Rows

/-- THE TIED CARD OF 'wicketlaw21.RedoNames'. -/
def redoNamesCard : Claim7 := { stood := { row := redoNamesRow, standIns := [], harness := (true, "4e06fb597051ebf07f0fb1a26e4d439155fdda65299c5a1befb974977ef002fc"), looks := false }, kinds := [], alts := [], laidByText := true, laidKinds := [.data, .data], laidTests := true, laidLooks := .later }
def RedoNamesCardSaid : Prop := Claim7.holds Tryd.pinned (.plain (OpenSpec.ofChange redoNamesSpec)) redoNamesCard

/-- THE SECOND FORM's CARD OF 'wicketlaw21.RedoNames'. -/
def redoNamesUptoCard : Claim7 := { stood := { row := redoNamesUptoRow, standIns := [], harness := (true, "4e06fb597051ebf07f0fb1a26e4d439155fdda65299c5a1befb974977ef002fc"), looks := false }, kinds := [], alts := [], laidByText := true, laidKinds := [.data, .data], laidTests := true, laidLooks := .later }
def RedoNamesUptoCardSaid : Prop := Claim7.holds Tryd.pinned (.plain (OpenSpec.upto redoNamesSpec)) redoNamesUptoCard
end Rows
end Go.Proofs.YtmnlpegajkbinaaDoor
