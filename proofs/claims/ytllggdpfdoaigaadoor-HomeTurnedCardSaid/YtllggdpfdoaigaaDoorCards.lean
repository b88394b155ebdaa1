/-
  DERIVED. GIVEN WITH THE SEED: THE CARDS: each row of YtllggdpfdoaigaaDoorRows.lean that lists a variable, with what it lists TIED to the program's text (the seventh form; the later family's looks); each row that meets fmt, with fmt's text TOLD by the authors' own Lean function (tested against real Go, not proved from fmt's source: count such statements apart). THE CARD IS WHAT COUNTS. Prove the row's statement (the work); the ties are given (YtllggdpfdoaigaaDoorTie.lean); close each card by the builder's one call (the guide's Derived/Test/ToyasCard.lean, 'card_holds'). Laid BY PROGRAM, IN A SANDBOX (cutbox-door.mjs). By AI agents, Wed Nov 11 2026. No macro, syntax, notation, axiom, sorry.
-/
import Derived.Test.YtllggdpfdoaigaaDoorRows
import GoSem.ClaimSeven
namespace Go.Proofs.YtllggdpfdoaigaaDoor
namespace Rows

/-- THE TIED CARD OF 'wicketlaw08.HomeTurned'. -/
def homeTurnedCard : Claim7 := { stood := { row := homeTurnedRow, standIns := [], harness := (true, "0a3c114dbded56053cf59315735a593bceba1ea4e4ece1b9b69e5fa3f929082f"), looks := false }, kinds := [], alts := [], laidByText := true, laidKinds := [.data, .data], laidTests := true, laidLooks := .later }
def HomeTurnedCardSaid : Prop := Claim7.holds Tryd.pinned (.plain (OpenSpec.ofChange homeTurnedSpec)) homeTurnedCard

/-- THE SECOND FORM's CARD OF 'wicketlaw08.HomeTurned'. -/
def homeTurnedUptoCard : Claim7 := { stood := { row := homeTurnedUptoRow, standIns := [], harness := (true, "0a3c114dbded56053cf59315735a593bceba1ea4e4ece1b9b69e5fa3f929082f"), looks := false }, kinds := [], alts := [], laidByText := true, laidKinds := [.data, .data], laidTests := true, laidLooks := .later }
def HomeTurnedUptoCardSaid : Prop := Claim7.holds Tryd.pinned (.plain (OpenSpec.upto homeTurnedSpec)) homeTurnedUptoCard
end Rows
end Go.Proofs.YtllggdpfdoaigaaDoor
