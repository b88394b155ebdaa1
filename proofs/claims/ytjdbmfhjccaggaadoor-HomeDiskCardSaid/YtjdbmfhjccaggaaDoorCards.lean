/-
  DERIVED. GIVEN WITH THE SEED: THE CARDS: each row of YtjdbmfhjccaggaaDoorRows.lean that lists a variable, with what it lists TIED to the program's text (the seventh form; the later family's looks); each row that meets fmt, with fmt's text TOLD by the authors' own Lean function (tested against real Go, not proved from fmt's source: count such statements apart). THE CARD IS WHAT COUNTS. Prove the row's statement (the work); the ties are given (YtjdbmfhjccaggaaDoorTie.lean); close each card by the builder's one call (the guide's Derived/Test/ToyasCard.lean, 'card_holds'). Laid BY PROGRAM, IN A SANDBOX (cutbox-door.mjs). By AI agents, Wed Nov 11 2026. No macro, syntax, notation, axiom, sorry.
-/
import Derived.Test.YtjdbmfhjccaggaaDoorRows
import GoSem.ClaimSeven
namespace Go.Proofs.YtjdbmfhjccaggaaDoor
namespace Rows

/-- THE TIED CARD OF 'wicketlaw08.HomeDisk'. -/
def homeDiskCard : Claim7 := { stood := { row := homeDiskRow, standIns := [], harness := (true, "22d8f82b3f8da524b0ec645e01e17256bb85f7c91712a634323671cb2da36efc"), looks := false }, kinds := [], alts := [], laidByText := true, laidKinds := [.data, .data], laidTests := true, laidLooks := .later }
def HomeDiskCardSaid : Prop := Claim7.holds Tryd.pinned (.plain (OpenSpec.ofChange homeDiskSpec)) homeDiskCard

/-- THE SECOND FORM's CARD OF 'wicketlaw08.HomeDisk'. -/
def homeDiskUptoCard : Claim7 := { stood := { row := homeDiskUptoRow, standIns := [], harness := (true, "22d8f82b3f8da524b0ec645e01e17256bb85f7c91712a634323671cb2da36efc"), looks := false }, kinds := [], alts := [], laidByText := true, laidKinds := [.data, .data], laidTests := true, laidLooks := .later }
def HomeDiskUptoCardSaid : Prop := Claim7.holds Tryd.pinned (.plain (OpenSpec.upto homeDiskSpec)) homeDiskUptoCard
end Rows
end Go.Proofs.YtjdbmfhjccaggaaDoor
