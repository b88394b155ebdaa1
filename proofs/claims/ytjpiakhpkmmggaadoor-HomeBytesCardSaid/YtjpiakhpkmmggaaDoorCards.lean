/-
  DERIVED. GIVEN WITH THE SEED: THE CARDS: each row of YtjpiakhpkmmggaaDoorRows.lean that lists a variable, with what it lists TIED to the program's text (the seventh form; the later family's looks); each row that meets fmt, with fmt's text TOLD by the authors' own Lean function (tested against real Go, not proved from fmt's source: count such statements apart). THE CARD IS WHAT COUNTS. Prove the row's statement (the work); the ties are given (YtjpiakhpkmmggaaDoorTie.lean); close each card by the builder's one call (the guide's Derived/Test/ToyasCard.lean, 'card_holds'). Laid BY PROGRAM, IN A SANDBOX (cutbox-door.mjs). By AI agents, Wed Nov 11 2026. No macro, syntax, notation, axiom, sorry.
-/
import Derived.Test.YtjpiakhpkmmggaaDoorRows
import GoSem.ClaimSeven
namespace Go.Proofs.YtjpiakhpkmmggaaDoor
namespace Rows

/-- THE TIED CARD OF 'wicketlaw08.HomeBytes'. -/
def homeBytesCard : Claim7 := { stood := { row := homeBytesRow, standIns := [], harness := (true, "0f174a6f0abec61a1012bf39affe5262c58485a7fff4dd3f615ad30871a96f70"), looks := false }, kinds := [], alts := [], laidByText := true, laidKinds := [.data, .data], laidTests := true, laidLooks := .later }
def HomeBytesCardSaid : Prop := Claim7.holds Tryd.pinned (.plain (OpenSpec.ofChange homeBytesSpec)) homeBytesCard

/-- THE SECOND FORM's CARD OF 'wicketlaw08.HomeBytes'. -/
def homeBytesUptoCard : Claim7 := { stood := { row := homeBytesUptoRow, standIns := [], harness := (true, "0f174a6f0abec61a1012bf39affe5262c58485a7fff4dd3f615ad30871a96f70"), looks := false }, kinds := [], alts := [], laidByText := true, laidKinds := [.data, .data], laidTests := true, laidLooks := .later }
def HomeBytesUptoCardSaid : Prop := Claim7.holds Tryd.pinned (.plain (OpenSpec.upto homeBytesSpec)) homeBytesUptoCard
end Rows
end Go.Proofs.YtjpiakhpkmmggaaDoor
