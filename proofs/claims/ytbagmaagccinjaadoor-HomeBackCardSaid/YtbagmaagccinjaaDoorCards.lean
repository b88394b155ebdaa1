/-
  DERIVED. GIVEN WITH THE SEED: THE CARDS: each row of YtbagmaagccinjaaDoorRows.lean that lists a variable, with what it lists TIED to the program's text (the seventh form; the later family's looks); each row that meets fmt, with fmt's text TOLD by the authors' own Lean function (tested against real Go, not proved from fmt's source: count such statements apart). THE CARD IS WHAT COUNTS. Prove the row's statement (the work); the ties are given (YtbagmaagccinjaaDoorTie.lean); close each card by the builder's one call (the guide's Derived/Test/ToyasCard.lean, 'card_holds'). Laid BY PROGRAM, IN A SANDBOX (cutbox-door.mjs). By AI agents, Wed Nov 11 2026. No macro, syntax, notation, axiom, sorry.
-/
import Derived.Test.YtbagmaagccinjaaDoorRows
import GoSem.ClaimSeven
namespace Go.Proofs.YtbagmaagccinjaaDoor
namespace Rows

/-- THE TIED CARD OF 'wicketlaw08.HomeBack'. -/
def homeBackCard : Claim7 := { stood := { row := homeBackRow, standIns := [], harness := (true, "b0908b1c410310be42594683a1249e884678b2aa94b320396e93d5fa4da0d89b"), looks := false }, kinds := [], alts := [], laidByText := true, laidKinds := [.data, .data], laidTests := true, laidLooks := .later }
def HomeBackCardSaid : Prop := Claim7.holds Tryd.pinned (.plain (OpenSpec.ofChange homeBackSpec)) homeBackCard

/-- THE SECOND FORM's CARD OF 'wicketlaw08.HomeBack'. -/
def homeBackUptoCard : Claim7 := { stood := { row := homeBackUptoRow, standIns := [], harness := (true, "b0908b1c410310be42594683a1249e884678b2aa94b320396e93d5fa4da0d89b"), looks := false }, kinds := [], alts := [], laidByText := true, laidKinds := [.data, .data], laidTests := true, laidLooks := .later }
def HomeBackUptoCardSaid : Prop := Claim7.holds Tryd.pinned (.plain (OpenSpec.upto homeBackSpec)) homeBackUptoCard
end Rows
end Go.Proofs.YtbagmaagccinjaaDoor
