/-
  DERIVED. GIVEN WITH THE SEED: THE CARDS: each row of YtafiigaiejpgiaaDoorRows.lean that lists a variable, with what it lists TIED to the program's text (the seventh form; the later family's looks); each row that meets fmt, with fmt's text TOLD by the authors' own Lean function (tested against real Go, not proved from fmt's source: count such statements apart). THE CARD IS WHAT COUNTS. Prove the row's statement (the work); the ties are given (YtafiigaiejpgiaaDoorTie.lean); close each card by the builder's one call (the guide's Derived/Test/ToyasCard.lean, 'card_holds'). Laid BY PROGRAM, IN A SANDBOX (cutbox-door.mjs). By AI agents, Wed Nov 11 2026. No macro, syntax, notation, axiom, sorry.
-/
import Derived.Test.YtafiigaiejpgiaaDoorRows
import GoSem.ClaimSeven
namespace Go.Proofs.YtafiigaiejpgiaaDoor
namespace Rows

/-- THE TIED CARD OF 'wicketlaw08.HomeKeeps'. -/
def homeKeepsCard : Claim7 := { stood := { row := homeKeepsRow, standIns := [], harness := (true, "746014a0bce3c8cc5b4d6066b94de85364a8abb5a563569d5896c9328a4e7f55"), looks := false }, kinds := [], alts := [], laidByText := true, laidKinds := [.data, .data], laidTests := true, laidLooks := .later }
def HomeKeepsCardSaid : Prop := Claim7.holds Tryd.pinned (.plain (OpenSpec.ofChange homeKeepsSpec)) homeKeepsCard

/-- THE SECOND FORM's CARD OF 'wicketlaw08.HomeKeeps'. -/
def homeKeepsUptoCard : Claim7 := { stood := { row := homeKeepsUptoRow, standIns := [], harness := (true, "746014a0bce3c8cc5b4d6066b94de85364a8abb5a563569d5896c9328a4e7f55"), looks := false }, kinds := [], alts := [], laidByText := true, laidKinds := [.data, .data], laidTests := true, laidLooks := .later }
def HomeKeepsUptoCardSaid : Prop := Claim7.holds Tryd.pinned (.plain (OpenSpec.upto homeKeepsSpec)) homeKeepsUptoCard
end Rows
end Go.Proofs.YtafiigaiejpgiaaDoor
