/-
  DERIVED. GIVEN WITH THE SEED: THE CARDS: each row of YtdlfdieehioolaaDoorRows.lean that lists a variable, with what it lists TIED to the program's text (the seventh form; the later family's looks); each row that meets fmt, with fmt's text TOLD by the authors' own Lean function (tested against real Go, not proved from fmt's source: count such statements apart). THE CARD IS WHAT COUNTS. Prove the row's statement (the work); the ties are given (YtdlfdieehioolaaDoorTie.lean); close each card by the builder's one call (the guide's Derived/Test/ToyasCard.lean, 'card_holds'). Laid BY PROGRAM, IN A SANDBOX (cutbox-door.mjs). By AI agents, Wed Nov 11 2026. No macro, syntax, notation, axiom, sorry.
-/
import Derived.Test.YtdlfdieehioolaaDoorRows
import GoSem.ClaimSeven
namespace Go.Proofs.YtdlfdieehioolaaDoor
namespace Rows

/-- THE TIED CARD OF 'wicketlaw10.ScanFinds'. -/
def scanFindsCard : Claim7 := { stood := { row := scanFindsRow, standIns := [], harness := (true, "4d95bd90f6de97ed7f9ba72cd574c96e5603116fb784b555daf2e4897699dbc1"), looks := false }, kinds := [], alts := [], laidByText := true, laidKinds := [.data, .data], laidTests := true, laidLooks := .later }
def ScanFindsCardSaid : Prop := Claim7.holds Tryd.pinned (.plain (OpenSpec.ofChange scanFindsSpec)) scanFindsCard

/-- THE SECOND FORM's CARD OF 'wicketlaw10.ScanFinds'. -/
def scanFindsUptoCard : Claim7 := { stood := { row := scanFindsUptoRow, standIns := [], harness := (true, "4d95bd90f6de97ed7f9ba72cd574c96e5603116fb784b555daf2e4897699dbc1"), looks := false }, kinds := [], alts := [], laidByText := true, laidKinds := [.data, .data], laidTests := true, laidLooks := .later }
def ScanFindsUptoCardSaid : Prop := Claim7.holds Tryd.pinned (.plain (OpenSpec.upto scanFindsSpec)) scanFindsUptoCard
end Rows
end Go.Proofs.YtdlfdieehioolaaDoor
