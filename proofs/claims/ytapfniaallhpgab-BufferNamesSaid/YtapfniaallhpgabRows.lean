/-
  No cell of these rows narrows 'for every input' (looked for: loops, veiled, ifaces, maps, wideKeys, modest, calm, conditions, laid).
  DERIVED. THE GIVEN ROWS OF THIS SEAT. 6 by the template 'for every input the law returns true; each argument reads behind the call as it read before'; 0 by the template 'total and deterministic' (their statements: YtapfniaallhpgabTotals.lean).
  GIVEN WITH THE SEED: the statements are not yours to turn. If you find one false, say at which input.
  Laid BY PROGRAM, IN A SANDBOX (cutbox-rows.mjs): the forced cells as the released guide's own fill.sh prints them over the translation c1a6638d0297cdc6… (all of the seat's roots in one cut). By AI agents, Wed Nov 11 2026. No macro, syntax, notation, axiom, sorry.
-/
import Derived.Test.YtapfniaallhpgabChecked
import GoSem.Claim
import GoSem.ClaimJoined
import GoSem.ClaimMapViews
import Derived.JoinedTies
import Derived.KernelRfl
namespace Go.Proofs.Ytapfniaallhpgab
/- THE CELL 'sum', in the pinned program and in every row, IS THE sha256 OF THE DUMP (.gsa) THAT YtapfniaallhpgabProg.lean LOADS. Nothing in Lean hashes anything: it is a label: what it is worth is what the hold of that sum in a sandbox is worth. -/
noncomputable def Try.pinned : Pinned := { name := "ytapfniaallhpgab", sum := "c1a6638d0297cdc6c972f443a168abd9d7ca81f07512b1c96e39ac288b292288", checked := Try.checked }
namespace Rows
def none {H : Type} : Left H := { results := [], args := [] }

/-- 'wicketlaw11.TicketPlays': WHATEVER THE INPUT: true; the input reads as it did. -/
def ticketPlaysSpec : ChangeSpec := { name := "ticketPlays", fn := fun _ => fun
  | [d] => { results := [.lit (.bool true)], args := [d] }
  | _ => none }
def ticketPlaysRow : OpenClaim := { program := "ytapfniaallhpgab", sum := "c1a6638d0297cdc6c972f443a168abd9d7ca81f07512b1c96e39ac288b292288", func := "wicket/wicketlaw11.TicketPlays", spec := "ticketPlays", unfollowed := true, recurses := true, apart := false }
def TicketPlaysSaid : Prop := ticketPlaysRow.holds Try.pinned (OpenSpec.ofChange ticketPlaysSpec)

/-- ITS FALSE NEIGHBOUR: 'it returns false'. Refute it at one input. -/
def ticketPlaysWrong : ChangeSpec := { name := "ticketPlays", fn := fun _ => fun
  | [d] => { results := [.lit (.bool false)], args := [d] }
  | _ => none }
def TicketPlaysWrongFalsely : Prop := ticketPlaysRow.holds Try.pinned (OpenSpec.ofChange ticketPlaysWrong)

/-- 'wicketlaw11.TicketNone': WHATEVER THE INPUT: true; the input reads as it did. -/
def ticketNoneSpec : ChangeSpec := { name := "ticketNone", fn := fun _ => fun
  | [] => { results := [.lit (.bool true)], args := [] }
  | _ => none }
def ticketNoneRow : OpenClaim := { program := "ytapfniaallhpgab", sum := "c1a6638d0297cdc6c972f443a168abd9d7ca81f07512b1c96e39ac288b292288", func := "wicket/wicketlaw11.TicketNone", spec := "ticketNone", unfollowed := true, recurses := true, apart := false }
def TicketNoneSaid : Prop := ticketNoneRow.holds Try.pinned (OpenSpec.ofChange ticketNoneSpec)

/-- ITS FALSE NEIGHBOUR: 'it returns false'. Refute it at one input. -/
def ticketNoneWrong : ChangeSpec := { name := "ticketNone", fn := fun _ => fun
  | [] => { results := [.lit (.bool false)], args := [] }
  | _ => none }
def TicketNoneWrongFalsely : Prop := ticketNoneRow.holds Try.pinned (OpenSpec.ofChange ticketNoneWrong)

/-- 'wicketlaw12.LedgerNames': WHATEVER THE INPUT: true; the input reads as it did. -/
def ledgerNamesSpec : ChangeSpec := { name := "ledgerNames", fn := fun _ => fun
  | [] => { results := [.lit (.bool true)], args := [] }
  | _ => none }
def ledgerNamesRow : OpenClaim := { program := "ytapfniaallhpgab", sum := "c1a6638d0297cdc6c972f443a168abd9d7ca81f07512b1c96e39ac288b292288", func := "wicket/wicketlaw12.LedgerNames", spec := "ledgerNames", inPlace := ["maps.clone"], apart := false }
def LedgerNamesSaid : Prop := ledgerNamesRow.holds Try.pinned (OpenSpec.ofChange ledgerNamesSpec)

/-- ITS FALSE NEIGHBOUR: 'it returns false'. Refute it at one input. -/
def ledgerNamesWrong : ChangeSpec := { name := "ledgerNames", fn := fun _ => fun
  | [] => { results := [.lit (.bool false)], args := [] }
  | _ => none }
def LedgerNamesWrongFalsely : Prop := ledgerNamesRow.holds Try.pinned (OpenSpec.ofChange ledgerNamesWrong)

/-- 'wicketlaw12.LedgerPlays': WHATEVER THE INPUT: true; the input reads as it did. -/
def ledgerPlaysSpec : ChangeSpec := { name := "ledgerPlays", fn := fun _ => fun
  | [d1, d2, d3] => { results := [.lit (.bool true)], args := [d1, d2, d3] }
  | _ => none }
def ledgerPlaysRow : OpenClaim := { program := "ytapfniaallhpgab", sum := "c1a6638d0297cdc6c972f443a168abd9d7ca81f07512b1c96e39ac288b292288", func := "wicket/wicketlaw12.LedgerPlays", spec := "ledgerPlays", inPlace := ["maps.clone"], apart := false }
def LedgerPlaysSaid : Prop := ledgerPlaysRow.holds Try.pinned (OpenSpec.ofChange ledgerPlaysSpec)

/-- ITS FALSE NEIGHBOUR: 'it returns false'. Refute it at one input. -/
def ledgerPlaysWrong : ChangeSpec := { name := "ledgerPlays", fn := fun _ => fun
  | [d1, d2, d3] => { results := [.lit (.bool false)], args := [d1, d2, d3] }
  | _ => none }
def LedgerPlaysWrongFalsely : Prop := ledgerPlaysRow.holds Try.pinned (OpenSpec.ofChange ledgerPlaysWrong)

/-- 'wicketlaw16.BufferNames': WHATEVER THE INPUT: true; the input reads as it did. -/
def bufferNamesSpec : ChangeSpec := { name := "bufferNames", fn := fun _ => fun
  | [] => { results := [.lit (.bool true)], args := [] }
  | _ => none }
def bufferNamesRow : OpenClaim := { program := "ytapfniaallhpgab", sum := "c1a6638d0297cdc6c972f443a168abd9d7ca81f07512b1c96e39ac288b292288", func := "wicket/wicketlaw16.BufferNames", spec := "bufferNames", inPlace := ["maps.clone"], apart := false }
def BufferNamesSaid : Prop := bufferNamesRow.holds Try.pinned (OpenSpec.ofChange bufferNamesSpec)

/-- ITS FALSE NEIGHBOUR: 'it returns false'. Refute it at one input. -/
def bufferNamesWrong : ChangeSpec := { name := "bufferNames", fn := fun _ => fun
  | [] => { results := [.lit (.bool false)], args := [] }
  | _ => none }
def BufferNamesWrongFalsely : Prop := bufferNamesRow.holds Try.pinned (OpenSpec.ofChange bufferNamesWrong)

/-- 'wicketlaw16.BufferPlays': WHATEVER THE INPUT: true; the input reads as it did. -/
def bufferPlaysSpec : ChangeSpec := { name := "bufferPlays", fn := fun _ => fun
  | [d1, d2, d3] => { results := [.lit (.bool true)], args := [d1, d2, d3] }
  | _ => none }
def bufferPlaysRow : OpenClaim := { program := "ytapfniaallhpgab", sum := "c1a6638d0297cdc6c972f443a168abd9d7ca81f07512b1c96e39ac288b292288", func := "wicket/wicketlaw16.BufferPlays", spec := "bufferPlays", inPlace := ["maps.clone"], apart := false }
def BufferPlaysSaid : Prop := bufferPlaysRow.holds Try.pinned (OpenSpec.ofChange bufferPlaysSpec)

/-- ITS FALSE NEIGHBOUR: 'it returns false'. Refute it at one input. -/
def bufferPlaysWrong : ChangeSpec := { name := "bufferPlays", fn := fun _ => fun
  | [d1, d2, d3] => { results := [.lit (.bool false)], args := [d1, d2, d3] }
  | _ => none }
def BufferPlaysWrongFalsely : Prop := bufferPlaysRow.holds Try.pinned (OpenSpec.ofChange bufferPlaysWrong)

/- THE SECOND FORM. 'bulk': how many values and letters a reading holds, each counted each time it is reached (what is shared counts as often as it is met; a slice's spare places count too). A statement '..UptoSaid' is the law's where the arguments, and the package variables that the reading takes, are together of bulk at most 1048576: NARROWER than '..Said'. Prove '..Said' where nothing that the law and all that it calls make is longer than what came in: it says more and counts as full. Else prove '..UptoSaid'. A law counts once. -/
mutual
def uptoBulk {H : Type} : DataW H → Nat
  | .lit (.string bytes) => bytes.length + 1
  | .lit _ => 1
  | .nil => 1
  | .ptr d => uptoBulk d + 1
  | .slice elems spare => uptoBulkAll elems + uptoBulkAll spare + 1
  | .agg parts => uptoBulkAll parts + 1
  | .iface _ d => uptoBulk d + 1
  | .map entries => uptoBulkEntries entries + 1
  | .held _ => 1
def uptoBulkAll {H : Type} : List (DataW H) → Nat
  | [] => 0
  | d :: r => uptoBulk d + uptoBulkAll r
def uptoBulkEntries {H : Type} : List (Lit × DataW H) → Nat
  | [] => 0
  | x :: r => uptoBulkEntry x + uptoBulkEntries r
def uptoBulkEntry {H : Type} : Lit × DataW H → Nat
  | (.string bytes, d) => bytes.length + uptoBulk d + 1
  | (_, d) => uptoBulk d + 1
 end
def uptoSmall : (H : Type) → List (DataW H) → Bool := fun _ ds => decide (uptoBulkAll ds ≤ 1048576)
def OpenSpec.upto (s : _root_.Go.ChangeSpec) : _root_.Go.OpenSpec := { _root_.Go.OpenSpec.ofChange s with cond := some uptoSmall }

/-- 'wicketlaw11.TicketPlays', WHERE WHAT IT READS IS OF BULK AT MOST 1048576: true; the input reads as it did. -/
def ticketPlaysUptoRow : OpenClaim := { program := "ytapfniaallhpgab", sum := "c1a6638d0297cdc6c972f443a168abd9d7ca81f07512b1c96e39ac288b292288", func := "wicket/wicketlaw11.TicketPlays", spec := "ticketPlays", unfollowed := true, recurses := true, apart := false, narrowed := true }
def TicketPlaysUptoSaid : Prop := ticketPlaysUptoRow.holds Try.pinned (OpenSpec.upto ticketPlaysSpec)

/-- 'wicketlaw11.TicketNone', WHERE WHAT IT READS IS OF BULK AT MOST 1048576: true; the input reads as it did. -/
def ticketNoneUptoRow : OpenClaim := { program := "ytapfniaallhpgab", sum := "c1a6638d0297cdc6c972f443a168abd9d7ca81f07512b1c96e39ac288b292288", func := "wicket/wicketlaw11.TicketNone", spec := "ticketNone", unfollowed := true, recurses := true, apart := false, narrowed := true }
def TicketNoneUptoSaid : Prop := ticketNoneUptoRow.holds Try.pinned (OpenSpec.upto ticketNoneSpec)

/-- 'wicketlaw12.LedgerNames', WHERE WHAT IT READS IS OF BULK AT MOST 1048576: true; the input reads as it did. -/
def ledgerNamesUptoRow : OpenClaim := { program := "ytapfniaallhpgab", sum := "c1a6638d0297cdc6c972f443a168abd9d7ca81f07512b1c96e39ac288b292288", func := "wicket/wicketlaw12.LedgerNames", spec := "ledgerNames", inPlace := ["maps.clone"], apart := false, narrowed := true }
def LedgerNamesUptoSaid : Prop := ledgerNamesUptoRow.holds Try.pinned (OpenSpec.upto ledgerNamesSpec)

/-- 'wicketlaw12.LedgerPlays', WHERE WHAT IT READS IS OF BULK AT MOST 1048576: true; the input reads as it did. -/
def ledgerPlaysUptoRow : OpenClaim := { program := "ytapfniaallhpgab", sum := "c1a6638d0297cdc6c972f443a168abd9d7ca81f07512b1c96e39ac288b292288", func := "wicket/wicketlaw12.LedgerPlays", spec := "ledgerPlays", inPlace := ["maps.clone"], apart := false, narrowed := true }
def LedgerPlaysUptoSaid : Prop := ledgerPlaysUptoRow.holds Try.pinned (OpenSpec.upto ledgerPlaysSpec)

/-- 'wicketlaw16.BufferNames', WHERE WHAT IT READS IS OF BULK AT MOST 1048576: true; the input reads as it did. -/
def bufferNamesUptoRow : OpenClaim := { program := "ytapfniaallhpgab", sum := "c1a6638d0297cdc6c972f443a168abd9d7ca81f07512b1c96e39ac288b292288", func := "wicket/wicketlaw16.BufferNames", spec := "bufferNames", inPlace := ["maps.clone"], apart := false, narrowed := true }
def BufferNamesUptoSaid : Prop := bufferNamesUptoRow.holds Try.pinned (OpenSpec.upto bufferNamesSpec)

/-- 'wicketlaw16.BufferPlays', WHERE WHAT IT READS IS OF BULK AT MOST 1048576: true; the input reads as it did. -/
def bufferPlaysUptoRow : OpenClaim := { program := "ytapfniaallhpgab", sum := "c1a6638d0297cdc6c972f443a168abd9d7ca81f07512b1c96e39ac288b292288", func := "wicket/wicketlaw16.BufferPlays", spec := "bufferPlays", inPlace := ["maps.clone"], apart := false, narrowed := true }
def BufferPlaysUptoSaid : Prop := bufferPlaysUptoRow.holds Try.pinned (OpenSpec.upto bufferPlaysSpec)

end Rows
end Go.Proofs.Ytapfniaallhpgab
