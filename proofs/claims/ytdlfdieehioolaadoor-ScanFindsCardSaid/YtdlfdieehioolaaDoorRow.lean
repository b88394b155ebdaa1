/- From the abstract machine to a row. -/
import Derived.Test.YtdlfdieehioolaaDoorCode8
import Derived.WalkKit
import Derived.ProofKit
import Derived.OpenShut
namespace Go.Proofs.YtdlfdieehioolaaDoor
open Go Go.ChangeShapes Go.WideShapes Go.ChangeAt Go.RowKit
set_option linter.unusedVariables false
set_option linter.unusedSimpArgs false
def tableOf (P : Program) (f : Nat) : Option AFun := bif oneBody P f then (match P.funcs[f]? with | some fn => compFun P fn | none => none) else none
theorem tableOf_ok (P : Program) : TOk P (tableOf P) := by
  intro f af h
  unfold tableOf at h
  cases h1 : oneBody P f with
  | false => rw [h1] at h; cases h
  | true =>
    rw [h1] at h
    simp only [cond_true] at h
    cases h2 : P.funcs[f]? with
    | none => simp [h2] at h
    | some fn =>
      simp only [h2] at h
      refine ⟨rfl, .inr ⟨?_, fn, rfl, .inl h⟩⟩
      unfold compFun at h
      obtain ⟨c, _, h⟩ := bind_some h
      obtain ⟨b, _, h⟩ := bind_some h
      obtain ⟨rs, _, h⟩ := bind_some h
      cases h; rfl
def isTrue : Option (Value × Heap) → Bool
  | some (.bool true, _) => true
  | _ => false
theorem isTrue_inv {x : Option (Value × Heap)} (h : isTrue x = true) : ∃ H', x = some (.bool true, H') := by
  unfold isTrue at h
  split at h
  · exact ⟨_, rfl⟩
  · cases h
def glob0 (P : Program) : Emb := fun g => if g < P.globals.size then some (g, 0, 0) else none
def heap0 (P : Program) : Heap := { tr := .nil, next := P.globals.size }
end Go.Proofs.YtdlfdieehioolaaDoor
