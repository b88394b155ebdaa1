/- The law SectorNames (a closed sentence: it takes no argument) answers true in every world, and leaves what was there as it was. No condition. -/
import Derived.Test.YtapfniaallhpgacRows
import Derived.Test.YtapfniaallhpgacRow
namespace Go.Proofs.Ytapfniaallhpgac
open Go.ChangeShapes Go.WideShapes Go.ChangeAt Go.RowKit
set_option linter.unusedVariables false

namespace sectorNamesAt
theorem own : ownKnob Try.prog.godebug = none := by kernel_rfl
theorem mixed : Try.prog.follows .mixedOrders = true := by kernel_rfl

set_option maxRecDepth 100000 in
theorem answers : isTrue (exec (tableOf Try.prog) 100000 (.fn 6) [] (heap0 Try.prog)) = true := by kernel_rfl

theorem contract (H : Type) (enc : TypeId × Value → H) (W : World) (args : Array Value) (ds gs : List (DataW H)) (before : List MemPlace)
    (hW : DataW.Whole enc Try.prog Try.f6.params.toList Rows.sectorNamesSpec.vars false W args.toList ds gs before) :
    Calls Try.prog 6 args W fun e W' => ∃ v, e = .returned v ∧ Rows.sectorNamesSpec.post enc Try.prog Try.f6 false true false false W args v W' := by
  have hp : Try.f6.params.toList = [] := by kernel_rfl
  obtain ⟨_, _, hA, _⟩ := id hW
  rw [hp] at hA
  obtain ⟨ha, _, _⟩ := trodAll_nil hA
  obtain rfl : args = #[] := by cases args; simp_all
  refine (closed_calls (tableOf_ok Try.prog) mixed answers W).mono fun e W' h => ?_
  obtain ⟨rfl, hk⟩ := h
  exact ⟨_, rfl, closed_post (ty := 4) hW hp rfl (by kernel_rfl) Try.underlying4 rfl hk⟩

set_option maxRecDepth 100000 in
theorem lifted (os : Os) (started : os.Started) (H : Type) (enc : TypeId × Value → H) :
    ReturnsInHanded {} Try.checked os 6 .any (Rows.sectorNamesSpec.pre6 enc Try.prog Try.f6 Rows.sectorNamesRow.domain false) (Rows.sectorNamesSpec.post enc Try.prog Try.f6 false true false false) := by
  refine returnsInHanded_of_change (C := Try.checked) own started (by kernel_rfl) Try.func6
    (ChangeSpec.witness6 (enc := enc) (C := Try.checked) false ⟨#[], #[], []⟩ 8 (by kernel_rfl) (by kernel_rfl) (by kernel_rfl) (by kernel_rfl)) ?_
  intro W base args ds gs before _ hW _ _
  exact contract H enc W args ds gs before hW
end sectorNamesAt

theorem sectorNames_holds : Rows.SectorNamesSaid :=
  OpenClaim.holds_of_wide 6 Try.f6 rfl rfl rfl rfl rfl rfl rfl ⟨rfl, rfl, rfl, rfl, rfl⟩ rfl rfl rfl rfl rfl (by kernel_rfl) Try.func6 (by kernel_rfl)
    (of_decide_eq_true (by kernel_rfl)) (by unfold Func.isWrapper; first | (rw [if_pos (by decide +kernel)]; kernel_rfl) | (rw [if_neg (by decide +kernel)]; exact ⟨rfl, rfl⟩))
    (fun os started H enc _ => sectorNamesAt.lifted os started H enc)

#print axioms sectorNames_holds
end Go.Proofs.Ytapfniaallhpgac
