/- The law BlocksNames (a closed sentence: it takes no argument) answers true in every world, and leaves what was there as it was. No condition. -/
import Derived.Test.YtdjcimbigjcdaaaRows
import Derived.Test.YtdjcimbigjcdaaaRow
namespace Go.Proofs.Ytdjcimbigjcdaaa
open Go.ChangeShapes Go.WideShapes Go.ChangeAt Go.RowKit
set_option linter.unusedVariables false

namespace blocksNamesAt
theorem own : ownKnob Try.prog.godebug = none := by kernel_rfl
theorem mixed : Try.prog.follows .mixedOrders = true := by kernel_rfl

set_option maxRecDepth 100000 in
theorem answers : isTrue (exec (tableOf Try.prog) 100000 (.fn 3) [] (heap0 Try.prog)) = true := by kernel_rfl

theorem contract (H : Type) (enc : TypeId × Value → H) (W : World) (args : Array Value) (ds gs : List (DataW H)) (before : List MemPlace)
    (hW : DataW.Whole enc Try.prog Try.f3.params.toList Rows.blocksNamesSpec.vars false W args.toList ds gs before) :
    Calls Try.prog 3 args W fun e W' => ∃ v, e = .returned v ∧ Rows.blocksNamesSpec.post enc Try.prog Try.f3 false true false false W args v W' := by
  have hp : Try.f3.params.toList = [] := by kernel_rfl
  obtain ⟨_, _, hA, _⟩ := id hW
  rw [hp] at hA
  obtain ⟨ha, _, _⟩ := trodAll_nil hA
  obtain rfl : args = #[] := by cases args; simp_all
  refine (closed_calls (tableOf_ok Try.prog) mixed answers W).mono fun e W' h => ?_
  obtain ⟨rfl, hk⟩ := h
  exact ⟨_, rfl, closed_post (ty := 4) hW hp rfl (by kernel_rfl) Try.underlying4 rfl hk⟩

set_option maxRecDepth 100000 in
theorem lifted (os : Os) (started : os.Started) (H : Type) (enc : TypeId × Value → H) :
    ReturnsInHanded {} Try.checked os 3 .any (Rows.blocksNamesSpec.pre6 enc Try.prog Try.f3 Rows.blocksNamesRow.domain false) (Rows.blocksNamesSpec.post enc Try.prog Try.f3 false true false false) := by
  refine returnsInHanded_of_change (C := Try.checked) own started (by kernel_rfl) Try.func3
    (ChangeSpec.witness6 (enc := enc) (C := Try.checked) false ⟨#[], #[], []⟩ 8 (by kernel_rfl) (by kernel_rfl) (by kernel_rfl) (by kernel_rfl)) ?_
  intro W base args ds gs before _ hW _ _
  exact contract H enc W args ds gs before hW
end blocksNamesAt

theorem blocksNames_holds : Rows.BlocksNamesSaid :=
  OpenClaim.holds_of_wide 3 Try.f3 rfl rfl rfl rfl rfl rfl rfl ⟨rfl, rfl, rfl, rfl, rfl⟩ rfl rfl rfl rfl rfl (by kernel_rfl) Try.func3 (by kernel_rfl)
    (of_decide_eq_true (by kernel_rfl)) (by unfold Func.isWrapper; first | (rw [if_pos (by decide +kernel)]; kernel_rfl) | (rw [if_neg (by decide +kernel)]; exact ⟨rfl, rfl⟩))
    (fun os started H enc _ => blocksNamesAt.lifted os started H enc)

#print axioms blocksNames_holds
end Go.Proofs.Ytdjcimbigjcdaaa
