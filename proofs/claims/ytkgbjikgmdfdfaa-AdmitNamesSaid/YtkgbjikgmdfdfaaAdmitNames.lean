/- The law AdmitNames (a closed sentence: it takes no argument) answers true in every world, and leaves what was there as it was. No condition. -/
import Derived.Test.YtkgbjikgmdfdfaaRows
import Derived.Test.YtkgbjikgmdfdfaaRow
import Derived.Test.YtkgbjikgmdfdfaaPrim2
import Derived.Shelf.SlMaps.Clone
import Derived.Shelf.SlGeneric
import Derived.Ground.SlmcProg
namespace Go.Proofs.Ytkgbjikgmdfdfaa
open Go.ChangeShapes Go.WideShapes Go.ChangeAt Go.RowKit
set_option linter.unusedVariables false

def Try.admitNamesClone_ren : Go.Shelf.Ren := ⟨fun | 5 => 53 | 7 => 59 | n => n, fun | 23 => 71 | 25 => 30 | 3 => 3 | 4 => 4 | 20 => 20 | n => n, fun | n => n⟩
theorem Try.admitNamesClone : Go.Proofs.SlLaysW.n5 Try.prog Try.admitNamesClone_ren := {
  mixed := by kernel_rfl
  f5 := ⟨Try.f53.name, by decide, Try.func53.trans (congrArg some (by kernel_rfl))⟩
  f7 := Try.func59.trans (congrArg some (by kernel_rfl))
  t4 := Try.underlying4
  a4 := Try.isAgg4
  z4 := Try.sizeOf4
  v4 := Try.zeroValue4
  t20 := Try.underlying20
  a20 := Try.isAgg20
  z20 := Try.sizeOf20
  v20 := Try.zeroValue20
  t23 := Try.underlying71
  a23 := Try.isAgg71
  z23 := Try.sizeOf71
  v23 := Try.zeroValue71 }
namespace admitNamesAt
theorem own : ownKnob Try.prog.godebug = none := by kernel_rfl
theorem mixed : Try.prog.follows .mixedOrders = true := by kernel_rfl
theorem tabOk : TOk Try.prog (tableX Try.prog [(53, cloneM)]) := tableX_ok _ _ fun x hx => by
  simp only [List.mem_cons, List.not_mem_nil, or_false] at hx
  subst hx
  exact ⟨by kernel_rfl, cloneM_ok (AnyW.maps_Clone Try.admitNamesClone) (AnyW.maps_Clone_nil Try.admitNamesClone)⟩

set_option maxRecDepth 100000 in
theorem answers : isTrue (exec (tableX Try.prog [(53, cloneM)]) 100000 (.fn 3) [] (heap0 Try.prog)) = true := by kernel_rfl

theorem contract (H : Type) (enc : TypeId × Value → H) (W : World) (args : Array Value) (ds gs : List (DataW H)) (before : List MemPlace)
    (hW : DataW.Whole enc Try.prog Try.f3.params.toList Rows.admitNamesSpec.vars false W args.toList ds gs before) :
    Calls Try.prog 3 args W fun e W' => ∃ v, e = .returned v ∧ Rows.admitNamesSpec.post enc Try.prog Try.f3 false true false false W args v W' := by
  have hp : Try.f3.params.toList = [] := by kernel_rfl
  obtain ⟨_, _, hA, _⟩ := id hW
  rw [hp] at hA
  obtain ⟨ha, _, _⟩ := trodAll_nil hA
  obtain rfl : args = #[] := by cases args; simp_all
  refine (closed_calls tabOk mixed answers W).mono fun e W' h => ?_
  obtain ⟨rfl, hk⟩ := h
  exact ⟨_, rfl, closed_post (ty := 4) hW hp rfl (by kernel_rfl) Try.underlying4 rfl hk⟩

set_option maxRecDepth 100000 in
theorem lifted (os : Os) (started : os.Started) (H : Type) (enc : TypeId × Value → H) :
    ReturnsInHanded {} Try.checked os 3 .any (Rows.admitNamesSpec.pre6 enc Try.prog Try.f3 Rows.admitNamesRow.domain false) (Rows.admitNamesSpec.post enc Try.prog Try.f3 false true false false) := by
  refine returnsInHanded_of_change (C := Try.checked) own started (by kernel_rfl) Try.func3
    (ChangeSpec.witness6 (enc := enc) (C := Try.checked) false ⟨#[], #[], []⟩ 8 (by kernel_rfl) (by kernel_rfl) (by kernel_rfl) (by kernel_rfl)) ?_
  intro W base args ds gs before _ hW _ _
  exact contract H enc W args ds gs before hW
end admitNamesAt

theorem admitNames_holds : Rows.AdmitNamesSaid :=
  OpenClaim.holds_of_wide 3 Try.f3 rfl rfl rfl rfl rfl rfl rfl ⟨rfl, rfl, rfl, rfl, rfl⟩ rfl rfl rfl rfl rfl (by kernel_rfl) Try.func3 (by kernel_rfl)
    (of_decide_eq_true (by kernel_rfl)) (by unfold Func.isWrapper; first | (rw [if_pos (by decide +kernel)]; kernel_rfl) | (rw [if_neg (by decide +kernel)]; exact ⟨rfl, rfl⟩))
    (fun os started H enc _ => admitNamesAt.lifted os started H enc)

#print axioms admitNames_holds
end Go.Proofs.Ytkgbjikgmdfdfaa
