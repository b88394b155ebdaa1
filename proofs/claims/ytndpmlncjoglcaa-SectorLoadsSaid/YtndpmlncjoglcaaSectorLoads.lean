/- The law SectorLoads, for every image and every cut: it answers true, and what was there is as it was. No condition. -/
import Derived.Test.YtndpmlncjoglcaaRows
import Derived.Test.YtndpmlncjoglcaaSe5
import Derived.Test.YtndpmlncjoglcaaArgs
import Derived.WalkKit
import Derived.ProofKit
import Derived.OpenShut
namespace Go.Proofs.Ytndpmlncjoglcaa
open Go.ChangeShapes Go.WideShapes Go.ChangeAt Go.RowKit
set_option linter.unusedVariables false

namespace sectorLoadsAt
theorem own : ownKnob Try.prog.godebug = none := by kernel_rfl
theorem mixed : Try.prog.follows .mixedOrders = true := by kernel_rfl
theorem laidOut : laidOutB Try.prog = true := by kernel_rfl
/-- The worked example, closed. -/
theorem awakeTrue : isTrue (exec (tableOf Try.prog) 100000 (.fn 4) [] (heap0 Try.prog)) = true := by kernel_rfl
noncomputable def tab : Nat → Option AFun := tableX Try.prog [(4, yes)]
theorem tabOk : TOk Try.prog tab := tableX_ok _ _ fun x hx => by
  simp only [List.mem_cons, List.not_mem_nil, or_false] at hx
  subst hx
  exact ⟨by kernel_rfl, yes_ok (tableOf_ok _) mixed awakeTrue⟩
theorem t_law : tab k_wicketlaw04_SectorLoads = some c_wicketlaw04_SectorLoads := by kernel_rfl
theorem t_own : tab k_wicketlaw04_own = some c_wicketlaw04_own := by kernel_rfl
theorem t_marked : tab k_wicketlaw04_marked = some c_wicketlaw04_marked := by kernel_rfl
theorem t_load : tab k_sector_Load = some c_sector_Load := by kernel_rfl
theorem t_rload : tab k_wicketref04_Load = some c_wicketref04_Load := by kernel_rfl
theorem t_held : tab k_wicketlaw04_held = some c_wicketlaw04_held := by kernel_rfl
theorem t_image : tab k_sector_Disk_Image = some c_sector_Disk_Image := by kernel_rfl
theorem t_len : tab k_sector_Disk_Len = some c_sector_Disk_Len := by kernel_rfl
theorem t_waiting : tab k_sector_Disk_Waiting = some c_sector_Disk_Waiting := by kernel_rfl
theorem t_awake : tab k_wicketlaw04_awake = some ⟨[], .skip, some yes⟩ := by kernel_rfl
theorem tk : SeT tab := ⟨t_law, t_own, t_marked, t_load, t_rload, t_held, t_image, t_len, t_waiting, fun n H => exec_prim t_awake rfl⟩

set_option maxRecDepth 100000 in
theorem contract (H : Type) (enc : TypeId × Value → H) (W : World) (base : Nat) (args : Array Value) (ds gs : List (DataW H)) (before : List MemPlace)
    (hval : ∀ (j : Nat) t v, Try.f3.params[j]? = some t → args[j]? = some v → Value.okWide Try.prog W .any base t v)
    (hW : DataW.Whole enc Try.prog Try.f3.params.toList Rows.sectorLoadsSpec.vars false W args.toList ds gs before) :
    Calls Try.prog 3 args W fun e W' => ∃ v, e = .returned v ∧ Rows.sectorLoadsSpec.post enc Try.prog Try.f3 false true false false W args v W' := by
  have hW' := hW
  obtain ⟨p, q, hA0, hV, rfl, hfz, hnd⟩ := hW
  have hA : DataW.TrodAll enc Try.prog W 0 (fun _ => true) true Try.f3.params.toList args.toList ds p := hA0
  rw [Try.params3] at hA hval
  obtain ⟨v0, vs0, d0, ds0, p0, q0, hargs0, rfl, rfl, h0, r0⟩ := trodAll_cons hA
  obtain ⟨v1, vs1, d1, ds1, p1, q1, hargs1, rfl, rfl, h1, r1⟩ := trodAll_cons r0
  obtain ⟨hnil, rfl, rfl⟩ := trodAll_nil r1
  obtain rfl : args = #[v0, v1] := Array.ext' (by rw [hargs0, hargs1, hnil])
  subst hnil
  clear hA0
  obtain ⟨ι1, H1, a0, img, g1, g2, g3, g4, g5, g6⟩ := (args0 Try.prog W).one (fun z => .int .u8 z) Try.underlying22 (by kernel_rfl) ⟨_, hval 0 22 v0 rfl rfl⟩ h0 (fun ι z => .atom (.int _ _)) (fun u n y hy => by
    obtain ⟨z, hz, _⟩ := DataW.trod_int Try.underlying5 hy
    exact ⟨z, by simpa using hz⟩)
  obtain ⟨cut, rfl⟩ : ∃ z, v1 = .int .i64 z := okWide_int Try.underlying3 (hval 1 3 v1 rfl rfl)
  obtain ⟨H', he, _⟩ := loads_ok (m := 5000) tk g1.wf g4 cut (Nat.le_refl _)
  refine (g1.calls tabOk mixed (args := [a0, .int .i64 cut]) (args' := [v0, .int .i64 cut]) (.cons (.atom g5) (.cons (.atom (.int _ _)) .nil)) he).mono fun e W' h => ?_
  obtain ⟨rfl, hk⟩ := h
  refine ⟨_, rfl, args_post (ty := 4) laidOut hW' rfl (by kernel_rfl) Try.underlying4 rfl ?_ hk⟩
  rw [Try.params3]
  intro t ht
  simp only [List.mem_cons, List.not_mem_nil, or_false] at ht
  rcases ht with rfl | rfl
  · exact ⟨by kernel_rfl, of_decide_eq_true (by kernel_rfl)⟩
  · exact ⟨by kernel_rfl, of_decide_eq_true (by kernel_rfl)⟩

set_option maxRecDepth 100000 in
theorem lifted (os : Os) (started : os.Started) (H : Type) (enc : TypeId × Value → H) :
    ReturnsInHanded {} Try.checked os 3 .any (Rows.sectorLoadsSpec.pre6 enc Try.prog Try.f3 Rows.sectorLoadsRow.domain false) (Rows.sectorLoadsSpec.post enc Try.prog Try.f3 false true false false) := by
  refine returnsInHanded_of_change (C := Try.checked) own started (by kernel_rfl) Try.func3
    (ChangeSpec.witness6 (enc := enc) (C := Try.checked) false ⟨#[], #[.slice none 0 0, .int .i64 0], []⟩ 8 (by kernel_rfl) (by kernel_rfl) (by kernel_rfl) (by kernel_rfl)) ?_
  intro W base args ds gs before hval hW _ _
  exact contract H enc W base args ds gs before hval hW
end sectorLoadsAt

theorem sectorLoads_holds : Rows.SectorLoadsSaid :=
  OpenClaim.holds_of_wide 3 Try.f3 rfl rfl rfl rfl rfl rfl rfl ⟨rfl, rfl, rfl, rfl, rfl⟩ rfl rfl rfl rfl rfl (by kernel_rfl) Try.func3 (by kernel_rfl)
    (of_decide_eq_true (by kernel_rfl)) (by unfold Func.isWrapper; first | (rw [if_pos (by decide +kernel)]; kernel_rfl) | (rw [if_neg (by decide +kernel)]; exact ⟨rfl, rfl⟩))
    (fun os started H enc _ => sectorLoadsAt.lifted os started H enc)

#print axioms sectorLoads_holds
end Go.Proofs.Ytndpmlncjoglcaa
