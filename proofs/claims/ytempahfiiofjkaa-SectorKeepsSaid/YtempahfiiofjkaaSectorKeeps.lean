/- The law SectorKeeps, for all arguments: it answers true, and what was there is as it was. No condition. -/
import Derived.Test.YtempahfiiofjkaaRows
import Derived.Test.YtempahfiiofjkaaLSectorKeeps
import Derived.Test.YtempahfiiofjkaaSk9
import Derived.Test.YtempahfiiofjkaaB10
import Derived.Test.YtempahfiiofjkaaPrim2
import Derived.Test.YtempahfiiofjkaaArgs2
import Derived.WalkKit
import Derived.ProofKit
import Derived.OpenShut
namespace Go.Proofs.Ytempahfiiofjkaa
open Go.ChangeShapes Go.WideShapes Go.ChangeAt Go.RowKit
set_option linter.unusedVariables false

namespace sectorKeepsAt
theorem own : ownKnob Try.prog.godebug = none := by kernel_rfl
theorem mixed : Try.prog.follows .mixedOrders = true := by kernel_rfl
theorem laidOut : laidOutB Try.prog = true := by kernel_rfl
/-- The worked example, closed. -/
theorem awakeTrue : isTrue (exec (tableOf Try.prog) 100000 (.fn 4) [] (heap0 Try.prog)) = true := by kernel_rfl
noncomputable def tab : Nat → Option AFun := tableX Try.prog [(4, yes)]
theorem tabOk : TOk Try.prog tab := tableX_ok _ _ fun x hx => by
  simp only [List.mem_cons, List.not_mem_nil, or_false] at hx
  rcases hx with rfl
  · exact ⟨by kernel_rfl, yes_ok (tableOf_ok _) mixed awakeTrue⟩
theorem t_wicketlaw04_awake : PrimT_wicketlaw04_awake tab := by unfold PrimT_wicketlaw04_awake; kernel_rfl
theorem t_wicketlaw04_some : tab k_wicketlaw04_some = some ⟨List.map (·.1) rs_wicketlaw04_some, C2.erase c2_wicketlaw04_some, none⟩ := by kernel_rfl
theorem t_sector_New : tab k_sector_New = some ⟨List.map (·.1) rs_sector_New, C2.erase c2_sector_New, none⟩ := by kernel_rfl
theorem t_sector_Disk_Flush : tab k_sector_Disk_Flush = some ⟨List.map (·.1) rs_sector_Disk_Flush, C2.erase c2_sector_Disk_Flush, none⟩ := by kernel_rfl
theorem t_sector_Disk_Image : tab k_sector_Disk_Image = some ⟨List.map (·.1) rs_sector_Disk_Image, C2.erase c2_sector_Disk_Image, none⟩ := by kernel_rfl
theorem t_sector_Disk_Crash : tab k_sector_Disk_Crash = some ⟨List.map (·.1) rs_sector_Disk_Crash, C2.erase c2_sector_Disk_Crash, none⟩ := by kernel_rfl
theorem t_sector_Disk_Len : tab k_sector_Disk_Len = some ⟨List.map (·.1) rs_sector_Disk_Len, C2.erase c2_sector_Disk_Len, none⟩ := by kernel_rfl
theorem t_slices_Clone_byte_byte : tab k_slices_Clone_byte_byte = some ⟨List.map (·.1) rs_slices_Clone_byte_byte, C2.erase c2_slices_Clone_byte_byte, none⟩ := by kernel_rfl
theorem t_slices_Clone_sector_data_sector_data : tab k_slices_Clone_sector_data_sector_data = some ⟨List.map (·.1) rs_slices_Clone_sector_data_sector_data, C2.erase c2_slices_Clone_sector_data_sector_data, none⟩ := by kernel_rfl
theorem t_slices_Clone_sector_waiting_sector_waiting : tab k_slices_Clone_sector_waiting_sector_waiting = some ⟨List.map (·.1) rs_slices_Clone_sector_waiting_sector_waiting, C2.erase c2_slices_Clone_sector_waiting_sector_waiting, none⟩ := by kernel_rfl
theorem t_sector_Disk_asked : tab k_sector_Disk_asked = some ⟨List.map (·.1) rs_sector_Disk_asked, C2.erase c2_sector_Disk_asked, none⟩ := by kernel_rfl
theorem t_slices_Backward_sector_waiting_sector_waiting_1 : tab k_slices_Backward_sector_waiting_sector_waiting_1 = some ⟨[], C2.erase c2_slices_Backward_sector_waiting_sector_waiting_1, none⟩ := by kernel_rfl
theorem t_sector_Disk_Waiting : tab k_sector_Disk_Waiting = some ⟨List.map (·.1) rs_sector_Disk_Waiting, C2.erase c2_sector_Disk_Waiting, none⟩ := by kernel_rfl
theorem t_sector_Disk_Copy : tab k_sector_Disk_Copy = some ⟨List.map (·.1) rs_sector_Disk_Copy, C2.erase c2_sector_Disk_Copy, none⟩ := by kernel_rfl
theorem t_sector_Disk_Write : tab k_sector_Disk_Write = some ⟨List.map (·.1) rs_sector_Disk_Write, C2.erase c2_sector_Disk_Write, none⟩ := by kernel_rfl
theorem t_slices_Backward_sector_waiting_sector_waiting : tab k_slices_Backward_sector_waiting_sector_waiting = some ⟨List.map (·.1) rs_slices_Backward_sector_waiting_sector_waiting, C2.erase c2_slices_Backward_sector_waiting_sector_waiting, none⟩ := by kernel_rfl
theorem t_wicketlaw04_put : tab k_wicketlaw04_put = some ⟨List.map (·.1) rs_wicketlaw04_put, C2.erase c2_wicketlaw04_put, none⟩ := by kernel_rfl
theorem t_sector_Disk_Read : tab k_sector_Disk_Read = some ⟨List.map (·.1) rs_sector_Disk_Read, C2.erase c2_sector_Disk_Read, none⟩ := by kernel_rfl
theorem t_wicketlaw04_SectorKeeps : tab k_wicketlaw04_SectorKeeps = some ⟨List.map (·.1) rs_wicketlaw04_SectorKeeps, C2.erase c2_wicketlaw04_SectorKeeps, none⟩ := by kernel_rfl
theorem tk : LfT tab := ⟨t_wicketlaw04_awake, t_wicketlaw04_some, t_sector_New, t_sector_Disk_Flush, t_sector_Disk_Image, t_sector_Disk_Crash, t_sector_Disk_Len, t_slices_Clone_byte_byte, t_slices_Clone_sector_data_sector_data, t_slices_Clone_sector_waiting_sector_waiting, t_sector_Disk_asked, t_slices_Backward_sector_waiting_sector_waiting_1, t_sector_Disk_Waiting, t_sector_Disk_Copy, t_sector_Disk_Write, t_slices_Backward_sector_waiting_sector_waiting, t_wicketlaw04_put, t_sector_Disk_Read, t_wicketlaw04_SectorKeeps⟩

theorem lst {H : Heap} {u : Value} {n : Nat} {cs : List Value} (h : InSl H 1 u n cs) : Lst u n := by
  cases h with
  | empty => exact .inl rfl
  | @full b n cs ro e hb hl => exact .inr ⟨b, rfl⟩

set_option maxRecDepth 100000 in
theorem contract (H : Type) (enc : TypeId × Value → H) (W : World) (base : Nat) (args : Array Value) (ds gs : List (DataW H)) (before : List MemPlace)
    (hval : ∀ (j : Nat) t v, Try.f3.params[j]? = some t → args[j]? = some v → Value.okWide Try.prog W .any base t v)
    (hW : DataW.Whole enc Try.prog Try.f3.params.toList Rows.sectorKeepsSpec.vars false W args.toList ds gs before) :
    Calls Try.prog 3 args W fun e W' => ∃ v, e = .returned v ∧ Rows.sectorKeepsSpec.post enc Try.prog Try.f3 false true false false W args v W' := by
  have hW' := hW
  obtain ⟨p, q, hA0, hV, rfl, hfz, hnd⟩ := hW
  have hA : DataW.TrodAll enc Try.prog W 0 (fun _ => true) true Try.f3.params.toList args.toList ds p := hA0
  rw [Try.params3] at hA hval
  obtain ⟨v0, vs0, d0, ds0, p0, q0, hargs0, rfl, rfl, h0, r0⟩ := trodAll_cons hA
  obtain ⟨v1, vs1, d1, ds1, p1, q1, hargs1, rfl, rfl, h1, r1⟩ := trodAll_cons r0
  obtain ⟨v2, vs2, d2, ds2, p2, q2, hargs2, rfl, rfl, h2, r2⟩ := trodAll_cons r1
  obtain ⟨hnil, rfl, rfl⟩ := trodAll_nil r2
  obtain rfl : args = #[v0, v1, v2] := Array.ext' (by rw [hargs0, hargs1, hargs2, hnil])
  subst hnil
  clear hA0
  obtain ⟨ι1, H1, a0, X0, g1, g2, g3, g4, g5, g6⟩ := (args0 Try.prog W).one (fun z => .int .i64 z) Try.underlying22 (by kernel_rfl) ⟨_, hval 0 22 v0 rfl rfl⟩ h0 (fun ι z => .atom (.int _ _)) (fun u n y hy => by
    obtain ⟨z, hz, _⟩ := DataW.trod_int Try.underlying3 hy
    exact ⟨z, by simpa using hz⟩)
  obtain ⟨ι2, H2, a1, X1, k1, k2, k3, k4, k5, k6⟩ := g1.one (fun z => .int .i64 z) Try.underlying22 (by kernel_rfl) ⟨_, hval 1 22 v1 rfl rfl⟩ h1 (fun ι z => .atom (.int _ _)) (fun u n y hy => by
    obtain ⟨z, hz, _⟩ := DataW.trod_int Try.underlying3 hy
    exact ⟨z, by simpa using hz⟩)
  obtain ⟨ι3, H3, a2, X2, m1, m2, m3, m4, m5, m6⟩ := k1.one (fun z => .int .i64 z) Try.underlying22 (by kernel_rfl) ⟨_, hval 2 22 v2 rfl rfl⟩ h2 (fun ι z => .atom (.int _ _)) (fun u n y hy => by
    obtain ⟨z, hz, _⟩ := DataW.trod_int Try.underlying3 hy
    exact ⟨z, by simpa using hz⟩)
  have g4' := (g4.fr k3).fr m3
  have k4' := k4.fr m3
  obtain ⟨G0, hs0, _, hg0⟩ := g4'.own m1.wf
  obtain ⟨G1, hs1, _, hg1⟩ := k4'.own m1.wf
  obtain ⟨G2, hs2, _, hg2⟩ := m4.own m1.wf
  obtain ⟨G, hown, hG⟩ := own_of m1.wf (G := G0 ++ (G1 ++ G2)) (fun x hx => by
    rcases List.mem_append.1 hx with hx | hx
    · exact hg0 x hx
    · rcases List.mem_append.1 hx with hx | hx
      · exact hg1 x hx
      · exact hg2 x hx)
  obtain ⟨H', he⟩ := sectorKeeps_ok (n := 5000) (X0 := X0) (X1 := X1) (X2 := X2) (hs0.mono fun x hx => hG x (by simp [hx])) (hs1.mono fun x hx => hG x (by simp [hx])) (hs2.mono fun x hx => hG x (by simp [hx])) (lst g4') (lst k4') (lst m4) hown (by decide)
  obtain ⟨mm, HH, he2⟩ := law_exec (ps := ps_wicketlaw04_SectorKeeps) (rs := rs_wicketlaw04_SectorKeeps) (ok_wicketlaw04_SectorKeeps tk 5000) (a := (a0, a1, a2, ())) he
  refine (m1.calls tabOk mixed (args := [a0, a1, a2]) (args' := [v0, v1, v2]) (.cons (.atom ((g5.mono k2).mono m2)) (.cons (.atom (k5.mono m2)) (.cons (.atom m5) .nil))) he2).mono fun e W' h => ?_
  obtain ⟨rfl, hk⟩ := h
  refine ⟨_, rfl, args_post (ty := 4) laidOut hW' rfl (by kernel_rfl) Try.underlying4 rfl ?_ hk⟩
  rw [Try.params3]
  intro t ht
  simp only [List.mem_cons, List.not_mem_nil, or_false] at ht
  rcases ht with rfl | rfl | rfl
  · exact ⟨by kernel_rfl, of_decide_eq_true (by kernel_rfl)⟩
  · exact ⟨by kernel_rfl, of_decide_eq_true (by kernel_rfl)⟩
  · exact ⟨by kernel_rfl, of_decide_eq_true (by kernel_rfl)⟩

set_option maxRecDepth 100000 in
theorem lifted (os : Os) (started : os.Started) (H : Type) (enc : TypeId × Value → H) :
    ReturnsInHanded {} Try.checked os 3 .any (Rows.sectorKeepsSpec.pre6 enc Try.prog Try.f3 Rows.sectorKeepsRow.domain false) (Rows.sectorKeepsSpec.post enc Try.prog Try.f3 false true false false) := by
  refine returnsInHanded_of_change (C := Try.checked) own started (by kernel_rfl) Try.func3
    (ChangeSpec.witness6 (enc := enc) (C := Try.checked) false ⟨#[], #[.slice none 0 0, .slice none 0 0, .slice none 0 0], []⟩ 8 (by kernel_rfl) (by kernel_rfl) (by kernel_rfl) (by kernel_rfl)) ?_
  intro W base args ds gs before hval hW _ _
  exact contract H enc W base args ds gs before hval hW
end sectorKeepsAt

theorem sectorKeeps_holds : Rows.SectorKeepsSaid :=
  OpenClaim.holds_of_wide 3 Try.f3 rfl rfl rfl rfl rfl rfl rfl ⟨rfl, rfl, rfl, rfl, rfl⟩ rfl rfl rfl rfl rfl (by kernel_rfl) Try.func3 (by kernel_rfl)
    (of_decide_eq_true (by kernel_rfl)) (by unfold Func.isWrapper; first | (rw [if_pos (by decide +kernel)]; kernel_rfl) | (rw [if_neg (by decide +kernel)]; exact ⟨rfl, rfl⟩))
    (fun os started H enc _ => sectorKeepsAt.lifted os started H enc)

#print axioms sectorKeeps_holds
end Go.Proofs.Ytempahfiiofjkaa
