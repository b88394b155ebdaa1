/- The law TicketPlays, for all arguments: it answers true, and what was there is as it was. No condition. -/
import Derived.Test.YtpcmjoghflllfaaRows
import Derived.Test.YtpcmjoghflllfaaLTicketPlays
import Derived.Test.YtpcmjoghflllfaaTp10
import Derived.Test.YtpcmjoghflllfaaB10
import Derived.Test.YtpcmjoghflllfaaPrim2
import Derived.Test.YtpcmjoghflllfaaArgs2
import Derived.WalkKit
import Derived.ProofKit
import Derived.OpenShut
namespace Go.Proofs.Ytpcmjoghflllfaa
open Go.ChangeShapes Go.WideShapes Go.ChangeAt Go.RowKit
set_option linter.unusedVariables false

namespace ticketPlaysAt
theorem own : ownKnob Try.prog.godebug = none := by kernel_rfl
theorem mixed : Try.prog.follows .mixedOrders = true := by kernel_rfl
theorem laidOut : laidOutB Try.prog = true := by kernel_rfl
/-- The worked example, closed. -/
theorem awakeTrue : isTrue (exec (tableOf Try.prog) 100000 (.fn 4) [] (heap0 Try.prog)) = true := by kernel_rfl
noncomputable def tab : Nat → Option AFun := tableX Try.prog [(4, yes)]
theorem tabOk : TOk Try.prog tab := tableX_ok _ _ fun x hx => by
  simp only [List.mem_cons, List.not_mem_nil, or_false] at hx
  rcases hx with rfl
  · exact ⟨by kernel_rfl, yes_ok (tableOf_ok _) mixed awakeTrue⟩
theorem t_wicketlaw11_awake : PrimT_wicketlaw11_awake tab := by unfold PrimT_wicketlaw11_awake; kernel_rfl
theorem t_wicketlaw11_same : tab k_wicketlaw11_same = some ⟨List.map (·.1) rs_wicketlaw11_same, C2.erase c2_wicketlaw11_same, none⟩ := by kernel_rfl
theorem t_ticket_Queue_Put : tab k_ticket_Queue_Put = some ⟨List.map (·.1) rs_ticket_Queue_Put, C2.erase c2_ticket_Queue_Put, none⟩ := by kernel_rfl
theorem t_wicketref11_Queue_Put : tab k_wicketref11_Queue_Put = some ⟨List.map (·.1) rs_wicketref11_Queue_Put, C2.erase c2_wicketref11_Queue_Put, none⟩ := by kernel_rfl
theorem t_wicketref11_Queue_First : tab k_wicketref11_Queue_First = some ⟨List.map (·.1) rs_wicketref11_Queue_First, C2.erase c2_wicketref11_Queue_First, none⟩ := by kernel_rfl
theorem t_ticket_Queue_Len : tab k_ticket_Queue_Len = some ⟨List.map (·.1) rs_ticket_Queue_Len, C2.erase c2_ticket_Queue_Len, none⟩ := by kernel_rfl
theorem t_wicketref11_Queue_Place : tab k_wicketref11_Queue_Place = some ⟨List.map (·.1) rs_wicketref11_Queue_Place, C2.erase c2_wicketref11_Queue_Place, none⟩ := by kernel_rfl
theorem t_wicketref11_Queue_Drop : tab k_wicketref11_Queue_Drop = some ⟨List.map (·.1) rs_wicketref11_Queue_Drop, C2.erase c2_wicketref11_Queue_Drop, none⟩ := by kernel_rfl
theorem t_wicketref11_Queue_Copy : tab k_wicketref11_Queue_Copy = some ⟨List.map (·.1) rs_wicketref11_Queue_Copy, C2.erase c2_wicketref11_Queue_Copy, none⟩ := by kernel_rfl
theorem t_slices_Delete_uint64_uint64 : tab k_slices_Delete_uint64_uint64 = some ⟨List.map (·.1) rs_slices_Delete_uint64_uint64, C2.erase c2_slices_Delete_uint64_uint64, none⟩ := by kernel_rfl
theorem t_ticket_Queue_All_1 : tab k_ticket_Queue_All_1 = some ⟨[], C2.erase c2_ticket_Queue_All_1, none⟩ := by kernel_rfl
theorem t_slices_Clone_uint64_uint64 : tab k_slices_Clone_uint64_uint64 = some ⟨List.map (·.1) rs_slices_Clone_uint64_uint64, C2.erase c2_slices_Clone_uint64_uint64, none⟩ := by kernel_rfl
theorem t_ticket_Queue_First : tab k_ticket_Queue_First = some ⟨List.map (·.1) rs_ticket_Queue_First, C2.erase c2_ticket_Queue_First, none⟩ := by kernel_rfl
theorem t_wicketref11_Queue_Take : tab k_wicketref11_Queue_Take = some ⟨List.map (·.1) rs_wicketref11_Queue_Take, C2.erase c2_wicketref11_Queue_Take, none⟩ := by kernel_rfl
theorem t_ticket_Queue_All : tab k_ticket_Queue_All = some ⟨List.map (·.1) rs_ticket_Queue_All, C2.erase c2_ticket_Queue_All, none⟩ := by kernel_rfl
theorem t_ticket_Queue_Copy : tab k_ticket_Queue_Copy = some ⟨List.map (·.1) rs_ticket_Queue_Copy, C2.erase c2_ticket_Queue_Copy, none⟩ := by kernel_rfl
theorem t_wicketlaw11_listed : tab k_wicketlaw11_listed = some ⟨List.map (·.1) rs_wicketlaw11_listed, C2.erase c2_wicketlaw11_listed, none⟩ := by kernel_rfl
theorem t_ticket_Queue_Take : tab k_ticket_Queue_Take = some ⟨List.map (·.1) rs_ticket_Queue_Take, C2.erase c2_ticket_Queue_Take, none⟩ := by kernel_rfl
theorem t_ticket_Queue_Place : tab k_ticket_Queue_Place = some ⟨List.map (·.1) rs_ticket_Queue_Place, C2.erase c2_ticket_Queue_Place, none⟩ := by kernel_rfl
theorem t_ticket_Queue_Drop : tab k_ticket_Queue_Drop = some ⟨List.map (·.1) rs_ticket_Queue_Drop, C2.erase c2_ticket_Queue_Drop, none⟩ := by kernel_rfl
theorem t_wicketlaw11_pair_plays : tab k_wicketlaw11_pair_plays = some ⟨List.map (·.1) rs_wicketlaw11_pair_plays, C2.erase c2_wicketlaw11_pair_plays, none⟩ := by kernel_rfl
theorem t_wicketlaw11_TicketPlays : tab k_wicketlaw11_TicketPlays = some ⟨List.map (·.1) rs_wicketlaw11_TicketPlays, C2.erase c2_wicketlaw11_TicketPlays, none⟩ := by kernel_rfl
theorem tk : LfT tab := ⟨t_wicketlaw11_awake, t_wicketlaw11_same, t_ticket_Queue_Put, t_wicketref11_Queue_Put, t_wicketref11_Queue_First, t_ticket_Queue_Len, t_wicketref11_Queue_Place, t_wicketref11_Queue_Drop, t_wicketref11_Queue_Copy, t_slices_Delete_uint64_uint64, t_ticket_Queue_All_1, t_slices_Clone_uint64_uint64, t_ticket_Queue_First, t_wicketref11_Queue_Take, t_ticket_Queue_All, t_ticket_Queue_Copy, t_wicketlaw11_listed, t_ticket_Queue_Take, t_ticket_Queue_Place, t_ticket_Queue_Drop, t_wicketlaw11_pair_plays, t_wicketlaw11_TicketPlays⟩

theorem opEl {H : Type} {enc : TypeId × Value → H} {W : World} {cs : List Value} {n : Nat} {y : DataW H × List MemPlace} (hlen : cs.length = 4) (h : DataW.trod enc Try.prog W 0 (fun _ => true) true n 40 cs = some y) : ∃ o : OpT, cs = o.cells := by
  obtain ⟨xs, k, rfl, rfl, hl, hx, hf⟩ := DataW.trod_struct Try.underlying40 h
  match cs, hlen with
  | [c0, c1, c2, c3], _ =>
    have hx4 : xs.length = 4 := hx
    have at_ : ∀ i, i < 4 → ∃ x, xs[i]? = some x := fun i hi => ⟨xs[i]'(by omega), by simp⟩
    have i3 : Try.prog.cellsOf 3 = 1 := by kernel_rfl
    have i27 : Try.prog.cellsOf 27 = 1 := by kernel_rfl
    have f0 := hf 0 _ rfl
    obtain ⟨x0, e0⟩ := at_ 0 (by omega)
    rw [e0] at f0
    have f1 := hf 1 _ rfl
    obtain ⟨x1, e1⟩ := at_ 1 (by omega)
    rw [e1] at f1
    have f2 := hf 2 _ rfl
    obtain ⟨x2, e2⟩ := at_ 2 (by omega)
    rw [e2] at f2
    have f3 := hf 3 _ rfl
    obtain ⟨x3, e3⟩ := at_ 3 (by omega)
    rw [e3] at f3
    obtain ⟨z0, h0, _⟩ := DataW.trod_int Try.underlying3 f0
    obtain ⟨z1, h1, _⟩ := DataW.trod_int Try.underlying3 f1
    obtain ⟨z2, h2, _⟩ := DataW.trod_int Try.underlying27 f2
    obtain ⟨z3, h3, _⟩ := DataW.trod_int Try.underlying3 f3
    change List.take (Try.prog.cellsOf 3) (List.drop 0 [c0, c1, c2, c3]) = _ at h0
    rw [i3] at h0
    change List.take (Try.prog.cellsOf 3) (List.drop 1 [c0, c1, c2, c3]) = _ at h1
    rw [i3] at h1
    change List.take (Try.prog.cellsOf 27) (List.drop 2 [c0, c1, c2, c3]) = _ at h2
    rw [i27] at h2
    change List.take (Try.prog.cellsOf 3) (List.drop 3 [c0, c1, c2, c3]) = _ at h3
    rw [i3] at h3
    simp only [List.drop_zero, List.drop_succ_cons, List.take_succ_cons, List.take_zero, List.cons.injEq, and_true] at h0 h1 h2 h3
    subst h0 h1 h2 h3
    exact ⟨⟨z0, z1, z2, z3⟩, rfl⟩


set_option maxRecDepth 100000 in
theorem contract (H : Type) (enc : TypeId × Value → H) (W : World) (base : Nat) (args : Array Value) (ds gs : List (DataW H)) (before : List MemPlace)
    (hval : ∀ (j : Nat) t v, Try.f3.params[j]? = some t → args[j]? = some v → Value.okWide Try.prog W .any base t v)
    (hW : DataW.Whole enc Try.prog Try.f3.params.toList Rows.ticketPlaysSpec.vars false W args.toList ds gs before) :
    Calls Try.prog 3 args W fun e W' => ∃ v, e = .returned v ∧ Rows.ticketPlaysSpec.post enc Try.prog Try.f3 false true false false W args v W' := by
  have hW' := hW
  obtain ⟨p, q, hA0, hV, rfl, hfz, hnd⟩ := hW
  have hA : DataW.TrodAll enc Try.prog W 0 (fun _ => true) true Try.f3.params.toList args.toList ds p := hA0
  rw [Try.params3] at hA hval
  obtain ⟨v0, vs0, d0, ds0, p0, q0, hargs0, rfl, rfl, h0, r0⟩ := trodAll_cons hA
  obtain ⟨hnil, rfl, rfl⟩ := trodAll_nil r0
  obtain rfl : args = #[v0] := Array.ext' (by rw [hargs0, hnil])
  subst hnil
  clear hA0
  obtain ⟨ι1, H1, a1, L, g1, g2, g3, g4, g5, g6⟩ := (args0 Try.prog W).many (es := 4) OpT.cells (fun _ => rfl) (by decide) Try.underlying22 (by kernel_rfl) ⟨_, hval 0 22 v0 rfl rfl⟩ h0 (fun ι z u hu => by
    simp only [OpT.cells, List.mem_cons, List.not_mem_nil, or_false] at hu
    rcases hu with rfl | rfl | rfl | rfl <;> exact .atom (.int _ _)) (fun cs n y hl hy => opEl hl hy)
  obtain ⟨G, hsow, hown, hget⟩ := g4.own g1.wf
  obtain ⟨H', he⟩ := ticketPlays_ok (n := 3000) hsow (fun i hi => ⟨L[i]'hi, flat_at (mk := OpT.cells) (fun _ => rfl) (List.getElem?_eq_getElem hi)⟩) hown (by decide)
  obtain ⟨m, H2, he2⟩ := law_exec (ps := ps_wicketlaw11_TicketPlays) (rs := rs_wicketlaw11_TicketPlays) (ok_wicketlaw11_TicketPlays tk 3000) (a := (a1, ())) he
  refine (g1.calls tabOk mixed (args := [a1]) (args' := [v0]) (.cons (.atom g5) .nil) he2).mono fun e W' h => ?_
  obtain ⟨rfl, hk⟩ := h
  refine ⟨_, rfl, args_post (ty := 4) laidOut hW' rfl (by kernel_rfl) Try.underlying4 rfl ?_ hk⟩
  rw [Try.params3]
  intro t ht
  simp only [List.mem_cons, List.not_mem_nil, or_false] at ht
  rcases ht with rfl
  · exact ⟨by kernel_rfl, of_decide_eq_true (by kernel_rfl)⟩

set_option maxRecDepth 100000 in
theorem lifted (os : Os) (started : os.Started) (H : Type) (enc : TypeId × Value → H) :
    ReturnsInHanded {} Try.checked os 3 .any (Rows.ticketPlaysSpec.pre6 enc Try.prog Try.f3 Rows.ticketPlaysRow.domain false) (Rows.ticketPlaysSpec.post enc Try.prog Try.f3 false true false false) := by
  refine returnsInHanded_of_change (C := Try.checked) own started (by kernel_rfl) Try.func3
    (ChangeSpec.witness6 (enc := enc) (C := Try.checked) false ⟨#[], #[.slice none 0 0], []⟩ 8 (by kernel_rfl) (by kernel_rfl) (by kernel_rfl) (by kernel_rfl)) ?_
  intro W base args ds gs before hval hW _ _
  exact contract H enc W base args ds gs before hval hW
end ticketPlaysAt

theorem ticketPlays_holds : Rows.TicketPlaysSaid :=
  OpenClaim.holds_of_wide 3 Try.f3 rfl rfl rfl rfl rfl rfl rfl ⟨rfl, rfl, rfl, rfl, rfl⟩ rfl rfl rfl rfl rfl (by kernel_rfl) Try.func3 (by kernel_rfl)
    (of_decide_eq_true (by kernel_rfl)) (by unfold Func.isWrapper; first | (rw [if_pos (by decide +kernel)]; kernel_rfl) | (rw [if_neg (by decide +kernel)]; exact ⟨rfl, rfl⟩))
    (fun os started H enc _ => ticketPlaysAt.lifted os started H enc)

#print axioms ticketPlays_holds
end Go.Proofs.Ytpcmjoghflllfaa
