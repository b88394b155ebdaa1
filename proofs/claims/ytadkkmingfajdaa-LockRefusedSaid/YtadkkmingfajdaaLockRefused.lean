/- The law LockRefused, for all arguments: it answers true, and what was there is as it was. No condition. -/
import Derived.Test.YtadkkmingfajdaaRows
import Derived.Test.YtadkkmingfajdaaLLockRefused
import Derived.Test.YtadkkmingfajdaaLr2
import Derived.Test.YtadkkmingfajdaaArgs6
import Derived.SizedLaws
import Derived.Test.YtadkkmingfajdaaB10
import Derived.Test.YtadkkmingfajdaaPrim2
import Derived.Test.YtadkkmingfajdaaArgs2
import Derived.WalkKit
import Derived.ProofKit
import Derived.OpenShut
namespace Go.Proofs.Ytadkkmingfajdaa
open Go.ChangeShapes Go.WideShapes Go.ChangeAt Go.RowKit
set_option linter.unusedVariables false

namespace lockRefusedAt
theorem own : ownKnob Try.prog.godebug = none := by kernel_rfl
theorem mixed : Try.prog.follows .mixedOrders = true := by kernel_rfl
theorem laidOut : laidOutB Try.prog = true := by kernel_rfl
/-- The worked example, closed. -/
theorem awakeTrue : isTrue (exec (tableOf Try.prog) 100000 (.fn 6) [] (heap0 Try.prog)) = true := by kernel_rfl
noncomputable def tab : Nat → Option AFun := tableX Try.prog [(6, yes)]
theorem tabOk : TOk Try.prog tab := tableX_ok _ _ fun x hx => by
  simp only [List.mem_cons, List.not_mem_nil, or_false] at hx
  rcases hx with rfl
  · exact ⟨by kernel_rfl, yes_ok (tableOf_ok _) mixed awakeTrue⟩
theorem t_wicketlaw14_awake : PrimT_wicketlaw14_awake tab := by unfold PrimT_wicketlaw14_awake; kernel_rfl
theorem t_wicketlaw14_blocksOf : tab k_wicketlaw14_blocksOf = some ⟨List.map (·.1) rs_wicketlaw14_blocksOf, C2.erase c2_wicketlaw14_blocksOf, none⟩ := by kernel_rfl
theorem t_wicketlaw14_num : tab k_wicketlaw14_num = some ⟨List.map (·.1) rs_wicketlaw14_num, C2.erase c2_wicketlaw14_num, none⟩ := by kernel_rfl
theorem t_lock_New : tab k_lock_New = some ⟨List.map (·.1) rs_lock_New, C2.erase c2_lock_New, none⟩ := by kernel_rfl
theorem t_wicketlaw14_set : tab k_wicketlaw14_set = some ⟨List.map (·.1) rs_wicketlaw14_set, C2.erase c2_wicketlaw14_set, none⟩ := by kernel_rfl
theorem t_wicketlaw14_sameTickets : tab k_wicketlaw14_sameTickets = some ⟨List.map (·.1) rs_wicketlaw14_sameTickets, C2.erase c2_wicketlaw14_sameTickets, none⟩ := by kernel_rfl
theorem t_lock_rises : tab k_lock_rises = some ⟨List.map (·.1) rs_lock_rises, C2.erase c2_lock_rises, none⟩ := by kernel_rfl
theorem t_ticket_Queue_Put : tab k_ticket_Queue_Put = some ⟨List.map (·.1) rs_ticket_Queue_Put, C2.erase c2_ticket_Queue_Put, none⟩ := by kernel_rfl
theorem t_slices_Clone_int_int : tab k_slices_Clone_int_int = some ⟨List.map (·.1) rs_slices_Clone_int_int, C2.erase c2_slices_Clone_int_int, none⟩ := by kernel_rfl
theorem t_blocks_Next : tab k_blocks_Next = some ⟨List.map (·.1) rs_blocks_Next, C2.erase c2_blocks_Next, none⟩ := by kernel_rfl
theorem t_wicketlaw14_sameInts : tab k_wicketlaw14_sameInts = some ⟨List.map (·.1) rs_wicketlaw14_sameInts, C2.erase c2_wicketlaw14_sameInts, none⟩ := by kernel_rfl
theorem t_lock_Locks_Held : tab k_lock_Locks_Held = some ⟨List.map (·.1) rs_lock_Locks_Held, C2.erase c2_lock_Locks_Held, none⟩ := by kernel_rfl
theorem t_lock_Locks_Next : tab k_lock_Locks_Next = some ⟨List.map (·.1) rs_lock_Locks_Next, C2.erase c2_lock_Locks_Next, none⟩ := by kernel_rfl
theorem t_slices_Delete_uint64_uint64 : tab k_slices_Delete_uint64_uint64 = some ⟨List.map (·.1) rs_slices_Delete_uint64_uint64, C2.erase c2_slices_Delete_uint64_uint64, none⟩ := by kernel_rfl
theorem t_ticket_Queue_Len : tab k_ticket_Queue_Len = some ⟨List.map (·.1) rs_ticket_Queue_Len, C2.erase c2_ticket_Queue_Len, none⟩ := by kernel_rfl
theorem t_ticket_Queue_All_1 : tab k_ticket_Queue_All_1 = some ⟨[], C2.erase c2_ticket_Queue_All_1, none⟩ := by kernel_rfl
theorem t_slices_Index_int_int : tab k_slices_Index_int_int = some ⟨List.map (·.1) rs_slices_Index_int_int, C2.erase c2_slices_Index_int_int, none⟩ := by kernel_rfl
theorem t_lock_Locks_Lay : tab k_lock_Locks_Lay = some ⟨List.map (·.1) rs_lock_Locks_Lay, C2.erase c2_lock_Locks_Lay, none⟩ := by kernel_rfl
theorem t_wicketlaw14_made : tab k_wicketlaw14_made = some ⟨List.map (·.1) rs_wicketlaw14_made, C2.erase c2_wicketlaw14_made, none⟩ := by kernel_rfl
theorem t_ticket_Queue_First : tab k_ticket_Queue_First = some ⟨List.map (·.1) rs_ticket_Queue_First, C2.erase c2_ticket_Queue_First, none⟩ := by kernel_rfl
theorem t_ticket_Queue_All : tab k_ticket_Queue_All = some ⟨List.map (·.1) rs_ticket_Queue_All, C2.erase c2_ticket_Queue_All, none⟩ := by kernel_rfl
theorem t_ticket_Queue_Place : tab k_ticket_Queue_Place = some ⟨List.map (·.1) rs_ticket_Queue_Place, C2.erase c2_ticket_Queue_Place, none⟩ := by kernel_rfl
theorem t_slices_Contains_int_int : tab k_slices_Contains_int_int = some ⟨List.map (·.1) rs_slices_Contains_int_int, C2.erase c2_slices_Contains_int_int, none⟩ := by kernel_rfl
theorem t_wicketlaw14_crowd : tab k_wicketlaw14_crowd = some ⟨List.map (·.1) rs_wicketlaw14_crowd, C2.erase c2_wicketlaw14_crowd, none⟩ := by kernel_rfl
theorem t_lock_Locks_Ready : tab k_lock_Locks_Ready = some ⟨List.map (·.1) rs_lock_Locks_Ready, C2.erase c2_lock_Locks_Ready, none⟩ := by kernel_rfl
theorem t_lock_Locks_Queue : tab k_lock_Locks_Queue = some ⟨List.map (·.1) rs_lock_Locks_Queue, C2.erase c2_lock_Locks_Queue, none⟩ := by kernel_rfl
theorem t_ticket_Queue_Drop : tab k_ticket_Queue_Drop = some ⟨List.map (·.1) rs_ticket_Queue_Drop, C2.erase c2_ticket_Queue_Drop, none⟩ := by kernel_rfl
theorem t_lock_Locks_Holder : tab k_lock_Locks_Holder = some ⟨List.map (·.1) rs_lock_Locks_Holder, C2.erase c2_lock_Locks_Holder, none⟩ := by kernel_rfl
theorem t_lock_Locks_Take : tab k_lock_Locks_Take = some ⟨List.map (·.1) rs_lock_Locks_Take, C2.erase c2_lock_Locks_Take, none⟩ := by kernel_rfl
theorem t_lock_Locks_Drop : tab k_lock_Locks_Drop = some ⟨List.map (·.1) rs_lock_Locks_Drop, C2.erase c2_lock_Locks_Drop, none⟩ := by kernel_rfl
theorem t_wicketlaw14_fair : tab k_wicketlaw14_fair = some ⟨List.map (·.1) rs_wicketlaw14_fair, C2.erase c2_wicketlaw14_fair, none⟩ := by kernel_rfl
theorem t_wicketlaw14_LockRefused : tab k_wicketlaw14_LockRefused = some ⟨List.map (·.1) rs_wicketlaw14_LockRefused, C2.erase c2_wicketlaw14_LockRefused, none⟩ := by kernel_rfl
theorem tk : LfT tab := ⟨t_wicketlaw14_awake, t_wicketlaw14_blocksOf, t_wicketlaw14_num, t_lock_New, t_wicketlaw14_set, t_wicketlaw14_sameTickets, t_lock_rises, t_ticket_Queue_Put, t_slices_Clone_int_int, t_blocks_Next, t_wicketlaw14_sameInts, t_lock_Locks_Held, t_lock_Locks_Next, t_slices_Delete_uint64_uint64, t_ticket_Queue_Len, t_ticket_Queue_All_1, t_slices_Index_int_int, t_lock_Locks_Lay, t_wicketlaw14_made, t_ticket_Queue_First, t_ticket_Queue_All, t_ticket_Queue_Place, t_slices_Contains_int_int, t_wicketlaw14_crowd, t_lock_Locks_Ready, t_lock_Locks_Queue, t_ticket_Queue_Drop, t_lock_Locks_Holder, t_lock_Locks_Take, t_lock_Locks_Drop, t_wicketlaw14_fair, t_wicketlaw14_LockRefused⟩

theorem shape1 : shOf Try.prog 10 22 = some [.sl [.int .u64]] := by kernel_rfl
theorem shape2 : shOf Try.prog 10 24 = some [.sl [.int .i64]] := by kernel_rfl
theorem bytes8 : Try.prog.bytesOf 3 = 8 := by kernel_rfl

set_option maxRecDepth 100000 in
theorem contract (H : Type) (enc : TypeId × Value → H) (W : World) (base : Nat) (args : Array Value) (ds gs : List (DataW H)) (before : List MemPlace)
    (hval : ∀ (j : Nat) t v, Try.f3.params[j]? = some t → args[j]? = some v → Value.okWide Try.prog W .any base t v)
    (hW : DataW.Whole enc Try.prog Try.f3.params.toList Rows.lockRefusedSpec.vars false W args.toList ds gs before)
    (hsz : (DataW.weightsEach Try.prog (Try.f3.params.toList ++ Rows.lockRefusedSpec.plain.varTypes Try.prog) (ds ++ gs)).all (· ≤ reachBytes) = true) :
    Calls Try.prog 3 args W fun e W' => ∃ v, e = .returned v ∧ Rows.lockRefusedSpec.post enc Try.prog Try.f3 false true false false W args v W' := by
  have hW' := hW
  obtain ⟨p, q, hA0, hV, rfl, hfz, hnd⟩ := hW
  have hA : DataW.TrodAll enc Try.prog W 0 (fun _ => true) true Try.f3.params.toList args.toList ds p := hA0
  rw [Try.params3] at hA hval
  obtain ⟨v0, vs0, d0, ds0, p0, q0, hargs0, rfl, rfl, h0, r0⟩ := trodAll_cons hA
  obtain ⟨v1, vs1, d1, ds1, p1, q1, hargs1, rfl, rfl, h1, r1⟩ := trodAll_cons r0
  obtain ⟨v2, vs2, d2, ds2, p2, q2, hargs2, rfl, rfl, h2, r2⟩ := trodAll_cons r1
  obtain ⟨v3, vs3, d3, ds3, p3, q3, hargs3, rfl, rfl, h3, r3⟩ := trodAll_cons r2
  obtain ⟨hnil, rfl, rfl⟩ := trodAll_nil r3
  obtain rfl : args = #[v0, v1, v2, v3] := Array.ext' (by rw [hargs0, hargs1, hargs2, hargs3, hnil])
  subst hnil
  clear hA0
  obtain ⟨z0, rfl, wz0⟩ : ∃ z : Int, v0 = .int .i64 z ∧ (Lit.int .i64 z).wf = true := by
    have hv := hval 0 3 v0 rfl rfl
    have hu : Try.prog.underlying 3 = some (.int .i64) := Try.underlying3
    simp only [Value.okWide, hu, Cell.okWide, Cell.ok] at hv
    cases v0 with
    | int k z => obtain ⟨rfl, hz⟩ := hv; exact ⟨z, rfl, by simpa [Lit.wf, IntKind.has] using hz⟩
    | _ => exact hv.elim
  obtain ⟨z2, rfl, wz2⟩ : ∃ z : Int, v2 = .int .u64 z ∧ (Lit.int .u64 z).wf = true := by
    have hv := hval 2 23 v2 rfl rfl
    have hu : Try.prog.underlying 23 = some (.int .u64) := Try.underlying23
    simp only [Value.okWide, hu, Cell.okWide, Cell.ok] at hv
    cases v2 with
    | int k z => obtain ⟨rfl, hz⟩ := hv; exact ⟨z, rfl, by simpa [Lit.wf, IntKind.has] using hz⟩
    | _ => exact hv.elim
  obtain ⟨ι1, H1, a1, g1, g2, g3, g4, g5⟩ := (args0 Try.prog W).deep Bk.none Try.underlying22 shape1 ⟨_, hval 1 22 v1 rfl rfl⟩ h1 (Nat.zero_le _)
  obtain ⟨ι2, H2, a2, k1, k2, k3, k4, k5⟩ := g1.deep Bk.none Try.underlying24 shape2 ⟨_, hval 3 24 v3 rfl rfl⟩ h3 (Nat.zero_le _)
  obtain ⟨Ga, m1, m2⟩ := hs_of k1.wf _ _ (g4.fr k3)
  obtain ⟨Gb, m3, m4⟩ := hs_of k1.wf _ _ k4
  obtain ⟨G, hown, hG⟩ := own_of k1.wf (G := Ga ++ Gb) fun x hx => (List.mem_append.1 hx).elim (m1 x) (m3 x)
  obtain ⟨X1, s1, _, _, w1⟩ := (m2.mono fun x hx => hG x (List.mem_append_left _ hx)).ints
  obtain ⟨X2, s2, l2, _, _⟩ := (m4.mono fun x hx => hG x (List.mem_append_right _ hx)).ints
  have hz2 := sized_len hsz (j := 3) (by rw [Try.params3]; rfl) rfl Try.underlying24 h3 ⟨_, hval 3 24 v3 rfl rfl⟩ l2 k5
  rw [bytes8] at hz2
  have hz0 : 0 ≤ z2 := by simp [Lit.wf, IntKind.min, IntKind.max, IntKind.signed, IntKind.bits] at wz2; omega
  obtain ⟨H', he⟩ := lockRefused_ok (n := 2000) (x0 := z0) (late := z2) s1 (fun x hx => by have := w1 x hx; simp [Lit.wf, IntKind.min, IntKind.max, IntKind.signed, IntKind.bits] at this; omega) s2 (Nat.le_trans hz2 (by decide)) hz0 hown (Nat.le_refl _)
  obtain ⟨mm, HH, he2⟩ := law_exec (ps := ps_wicketlaw14_LockRefused) (rs := rs_wicketlaw14_LockRefused) (ok_wicketlaw14_LockRefused tk 2000) (a := (z0, a1, z2, a2, ())) he
  refine (k1.calls tabOk mixed (args := [.int .i64 z0, a1, .int .u64 z2, a2]) (args' := [.int .i64 z0, v1, .int .u64 z2, v3]) (.cons (.val (.cell (.atom (.int _ _)))) (.cons (.atom (g5.mono k2)) (.cons (.val (.cell (.atom (.int _ _)))) (.cons (.atom k5) .nil)))) he2).mono fun e W' h => ?_
  obtain ⟨rfl, hk⟩ := h
  refine ⟨_, rfl, args_post (ty := 4) laidOut hW' rfl (by kernel_rfl) Try.underlying4 rfl ?_ hk⟩
  rw [Try.params3]
  intro t ht
  simp only [List.mem_cons, List.not_mem_nil, or_false] at ht
  rcases ht with rfl | rfl | rfl | rfl
  · exact ⟨by kernel_rfl, of_decide_eq_true (by kernel_rfl)⟩
  · exact ⟨by kernel_rfl, of_decide_eq_true (by kernel_rfl)⟩
  · exact ⟨by kernel_rfl, of_decide_eq_true (by kernel_rfl)⟩
  · exact ⟨by kernel_rfl, of_decide_eq_true (by kernel_rfl)⟩

set_option maxRecDepth 100000 in
theorem lifted (os : Os) (started : os.Started) (H : Type) (enc : TypeId × Value → H) :
    ReturnsInHanded {} Try.checked os 3 .any (Rows.lockRefusedSpec.pre6 enc Try.prog Try.f3 Rows.lockRefusedRow.domain false) (Rows.lockRefusedSpec.post enc Try.prog Try.f3 false true false false) := by
  refine returnsInHanded_of_change_sized (C := Try.checked) own started (by kernel_rfl) Try.func3
    (ChangeSpec.witness6 (enc := enc) (C := Try.checked) false ⟨#[], #[.int .i64 0, .slice none 0 0, .int .u64 0, .slice none 0 0], []⟩ 8 (by kernel_rfl) (by kernel_rfl) (by kernel_rfl) (by kernel_rfl)) ?_
  intro W base args ds gs before hval hW _ hsz _
  exact contract H enc W base args ds gs before hval hW hsz
end lockRefusedAt

theorem lockRefused_holds : Rows.LockRefusedSaid :=
  OpenClaim.holds_of_wide 3 Try.f3 rfl rfl rfl rfl rfl rfl rfl ⟨rfl, rfl, rfl, rfl, rfl⟩ rfl rfl rfl rfl rfl (by kernel_rfl) Try.func3 (by kernel_rfl)
    (of_decide_eq_true (by kernel_rfl)) (by unfold Func.isWrapper; first | (rw [if_pos (by decide +kernel)]; kernel_rfl) | (rw [if_neg (by decide +kernel)]; exact ⟨rfl, rfl⟩))
    (fun os started H enc _ => lockRefusedAt.lifted os started H enc)

#print axioms lockRefused_holds
end Go.Proofs.Ytadkkmingfajdaa
