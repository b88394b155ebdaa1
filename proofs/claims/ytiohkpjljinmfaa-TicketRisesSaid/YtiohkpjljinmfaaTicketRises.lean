/- The law TicketRises, for every two lists that are handed in: it answers true, and what was there is as it was. No condition. -/
import Derived.Test.YtiohkpjljinmfaaRows
import Derived.Test.YtiohkpjljinmfaaTr2
import Derived.Test.YtiohkpjljinmfaaArgs
import Derived.WalkKit
import Derived.ProofKit
import Derived.OpenShut
namespace Go.Proofs.Ytiohkpjljinmfaa
open Go.ChangeShapes Go.WideShapes Go.ChangeAt Go.RowKit
set_option linter.unusedVariables false

namespace ticketRisesAt
theorem own : ownKnob Try.prog.godebug = none := by kernel_rfl
theorem mixed : Try.prog.follows .mixedOrders = true := by kernel_rfl
theorem laidOut : laidOutB Try.prog = true := by kernel_rfl
theorem t_put : tableOf Try.prog k_ticket_Queue_Put = some c_ticket_Queue_Put := by kernel_rfl
theorem t_take : tableOf Try.prog k_ticket_Queue_Take = some c_ticket_Queue_Take := by kernel_rfl
theorem t_len : tableOf Try.prog k_ticket_Queue_Len = some c_ticket_Queue_Len := by kernel_rfl
theorem t_place : tableOf Try.prog k_ticket_Queue_Place = some c_ticket_Queue_Place := by kernel_rfl
theorem t_first : tableOf Try.prog k_ticket_Queue_First = some c_ticket_Queue_First := by kernel_rfl
theorem t_delete : tableOf Try.prog k_slices_Delete_uint64_uint64 = some c_slices_Delete_uint64_uint64 := by kernel_rfl
theorem t_all : tableOf Try.prog k_ticket_Queue_All = some c_ticket_Queue_All := by kernel_rfl
theorem t_all1 : tableOf Try.prog k_ticket_Queue_All_1 = some c_ticket_Queue_All_1 := by kernel_rfl
theorem t_listed : tableOf Try.prog k_wicketlaw11_listed = some c_wicketlaw11_listed := by kernel_rfl
theorem t_same : tableOf Try.prog k_wicketlaw11_same = some c_wicketlaw11_same := by kernel_rfl
theorem t_awake : tableOf Try.prog k_wicketlaw11_awake = some c_wicketlaw11_awake := by kernel_rfl
theorem t_law : tableOf Try.prog k_wicketlaw11_TicketRises = some c_wicketlaw11_TicketRises := by kernel_rfl
theorem tk : Tk (tableOf Try.prog) := ⟨t_put, t_take, t_len, t_place, t_first, t_delete, t_all, t_all1, t_listed⟩

/-- One argument: a slice of one cell an element, into the abstract heap. -/
theorem one {Hh : Type} {enc : TypeId × Value → Hh} {W : World} {ι : Emb} {H : Heap} {t e : TypeId} {v : Value} {d : DataW Hh} {p : List MemPlace} {α : Type} (mk : α → Value) (hA : Args Try.prog ι H W) (ht : Try.prog.underlying t = some (.slice e)) (hc : Try.prog.cellsOf e = 1)
    (hval : ∃ b, Value.okWide Try.prog W .any b t v) (h : DataW.Trod enc Try.prog W 0 (fun _ => true) true t v d p) (hmk : ∀ ι z, CellR ι (mk z) (mk z))
    (hel : ∀ u n y, DataW.trod enc Try.prog W 0 (fun _ => true) true n e [u] = some y → ∃ z, u = mk z) :
    ∃ ι' H' va L, Args Try.prog ι' H' W ∧ Ext ι ι' ∧ Fr H H' [] ∧ InSl H' 1 va (List.length L) (List.map mk L) ∧ AtomR ι' va v ∧ L.length ≤ maxLen := by
  obtain ⟨fuel, h⟩ := h
  obtain ⟨av, lv, cv, rfl⟩ : ∃ a n c, v = .slice a n c := by obtain ⟨b, hval⟩ := hval; exact okWide_slice ht hval
  rcases open_cells1 ht hc h with h0 | ⟨a, len, cap, vs, h0, hl, hm, hv, hcell⟩
  · rw [h0]; exact ⟨ι, H, .slice none 0 0, [], hA, Ext.refl _, Fr.refl hA.wf _, .empty, .nils, by simp⟩
  · cases h0
    obtain ⟨b, hval⟩ := hval
    have hspot : a.spot = none := by
      simp only [Value.okWide, ht, Cell.okWide, Cell.ok, World.has] at hval
      exact hval.2.2.2.1
    obtain ⟨b, off, sp⟩ := a
    simp only at hspot
    subst hspot
    have hz : ∀ u ∈ vs, ∃ z, u = mk z := by
      intro u hu
      obtain ⟨i, hi⟩ := List.getElem?_of_mem hu
      obtain ⟨_, n, y, hy⟩ := hcell i u hi
      exact hel u n y hy
    obtain ⟨ι', H', g1, g2, g3, g4, g5⟩ := hA.slice (b := b) (off := off) (len := lv) (cap := cv) (vs := vs) hl hv (fun i u hu => by
      have := (hcell i u hu).1; rwa [add_plain] at this) (fun ι u hu => by obtain ⟨z, rfl⟩ := hz u hu; exact hmk ι z)
    obtain ⟨L, hL⟩ : ∃ L : List α, vs.take lv = L.map mk := by
      have : ∀ xs : List Value, (∀ u ∈ xs, ∃ z, u = mk z) → ∃ L : List α, xs = L.map mk := by
        intro xs
        induction xs with
        | nil => intro _; exact ⟨[], rfl⟩
        | cons x xs ih =>
          intro hx
          obtain ⟨z, rfl⟩ := hx x (List.mem_cons_self ..)
          obtain ⟨L, rfl⟩ := ih fun u hu => hx u (List.mem_cons_of_mem _ hu)
          exact ⟨z :: L, rfl⟩
      exact this _ fun u hu => hz u (List.mem_of_mem_take hu)
    have hlen : L.length = lv := by
      have := congrArg List.length hL
      simp at this; omega
    refine ⟨ι', H', _, L, g1, g2, g3, ?_, g5, by omega⟩
    rw [← hL, hlen]; exact g4

set_option maxRecDepth 100000 in
theorem contract (H : Type) (enc : TypeId × Value → H) (W : World) (base : Nat) (args : Array Value) (ds gs : List (DataW H)) (before : List MemPlace)
    (hval : ∀ (j : Nat) t v, Try.f3.params[j]? = some t → args[j]? = some v → Value.okWide Try.prog W .any base t v)
    (hW : DataW.Whole enc Try.prog Try.f3.params.toList Rows.ticketRisesSpec.vars false W args.toList ds gs before) :
    Calls Try.prog 3 args W fun e W' => ∃ v, e = .returned v ∧ Rows.ticketRisesSpec.post enc Try.prog Try.f3 false true false false W args v W' := by
  have hW' := hW
  obtain ⟨p, q, hA0, hV, rfl, hfz, hnd⟩ := hW
  have hA : DataW.TrodAll enc Try.prog W 0 (fun _ => true) true Try.f3.params.toList args.toList ds p := hA0
  rw [Try.params3] at hA hval
  obtain ⟨v0, vs0, d0, ds0, p0, q0, hargs0, rfl, rfl, h0, r0⟩ := trodAll_cons hA
  obtain ⟨v1, vs1, d1, ds1, p1, q1, hargs1, rfl, rfl, h1, r1⟩ := trodAll_cons r0
  obtain ⟨hnil, rfl, rfl⟩ := trodAll_nil r1
  obtain rfl : args = #[v0, v1] := Array.ext' (by rw [hargs0, hargs1, hnil])
  subst hnil
  clear hA0
  obtain ⟨ι1, H1, a0, puts, g1, g2, g3, g4, g5, g6⟩ := one (fun z => .int .u64 z) (args0 Try.prog W) Try.underlying22 (by kernel_rfl) ⟨_, hval 0 22 v0 rfl rfl⟩ h0 (fun ι z => .atom (.int _ _)) (fun u n y hy => by
    obtain ⟨z, hz, _⟩ := DataW.trod_int Try.underlying26 hy
    exact ⟨z, by simpa using hz⟩)
  obtain ⟨ι2, H2, a1, takes, k1, k2, k3, k4, k5, k6⟩ := one Value.bool g1 Try.underlying23 (by kernel_rfl) ⟨_, hval 1 23 v1 rfl rfl⟩ h1 (fun ι z => .atom (.bool _)) (fun u n y hy => by
    obtain ⟨z, hz, _⟩ := DataW.trod_bool Try.underlying4 hy
    exact ⟨z, by simpa using hz⟩)
  obtain ⟨H', he, _⟩ := rises_ok (m := 210) tk t_same t_awake t_law k1.wf (g4.fr k3) k4 (Nat.le_refl _)
  refine (k1.calls (tableOf_ok Try.prog) mixed (args := [a0, a1]) (args' := [v0, v1]) (.cons (.atom (g5.mono k2)) (.cons (.atom k5) .nil)) he).mono fun e W' h => ?_
  obtain ⟨rfl, hk⟩ := h
  refine ⟨_, rfl, args_post (ty := 4) laidOut hW' rfl (by kernel_rfl) Try.underlying4 rfl ?_ hk⟩
  rw [Try.params3]
  intro t ht
  simp only [List.mem_cons, List.not_mem_nil, or_false] at ht
  rcases ht with rfl | rfl
  · exact ⟨by kernel_rfl, of_decide_eq_true (by kernel_rfl)⟩
  · exact ⟨by kernel_rfl, of_decide_eq_true (by kernel_rfl)⟩

set_option maxRecDepth 100000 in
theorem lifted (os : Os) (started : os.Started) (H : Type) (enc : TypeId × Value → H) :
    ReturnsInHanded {} Try.checked os 3 .any (Rows.ticketRisesSpec.pre6 enc Try.prog Try.f3 Rows.ticketRisesRow.domain false) (Rows.ticketRisesSpec.post enc Try.prog Try.f3 false true false false) := by
  refine returnsInHanded_of_change (C := Try.checked) own started (by kernel_rfl) Try.func3
    (ChangeSpec.witness6 (enc := enc) (C := Try.checked) false ⟨#[], #[.slice none 0 0, .slice none 0 0], []⟩ 8 (by kernel_rfl) (by kernel_rfl) (by kernel_rfl) (by kernel_rfl)) ?_
  intro W base args ds gs before hval hW _ _
  exact contract H enc W base args ds gs before hval hW
end ticketRisesAt

theorem ticketRises_holds : Rows.TicketRisesSaid :=
  OpenClaim.holds_of_wide 3 Try.f3 rfl rfl rfl rfl rfl rfl rfl ⟨rfl, rfl, rfl, rfl, rfl⟩ rfl rfl rfl rfl rfl (by kernel_rfl) Try.func3 (by kernel_rfl)
    (of_decide_eq_true (by kernel_rfl)) (by unfold Func.isWrapper; first | (rw [if_pos (by decide +kernel)]; kernel_rfl) | (rw [if_neg (by decide +kernel)]; exact ⟨rfl, rfl⟩))
    (fun os started H enc _ => ticketRisesAt.lifted os started H enc)

#print axioms ticketRises_holds
end Go.Proofs.Ytiohkpjljinmfaa
