/- The law LedgerRoom, for every capacity and every script: it answers true, and what was there is as it was. No condition. -/
import Derived.Test.YtnpegkmoadjjeaaRows
import Derived.Test.YtnpegkmoadjjeaaLr11
import Derived.Test.YtnpegkmoadjjeaaPrim
import Derived.Test.YtnpegkmoadjjeaaArgs2
import Derived.WalkKit
import Derived.ProofKit
import Derived.OpenShut
namespace Go.Proofs.Ytnpegkmoadjjeaa
open Go.ChangeShapes Go.WideShapes Go.ChangeAt Go.RowKit
set_option linter.unusedVariables false

namespace ledgerRoomAt
theorem own : ownKnob Try.prog.godebug = none := by kernel_rfl
theorem mixed : Try.prog.follows .mixedOrders = true := by kernel_rfl
theorem laidOut : laidOutB Try.prog = true := by kernel_rfl
/-- The worked example, closed. -/
theorem awakeTrue : isTrue (exec (tableOf Try.prog) 100000 (.fn 5) [] (heap0 Try.prog)) = true := by kernel_rfl
noncomputable def tab : Nat → Option AFun := tableX Try.prog [(5, yes)]
theorem tabOk : TOk Try.prog tab := tableX_ok _ _ fun x hx => by
  simp only [List.mem_cons, List.not_mem_nil, or_false] at hx
  subst hx
  exact ⟨by kernel_rfl, yes_ok (tableOf_ok _) mixed awakeTrue⟩
theorem t_new : tab k_ledger_New = some c_ledger_New := by kernel_rfl
theorem t_used : tab k_ledger_Ledger_Used = some c_ledger_Ledger_Used := by kernel_rfl
theorem t_reserved : tab k_ledger_Ledger_Reserved = some c_ledger_Ledger_Reserved := by kernel_rfl
theorem t_reserve : tab k_ledger_Ledger_Reserve = some c_ledger_Ledger_Reserve := by kernel_rfl
theorem t_append : tab k_ledger_Ledger_Append = some c_ledger_Ledger_Append := by kernel_rfl
theorem t_close : tab k_ledger_Ledger_Close = some c_ledger_Ledger_Close := by kernel_rfl
theorem t_free : tab k_ledger_Ledger_Free = some c_ledger_Ledger_Free := by kernel_rfl
theorem t_fits : tab k_ledger_Ledger_Fits = some c_ledger_Ledger_Fits := by kernel_rfl
theorem t_has : tab k_ledger_Ledger_has = some c_ledger_Ledger_has := by kernel_rfl
theorem t_law : tab k_wicketlaw12_LedgerRoom = some c_wicketlaw12_LedgerRoom := by kernel_rfl
theorem t_awake : tab k_wicketlaw12_awake = some ⟨[], .skip, some yes⟩ := by kernel_rfl
theorem tk : LrT tab := ⟨⟨t_new, t_used, t_reserved, t_reserve, t_append, t_close, t_free, t_fits, t_has⟩, t_law, fun n H => exec_prim t_awake rfl⟩

theorem opEl {H : Type} {enc : TypeId × Value → H} {W : World} {cs : List Value} {n : Nat} {y : DataW H × List MemPlace} (hlen : cs.length = 4) (h : DataW.trod enc Try.prog W 0 (fun _ => true) true n 32 cs = some y) : ∃ o : Op4, cs = o.cells := by
  obtain ⟨xs, k, rfl, rfl, hl, hx, hf⟩ := DataW.trod_struct Try.underlying32 h
  match cs, hlen with
  | [c0, c1, c2, c3], _ =>
    have hx4 : xs.length = 4 := hx
    have i1 : Try.prog.cellsOf 3 = 1 := by kernel_rfl
    have i2 : Try.prog.cellsOf 30 = 1 := by kernel_rfl
    have at_ : ∀ i, i < 4 → ∃ x, xs[i]? = some x := fun i hi => ⟨xs[i]'(by omega), by simp⟩
    have f0 := hf 0 _ rfl
    have f1 := hf 1 _ rfl
    have f2 := hf 2 _ rfl
    have f3 := hf 3 _ rfl
    obtain ⟨x0, e0⟩ := at_ 0 (by omega)
    obtain ⟨x1, e1⟩ := at_ 1 (by omega)
    obtain ⟨x2, e2⟩ := at_ 2 (by omega)
    obtain ⟨x3, e3⟩ := at_ 3 (by omega)
    rw [e0] at f0
    rw [e1] at f1
    rw [e2] at f2
    rw [e3] at f3
    obtain ⟨z0, h0, _⟩ := DataW.trod_int Try.underlying3 f0
    obtain ⟨z1, h1, _⟩ := DataW.trod_int Try.underlying3 f1
    obtain ⟨z2, h2, _⟩ := DataW.trod_int Try.underlying30 f2
    obtain ⟨z3, h3, _⟩ := DataW.trod_int Try.underlying3 f3
    change List.take (Try.prog.cellsOf 3) (List.drop 0 [c0, c1, c2, c3]) = _ at h0
    change List.take (Try.prog.cellsOf 3) (List.drop 1 [c0, c1, c2, c3]) = _ at h1
    change List.take (Try.prog.cellsOf 30) (List.drop 2 [c0, c1, c2, c3]) = _ at h2
    change List.take (Try.prog.cellsOf 3) (List.drop 3 [c0, c1, c2, c3]) = _ at h3
    rw [i1] at h0 h1 h3
    rw [i2] at h2
    simp only [List.drop_zero, List.drop_succ_cons, List.take_succ_cons, List.take_zero, List.cons.injEq, and_true] at h0 h1 h2 h3
    subst h0 h1 h2 h3
    exact ⟨⟨z0, z1, z2, z3⟩, rfl⟩

set_option maxRecDepth 100000 in
theorem contract (H : Type) (enc : TypeId × Value → H) (W : World) (base : Nat) (args : Array Value) (ds gs : List (DataW H)) (before : List MemPlace)
    (hval : ∀ (j : Nat) t v, Try.f3.params[j]? = some t → args[j]? = some v → Value.okWide Try.prog W .any base t v)
    (hW : DataW.Whole enc Try.prog Try.f3.params.toList Rows.ledgerRoomSpec.vars false W args.toList ds gs before) :
    Calls Try.prog 3 args W fun e W' => ∃ v, e = .returned v ∧ Rows.ledgerRoomSpec.post enc Try.prog Try.f3 false true false false W args v W' := by
  have hW' := hW
  obtain ⟨p, q, hA0, hV, rfl, hfz, hnd⟩ := hW
  have hA : DataW.TrodAll enc Try.prog W 0 (fun _ => true) true Try.f3.params.toList args.toList ds p := hA0
  rw [Try.params3] at hA hval
  obtain ⟨v0, vs0, d0, ds0, p0, q0, hargs0, rfl, rfl, h0, r0⟩ := trodAll_cons hA
  obtain ⟨v1, vs1, d1, ds1, p1, q1, hargs1, rfl, rfl, h1, r1⟩ := trodAll_cons r0
  obtain ⟨hnil, rfl, rfl⟩ := trodAll_nil r1
  obtain rfl : args = #[v0, v1] := Array.ext' (by rw [hargs0, hargs1, hnil])
  subst hnil
  clear hA0
  obtain ⟨cut, rfl⟩ : ∃ z, v0 = .int .i64 z := okWide_int Try.underlying3 (hval 0 3 v0 rfl rfl)
  obtain ⟨ι1, H1, a1, L, g1, g2, g3, g4, g5, g6⟩ := (args0 Try.prog W).many (es := 4) Op4.cells (fun _ => rfl) (by decide) Try.underlying22 (by kernel_rfl) ⟨_, hval 1 22 v1 rfl rfl⟩ h1 (fun ι z u hu => by
    simp only [Op4.cells, List.mem_cons, List.not_mem_nil, or_false] at hu
    rcases hu with rfl | rfl | rfl | rfl <;> exact .atom (.int _ _)) (fun cs n y hl hy => opEl hl hy)
  obtain ⟨H', he, _⟩ := ledgerRoom_ok (m := 300) tk g1.wf g4 (fun i hi => ⟨L[i]'hi, flat_at (mk := Op4.cells) (fun _ => rfl) (List.getElem?_eq_getElem hi)⟩) cut (Nat.le_refl _)
  refine (g1.calls tabOk mixed (args := [.int .i64 cut, a1]) (args' := [.int .i64 cut, v1]) (.cons (.atom (.int _ _)) (.cons (.atom g5) .nil)) he).mono fun e W' h => ?_
  obtain ⟨rfl, hk⟩ := h
  refine ⟨_, rfl, args_post (ty := 4) laidOut hW' rfl (by kernel_rfl) Try.underlying4 rfl ?_ hk⟩
  rw [Try.params3]
  intro t ht
  simp only [List.mem_cons, List.not_mem_nil, or_false] at ht
  rcases ht with rfl | rfl
  · exact ⟨by kernel_rfl, of_decide_eq_true (by kernel_rfl)⟩
  · exact ⟨by kernel_rfl, of_decide_eq_true (by kernel_rfl)⟩

set_option maxRecDepth 100000 in
theorem lifted (os : Os) (started : os.Started) (H : Type) (enc : TypeId × Value → H) :
    ReturnsInHanded {} Try.checked os 3 .any (Rows.ledgerRoomSpec.pre6 enc Try.prog Try.f3 Rows.ledgerRoomRow.domain false) (Rows.ledgerRoomSpec.post enc Try.prog Try.f3 false true false false) := by
  refine returnsInHanded_of_change (C := Try.checked) own started (by kernel_rfl) Try.func3
    (ChangeSpec.witness6 (enc := enc) (C := Try.checked) false ⟨#[], #[.int .i64 0, .slice none 0 0], []⟩ 8 (by kernel_rfl) (by kernel_rfl) (by kernel_rfl) (by kernel_rfl)) ?_
  intro W base args ds gs before hval hW _ _
  exact contract H enc W base args ds gs before hval hW
end ledgerRoomAt

theorem ledgerRoom_holds : Rows.LedgerRoomSaid :=
  OpenClaim.holds_of_wide 3 Try.f3 rfl rfl rfl rfl rfl rfl rfl ⟨rfl, rfl, rfl, rfl, rfl⟩ rfl rfl rfl rfl rfl (by kernel_rfl) Try.func3 (by kernel_rfl)
    (of_decide_eq_true (by kernel_rfl)) (by unfold Func.isWrapper; first | (rw [if_pos (by decide +kernel)]; kernel_rfl) | (rw [if_neg (by decide +kernel)]; exact ⟨rfl, rfl⟩))
    (fun os started H enc _ => ledgerRoomAt.lifted os started H enc)

#print axioms ledgerRoom_holds
end Go.Proofs.Ytnpegkmoadjjeaa
