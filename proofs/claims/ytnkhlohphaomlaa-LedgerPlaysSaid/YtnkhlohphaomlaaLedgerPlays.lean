/- The law LedgerPlays, for every two pairs of numbers and every script: it answers true, and what was there is as it was. No condition. -/
import Derived.Test.YtnkhlohphaomlaaRows
import Derived.Test.YtnkhlohphaomlaaPL10
import Derived.Test.YtnkhlohphaomlaaPrim2
import Derived.Shelf.SlMaps.Clone
import Derived.Shelf.SlGeneric
import Derived.Ground.SlmcProg
import Derived.Test.YtnkhlohphaomlaaArgs2
import Derived.WalkKit
import Derived.ProofKit
import Derived.OpenShut
namespace Go.Proofs.Ytnkhlohphaomlaa
open Go.ChangeShapes Go.WideShapes Go.ChangeAt Go.RowKit
set_option linter.unusedVariables false

def Try.ledgerPlaysClone_ren : Go.Shelf.Ren := ⟨fun | 5 => 31 | 7 => 32 | n => n, fun | 23 => 49 | 25 => 38 | 3 => 3 | 4 => 4 | 20 => 20 | n => n, fun | n => n⟩
theorem Try.ledgerPlaysClone : Go.Proofs.SlLaysW.n5 Try.prog Try.ledgerPlaysClone_ren := {
  mixed := by kernel_rfl
  f5 := ⟨Try.f31.name, by decide, Try.func31.trans (congrArg some (by kernel_rfl))⟩
  f7 := Try.func32.trans (congrArg some (by kernel_rfl))
  t4 := Try.underlying4
  a4 := Try.isAgg4
  z4 := Try.sizeOf4
  v4 := Try.zeroValue4
  t20 := Try.underlying20
  a20 := Try.isAgg20
  z20 := Try.sizeOf20
  v20 := Try.zeroValue20
  t23 := Try.underlying49
  a23 := Try.isAgg49
  z23 := Try.sizeOf49
  v23 := Try.zeroValue49 }
namespace ledgerPlaysAt
theorem own : ownKnob Try.prog.godebug = none := by kernel_rfl
theorem mixed : Try.prog.follows .mixedOrders = true := by kernel_rfl
theorem laidOut : laidOutB Try.prog = true := by kernel_rfl
/-- The worked example, closed. -/
theorem awakeTrue : isTrue (exec (tableOf Try.prog) 100000 (.fn 4) [] (heap0 Try.prog)) = true := by kernel_rfl
noncomputable def tab : Nat → Option AFun := tableX Try.prog [(4, yes), (31, cloneM)]
theorem tabOk : TOk Try.prog tab := tableX_ok _ _ fun x hx => by
  simp only [List.mem_cons, List.not_mem_nil, or_false] at hx
  rcases hx with rfl | rfl
  · exact ⟨by kernel_rfl, yes_ok (tableOf_ok _) mixed awakeTrue⟩
  · exact ⟨by kernel_rfl, cloneM_ok (AnyW.maps_Clone Try.ledgerPlaysClone) (AnyW.maps_Clone_nil Try.ledgerPlaysClone)⟩
theorem t_new : tab k_ledger_New = some c_ledger_New := by kernel_rfl
theorem t_used : tab k_ledger_Ledger_Used = some c_ledger_Ledger_Used := by kernel_rfl
theorem t_reserved : tab k_ledger_Ledger_Reserved = some c_ledger_Ledger_Reserved := by kernel_rfl
theorem t_reserve : tab k_ledger_Ledger_Reserve = some c_ledger_Ledger_Reserve := by kernel_rfl
theorem t_append : tab k_ledger_Ledger_Append = some c_ledger_Ledger_Append := by kernel_rfl
theorem t_close : tab k_ledger_Ledger_Close = some c_ledger_Ledger_Close := by kernel_rfl
theorem t_free : tab k_ledger_Ledger_Free = some c_ledger_Ledger_Free := by kernel_rfl
theorem t_fits : tab k_ledger_Ledger_Fits = some c_ledger_Ledger_Fits := by kernel_rfl
theorem t_has : tab k_ledger_Ledger_has = some c_ledger_Ledger_has := by kernel_rfl
theorem t_left : tab k_ledger_Ledger_Left = some c_ledger_Ledger_Left := by kernel_rfl
theorem t_marked : tab k_ledger_Ledger_Marked = some c_ledger_Ledger_Marked := by kernel_rfl
theorem t_copy : tab k_ledger_Ledger_Copy = some c_ledger_Ledger_Copy := by kernel_rfl
theorem t_rnew : tab k_wicketref12_New = some c_wicketref12_New := by kernel_rfl
theorem t_rused : tab k_wicketref12_Ledger_Used = some c_wicketref12_Ledger_Used := by kernel_rfl
theorem t_rreserved : tab k_wicketref12_Ledger_Reserved = some c_wicketref12_Ledger_Reserved := by kernel_rfl
theorem t_rat : tab k_wicketref12_Ledger_at = some c_wicketref12_Ledger_at := by kernel_rfl
theorem t_rfits : tab k_wicketref12_Ledger_Fits = some c_wicketref12_Ledger_Fits := by kernel_rfl
theorem t_rmarked : tab k_wicketref12_Ledger_Marked = some c_wicketref12_Ledger_Marked := by kernel_rfl
theorem t_rleft : tab k_wicketref12_Ledger_Left = some c_wicketref12_Ledger_Left := by kernel_rfl
theorem t_rreserve : tab k_wicketref12_Ledger_Reserve = some c_wicketref12_Ledger_Reserve := by kernel_rfl
theorem t_rappend : tab k_wicketref12_Ledger_Append = some c_wicketref12_Ledger_Append := by kernel_rfl
theorem t_rclose : tab k_wicketref12_Ledger_Close = some c_wicketref12_Ledger_Close := by kernel_rfl
theorem t_rfree : tab k_wicketref12_Ledger_Free = some c_wicketref12_Ledger_Free := by kernel_rfl
theorem t_rcopy : tab k_wicketref12_Ledger_Copy = some c_wicketref12_Ledger_Copy := by kernel_rfl
theorem t_same : tab k_wicketlaw12_pair_same = some c_wicketlaw12_pair_same := by kernel_rfl
theorem t_plays : tab k_wicketlaw12_pair_plays = some c_wicketlaw12_pair_plays := by kernel_rfl
theorem t_law : tab k_wicketlaw12_LedgerPlays = some c_wicketlaw12_LedgerPlays := by kernel_rfl
theorem t_awake : tab k_wicketlaw12_awake = some ⟨[], .skip, some yes⟩ := by kernel_rfl
theorem t_clone : tab k_maps_Clone_map_uint64_int_uint64_int = some ⟨[], .skip, some cloneM⟩ := by kernel_rfl
theorem tk : LawT tab := ⟨⟨⟨⟨⟨t_new, t_used, t_reserved, t_reserve, t_append, t_close, t_free, t_fits, t_has⟩, t_left, t_marked, t_copy, fun n args H => exec_prim t_clone rfl⟩, ⟨t_rnew, t_rused, t_rreserved, t_rat, t_rfits, t_rmarked, t_rleft, t_rreserve, t_rappend, t_rclose, t_rfree, t_rcopy⟩, t_same⟩, t_plays⟩, t_law, fun n H => exec_prim t_awake rfl⟩

theorem opEl {H : Type} {enc : TypeId × Value → H} {W : World} {cs : List Value} {n : Nat} {y : DataW H × List MemPlace} (hlen : cs.length = 4) (h : DataW.trod enc Try.prog W 0 (fun _ => true) true n 40 cs = some y) : ∃ o : OpL, cs = o.cells := by
  obtain ⟨xs, k, rfl, rfl, hl, hx, hf⟩ := DataW.trod_struct Try.underlying40 h
  match cs, hlen with
  | [c0, c1, c2, c3], _ =>
    have hx4 : xs.length = 4 := hx
    have i1 : Try.prog.cellsOf 3 = 1 := by kernel_rfl
    have i2 : Try.prog.cellsOf 38 = 1 := by kernel_rfl
    have at_ : ∀ i, i < 4 → ∃ x, xs[i]? = some x := fun i hi => ⟨xs[i]'(by omega), by simp⟩
    have f0 := hf 0 _ rfl
    have f1 := hf 1 _ rfl
    have f2 := hf 2 _ rfl
    have f3 := hf 3 _ rfl
    obtain ⟨x0, e0⟩ := at_ 0 (by omega)
    obtain ⟨x1, e1⟩ := at_ 1 (by omega)
    obtain ⟨x2, e2⟩ := at_ 2 (by omega)
    obtain ⟨x3, e3⟩ := at_ 3 (by omega)
    rw [e0] at f0
    rw [e1] at f1
    rw [e2] at f2
    rw [e3] at f3
    obtain ⟨z0, h0, _⟩ := DataW.trod_int Try.underlying3 f0
    obtain ⟨z1, h1, _⟩ := DataW.trod_int Try.underlying3 f1
    obtain ⟨z2, h2, _⟩ := DataW.trod_int Try.underlying38 f2
    obtain ⟨z3, h3, _⟩ := DataW.trod_int Try.underlying3 f3
    change List.take (Try.prog.cellsOf 3) (List.drop 0 [c0, c1, c2, c3]) = _ at h0
    change List.take (Try.prog.cellsOf 3) (List.drop 1 [c0, c1, c2, c3]) = _ at h1
    change List.take (Try.prog.cellsOf 38) (List.drop 2 [c0, c1, c2, c3]) = _ at h2
    change List.take (Try.prog.cellsOf 3) (List.drop 3 [c0, c1, c2, c3]) = _ at h3
    rw [i1] at h0 h1 h3
    rw [i2] at h2
    simp only [List.drop_zero, List.drop_succ_cons, List.take_succ_cons, List.take_zero, List.cons.injEq, and_true] at h0 h1 h2 h3
    subst h0 h1 h2 h3
    exact ⟨⟨z0, z1, z2, z3⟩, rfl⟩

theorem arr2 {H : Type} {enc : TypeId × Value → H} {W : World} {v : Value} {b : Nat} {r : Reach} {d : DataW H} {p : List MemPlace} (hv : Value.okWide Try.prog W r b 22 v) (h : DataW.Trod enc Try.prog W 0 (fun _ => true) true 22 v d p) : ∃ x y : Int, v = .agg ⟨[.int .i64 x, .int .i64 y]⟩ := by
  have hu : Try.prog.underlying 22 = some (.array 2 3) := by kernel_rfl
  have hsz : Try.prog.cellsOf 22 = 2 := by kernel_rfl
  have h1 : Try.prog.cellsOf 3 = 1 := by kernel_rfl
  have hs : ∃ cs, v = .agg cs ∧ cs.size = 2 := by
    simp only [Value.okWide, hu] at hv
    obtain ⟨cs, e1, e2, _⟩ := hv
    exact ⟨cs, e1, by rw [e2, hsz]⟩
  obtain ⟨cs, rfl, hc⟩ := hs
  obtain ⟨fuel, hf⟩ := h
  obtain ⟨xs, k, rfl, _, _, hx, hg⟩ := DataW.trod_array hu hf
  match cs, hc with
  | ⟨[c0, c1]⟩, _ =>
    have at_ : ∀ i, i < 2 → ∃ x, xs[i]? = some x := fun i hi => ⟨xs[i]'(by omega), by simp⟩
    have g0 := hg 0 (by omega)
    have g1 := hg 1 (by omega)
    obtain ⟨x0, e0⟩ := at_ 0 (by omega)
    obtain ⟨x1, e1⟩ := at_ 1 (by omega)
    rw [e0] at g0
    rw [e1] at g1
    obtain ⟨z0, k0, _⟩ := DataW.trod_int Try.underlying3 g0
    obtain ⟨z1, k1, _⟩ := DataW.trod_int Try.underlying3 g1
    rw [h1] at k0 k1
    refine ⟨z0, z1, ?_⟩
    have j0 : c0 = .int .i64 z0 := by simpa [Value.cells] using k0
    have j1 : c1 = .int .i64 z1 := by simpa [Value.cells] using k1
    rw [j0, j1]

set_option maxRecDepth 100000 in
theorem contract (H : Type) (enc : TypeId × Value → H) (W : World) (base : Nat) (args : Array Value) (ds gs : List (DataW H)) (before : List MemPlace)
    (hval : ∀ (j : Nat) t v, Try.f3.params[j]? = some t → args[j]? = some v → Value.okWide Try.prog W .any base t v)
    (hW : DataW.Whole enc Try.prog Try.f3.params.toList Rows.ledgerPlaysSpec.vars false W args.toList ds gs before) :
    Calls Try.prog 3 args W fun e W' => ∃ v, e = .returned v ∧ Rows.ledgerPlaysSpec.post enc Try.prog Try.f3 false true false false W args v W' := by
  have hW' := hW
  obtain ⟨p, q, hA0, hV, rfl, hfz, hnd⟩ := hW
  have hA : DataW.TrodAll enc Try.prog W 0 (fun _ => true) true Try.f3.params.toList args.toList ds p := hA0
  rw [Try.params3] at hA hval
  obtain ⟨v0, vs0, d0, ds0, p0, q0, hargs0, rfl, rfl, h0, r0⟩ := trodAll_cons hA
  obtain ⟨v1, vs1, d1, ds1, p1, q1, hargs1, rfl, rfl, h1, r1⟩ := trodAll_cons r0
  obtain ⟨v2, vs2, d2, ds2, p2, q2, hargs2, rfl, rfl, h2, r2⟩ := trodAll_cons r1
  obtain ⟨hnil, rfl, rfl⟩ := trodAll_nil r2
  obtain rfl : args = #[v0, v1, v2] := Array.ext' (by rw [hargs0, hargs1, hargs2, hnil])
  subst hnil
  clear hA0
  obtain ⟨c1, m1, rfl⟩ := arr2 (hval 0 22 v0 rfl rfl) h0
  obtain ⟨c2, m2, rfl⟩ := arr2 (hval 1 22 v1 rfl rfl) h1
  obtain ⟨ι1, H1, a1, L, g1, g2, g3, g4, g5, g6⟩ := (args0 Try.prog W).many (es := 4) OpL.cells (fun _ => rfl) (by decide) Try.underlying23 (by kernel_rfl) ⟨_, hval 2 23 v2 rfl rfl⟩ h2 (fun ι z u hu => by
    simp only [OpL.cells, List.mem_cons, List.not_mem_nil, or_false] at hu
    rcases hu with rfl | rfl | rfl | rfl <;> exact .atom (.int _ _)) (fun cs n y hl hy => opEl hl hy)
  have cells2 : ∀ x y : Int, VR ι1 (.agg ⟨[.int .i64 x, .int .i64 y]⟩) (.agg ⟨[.int .i64 x, .int .i64 y]⟩) := fun x y => .val (.agg (.cons (.atom (.int _ _)) (.cons (.atom (.int _ _)) .nil)))
  obtain ⟨H', he⟩ := ledgerPlays_ok (m := 1000) tk g1.wf c1 m1 c2 m2 (Nat.le_refl _) g4 (fun i hi => ⟨L[i]'hi, flat_at (mk := OpL.cells) (fun _ => rfl) (List.getElem?_eq_getElem hi)⟩)
  refine (g1.calls tabOk mixed (args := [.agg ⟨[.int .i64 c1, .int .i64 m1]⟩, .agg ⟨[.int .i64 c2, .int .i64 m2]⟩, a1]) (args' := [.agg ⟨[.int .i64 c1, .int .i64 m1]⟩, .agg ⟨[.int .i64 c2, .int .i64 m2]⟩, v2]) (.cons (cells2 _ _) (.cons (cells2 _ _) (.cons (.atom g5) .nil))) he).mono fun e W' h => ?_
  obtain ⟨rfl, hk⟩ := h
  refine ⟨_, rfl, args_post (ty := 4) laidOut hW' rfl (by kernel_rfl) Try.underlying4 rfl ?_ hk⟩
  rw [Try.params3]
  intro t ht
  simp only [List.mem_cons, List.not_mem_nil, or_false] at ht
  rcases ht with rfl | rfl | rfl
  · exact ⟨by kernel_rfl, of_decide_eq_true (by kernel_rfl)⟩
  · exact ⟨by kernel_rfl, of_decide_eq_true (by kernel_rfl)⟩
  · exact ⟨by kernel_rfl, of_decide_eq_true (by kernel_rfl)⟩

set_option maxRecDepth 100000 in
theorem lifted (os : Os) (started : os.Started) (H : Type) (enc : TypeId × Value → H) :
    ReturnsInHanded {} Try.checked os 3 .any (Rows.ledgerPlaysSpec.pre6 enc Try.prog Try.f3 Rows.ledgerPlaysRow.domain false) (Rows.ledgerPlaysSpec.post enc Try.prog Try.f3 false true false false) := by
  refine returnsInHanded_of_change (C := Try.checked) own started (by kernel_rfl) Try.func3
    (ChangeSpec.witness6 (enc := enc) (C := Try.checked) false ⟨#[], #[.agg #[.int .i64 0, .int .i64 0], .agg #[.int .i64 0, .int .i64 0], .slice none 0 0], []⟩ 8 (by kernel_rfl) (by kernel_rfl) (by kernel_rfl) (by kernel_rfl)) ?_
  intro W base args ds gs before hval hW _ _
  exact contract H enc W base args ds gs before hval hW
end ledgerPlaysAt

theorem ledgerPlays_holds : Rows.LedgerPlaysSaid :=
  OpenClaim.holds_of_wide 3 Try.f3 rfl rfl rfl rfl rfl rfl rfl ⟨rfl, rfl, rfl, rfl, rfl⟩ rfl rfl rfl rfl rfl (by kernel_rfl) Try.func3 (by kernel_rfl)
    (of_decide_eq_true (by kernel_rfl)) (by unfold Func.isWrapper; first | (rw [if_pos (by decide +kernel)]; kernel_rfl) | (rw [if_neg (by decide +kernel)]; exact ⟨rfl, rfl⟩))
    (fun os started H enc _ => ledgerPlaysAt.lifted os started H enc)

#print axioms ledgerPlays_holds
end Go.Proofs.Ytnkhlohphaomlaa
