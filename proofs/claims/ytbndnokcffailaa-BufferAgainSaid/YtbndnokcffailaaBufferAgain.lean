/- The law BufferAgain, for every form, all writes and either order: it answers true, and what was there is as it was. No condition. -/
import Derived.Test.YtbndnokcffailaaRows
import Derived.Test.YtbndnokcffailaaBa8
import Derived.Test.YtbndnokcffailaaPrim
import Derived.Test.YtbndnokcffailaaArgs2
import Derived.WalkKit
import Derived.ProofKit
import Derived.OpenShut
namespace Go.Proofs.Ytbndnokcffailaa
open Go.ChangeShapes Go.WideShapes Go.ChangeAt Go.RowKit
set_option linter.unusedVariables false

namespace bufferAgainAt
theorem own : ownKnob Try.prog.godebug = none := by kernel_rfl
theorem mixed : Try.prog.follows .mixedOrders = true := by kernel_rfl
theorem laidOut : laidOutB Try.prog = true := by kernel_rfl
/-- The worked example, closed. -/
theorem awakeTrue : isTrue (exec (tableOf Try.prog) 100000 (.fn 5) [] (heap0 Try.prog)) = true := by kernel_rfl
noncomputable def tab : Nat → Option AFun := tableX Try.prog [(5, yes)]
theorem tabOk : TOk Try.prog tab := tableX_ok _ _ fun x hx => by
  simp only [List.mem_cons, List.not_mem_nil, or_false] at hx
  subst hx
  exact ⟨by kernel_rfl, yes_ok (tableOf_ok _) mixed awakeTrue⟩
theorem t_index : tab k_slices_Index_int_int = some c_slices_Index_int_int := by kernel_rfl
theorem t_contains : tab k_slices_Contains_int_int = some c_slices_Contains_int_int := by kernel_rfl
theorem t_has : tab k_blocks_Has = some c_blocks_Has := by kernel_rfl
theorem t_new : tab k_buffer_New = some c_buffer_New := by kernel_rfl
theorem t_is_ : tab k_blocks_Is = some c_blocks_Is := by kernel_rfl
theorem t_clone : tab k_slices_Clone_int_int = some c_slices_Clone_int_int := by kernel_rfl
theorem t_refused : tab k_buffer_Buffer_refused = some c_buffer_Buffer_refused := by kernel_rfl
theorem t_write : tab k_buffer_Buffer_Write = some c_buffer_Buffer_Write := by kernel_rfl
theorem t_read : tab k_buffer_Buffer_Read = some c_buffer_Buffer_Read := by kernel_rfl
theorem t_images : tab k_buffer_Buffer_Images = some c_buffer_Buffer_Images := by kernel_rfl
theorem t_len : tab k_buffer_Buffer_Len = some c_buffer_Buffer_Len := by kernel_rfl
theorem t_same : tab k_wicketref16_Same = some c_wicketref16_Same := by kernel_rfl
theorem t_rhas : tab k_wicketref05_Has = some c_wicketref05_Has := by kernel_rfl
theorem t_law : tab k_wicketlaw16_BufferAgain = some c_wicketlaw16_BufferAgain := by kernel_rfl
theorem t_awake : tab k_wicketlaw16_awake = some ⟨[], .skip, some yes⟩ := by kernel_rfl
theorem tk : BagT tab := ⟨⟨⟨t_index, t_contains, t_has⟩, t_new, t_is_, t_clone, t_refused, t_write, t_read, t_images, t_len, t_same, t_rhas⟩, t_law, fun n H => exec_prim t_awake rfl⟩

theorem imEl {H : Type} {enc : TypeId × Value → H} {W : World} {cs : List Value} {n : Nat} {y : DataW H × List MemPlace} (hlen : cs.length = 33) (h : DataW.trod enc Try.prog W 0 (fun _ => true) true n 33 cs = some y) : ∃ o : {p : Int × List Int // p.2.length = 32}, cs = img o.1 := by
  obtain ⟨xs, k, rfl, rfl, hl, hx, hf⟩ := DataW.trod_struct Try.underlying33 h
  match cs, hlen with
  | c0 :: rest, hlen =>
    have hrl : rest.length = 32 := by simpa using hlen
    have hx2 : xs.length = 2 := hx
    have i1 : Try.prog.cellsOf 3 = 1 := by kernel_rfl
    have i2 : Try.prog.cellsOf 5 = 1 := by kernel_rfl
    have i3 : Try.prog.cellsOf 31 = 32 := by kernel_rfl
    have f0 := hf 0 _ rfl
    have f1 := hf 1 _ rfl
    obtain ⟨x0, e0⟩ : ∃ x, xs[0]? = some x := ⟨xs[0]'(by omega), by simp⟩
    obtain ⟨x1, e1⟩ : ∃ x, xs[1]? = some x := ⟨xs[1]'(by omega), by simp⟩
    rw [e0] at f0
    rw [e1] at f1
    obtain ⟨z0, h0, _⟩ := DataW.trod_int Try.underlying3 f0
    change List.take (Try.prog.cellsOf 3) (List.drop 0 (c0 :: rest)) = _ at h0
    rw [i1] at h0
    simp only [List.drop_zero, List.take_succ_cons, List.take_zero, List.cons.injEq, and_true] at h0
    subst h0
    obtain ⟨ys, k2, rfl, rfl, _, hy, hg⟩ := DataW.trod_array Try.underlying31 f1
    have each : ∀ i, i < 32 → ∃ z, rest[i]? = some (.int .u8 z) := by
      intro i hi
      have g := hg i hi
      obtain ⟨yi, ei⟩ : ∃ y, ys[i]? = some y := ⟨ys[i]'(by omega), by simp⟩
      rw [ei] at g
      obtain ⟨z, hz, _⟩ := DataW.trod_int Try.underlying5 g
      change List.take (Try.prog.cellsOf 5) (List.drop (i * Try.prog.cellsOf 5) (List.take (Try.prog.cellsOf 31) (List.drop 1 (.int .i64 z0 :: rest)))) = _ at hz
      rw [i2, i3, Nat.mul_one] at hz
      simp only [List.drop_succ_cons, List.drop_zero] at hz
      rw [List.take_of_length_le (by omega : rest.length ≤ 32)] at hz
      refine ⟨z, ?_⟩
      have := congrArg (fun l => l[0]?) hz
      simpa [List.getElem?_take, List.getElem?_drop] using this
    have hz : ∃ z : Nat → Int, ∀ i, i < 32 → rest[i]? = some (.int .u8 (z i)) := by
      refine ⟨fun i => if hi : i < 32 then Classical.choose (each i hi) else 0, fun i hi => ?_⟩
      simp only [hi, dif_pos]
      exact Classical.choose_spec (each i hi)
    obtain ⟨z, hz⟩ := hz
    refine ⟨⟨(z0, (List.range 32).map z), by simp⟩, ?_⟩
    show _ = Value.int .i64 z0 :: iz .u8 ((List.range 32).map z)
    congr 1
    apply List.ext_getElem?
    intro i
    by_cases hi : i < 32
    · rw [hz i hi]; simp [iz, List.getElem?_range hi]
    · rw [List.getElem?_eq_none (by omega), List.getElem?_eq_none (by simp; omega)]

set_option maxRecDepth 100000 in
theorem contract (H : Type) (enc : TypeId × Value → H) (W : World) (base : Nat) (args : Array Value) (ds gs : List (DataW H)) (before : List MemPlace)
    (hval : ∀ (j : Nat) t v, Try.f3.params[j]? = some t → args[j]? = some v → Value.okWide Try.prog W .any base t v)
    (hW : DataW.Whole enc Try.prog Try.f3.params.toList Rows.bufferAgainSpec.vars false W args.toList ds gs before) :
    Calls Try.prog 3 args W fun e W' => ∃ v, e = .returned v ∧ Rows.bufferAgainSpec.post enc Try.prog Try.f3 false true false false W args v W' := by
  have hW' := hW
  obtain ⟨p, q, hA0, hV, rfl, hfz, hnd⟩ := hW
  have hA : DataW.TrodAll enc Try.prog W 0 (fun _ => true) true Try.f3.params.toList args.toList ds p := hA0
  rw [Try.params3] at hA hval
  obtain ⟨v0, vs0, d0, ds0, p0, q0, hargs0, rfl, rfl, h0, r0⟩ := trodAll_cons hA
  obtain ⟨v1, vs1, d1, ds1, p1, q1, hargs1, rfl, rfl, h1, r1⟩ := trodAll_cons r0
  obtain ⟨v2, vs2, d2, ds2, p2, q2, hargs2, rfl, rfl, h2, r2⟩ := trodAll_cons r1
  obtain ⟨hnil, rfl, rfl⟩ := trodAll_nil r2
  obtain rfl : args = #[v0, v1, v2] := Array.ext' (by rw [hargs0, hargs1, hargs2, hnil])
  subst hnil
  clear hA0
  obtain ⟨tn, rfl⟩ : ∃ z, v2 = .bool z := okWide_bool Try.underlying4 (hval 2 4 v2 rfl rfl)
  obtain ⟨ι1, H1, a0, L, g1, g2, g3, g4, g5, g6⟩ := (args0 Try.prog W).one (fun z => .int .i64 z) Try.underlying22 (by kernel_rfl) ⟨_, hval 0 22 v0 rfl rfl⟩ h0 (fun ι z => .atom (.int _ _)) (fun u n y hy => by
    obtain ⟨z, hz, _⟩ := DataW.trod_int Try.underlying3 hy
    exact ⟨z, by simpa using hz⟩)
  obtain ⟨ι2, H2, a1, M, k1, k2, k3, k4, k5, k6⟩ := g1.many (es := 33) (fun o : {p : Int × List Int // p.2.length = 32} => img o.1) (fun o => img_length o.2) (by decide) Try.underlying23 (by kernel_rfl) ⟨_, hval 1 23 v1 rfl rfl⟩ h1 (fun ι z u hu => by
    simp only [img, iz, List.mem_cons, List.mem_map] at hu
    rcases hu with rfl | ⟨x, _, rfl⟩ <;> exact .atom (.int _ _)) (fun cs n y hl hy => imEl hl hy)
  have k4' : InSl H2 33 a1 (M.map (·.1)).length ((M.map (·.1)).flatMap img) := by
    rw [List.length_map, List.flatMap_map]; exact k4
  obtain ⟨H', he⟩ := bufferAgain_ok (m := 200) tk k1.wf tn (g4.fr k3) g6 k4' (fun p hp => by obtain ⟨o, _, rfl⟩ := List.mem_map.1 hp; exact o.2) (Nat.le_refl _)
  refine (k1.calls tabOk mixed (args := [a0, a1, .bool tn]) (args' := [v0, v1, .bool tn]) (.cons (.atom (g5.mono k2)) (.cons (.atom k5) (.cons (.atom (.bool _)) .nil))) he).mono fun e W' h => ?_
  obtain ⟨rfl, hk⟩ := h
  refine ⟨_, rfl, args_post (ty := 4) laidOut hW' rfl (by kernel_rfl) Try.underlying4 rfl ?_ hk⟩
  rw [Try.params3]
  intro t ht
  simp only [List.mem_cons, List.not_mem_nil, or_false] at ht
  rcases ht with rfl | rfl | rfl
  · exact ⟨by kernel_rfl, of_decide_eq_true (by kernel_rfl)⟩
  · exact ⟨by kernel_rfl, of_decide_eq_true (by kernel_rfl)⟩
  · exact ⟨by kernel_rfl, of_decide_eq_true (by kernel_rfl)⟩

set_option maxRecDepth 100000 in
theorem lifted (os : Os) (started : os.Started) (H : Type) (enc : TypeId × Value → H) :
    ReturnsInHanded {} Try.checked os 3 .any (Rows.bufferAgainSpec.pre6 enc Try.prog Try.f3 Rows.bufferAgainRow.domain false) (Rows.bufferAgainSpec.post enc Try.prog Try.f3 false true false false) := by
  refine returnsInHanded_of_change (C := Try.checked) own started (by kernel_rfl) Try.func3
    (ChangeSpec.witness6 (enc := enc) (C := Try.checked) false ⟨#[], #[.slice none 0 0, .slice none 0 0, .bool false], []⟩ 8 (by kernel_rfl) (by kernel_rfl) (by kernel_rfl) (by kernel_rfl)) ?_
  intro W base args ds gs before hval hW _ _
  exact contract H enc W base args ds gs before hval hW
end bufferAgainAt

theorem bufferAgain_holds : Rows.BufferAgainSaid :=
  OpenClaim.holds_of_wide 3 Try.f3 rfl rfl rfl rfl rfl rfl rfl ⟨rfl, rfl, rfl, rfl, rfl⟩ rfl rfl rfl rfl rfl (by kernel_rfl) Try.func3 (by kernel_rfl)
    (of_decide_eq_true (by kernel_rfl)) (by unfold Func.isWrapper; first | (rw [if_pos (by decide +kernel)]; kernel_rfl) | (rw [if_neg (by decide +kernel)]; exact ⟨rfl, rfl⟩))
    (fun os started H enc _ => bufferAgainAt.lifted os started H enc)

#print axioms bufferAgain_holds
end Go.Proofs.Ytbndnokcffailaa
