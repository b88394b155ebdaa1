/- The law BufferPlays, for all arguments: it answers true, and what was there is as it was. No condition. -/
import Derived.Test.YtpihoicfnolepaaRows
import Derived.Test.YtpihoicfnolepaaLBufferPlays
import Derived.Test.YtpihoicfnolepaaBpA
import Derived.Test.YtpihoicfnolepaaAgZ
import Derived.Shelf.SlMaps.Clone
import Derived.Shelf.SlGeneric
import Derived.Ground.SlmcProg
import Derived.SizedLaws
import Derived.Test.YtpihoicfnolepaaB10
import Derived.Test.YtpihoicfnolepaaPrim2
import Derived.Test.YtpihoicfnolepaaArgs2
import Derived.WalkKit
import Derived.ProofKit
import Derived.OpenShut
namespace Go.Proofs.Ytpihoicfnolepaa
open Go.ChangeShapes Go.WideShapes Go.ChangeAt Go.RowKit
set_option linter.unusedVariables false

def Try.bufferPlaysClone_ren : Go.Shelf.Ren := ⟨fun | 5 => 31 | 7 => 33 | n => n, fun | 23 => 60 | 25 => 3 | 3 => 43 | 4 => 4 | 20 => 20 | n => n, fun | n => n⟩
theorem Try.bufferPlaysClone : Go.Proofs.SlLaysW.n5 Try.prog Try.bufferPlaysClone_ren := {
  mixed := by kernel_rfl
  f5 := ⟨Try.f31.name, by decide, Try.func31.trans (congrArg some (by kernel_rfl))⟩
  f7 := Try.func33.trans (congrArg some (by kernel_rfl))
  t4 := Try.underlying4
  a4 := Try.isAgg4
  z4 := Try.sizeOf4
  v4 := Try.zeroValue4
  t20 := Try.underlying20
  a20 := Try.isAgg20
  z20 := Try.sizeOf20
  v20 := Try.zeroValue20
  t23 := Try.underlying60
  a23 := Try.isAgg60
  z23 := Try.sizeOf60
  v23 := Try.zeroValue60 }
namespace bufferPlaysAt
theorem own : ownKnob Try.prog.godebug = none := by kernel_rfl
theorem mixed : Try.prog.follows .mixedOrders = true := by kernel_rfl
theorem laidOut : laidOutB Try.prog = true := by kernel_rfl
/-- The worked example, closed. -/
theorem awakeTrue : isTrue (exec (tableOf Try.prog) 100000 (.fn 4) [] (heap0 Try.prog)) = true := by kernel_rfl
noncomputable def tab : Nat → Option AFun := tableY Try.prog [12, 13] [(4, yes), (31, cloneM)]
theorem tabOk : TOk Try.prog tab := tableY_ok _ _ _ fun x hx => by
  simp only [List.mem_cons, List.not_mem_nil, or_false] at hx
  rcases hx with rfl | rfl
  · exact ⟨by kernel_rfl, yes_ok (tableOf_ok _) mixed awakeTrue⟩
  · exact ⟨by kernel_rfl, cloneM_ok (AnyW.maps_Clone Try.bufferPlaysClone) (AnyW.maps_Clone_nil Try.bufferPlaysClone)⟩
theorem t_wicketlaw16_awake : PrimT_wicketlaw16_awake tab := by unfold PrimT_wicketlaw16_awake; kernel_rfl
theorem t_maps_Clone_map_int_api_Value_int_api_Value : PrimT_maps_Clone_map_int_api_Value_int_api_Value tab := by unfold PrimT_maps_Clone_map_int_api_Value_int_api_Value; kernel_rfl
theorem t_wicketref16_Same : tab k_wicketref16_Same = some ⟨List.map (·.1) rs_wicketref16_Same, C2.erase c2_wicketref16_Same, none⟩ := by kernel_rfl
theorem t_wicketlaw16_Apart : tab k_wicketlaw16_Apart = some ⟨List.map (·.1) rs_wicketlaw16_Apart, C2.erase c2_wicketlaw16_Apart, none⟩ := by kernel_rfl
theorem t_wicketlaw05_Apart : tab k_wicketlaw05_Apart = some ⟨List.map (·.1) rs_wicketlaw05_Apart, C2.erase c2_wicketlaw05_Apart, none⟩ := by kernel_rfl
theorem t_buffer_Buffer_Len : tab k_buffer_Buffer_Len = some ⟨List.map (·.1) rs_buffer_Buffer_Len, C2.erase c2_buffer_Buffer_Len, none⟩ := by kernel_rfl
theorem t_buffer_Buffer_Images : tab k_buffer_Buffer_Images = some ⟨List.map (·.1) rs_buffer_Buffer_Images, C2.erase c2_buffer_Buffer_Images, none⟩ := by kernel_rfl
theorem t_wicketlaw05_Own : tab k_wicketlaw05_Own = some ⟨List.map (·.1) rs_wicketlaw05_Own, C2.erase c2_wicketlaw05_Own, none⟩ := by kernel_rfl
theorem t_blocks_Is : tab k_blocks_Is = some ⟨List.map (·.1) rs_blocks_Is, C2.erase c2_blocks_Is, none⟩ := by kernel_rfl
theorem t_slices_Clone_int_int : tab k_slices_Clone_int_int = some ⟨List.map (·.1) rs_slices_Clone_int_int, C2.erase c2_slices_Clone_int_int, none⟩ := by kernel_rfl
theorem t_wicketref05_Is : tab k_wicketref05_Is = some ⟨List.map (·.1) rs_wicketref05_Is, C2.erase c2_wicketref05_Is, none⟩ := by kernel_rfl
theorem t_wicketref05_Same : tab k_wicketref05_Same = some ⟨List.map (·.1) rs_wicketref05_Same, C2.erase c2_wicketref05_Same, none⟩ := by kernel_rfl
theorem t_buffer_Buffer_Copy : tab k_buffer_Buffer_Copy = some ⟨List.map (·.1) rs_buffer_Buffer_Copy, C2.erase c2_buffer_Buffer_Copy, none⟩ := by kernel_rfl
theorem t_wicketref16_Buffer_Copy : tab k_wicketref16_Buffer_Copy = some ⟨List.map (·.1) rs_wicketref16_Buffer_Copy, C2.erase c2_wicketref16_Buffer_Copy, none⟩ := by kernel_rfl
theorem t_buffer_Buffer_Form : tab k_buffer_Buffer_Form = some ⟨List.map (·.1) rs_buffer_Buffer_Form, C2.erase c2_buffer_Buffer_Form, none⟩ := by kernel_rfl
theorem t_wicketref05_Has : tab k_wicketref05_Has = some ⟨List.map (·.1) rs_wicketref05_Has, C2.erase c2_wicketref05_Has, none⟩ := by kernel_rfl
theorem t_slices_Index_int_int : tab k_slices_Index_int_int = some ⟨List.map (·.1) rs_slices_Index_int_int, C2.erase c2_slices_Index_int_int, none⟩ := by kernel_rfl
theorem t_wicketlaw05_Roomy : tab k_wicketlaw05_Roomy = some ⟨List.map (·.1) rs_wicketlaw05_Roomy, C2.erase c2_wicketlaw05_Roomy, none⟩ := by kernel_rfl
theorem t_buffer_New : tab k_buffer_New = some ⟨List.map (·.1) rs_buffer_New, C2.erase c2_buffer_New, none⟩ := by kernel_rfl
theorem t_wicketref16_New : tab k_wicketref16_New = some ⟨List.map (·.1) rs_wicketref16_New, C2.erase c2_wicketref16_New, none⟩ := by kernel_rfl
theorem t_wicketlaw05_Held : tab k_wicketlaw05_Held = some ⟨List.map (·.1) rs_wicketlaw05_Held, C2.erase c2_wicketlaw05_Held, none⟩ := by kernel_rfl
theorem t_wicketref16_Buffer_Write : tab k_wicketref16_Buffer_Write = some ⟨List.map (·.1) rs_wicketref16_Buffer_Write, C2.erase c2_wicketref16_Buffer_Write, none⟩ := by kernel_rfl
theorem t_wicketref16_Buffer_Read : tab k_wicketref16_Buffer_Read = some ⟨List.map (·.1) rs_wicketref16_Buffer_Read, C2.erase c2_wicketref16_Buffer_Read, none⟩ := by kernel_rfl
theorem t_wicketref16_Buffer_Images : tab k_wicketref16_Buffer_Images = some ⟨List.map (·.1) rs_wicketref16_Buffer_Images, C2.erase c2_wicketref16_Buffer_Images, none⟩ := by kernel_rfl
theorem t_slices_Contains_int_int : tab k_slices_Contains_int_int = some ⟨List.map (·.1) rs_slices_Contains_int_int, C2.erase c2_slices_Contains_int_int, none⟩ := by kernel_rfl
theorem t_wicketlaw16_pair_told : tab k_wicketlaw16_pair_told = some ⟨List.map (·.1) rs_wicketlaw16_pair_told, C2.erase c2_wicketlaw16_pair_told, none⟩ := by kernel_rfl
theorem t_blocks_Has : tab k_blocks_Has = some ⟨List.map (·.1) rs_blocks_Has, C2.erase c2_blocks_Has, none⟩ := by kernel_rfl
theorem t_buffer_Buffer_refused : tab k_buffer_Buffer_refused = some ⟨List.map (·.1) rs_buffer_Buffer_refused, C2.erase c2_buffer_Buffer_refused, none⟩ := by kernel_rfl
theorem t_buffer_Buffer_Write : tab k_buffer_Buffer_Write = some ⟨List.map (·.1) rs_buffer_Buffer_Write, C2.erase c2_buffer_Buffer_Write, none⟩ := by kernel_rfl
theorem t_buffer_Buffer_Read : tab k_buffer_Buffer_Read = some ⟨List.map (·.1) rs_buffer_Buffer_Read, C2.erase c2_buffer_Buffer_Read, none⟩ := by kernel_rfl
theorem t_wicketlaw16_pair_plays : tab k_wicketlaw16_pair_plays = some ⟨List.map (·.1) rs_wicketlaw16_pair_plays, C2.erase c2_wicketlaw16_pair_plays, none⟩ := by kernel_rfl
theorem t_wicketlaw16_BufferPlays : tab k_wicketlaw16_BufferPlays = some ⟨List.map (·.1) rs_wicketlaw16_BufferPlays, C2.erase c2_wicketlaw16_BufferPlays, none⟩ := by kernel_rfl
theorem tk : LfT tab := ⟨t_wicketlaw16_awake, t_maps_Clone_map_int_api_Value_int_api_Value, t_wicketref16_Same, t_wicketlaw16_Apart, t_wicketlaw05_Apart, t_buffer_Buffer_Len, t_buffer_Buffer_Images, t_wicketlaw05_Own, t_blocks_Is, t_slices_Clone_int_int, t_wicketref05_Is, t_wicketref05_Same, t_buffer_Buffer_Copy, t_wicketref16_Buffer_Copy, t_buffer_Buffer_Form, t_wicketref05_Has, t_slices_Index_int_int, t_wicketlaw05_Roomy, t_buffer_New, t_wicketref16_New, t_wicketlaw05_Held, t_wicketref16_Buffer_Write, t_wicketref16_Buffer_Read, t_wicketref16_Buffer_Images, t_slices_Contains_int_int, t_wicketlaw16_pair_told, t_blocks_Has, t_buffer_Buffer_refused, t_buffer_Buffer_Write, t_buffer_Buffer_Read, t_wicketlaw16_pair_plays, t_wicketlaw16_BufferPlays⟩

theorem shape1 : shOf Try.prog 10 22 = some [.sl [.int .i64]] := by kernel_rfl
theorem shape2 : shOf Try.prog 10 23 = some [.sl ([.int .i64, .int .i64, .int .i64] ++ List.replicate 32 (.int .u8))] := by kernel_rfl
theorem reach : reachBytes = 140737488351232 := rfl
theorem bytes_ {M : Nat} {G : Ch} : ∀ {k : Nat} {cs : List Value}, HsL M G (List.replicate k (.int .u8)) cs → ∃ v : List Int, cs = iz .u8 v ∧ v.length = k := by
  intro k
  induction k with
  | zero => intro cs h; rw [List.replicate_zero, HsL] at h; exact ⟨[], h, rfl⟩
  | succ k ih =>
    intro cs h
    rw [List.replicate_succ, HsL] at h
    obtain ⟨v0, rest, rfl, hv, h⟩ := h
    rw [Hs.eq_1] at hv
    obtain ⟨z, rfl, _⟩ := hv
    obtain ⟨v, rfl, hl⟩ := ih h
    exact ⟨z :: v, rfl, by simp [hl]⟩
/-- The script, as it is handed in. -/
theorem steps {u : Value} {G : Ch} (h : Hs reachBytes G (.sl ([.int .i64, .int .i64, .int .i64] ++ List.replicate 32 (.int .u8))) u) : ∃ S : List Sps, Scr S u G := by
  rw [Hs] at h
  obtain ⟨chunks, h1, h2, h3, h4⟩ := h
  have hS : ∃ S : List Sps, chunks = S.map Sps.cells ∧ ∀ s ∈ S, s.v.length = 32 := by
    clear h1 h2 h3
    induction chunks with
    | nil => exact ⟨[], rfl, fun _ h => absurd h List.not_mem_nil⟩
    | cons c cs ih =>
      obtain ⟨S, rfl, hD⟩ := ih fun c hc => h4 c (List.mem_cons_of_mem _ hc)
      have hc := h4 c (List.mem_cons_self ..)
      simp only [List.cons_append, List.nil_append] at hc
      rw [HsL] at hc
      obtain ⟨v0, _, rfl, w0, hc⟩ := hc
      rw [HsL] at hc
      obtain ⟨v1, _, rfl, w1, hc⟩ := hc
      rw [HsL] at hc
      obtain ⟨v2, _, rfl, w2, hc⟩ := hc
      simp only [Hs.eq_1] at w0 w1 w2
      obtain ⟨z0, rfl, _⟩ := w0
      obtain ⟨z1, rfl, _⟩ := w1
      obtain ⟨z2, rfl, _⟩ := w2
      obtain ⟨v, rfl, hl⟩ := bytes_ hc
      refine ⟨⟨z0, z1, z2, v⟩ :: S, rfl, fun c hm => ?_⟩
      rcases List.mem_cons.1 hm with rfl | hm
      · exact hl
      · exact hD c hm
  obtain ⟨S, rfl, hD⟩ := hS
  refine ⟨S, ?_, hD⟩
  rw [List.length_map] at h1
  exact h1

set_option maxRecDepth 100000 in
theorem contract (H : Type) (enc : TypeId × Value → H) (W : World) (base : Nat) (args : Array Value) (ds gs : List (DataW H)) (before : List MemPlace)
    (hval : ∀ (j : Nat) t v, Try.f3.params[j]? = some t → args[j]? = some v → Value.okWide Try.prog W .any base t v)
    (hW : DataW.Whole enc Try.prog Try.f3.params.toList Rows.bufferPlaysSpec.vars false W args.toList ds gs before)
    (hsz : (DataW.weightsEach Try.prog (Try.f3.params.toList ++ Rows.bufferPlaysSpec.plain.varTypes Try.prog) (ds ++ gs)).all (· ≤ reachBytes) = true) :
    Calls Try.prog 3 args W fun e W' => ∃ v, e = .returned v ∧ Rows.bufferPlaysSpec.post enc Try.prog Try.f3 false true false false W args v W' := by
  have hW' := hW
  obtain ⟨p, q, hA0, hV, rfl, hfz, hnd⟩ := hW
  have hA : DataW.TrodAll enc Try.prog W 0 (fun _ => true) true Try.f3.params.toList args.toList ds p := hA0
  rw [Try.params3] at hA hval
  obtain ⟨v0, vs0, d0, ds0, p0, q0, hargs0, rfl, rfl, h0, r0⟩ := trodAll_cons hA
  obtain ⟨v1, vs1, d1, ds1, p1, q1, hargs1, rfl, rfl, h1, r1⟩ := trodAll_cons r0
  obtain ⟨v2, vs2, d2, ds2, p2, q2, hargs2, rfl, rfl, h2, r2⟩ := trodAll_cons r1
  obtain ⟨hnil, rfl, rfl⟩ := trodAll_nil r2
  obtain rfl : args = #[v0, v1, v2] := Array.ext' (by rw [hargs0, hargs1, hargs2, hnil])
  subst hnil
  clear hA0
  have hgd0 : goodZ Try.prog 22 d0 := (fun m hm => of_decide_eq_true (List.all_eq_true.1 hsz m (DataW.weights_mem_each (j := 0) (t := 22) (d := d0) (by rw [Try.params3]; rfl) rfl m hm)))
  have hgd1 : goodZ Try.prog 22 d1 := (fun m hm => of_decide_eq_true (List.all_eq_true.1 hsz m (DataW.weights_mem_each (j := 1) (t := 22) (d := d1) (by rw [Try.params3]; rfl) rfl m hm)))
  have hgd2 : goodZ Try.prog 23 d2 := (fun m hm => of_decide_eq_true (List.all_eq_true.1 hsz m (DataW.weights_mem_each (j := 2) (t := 23) (d := d2) (by rw [Try.params3]; rfl) rfl m hm)))
  obtain ⟨ι0, H0, a0, g1, g2, g3, g4, g5⟩ := (args0 Try.prog W).deep Bk.sized Try.underlying22 shape1 ⟨_, hval 0 22 v0 rfl rfl⟩ h0 hgd0
  obtain ⟨ι1, H1, a1, k1, k2, k3, k4, k5⟩ := g1.deep Bk.sized Try.underlying22 shape1 ⟨_, hval 1 22 v1 rfl rfl⟩ h1 hgd1
  obtain ⟨ι2, H2, a2, m1, m2, m3, m4, m5⟩ := k1.deep Bk.sized Try.underlying23 shape2 ⟨_, hval 2 23 v2 rfl rfl⟩ h2 hgd2
  obtain ⟨Ga, b1, b2⟩ := hs_of m1.wf _ _ ((g4.fr k3).fr m3)
  obtain ⟨Gb, b3, b4⟩ := hs_of m1.wf _ _ (k4.fr m3)
  obtain ⟨Gc, b5, b6⟩ := hs_of m1.wf _ _ m4
  obtain ⟨G, hown, hG⟩ := own_of m1.wf (G := Ga ++ (Gb ++ Gc)) fun x hx => (List.mem_append.1 hx).elim (b1 x) fun hx => (List.mem_append.1 hx).elim (b3 x) (b5 x)
  obtain ⟨X0, s0, _, x0, _⟩ := (b2.mono fun x hx => hG x (List.mem_append_left _ hx)).ints
  obtain ⟨X1, s1, _, x1, _⟩ := (b4.mono fun x hx => hG x (List.mem_append_right _ (List.mem_append_left _ hx))).ints
  obtain ⟨S, hS⟩ := steps (b6.mono fun x hx => hG x (List.mem_append_right _ (List.mem_append_right _ hx)))
  have x0 : X0.length * 8 ≤ reachBytes := x0
  have x1 : X1.length * 8 ≤ reachBytes := x1
  rw [reach] at x0 x1
  obtain ⟨n, hn1⟩ : ∃ n, 140737488955328 ≤ n := ⟨_, Nat.le_refl _⟩
  obtain ⟨H', he⟩ := bufferPlays_ok (n := n) s0 s1 hS hown (by omega) (by omega) (by omega) (by omega) (by omega)
  obtain ⟨mm, HH, he2⟩ := law_exec (ps := ps_wicketlaw16_BufferPlays) (rs := rs_wicketlaw16_BufferPlays) (ok_wicketlaw16_BufferPlays tk n) (a := (a0, a1, a2, ())) he
  refine (m1.calls tabOk mixed (args := [a0, a1, a2]) (args' := [v0, v1, v2]) (.cons (.atom ((g5.mono k2).mono m2)) (.cons (.atom (k5.mono m2)) (.cons (.atom m5) .nil))) he2).mono fun e W' h => ?_
  obtain ⟨rfl, hk⟩ := h
  refine ⟨_, rfl, args_post (ty := 4) laidOut hW' rfl (by kernel_rfl) Try.underlying4 rfl ?_ hk⟩
  rw [Try.params3]
  intro t ht
  simp only [List.mem_cons, List.not_mem_nil, or_false] at ht
  rcases ht with rfl | rfl | rfl
  · exact ⟨by kernel_rfl, of_decide_eq_true (by kernel_rfl)⟩
  · exact ⟨by kernel_rfl, of_decide_eq_true (by kernel_rfl)⟩
  · exact ⟨by kernel_rfl, of_decide_eq_true (by kernel_rfl)⟩

set_option maxRecDepth 100000 in
theorem lifted (os : Os) (started : os.Started) (H : Type) (enc : TypeId × Value → H) :
    ReturnsInHanded {} Try.checked os 3 .any (Rows.bufferPlaysSpec.pre6 enc Try.prog Try.f3 Rows.bufferPlaysRow.domain false) (Rows.bufferPlaysSpec.post enc Try.prog Try.f3 false true false false) := by
  refine returnsInHanded_of_change_sized (C := Try.checked) own started (by kernel_rfl) Try.func3
    (ChangeSpec.witness6 (enc := enc) (C := Try.checked) false ⟨#[], #[.slice none 0 0, .slice none 0 0, .slice none 0 0], []⟩ 8 (by kernel_rfl) (by kernel_rfl) (by kernel_rfl) (by kernel_rfl)) ?_
  intro W base args ds gs before hval hW _ hsz _
  exact contract H enc W base args ds gs before hval hW hsz
end bufferPlaysAt

theorem bufferPlays_holds : Rows.BufferPlaysSaid :=
  OpenClaim.holds_of_wide 3 Try.f3 rfl rfl rfl rfl rfl rfl rfl ⟨rfl, rfl, rfl, rfl, rfl⟩ rfl rfl rfl rfl rfl (by kernel_rfl) Try.func3 (by kernel_rfl)
    (of_decide_eq_true (by kernel_rfl)) (by unfold Func.isWrapper; first | (rw [if_pos (by decide +kernel)]; kernel_rfl) | (rw [if_neg (by decide +kernel)]; exact ⟨rfl, rfl⟩))
    (fun os started H enc _ => bufferPlaysAt.lifted os started H enc)

#print axioms bufferPlays_holds
end Go.Proofs.Ytpihoicfnolepaa
