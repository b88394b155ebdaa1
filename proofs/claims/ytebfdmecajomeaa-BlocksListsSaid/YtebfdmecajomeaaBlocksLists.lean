/- The law BlocksLists, for all arguments: it answers true, and what was there is as it was. No condition. -/
import Derived.Test.YtebfdmecajomeaaRows
import Derived.Test.YtebfdmecajomeaaLBlocksLists
import Derived.Test.YtebfdmecajomeaaBlZ
import Derived.Test.YtebfdmecajomeaaAgZ
import Derived.Shelf.Sort.Plain
import Derived.Shelf.Slices.In.SortNone
import Derived.Ground.Names2Prog
import Derived.SizedLaws
import Derived.Test.YtebfdmecajomeaaB10
import Derived.Test.YtebfdmecajomeaaPrim2
import Derived.Test.YtebfdmecajomeaaArgs2
import Derived.WalkKit
import Derived.ProofKit
import Derived.OpenShut
namespace Go.Proofs.Ytebfdmecajomeaa
open Go.ChangeShapes Go.WideShapes Go.ChangeAt Go.RowKit
set_option linter.unusedVariables false

def Try.blocksListsSort_ren : Go.Shelf.Ren := ⟨fun | 189 => 25 | 125 => 31 | 257 => 30 | 128 => 41 | 129 => 42 | 294 => 32 | 295 => 33 | 296 => 34 | 297 => 35 | 298 => 36 | 299 => 37 | 216 => 38 | 300 => 39 | 301 => 40 | 328 => 43 | 329 => 44 | 330 => 45 | 331 => 46 | 332 => 47 | 215 => 48 | 343 => 49 | n => n, fun | 28 => 22 | 3 => 3 | 46 => 44 | 0 => 0 | 51 => 54 | 53 => 56 | 4 => 4 | 183 => 47 | 182 => 46 | 131 => 25 | 5 => 5 | 9 => 9 | 218 => 57 | 222 => 61 | 228 => 63 | 229 => 64 | n => n, fun | n => n⟩
theorem Try.blocksListsSort : Go.Proofs.Lays.n189 Try.prog Try.blocksListsSort_ren := {
  mixed := by kernel_rfl
  f125 := Try.func31.trans (congrArg some (by kernel_rfl))
  f128 := Try.func41.trans (congrArg some (by kernel_rfl))
  f129 := Try.func42.trans (congrArg some (by kernel_rfl))
  f189 := Try.func25.trans (congrArg some (by kernel_rfl))
  f215 := Try.func48.trans (congrArg some (by kernel_rfl))
  f216 := Try.func38.trans (congrArg some (by kernel_rfl))
  f257 := Try.func30.trans (congrArg some (by kernel_rfl))
  f294 := Try.func32.trans (congrArg some (by kernel_rfl))
  f295 := Try.func33.trans (congrArg some (by kernel_rfl))
  f296 := Try.func34.trans (congrArg some (by kernel_rfl))
  f297 := Try.func35.trans (congrArg some (by kernel_rfl))
  f298 := Try.func36.trans (congrArg some (by kernel_rfl))
  f299 := Try.func37.trans (congrArg some (by kernel_rfl))
  f300 := Try.func39.trans (congrArg some (by kernel_rfl))
  f301 := Try.func40.trans (congrArg some (by kernel_rfl))
  f328 := Try.func43.trans (congrArg some (by kernel_rfl))
  f329 := Try.func44.trans (congrArg some (by kernel_rfl))
  f330 := Try.func45.trans (congrArg some (by kernel_rfl))
  f331 := Try.func46.trans (congrArg some (by kernel_rfl))
  f332 := Try.func47.trans (congrArg some (by kernel_rfl))
  f343 := Try.func49.trans (congrArg some (by kernel_rfl))
  t0 := Try.underlying0
  a0 := Try.isAgg0
  z0 := Try.sizeOf0
  v0 := Try.zeroValue0
  t3 := Try.underlying3
  a3 := Try.isAgg3
  z3 := Try.sizeOf3
  v3 := Try.zeroValue3
  t4 := Try.underlying4
  a4 := Try.isAgg4
  z4 := Try.sizeOf4
  v4 := Try.zeroValue4
  t5 := Try.underlying5
  a5 := Try.isAgg5
  z5 := Try.sizeOf5
  v5 := Try.zeroValue5
  t9 := Try.underlying9
  a9 := Try.isAgg9
  z9 := Try.sizeOf9
  v9 := Try.zeroValue9
  t28 := Try.underlying22
  a28 := Try.isAgg22
  z28 := Try.sizeOf22
  v28 := Try.zeroValue22
  t46 := Try.underlying44
  a46 := Try.isAgg44
  z46 := Try.sizeOf44
  v46 := Try.zeroValue44
  t51 := Try.underlying54
  a51 := Try.isAgg54
  z51 := Try.sizeOf54
  v51 := Try.zeroValue54
  t53 := Try.underlying56
  a53 := Try.isAgg56
  z53 := Try.sizeOf56
  v53 := Try.zeroValue56
  t131 := Try.underlying25
  a131 := Try.isAgg25
  z131 := Try.sizeOf25
  v131 := Try.zeroValue25
  t182 := Try.underlying46
  a182 := Try.isAgg46
  z182 := Try.sizeOf46
  v182 := Try.zeroValue46
  t183 := Try.underlying47
  a183 := Try.isAgg47
  z183 := Try.sizeOf47
  v183 := Try.zeroValue47
  t218 := Try.underlying57
  a218 := Try.isAgg57
  z218 := Try.sizeOf57
  v218 := Try.zeroValue57
  t222 := Try.underlying61
  a222 := Try.isAgg61
  z222 := Try.sizeOf61
  v222 := Try.zeroValue61
  t228 := Try.underlying63
  a228 := Try.isAgg63
  z228 := Try.sizeOf63
  v228 := Try.zeroValue63
  t229 := Try.underlying64
  a229 := Try.isAgg64
  z229 := Try.sizeOf64
  v229 := Try.zeroValue64 }
namespace blocksListsAt
theorem own : ownKnob Try.prog.godebug = none := by kernel_rfl
theorem mixed : Try.prog.follows .mixedOrders = true := by kernel_rfl
theorem laidOut : laidOutB Try.prog = true := by kernel_rfl
/-- The worked example, closed. -/
theorem awakeTrue : isTrue (exec (tableOf Try.prog) 100000 (.fn 4) [] (heap0 Try.prog)) = true := by kernel_rfl
noncomputable def tab : Nat → Option AFun := tableY Try.prog [18] [(4, yes), (25, sortM)]
theorem tabOk : TOk Try.prog tab := tableY_ok _ _ _ fun x hx => by
  simp only [List.mem_cons, List.not_mem_nil, or_false] at hx
  rcases hx with rfl | rfl
  · exact ⟨by kernel_rfl, yes_ok (tableOf_ok _) mixed awakeTrue⟩
  · exact ⟨by kernel_rfl, sortM_ok (Any.slices_Sort_int Try.blocksListsSort) (Any.slices_Sort_int_none Try.blocksListsSort)⟩
theorem t_wicketlaw05_awake : PrimT_wicketlaw05_awake tab := by unfold PrimT_wicketlaw05_awake; kernel_rfl
theorem t_slices_Sort_int_int : PrimT_slices_Sort_int_int tab := by unfold PrimT_slices_Sort_int_int; kernel_rfl
theorem t_wicketref05_Next : tab k_wicketref05_Next = some ⟨List.map (·.1) rs_wicketref05_Next, C2.erase c2_wicketref05_Next, none⟩ := by kernel_rfl
theorem t_blocks_Next : tab k_blocks_Next = some ⟨List.map (·.1) rs_blocks_Next, C2.erase c2_blocks_Next, none⟩ := by kernel_rfl
theorem t_wicketref05_Same : tab k_wicketref05_Same = some ⟨List.map (·.1) rs_wicketref05_Same, C2.erase c2_wicketref05_Same, none⟩ := by kernel_rfl
theorem t_blocks_Is : tab k_blocks_Is = some ⟨List.map (·.1) rs_blocks_Is, C2.erase c2_blocks_Is, none⟩ := by kernel_rfl
theorem t_wicketref05_Is : tab k_wicketref05_Is = some ⟨List.map (·.1) rs_wicketref05_Is, C2.erase c2_wicketref05_Is, none⟩ := by kernel_rfl
theorem t_wicketref05_Has : tab k_wicketref05_Has = some ⟨List.map (·.1) rs_wicketref05_Has, C2.erase c2_wicketref05_Has, none⟩ := by kernel_rfl
theorem t_wicketlaw05_Held : tab k_wicketlaw05_Held = some ⟨List.map (·.1) rs_wicketlaw05_Held, C2.erase c2_wicketlaw05_Held, none⟩ := by kernel_rfl
theorem t_wicketlaw05_turn : tab k_wicketlaw05_turn = some ⟨List.map (·.1) rs_wicketlaw05_turn, C2.erase c2_wicketlaw05_turn, none⟩ := by kernel_rfl
theorem t_wicketlaw05_Own : tab k_wicketlaw05_Own = some ⟨List.map (·.1) rs_wicketlaw05_Own, C2.erase c2_wicketlaw05_Own, none⟩ := by kernel_rfl
theorem t_wicketlaw05_Apart : tab k_wicketlaw05_Apart = some ⟨List.map (·.1) rs_wicketlaw05_Apart, C2.erase c2_wicketlaw05_Apart, none⟩ := by kernel_rfl
theorem t_slices_Clone_int_int : tab k_slices_Clone_int_int = some ⟨List.map (·.1) rs_slices_Clone_int_int, C2.erase c2_slices_Clone_int_int, none⟩ := by kernel_rfl
theorem t_slices_Clip_int_int : tab k_slices_Clip_int_int = some ⟨List.map (·.1) rs_slices_Clip_int_int, C2.erase c2_slices_Clip_int_int, none⟩ := by kernel_rfl
theorem t_slices_Compact_int_int : tab k_slices_Compact_int_int = some ⟨List.map (·.1) rs_slices_Compact_int_int, C2.erase c2_slices_Compact_int_int, none⟩ := by kernel_rfl
theorem t_slices_Index_int_int : tab k_slices_Index_int_int = some ⟨List.map (·.1) rs_slices_Index_int_int, C2.erase c2_slices_Index_int_int, none⟩ := by kernel_rfl
theorem t_wicketref05_Both : tab k_wicketref05_Both = some ⟨List.map (·.1) rs_wicketref05_Both, C2.erase c2_wicketref05_Both, none⟩ := by kernel_rfl
theorem t_wicketlaw05_Roomy : tab k_wicketlaw05_Roomy = some ⟨List.map (·.1) rs_wicketlaw05_Roomy, C2.erase c2_wicketlaw05_Roomy, none⟩ := by kernel_rfl
theorem t_blocks_rising : tab k_blocks_rising = some ⟨List.map (·.1) rs_blocks_rising, C2.erase c2_blocks_rising, none⟩ := by kernel_rfl
theorem t_slices_Contains_int_int : tab k_slices_Contains_int_int = some ⟨List.map (·.1) rs_slices_Contains_int_int, C2.erase c2_slices_Contains_int_int, none⟩ := by kernel_rfl
theorem t_blocks_Has : tab k_blocks_Has = some ⟨List.map (·.1) rs_blocks_Has, C2.erase c2_blocks_Has, none⟩ := by kernel_rfl
theorem t_blocks_Both_1 : tab k_blocks_Both_1 = some ⟨List.map (·.1) rs_blocks_Both_1, C2.erase c2_blocks_Both_1, none⟩ := by kernel_rfl
theorem t_slices_IndexFunc_int_int : tab k_slices_IndexFunc_int_int = some ⟨List.map (·.1) rs_slices_IndexFunc_int_int, C2.erase c2_slices_IndexFunc_int_int, none⟩ := by kernel_rfl
theorem t_slices_DeleteFunc_int_int : tab k_slices_DeleteFunc_int_int = some ⟨List.map (·.1) rs_slices_DeleteFunc_int_int, C2.erase c2_slices_DeleteFunc_int_int, none⟩ := by kernel_rfl
theorem t_blocks_Both : tab k_blocks_Both = some ⟨List.map (·.1) rs_blocks_Both, C2.erase c2_blocks_Both, none⟩ := by kernel_rfl
theorem t_wicketlaw05_BlocksLists : tab k_wicketlaw05_BlocksLists = some ⟨List.map (·.1) rs_wicketlaw05_BlocksLists, C2.erase c2_wicketlaw05_BlocksLists, none⟩ := by kernel_rfl
theorem tk : LfT tab := ⟨t_wicketlaw05_awake, t_slices_Sort_int_int, t_wicketref05_Next, t_blocks_Next, t_wicketref05_Same, t_blocks_Is, t_wicketref05_Is, t_wicketref05_Has, t_wicketlaw05_Held, t_wicketlaw05_turn, t_wicketlaw05_Own, t_wicketlaw05_Apart, t_slices_Clone_int_int, t_slices_Clip_int_int, t_slices_Compact_int_int, t_slices_Index_int_int, t_wicketref05_Both, t_wicketlaw05_Roomy, t_blocks_rising, t_slices_Contains_int_int, t_blocks_Has, t_blocks_Both_1, t_slices_IndexFunc_int_int, t_slices_DeleteFunc_int_int, t_blocks_Both, t_wicketlaw05_BlocksLists⟩

theorem shapeL : shOf Try.prog 10 22 = some [.sl [.int .i64]] := by kernel_rfl
theorem reach : reachBytes = 140737488351232 := rfl

set_option maxRecDepth 100000 in
theorem contract (H : Type) (enc : TypeId × Value → H) (W : World) (base : Nat) (args : Array Value) (ds gs : List (DataW H)) (before : List MemPlace)
    (hval : ∀ (j : Nat) t v, Try.f3.params[j]? = some t → args[j]? = some v → Value.okWide Try.prog W .any base t v)
    (hW : DataW.Whole enc Try.prog Try.f3.params.toList Rows.blocksListsSpec.vars false W args.toList ds gs before)
    (hsz : (DataW.weightsEach Try.prog (Try.f3.params.toList ++ Rows.blocksListsSpec.plain.varTypes Try.prog) (ds ++ gs)).all (· ≤ reachBytes) = true) :
    Calls Try.prog 3 args W fun e W' => ∃ v, e = .returned v ∧ Rows.blocksListsSpec.post enc Try.prog Try.f3 false true false false W args v W' := by
  have hW' := hW
  obtain ⟨p, q, hA0, hV, rfl, hfz, hnd⟩ := hW
  have hA : DataW.TrodAll enc Try.prog W 0 (fun _ => true) true Try.f3.params.toList args.toList ds p := hA0
  rw [Try.params3] at hA hval
  obtain ⟨v0, vs0, d0, ds0, p0, q0, hargs0, rfl, rfl, h0, r0⟩ := trodAll_cons hA
  obtain ⟨v1, vs1, d1, ds1, p1, q1, hargs1, rfl, rfl, h1, r1⟩ := trodAll_cons r0
  obtain ⟨v2, vs2, d2, ds2, p2, q2, hargs2, rfl, rfl, h2, r2⟩ := trodAll_cons r1
  obtain ⟨hnil, rfl, rfl⟩ := trodAll_nil r2
  obtain rfl : args = #[v0, v1, v2] := Array.ext' (by rw [hargs0, hargs1, hargs2, hnil])
  subst hnil
  clear hA0
  have hgd0 : goodZ Try.prog 22 d0 := (fun m hm => of_decide_eq_true (List.all_eq_true.1 hsz m (DataW.weights_mem_each (j := 0) (t := 22) (d := d0) (by rw [Try.params3]; rfl) rfl m hm)))
  have hgd1 : goodZ Try.prog 22 d1 := (fun m hm => of_decide_eq_true (List.all_eq_true.1 hsz m (DataW.weights_mem_each (j := 1) (t := 22) (d := d1) (by rw [Try.params3]; rfl) rfl m hm)))
  obtain ⟨z, rfl⟩ : ∃ z : Int, v2 = .int .i64 z := by
    have hv := hval 2 3 v2 rfl rfl
    have hu : Try.prog.underlying 3 = some (.int .i64) := Try.underlying3
    simp only [Value.okWide, hu, Cell.okWide, Cell.ok] at hv
    cases v2 with
    | int k z => obtain ⟨rfl, _⟩ := hv; exact ⟨z, rfl⟩
    | _ => exact hv.elim
  obtain ⟨ι0, H0, a0, g1, g2, g3, g4, g5⟩ := (args0 Try.prog W).deep Bk.sized Try.underlying22 shapeL ⟨_, hval 0 22 v0 rfl rfl⟩ h0 hgd0
  obtain ⟨ι1, H1, a1, k1, k2, k3, k4, k5⟩ := g1.deep Bk.sized Try.underlying22 shapeL ⟨_, hval 1 22 v1 rfl rfl⟩ h1 hgd1
  obtain ⟨Ga, b1, b2⟩ := hs_of k1.wf _ _ (g4.fr k3)
  obtain ⟨Gb, b3, b4⟩ := hs_of k1.wf _ _ k4
  obtain ⟨G, hown, hG⟩ := own_of k1.wf (G := Ga ++ Gb) fun x hx => (List.mem_append.1 hx).elim (b1 x) (b3 x)
  obtain ⟨X0, s0, _, x0, _⟩ := (b2.mono fun x hx => hG x (List.mem_append_left _ hx)).ints
  obtain ⟨X1, s1, _, x1, _⟩ := (b4.mono fun x hx => hG x (List.mem_append_right _ hx)).ints
  have x0 : X0.length * 8 ≤ reachBytes := x0
  have x1 : X1.length * 8 ≤ reachBytes := x1
  rw [reach] at x0 x1
  obtain ⟨n, hn1⟩ : ∃ n, 140737488955328 ≤ n := ⟨_, Nat.le_refl _⟩
  obtain ⟨H', he⟩ := blocksLists_ok (n := n) (z := z) s0 s1 hown (by omega) (by omega) (by omega) (by omega)
  obtain ⟨mm, HH, he2⟩ := law_exec (ps := ps_wicketlaw05_BlocksLists) (rs := rs_wicketlaw05_BlocksLists) (ok_wicketlaw05_BlocksLists tk n) (a := (a0, a1, z, ())) he
  refine (k1.calls tabOk mixed (args := [a0, a1, .int .i64 z]) (args' := [v0, v1, .int .i64 z]) (.cons (.atom (g5.mono k2)) (.cons (.atom k5) (.cons (.val (.cell (.atom (.int _ _)))) .nil))) he2).mono fun e W' h => ?_
  obtain ⟨rfl, hk⟩ := h
  refine ⟨_, rfl, args_post (ty := 4) laidOut hW' rfl (by kernel_rfl) Try.underlying4 rfl ?_ hk⟩
  rw [Try.params3]
  intro t ht
  simp only [List.mem_cons, List.not_mem_nil, or_false] at ht
  rcases ht with rfl | rfl | rfl
  · exact ⟨by kernel_rfl, of_decide_eq_true (by kernel_rfl)⟩
  · exact ⟨by kernel_rfl, of_decide_eq_true (by kernel_rfl)⟩
  · exact ⟨by kernel_rfl, of_decide_eq_true (by kernel_rfl)⟩

set_option maxRecDepth 100000 in
theorem lifted (os : Os) (started : os.Started) (H : Type) (enc : TypeId × Value → H) :
    ReturnsInHanded {} Try.checked os 3 .any (Rows.blocksListsSpec.pre6 enc Try.prog Try.f3 Rows.blocksListsRow.domain false) (Rows.blocksListsSpec.post enc Try.prog Try.f3 false true false false) := by
  refine returnsInHanded_of_change_sized (C := Try.checked) own started (by kernel_rfl) Try.func3
    (ChangeSpec.witness6 (enc := enc) (C := Try.checked) false ⟨#[], #[.slice none 0 0, .slice none 0 0, .int .i64 0], []⟩ 8 (by kernel_rfl) (by kernel_rfl) (by kernel_rfl) (by kernel_rfl)) ?_
  intro W base args ds gs before hval hW _ hsz _
  exact contract H enc W base args ds gs before hval hW hsz
end blocksListsAt

theorem blocksLists_holds : Rows.BlocksListsSaid :=
  OpenClaim.holds_of_wide 3 Try.f3 rfl rfl rfl rfl rfl rfl rfl ⟨rfl, rfl, rfl, rfl, rfl⟩ rfl rfl rfl rfl rfl (by kernel_rfl) Try.func3 (by kernel_rfl)
    (of_decide_eq_true (by kernel_rfl)) (by unfold Func.isWrapper; first | (rw [if_pos (by decide +kernel)]; kernel_rfl) | (rw [if_neg (by decide +kernel)]; exact ⟨rfl, rfl⟩))
    (fun os started H enc _ => blocksListsAt.lifted os started H enc)

#print axioms blocksLists_holds
end Go.Proofs.Ytebfdmecajomeaa
