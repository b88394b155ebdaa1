/- The law BlocksOne, for all arguments: it answers true, and what was there is as it was. No condition. -/
import Derived.Test.YtkfdikcnpaechaaRows
import Derived.Test.YtkfdikcnpaechaaLBlocksOne
import Derived.Test.YtkfdikcnpaechaaBoZ
import Derived.Test.YtkfdikcnpaechaaAgAll
import Derived.Shelf.Sort.Plain
import Derived.Shelf.Slices.In.SortNone
import Derived.Ground.Names2Prog
import Derived.JoinedCond
import Derived.Test.YtkfdikcnpaechaaB10
import Derived.Test.YtkfdikcnpaechaaPrim2
import Derived.Test.YtkfdikcnpaechaaArgs2
import Derived.WalkKit
import Derived.ProofKit
import Derived.OpenShut
namespace Go.Proofs.Ytkfdikcnpaechaa
open Go.ChangeShapes Go.WideShapes Go.ChangeAt Go.RowKit
set_option linter.unusedVariables false

def Try.blocksOneSort_ren : Go.Shelf.Ren := ⟨fun | 189 => 17 | 125 => 23 | 257 => 22 | 128 => 33 | 129 => 34 | 294 => 24 | 295 => 25 | 296 => 26 | 297 => 27 | 298 => 28 | 299 => 29 | 216 => 30 | 300 => 31 | 301 => 32 | 328 => 35 | 329 => 36 | 330 => 37 | 331 => 38 | 332 => 39 | 215 => 40 | 343 => 41 | n => n, fun | 28 => 22 | 3 => 3 | 46 => 43 | 0 => 0 | 51 => 53 | 53 => 55 | 4 => 4 | 183 => 46 | 182 => 45 | 131 => 33 | 5 => 5 | 9 => 9 | 218 => 56 | 222 => 60 | 228 => 62 | 229 => 63 | n => n, fun | n => n⟩
theorem Try.blocksOneSort : Go.Proofs.Lays.n189 Try.prog Try.blocksOneSort_ren := {
  mixed := by kernel_rfl
  f125 := Try.func23.trans (congrArg some (by kernel_rfl))
  f128 := Try.func33.trans (congrArg some (by kernel_rfl))
  f129 := Try.func34.trans (congrArg some (by kernel_rfl))
  f189 := Try.func17.trans (congrArg some (by kernel_rfl))
  f215 := Try.func40.trans (congrArg some (by kernel_rfl))
  f216 := Try.func30.trans (congrArg some (by kernel_rfl))
  f257 := Try.func22.trans (congrArg some (by kernel_rfl))
  f294 := Try.func24.trans (congrArg some (by kernel_rfl))
  f295 := Try.func25.trans (congrArg some (by kernel_rfl))
  f296 := Try.func26.trans (congrArg some (by kernel_rfl))
  f297 := Try.func27.trans (congrArg some (by kernel_rfl))
  f298 := Try.func28.trans (congrArg some (by kernel_rfl))
  f299 := Try.func29.trans (congrArg some (by kernel_rfl))
  f300 := Try.func31.trans (congrArg some (by kernel_rfl))
  f301 := Try.func32.trans (congrArg some (by kernel_rfl))
  f328 := Try.func35.trans (congrArg some (by kernel_rfl))
  f329 := Try.func36.trans (congrArg some (by kernel_rfl))
  f330 := Try.func37.trans (congrArg some (by kernel_rfl))
  f331 := Try.func38.trans (congrArg some (by kernel_rfl))
  f332 := Try.func39.trans (congrArg some (by kernel_rfl))
  f343 := Try.func41.trans (congrArg some (by kernel_rfl))
  t0 := Try.underlying0
  a0 := Try.isAgg0
  z0 := Try.sizeOf0
  v0 := Try.zeroValue0
  t3 := Try.underlying3
  a3 := Try.isAgg3
  z3 := Try.sizeOf3
  v3 := Try.zeroValue3
  t4 := Try.underlying4
  a4 := Try.isAgg4
  z4 := Try.sizeOf4
  v4 := Try.zeroValue4
  t5 := Try.underlying5
  a5 := Try.isAgg5
  z5 := Try.sizeOf5
  v5 := Try.zeroValue5
  t9 := Try.underlying9
  a9 := Try.isAgg9
  z9 := Try.sizeOf9
  v9 := Try.zeroValue9
  t28 := Try.underlying22
  a28 := Try.isAgg22
  z28 := Try.sizeOf22
  v28 := Try.zeroValue22
  t46 := Try.underlying43
  a46 := Try.isAgg43
  z46 := Try.sizeOf43
  v46 := Try.zeroValue43
  t51 := Try.underlying53
  a51 := Try.isAgg53
  z51 := Try.sizeOf53
  v51 := Try.zeroValue53
  t53 := Try.underlying55
  a53 := Try.isAgg55
  z53 := Try.sizeOf55
  v53 := Try.zeroValue55
  t131 := Try.underlying33
  a131 := Try.isAgg33
  z131 := Try.sizeOf33
  v131 := Try.zeroValue33
  t182 := Try.underlying45
  a182 := Try.isAgg45
  z182 := Try.sizeOf45
  v182 := Try.zeroValue45
  t183 := Try.underlying46
  a183 := Try.isAgg46
  z183 := Try.sizeOf46
  v183 := Try.zeroValue46
  t218 := Try.underlying56
  a218 := Try.isAgg56
  z218 := Try.sizeOf56
  v218 := Try.zeroValue56
  t222 := Try.underlying60
  a222 := Try.isAgg60
  z222 := Try.sizeOf60
  v222 := Try.zeroValue60
  t228 := Try.underlying62
  a228 := Try.isAgg62
  z228 := Try.sizeOf62
  v228 := Try.zeroValue62
  t229 := Try.underlying63
  a229 := Try.isAgg63
  z229 := Try.sizeOf63
  v229 := Try.zeroValue63 }
namespace blocksOneAt
theorem own : ownKnob Try.prog.godebug = none := by kernel_rfl
theorem mixed : Try.prog.follows .mixedOrders = true := by kernel_rfl
theorem laidOut : laidOutB Try.prog = true := by kernel_rfl
/-- The worked example, closed. -/
theorem awakeTrue : isTrue (exec (tableOf Try.prog) 100000 (.fn 4) [] (heap0 Try.prog)) = true := by kernel_rfl
noncomputable def tab : Nat → Option AFun := tableX Try.prog [(4, yes), (17, sortM)]
theorem tabOk : TOk Try.prog tab := tableX_ok _ _ fun x hx => by
  simp only [List.mem_cons, List.not_mem_nil, or_false] at hx
  rcases hx with rfl | rfl
  · exact ⟨by kernel_rfl, yes_ok (tableOf_ok _) mixed awakeTrue⟩
  · exact ⟨by kernel_rfl, sortM_ok (Any.slices_Sort_int Try.blocksOneSort) (Any.slices_Sort_int_none Try.blocksOneSort)⟩
theorem t_wicketlaw05_awake : PrimT_wicketlaw05_awake tab := by unfold PrimT_wicketlaw05_awake; kernel_rfl
theorem t_slices_Sort_int_int : PrimT_slices_Sort_int_int tab := by unfold PrimT_slices_Sort_int_int; kernel_rfl
theorem t_wicketlaw05_turn : tab k_wicketlaw05_turn = some ⟨List.map (·.1) rs_wicketlaw05_turn, C2.erase c2_wicketlaw05_turn, none⟩ := by kernel_rfl
theorem t_wicketref05_Same : tab k_wicketref05_Same = some ⟨List.map (·.1) rs_wicketref05_Same, C2.erase c2_wicketref05_Same, none⟩ := by kernel_rfl
theorem t_blocks_Is : tab k_blocks_Is = some ⟨List.map (·.1) rs_blocks_Is, C2.erase c2_blocks_Is, none⟩ := by kernel_rfl
theorem t_blocks_Next : tab k_blocks_Next = some ⟨List.map (·.1) rs_blocks_Next, C2.erase c2_blocks_Next, none⟩ := by kernel_rfl
theorem t_slices_Clone_int_int : tab k_slices_Clone_int_int = some ⟨List.map (·.1) rs_slices_Clone_int_int, C2.erase c2_slices_Clone_int_int, none⟩ := by kernel_rfl
theorem t_slices_Clip_int_int : tab k_slices_Clip_int_int = some ⟨List.map (·.1) rs_slices_Clip_int_int, C2.erase c2_slices_Clip_int_int, none⟩ := by kernel_rfl
theorem t_slices_Compact_int_int : tab k_slices_Compact_int_int = some ⟨List.map (·.1) rs_slices_Compact_int_int, C2.erase c2_slices_Compact_int_int, none⟩ := by kernel_rfl
theorem t_slices_Index_int_int : tab k_slices_Index_int_int = some ⟨List.map (·.1) rs_slices_Index_int_int, C2.erase c2_slices_Index_int_int, none⟩ := by kernel_rfl
theorem t_blocks_rising : tab k_blocks_rising = some ⟨List.map (·.1) rs_blocks_rising, C2.erase c2_blocks_rising, none⟩ := by kernel_rfl
theorem t_slices_Contains_int_int : tab k_slices_Contains_int_int = some ⟨List.map (·.1) rs_slices_Contains_int_int, C2.erase c2_slices_Contains_int_int, none⟩ := by kernel_rfl
theorem t_blocks_Form : tab k_blocks_Form = some ⟨List.map (·.1) rs_blocks_Form, C2.erase c2_blocks_Form, none⟩ := by kernel_rfl
theorem t_blocks_Has : tab k_blocks_Has = some ⟨List.map (·.1) rs_blocks_Has, C2.erase c2_blocks_Has, none⟩ := by kernel_rfl
theorem t_blocks_Both_1 : tab k_blocks_Both_1 = some ⟨List.map (·.1) rs_blocks_Both_1, C2.erase c2_blocks_Both_1, none⟩ := by kernel_rfl
theorem t_slices_IndexFunc_int_int : tab k_slices_IndexFunc_int_int = some ⟨List.map (·.1) rs_slices_IndexFunc_int_int, C2.erase c2_slices_IndexFunc_int_int, none⟩ := by kernel_rfl
theorem t_slices_DeleteFunc_int_int : tab k_slices_DeleteFunc_int_int = some ⟨List.map (·.1) rs_slices_DeleteFunc_int_int, C2.erase c2_slices_DeleteFunc_int_int, none⟩ := by kernel_rfl
theorem t_blocks_Both : tab k_blocks_Both = some ⟨List.map (·.1) rs_blocks_Both, C2.erase c2_blocks_Both, none⟩ := by kernel_rfl
theorem t_wicketlaw05_BlocksOne : tab k_wicketlaw05_BlocksOne = some ⟨List.map (·.1) rs_wicketlaw05_BlocksOne, C2.erase c2_wicketlaw05_BlocksOne, none⟩ := by kernel_rfl
theorem tk : LfT tab := ⟨t_wicketlaw05_awake, t_slices_Sort_int_int, t_wicketlaw05_turn, t_wicketref05_Same, t_blocks_Is, t_blocks_Next, t_slices_Clone_int_int, t_slices_Clip_int_int, t_slices_Compact_int_int, t_slices_Index_int_int, t_blocks_rising, t_slices_Contains_int_int, t_blocks_Form, t_blocks_Has, t_blocks_Both_1, t_slices_IndexFunc_int_int, t_slices_DeleteFunc_int_int, t_blocks_Both, t_wicketlaw05_BlocksOne⟩

theorem shapeL : shOf Try.prog 10 22 = some [.sl [.int .i64]] := by kernel_rfl
theorem shapeT : shOf Try.prog 10 23 = some (List.replicate 2 (.int .i64)) := by kernel_rfl
theorem one_le {H : Type} (d : DataW H) : 1 ≤ Rows.uptoBulk d := by
  cases d with
  | lit l => cases l <;> simp [Rows.uptoBulk]
  | nil => simp [Rows.uptoBulk]
  | ptr d => simp [Rows.uptoBulk]
  | slice elems spare => simp [Rows.uptoBulk]
  | agg parts => simp [Rows.uptoBulk]
  | iface t d => simp [Rows.uptoBulk]
  | map entries => simp [Rows.uptoBulk]
  | held h => simp [Rows.uptoBulk]
theorem part_le {H : Type} {d : DataW H} {l : List (DataW H)} (h : d ∈ l) : Rows.uptoBulk d ≤ Rows.uptoBulkAll l := by
  induction l with
  | nil => cases h
  | cons x r ih =>
    simp only [Rows.uptoBulkAll]
    rcases List.mem_cons.1 h with rfl | h
    · omega
    · have := ih h; omega
theorem length_le {H : Type} (l : List (DataW H)) : l.length ≤ Rows.uptoBulkAll l := by
  induction l with
  | nil => simp [Rows.uptoBulkAll]
  | cons x r ih => have := one_le x; simp only [Rows.uptoBulkAll, List.length_cons]; omega
/-- The measure of what is read bounds the lengths. -/
theorem bulkB {H : Type} : Bk (Hh := H) Rows.uptoBulk 1048576 := by
  refine ⟨fun elems spare h => ⟨.inr ?_, fun d hd => ?_⟩, fun parts h d hd => ?_⟩
  · have := length_le elems
    simp only [Rows.uptoBulk] at h; omega
  · simp only [Rows.uptoBulk] at h
    rcases List.mem_append.1 hd with hd | hd
    · have := part_le hd; omega
    · have := part_le hd; omega
  · simp only [Rows.uptoBulk] at h
    have := part_le hd; omega

set_option maxRecDepth 100000 in
theorem contract (H : Type) (enc : TypeId × Value → H) (W : World) (base : Nat) (args : Array Value) (ds gs : List (DataW H)) (before : List MemPlace)
    (hval : ∀ (j : Nat) t v, Try.f3.params[j]? = some t → args[j]? = some v → Value.okWide Try.prog W .any base t v)
    (hW : DataW.Whole enc Try.prog Try.f3.params.toList Rows.blocksOneSpec.vars false W args.toList ds gs before)
    (hup : Rows.uptoSmall H (ds ++ gs) = true) :
    Calls Try.prog 3 args W fun e W' => ∃ v, e = .returned v ∧ Rows.blocksOneSpec.post enc Try.prog Try.f3 false true false false W args v W' := by
  have hW' := hW
  obtain ⟨p, q, hA0, hV, rfl, hfz, hnd⟩ := hW
  have hA : DataW.TrodAll enc Try.prog W 0 (fun _ => true) true Try.f3.params.toList args.toList ds p := hA0
  rw [Try.params3] at hA hval
  obtain ⟨v0, vs0, d0, ds0, p0, q0, hargs0, rfl, rfl, h0, r0⟩ := trodAll_cons hA
  obtain ⟨v1, vs1, d1, ds1, p1, q1, hargs1, rfl, rfl, h1, r1⟩ := trodAll_cons r0
  obtain ⟨v2, vs2, d2, ds2, p2, q2, hargs2, rfl, rfl, h2, r2⟩ := trodAll_cons r1
  obtain ⟨v3, vs3, d3, ds3, p3, q3, hargs3, rfl, rfl, h3, r3⟩ := trodAll_cons r2
  obtain ⟨hnil, rfl, rfl⟩ := trodAll_nil r3
  obtain rfl : args = #[v0, v1, v2, v3] := Array.ext' (by rw [hargs0, hargs1, hargs2, hargs3, hnil])
  subst hnil
  clear hA0
  have hb : ∀ d, d ∈ _ → Rows.uptoBulk d ≤ 1048576 := fun d hd => Nat.le_trans (part_le hd) (of_decide_eq_true hup)
  have hb0 : Rows.uptoBulk d0 ≤ 1048576 := hb _ (by simp)
  have hb2 : Rows.uptoBulk d2 ≤ 1048576 := hb _ (by simp)
  obtain ⟨T, rfl, hT, wT⟩ := arr_arg Try.underlying23 shapeT ⟨_, hval 1 23 v1 rfl rfl⟩ h1
  obtain ⟨b, m, rfl⟩ : ∃ b m, T = [b, m] := by
    match T, hT with
    | [b, m], _ => exact ⟨b, m, rfl⟩
  obtain ⟨z, rfl⟩ : ∃ z : Int, v3 = .int .i64 z := by
    have hv := hval 3 3 v3 rfl rfl
    have hu : Try.prog.underlying 3 = some (.int .i64) := Try.underlying3
    simp only [Value.okWide, hu, Cell.okWide, Cell.ok] at hv
    cases v3 with
    | int k z => obtain ⟨rfl, _⟩ := hv; exact ⟨z, rfl⟩
    | _ => exact hv.elim
  obtain ⟨ι0, H0, a0, g1, g2, g3, g4, g5⟩ := (args0 Try.prog W).deep bulkB Try.underlying22 shapeL ⟨_, hval 0 22 v0 rfl rfl⟩ h0 hb0
  obtain ⟨ι1, H1, a2, k1, k2, k3, k4, k5⟩ := g1.deep bulkB Try.underlying22 shapeL ⟨_, hval 2 22 v2 rfl rfl⟩ h2 hb2
  obtain ⟨Ga, b1, b2⟩ := hs_of k1.wf _ _ (g4.fr k3)
  obtain ⟨Gb, b3, b4⟩ := hs_of k1.wf _ _ k4
  obtain ⟨G, hown, hG⟩ := own_of k1.wf (G := Ga ++ Gb) fun x hx => (List.mem_append.1 hx).elim (b1 x) (b3 x)
  obtain ⟨X0, s0, _, x0, _⟩ := (b2.mono fun x hx => hG x (List.mem_append_left _ hx)).ints
  obtain ⟨X1, s1, _, x1, _⟩ := (b4.mono fun x hx => hG x (List.mem_append_right _ hx)).ints
  obtain ⟨n, hn1⟩ : ∃ n, 5000000 ≤ n := ⟨_, Nat.le_refl _⟩
  obtain ⟨H', he⟩ := blocksOne_ok (n := n) (b := b) (m := m) (t := z) s0 s1 hown (by omega) (by omega) hn1
  obtain ⟨mm, HH, he2⟩ := law_exec (ps := ps_wicketlaw05_BlocksOne) (rs := rs_wicketlaw05_BlocksOne) (ok_wicketlaw05_BlocksOne tk n) (a := (a0, .agg ⟨iz .i64 [b, m]⟩, a2, z, ())) he
  refine (k1.calls tabOk mixed (args := [a0, .agg ⟨iz .i64 [b, m]⟩, a2, .int .i64 z]) (args' := [v0, .agg ⟨iz .i64 [b, m]⟩, v2, .int .i64 z]) (.cons (.atom (g5.mono k2)) (.cons (.val (.agg all2_iz)) (.cons (.atom k5) (.cons (.val (.cell (.atom (.int _ _)))) .nil)))) he2).mono fun e W' h => ?_
  obtain ⟨rfl, hk⟩ := h
  refine ⟨_, rfl, args_post (ty := 4) laidOut hW' rfl (by kernel_rfl) Try.underlying4 rfl ?_ hk⟩
  rw [Try.params3]
  intro t ht
  simp only [List.mem_cons, List.not_mem_nil, or_false] at ht
  rcases ht with rfl | rfl | rfl | rfl
  · exact ⟨by kernel_rfl, of_decide_eq_true (by kernel_rfl)⟩
  · exact ⟨by kernel_rfl, of_decide_eq_true (by kernel_rfl)⟩
  · exact ⟨by kernel_rfl, of_decide_eq_true (by kernel_rfl)⟩
  · exact ⟨by kernel_rfl, of_decide_eq_true (by kernel_rfl)⟩

set_option maxRecDepth 100000 in
theorem lifted (os : Os) (started : os.Started) (H : Type) (enc : TypeId × Value → H) (F : Stop.Interp) :
    ReturnsInHanded {} Try.checked os 3 .any ((Rows.OpenSpec.upto Rows.blocksOneSpec).pre6 enc Try.prog Try.f3 Rows.blocksOneUptoRow.domain false) (((Rows.OpenSpec.upto Rows.blocksOneSpec).at F).post enc Try.prog Try.f3 false true false false) := by
  refine returnsInHanded_of_cond (C := Try.checked) (s := Rows.OpenSpec.upto Rows.blocksOneSpec) (k := Rows.uptoSmall) rfl own started (by kernel_rfl) Try.func3
    (OpenSpec.witness (enc := enc) (C := Try.checked) (s := Rows.OpenSpec.upto Rows.blocksOneSpec) (k := Rows.uptoSmall) rfl false ⟨#[], #[.slice none 0 0, .agg #[.int .i64 0, .int .i64 0], .slice none 0 0, .int .i64 0], []⟩ 8 (by kernel_rfl) (by kernel_rfl) (by kernel_rfl)
      (x := ([.nil, .agg [.lit (.int .i64 0), .lit (.int .i64 0)], .nil, .lit (.int .i64 0)], [], [])) (by kernel_rfl) rfl (by kernel_rfl)) ?_
  intro W base args ds gs before hval hW _ hk _
  exact contract H enc W base args ds gs before hval hW hk
end blocksOneAt

theorem blocksOne_upto : Rows.BlocksOneUptoSaid :=
  OpenClaim.holds_of_cond 3 Try.f3 rfl rfl rfl rfl rfl rfl rfl ⟨rfl, rfl, rfl, rfl, rfl⟩ rfl rfl rfl rfl rfl (by kernel_rfl) Try.func3 (by kernel_rfl)
    (of_decide_eq_true (by kernel_rfl)) (by unfold Func.isWrapper; first | (rw [if_pos (by decide +kernel)]; kernel_rfl) | (rw [if_neg (by decide +kernel)]; exact ⟨rfl, rfl⟩))
    (fun os started H enc _ F => blocksOneAt.lifted os started H enc F)

#print axioms blocksOne_upto
end Go.Proofs.Ytkfdikcnpaechaa
