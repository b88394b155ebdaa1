/- The law CacheDrops, for all arguments: it answers true, and what was there is as it was. No condition. -/
import Derived.Test.YtnfmkiccpjfifaaRows
import Derived.Test.YtnfmkiccpjfifaaLCacheDrops
import Derived.Test.YtnfmkiccpjfifaaCaAll
import Derived.Test.YtnfmkiccpjfifaaB10
import Derived.Test.YtnfmkiccpjfifaaPrim2
import Derived.Test.YtnfmkiccpjfifaaArgs2
import Derived.WalkKit
import Derived.ProofKit
import Derived.OpenShut
namespace Go.Proofs.Ytnfmkiccpjfifaa
open Go.ChangeShapes Go.WideShapes Go.ChangeAt Go.RowKit
set_option linter.unusedVariables false

namespace cacheDropsAt
theorem own : ownKnob Try.prog.godebug = none := by kernel_rfl
theorem mixed : Try.prog.follows .mixedOrders = true := by kernel_rfl
theorem laidOut : laidOutB Try.prog = true := by kernel_rfl
/-- The worked example, closed. -/
theorem fixedTrue : isTrue (exec (tableOf Try.prog) 100000 (.fn 4) [] (heap0 Try.prog)) = true := by kernel_rfl
noncomputable def tab : Nat → Option AFun := tableX Try.prog [(4, yes)]
theorem tabOk : TOk Try.prog tab := tableX_ok _ _ fun x hx => by
  simp only [List.mem_cons, List.not_mem_nil, or_false] at hx
  rcases hx with rfl
  · exact ⟨by kernel_rfl, yes_ok (tableOf_ok _) mixed fixedTrue⟩
theorem t_wicketlaw17_fixed : PrimT_wicketlaw17_fixed tab := by unfold PrimT_wicketlaw17_fixed; kernel_rfl
theorem t_cache_New : tab k_cache_New = some ⟨List.map (·.1) rs_cache_New, C2.erase c2_cache_New, none⟩ := by kernel_rfl
theorem t_wicketlaw17_rising : tab k_wicketlaw17_rising = some ⟨List.map (·.1) rs_wicketlaw17_rising, C2.erase c2_wicketlaw17_rising, none⟩ := by kernel_rfl
theorem t_wicketlaw17_value : tab k_wicketlaw17_value = some ⟨List.map (·.1) rs_wicketlaw17_value, C2.erase c2_wicketlaw17_value, none⟩ := by kernel_rfl
theorem t_cache_Cache_Put : tab k_cache_Cache_Put = some ⟨List.map (·.1) rs_cache_Cache_Put, C2.erase c2_cache_Cache_Put, none⟩ := by kernel_rfl
theorem t_cache_Cache_Get : tab k_cache_Cache_Get = some ⟨List.map (·.1) rs_cache_Cache_Get, C2.erase c2_cache_Cache_Get, none⟩ := by kernel_rfl
theorem t_cache_Cache_Copy : tab k_cache_Cache_Copy = some ⟨List.map (·.1) rs_cache_Cache_Copy, C2.erase c2_cache_Cache_Copy, none⟩ := by kernel_rfl
theorem t_cache_Cache_Drop : tab k_cache_Cache_Drop = some ⟨List.map (·.1) rs_cache_Cache_Drop, C2.erase c2_cache_Cache_Drop, none⟩ := by kernel_rfl
theorem t_cache_Cache_Last : tab k_cache_Cache_Last = some ⟨List.map (·.1) rs_cache_Cache_Last, C2.erase c2_cache_Cache_Last, none⟩ := by kernel_rfl
theorem t_wicketlaw17_plain : tab k_wicketlaw17_plain = some ⟨List.map (·.1) rs_wicketlaw17_plain, C2.erase c2_wicketlaw17_plain, none⟩ := by kernel_rfl
theorem t_cache_Cache_All_1 : tab k_cache_Cache_All_1 = some ⟨[], C2.erase c2_cache_Cache_All_1, none⟩ := by kernel_rfl
theorem t_cache_Cache_All : tab k_cache_Cache_All = some ⟨List.map (·.1) rs_cache_Cache_All, C2.erase c2_cache_Cache_All, none⟩ := by kernel_rfl
theorem t_cache_Cache_Entries : tab k_cache_Cache_Entries = some ⟨List.map (·.1) rs_cache_Cache_Entries, C2.erase c2_cache_Cache_Entries, none⟩ := by kernel_rfl
theorem t_cache_Cache_Len : tab k_cache_Cache_Len = some ⟨List.map (·.1) rs_cache_Cache_Len, C2.erase c2_cache_Cache_Len, none⟩ := by kernel_rfl
theorem t_wicketlaw17_given : tab k_wicketlaw17_given = some ⟨List.map (·.1) rs_wicketlaw17_given, C2.erase c2_wicketlaw17_given, none⟩ := by kernel_rfl
theorem t_wicketlaw17_CacheDrops : tab k_wicketlaw17_CacheDrops = some ⟨List.map (·.1) rs_wicketlaw17_CacheDrops, C2.erase c2_wicketlaw17_CacheDrops, none⟩ := by kernel_rfl
theorem tk : LfT tab := ⟨t_wicketlaw17_fixed, t_cache_New, t_wicketlaw17_rising, t_wicketlaw17_value, t_cache_Cache_Put, t_cache_Cache_Get, t_cache_Cache_Copy, t_cache_Cache_Drop, t_cache_Cache_Last, t_wicketlaw17_plain, t_cache_Cache_All_1, t_cache_Cache_All, t_cache_Cache_Entries, t_cache_Cache_Len, t_wicketlaw17_given, t_wicketlaw17_CacheDrops⟩

theorem shape : shOf Try.prog 10 22 = some [.sl [.sl [.int .i64], .int .u8]] := by kernel_rfl
/-- The commits, as they are handed in. -/
theorem coms {u : Value} {G : Ch} (h : Hs G (.sl [.sl [.int .i64], .int .u8]) u) : ∃ C : List Com, Coms C u G := by
  rw [Hs] at h
  obtain ⟨chunks, h1, h2, h3, h4⟩ := h
  have hC : ∃ C : List Com, chunks = C.map Com.cells ∧ ∀ c ∈ C, Sow 1 c.v c.X.length (iz .i64 c.X) G ∧ c.X.length ≤ maxLen := by
    clear h1 h2 h3
    induction chunks with
    | nil => exact ⟨[], rfl, fun _ h => absurd h List.not_mem_nil⟩
    | cons c cs ih =>
      obtain ⟨C, rfl, hC⟩ := ih fun c hc => h4 c (List.mem_cons_of_mem _ hc)
      have hc := h4 c (List.mem_cons_self ..)
      rw [HsL] at hc
      obtain ⟨v, rest, rfl, hv, hc⟩ := hc
      rw [HsL] at hc
      obtain ⟨w, rest2, rfl, hw, hc⟩ := hc
      rw [HsL] at hc
      subst hc
      rw [Hs] at hw
      obtain ⟨z, rfl⟩ := hw
      obtain ⟨X, x1, _, x3⟩ := hv.ints
      refine ⟨⟨v, X, z⟩ :: C, rfl, fun c hm => ?_⟩
      rcases List.mem_cons.1 hm with rfl | hm
      · exact ⟨x1, x3⟩
      · exact hC c hm
  obtain ⟨C, rfl, hC⟩ := hC
  refine ⟨C, ?_, hC⟩
  rw [List.length_map] at h1
  exact h1

set_option maxRecDepth 100000 in
theorem contract (H : Type) (enc : TypeId × Value → H) (W : World) (base : Nat) (args : Array Value) (ds gs : List (DataW H)) (before : List MemPlace)
    (hval : ∀ (j : Nat) t v, Try.f3.params[j]? = some t → args[j]? = some v → Value.okWide Try.prog W .any base t v)
    (hW : DataW.Whole enc Try.prog Try.f3.params.toList Rows.cacheDropsSpec.vars false W args.toList ds gs before) :
    Calls Try.prog 3 args W fun e W' => ∃ v, e = .returned v ∧ Rows.cacheDropsSpec.post enc Try.prog Try.f3 false true false false W args v W' := by
  have hW' := hW
  obtain ⟨p, q, hA0, hV, rfl, hfz, hnd⟩ := hW
  have hA : DataW.TrodAll enc Try.prog W 0 (fun _ => true) true Try.f3.params.toList args.toList ds p := hA0
  rw [Try.params3] at hA hval
  obtain ⟨v0, vs0, d0, ds0, p0, q0, hargs0, rfl, rfl, h0, r0⟩ := trodAll_cons hA
  obtain ⟨v1, vs1, d1, ds1, p1, q1, hargs1, rfl, rfl, h1, r1⟩ := trodAll_cons r0
  obtain ⟨hnil, rfl, rfl⟩ := trodAll_nil r1
  obtain rfl : args = #[v0, v1] := Array.ext' (by rw [hargs0, hargs1, hnil])
  subst hnil
  clear hA0
  obtain ⟨z, rfl⟩ : ∃ z : Int, v1 = .int .i64 z := by
    have hv := hval 1 3 v1 rfl rfl
    have hu : Try.prog.underlying 3 = some (.int .i64) := Try.underlying3
    simp only [Value.okWide, hu, Cell.okWide, Cell.ok] at hv
    cases v1 with
    | int k z => obtain ⟨rfl, _⟩ := hv; exact ⟨z, rfl⟩
    | _ => exact hv.elim
  obtain ⟨ι1, H1, a0, g1, g2, g3, g4, g5⟩ := (args0 Try.prog W).deep Try.underlying22 shape ⟨_, hval 0 22 v0 rfl rfl⟩ h0
  obtain ⟨G0, k1, k2⟩ := hs_of g1.wf _ _ g4
  obtain ⟨G, hown, hG⟩ := own_of g1.wf k1
  obtain ⟨C, hC⟩ := coms (k2.mono hG)
  obtain ⟨n, hn1, hn2⟩ : ∃ n, maxLen + 2000 ≤ n ∧ 3000 ≤ n := ⟨maxLen + 3000, Nat.add_le_add_left (by decide) _, Nat.le_add_left _ _⟩
  obtain ⟨H', he⟩ := cacheDrops_ok (n := n) (u1 := z) hC hown (fun c hc => Nat.le_trans (Nat.add_le_add_right (hC.2 c hc).2 _) hn1) hn2
  obtain ⟨mm, HH, he2⟩ := law_exec (ps := ps_wicketlaw17_CacheDrops) (rs := rs_wicketlaw17_CacheDrops) (ok_wicketlaw17_CacheDrops tk n) (a := (a0, z, ())) he
  refine (g1.calls tabOk mixed (args := [a0, .int .i64 z]) (args' := [v0, .int .i64 z]) (.cons (.atom g5) (.cons (.val (.cell (.atom (.int _ _)))) .nil)) he2).mono fun e W' h => ?_
  obtain ⟨rfl, hk⟩ := h
  refine ⟨_, rfl, args_post (ty := 4) laidOut hW' rfl (by kernel_rfl) Try.underlying4 rfl ?_ hk⟩
  rw [Try.params3]
  intro t ht
  simp only [List.mem_cons, List.not_mem_nil, or_false] at ht
  rcases ht with rfl | rfl
  · exact ⟨by kernel_rfl, of_decide_eq_true (by kernel_rfl)⟩
  · exact ⟨by kernel_rfl, of_decide_eq_true (by kernel_rfl)⟩

set_option maxRecDepth 100000 in
theorem lifted (os : Os) (started : os.Started) (H : Type) (enc : TypeId × Value → H) :
    ReturnsInHanded {} Try.checked os 3 .any (Rows.cacheDropsSpec.pre6 enc Try.prog Try.f3 Rows.cacheDropsRow.domain false) (Rows.cacheDropsSpec.post enc Try.prog Try.f3 false true false false) := by
  refine returnsInHanded_of_change (C := Try.checked) own started (by kernel_rfl) Try.func3
    (ChangeSpec.witness6 (enc := enc) (C := Try.checked) false ⟨#[], #[.slice none 0 0, .int .i64 0], []⟩ 8 (by kernel_rfl) (by kernel_rfl) (by kernel_rfl) (by kernel_rfl)) ?_
  intro W base args ds gs before hval hW _ _
  exact contract H enc W base args ds gs before hval hW
end cacheDropsAt

theorem cacheDrops_holds : Rows.CacheDropsSaid :=
  OpenClaim.holds_of_wide 3 Try.f3 rfl rfl rfl rfl rfl rfl rfl ⟨rfl, rfl, rfl, rfl, rfl⟩ rfl rfl rfl rfl rfl (by kernel_rfl) Try.func3 (by kernel_rfl)
    (of_decide_eq_true (by kernel_rfl)) (by unfold Func.isWrapper; first | (rw [if_pos (by decide +kernel)]; kernel_rfl) | (rw [if_neg (by decide +kernel)]; exact ⟨rfl, rfl⟩))
    (fun os started H enc _ => cacheDropsAt.lifted os started H enc)

#print axioms cacheDrops_holds
end Go.Proofs.Ytnfmkiccpjfifaa
