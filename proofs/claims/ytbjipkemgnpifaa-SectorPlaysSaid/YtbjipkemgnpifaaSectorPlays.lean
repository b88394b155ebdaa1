/- The law SectorPlays, for all arguments: it answers true, and what was there is as it was. No condition. -/
import Derived.Test.YtbjipkemgnpifaaRows
import Derived.Test.YtbjipkemgnpifaaLSectorPlays
import Derived.Test.YtbjipkemgnpifaaSxAll
import Derived.Test.YtbjipkemgnpifaaAgZ
import Derived.SizedLaws
import Derived.Test.YtbjipkemgnpifaaB10
import Derived.Test.YtbjipkemgnpifaaPrim2
import Derived.Test.YtbjipkemgnpifaaArgs2
import Derived.WalkKit
import Derived.ProofKit
import Derived.OpenShut
namespace Go.Proofs.Ytbjipkemgnpifaa
open Go.ChangeShapes Go.WideShapes Go.ChangeAt Go.RowKit
set_option linter.unusedVariables false

namespace sectorPlaysAt
theorem own : ownKnob Try.prog.godebug = none := by kernel_rfl
theorem mixed : Try.prog.follows .mixedOrders = true := by kernel_rfl
theorem laidOut : laidOutB Try.prog = true := by kernel_rfl
/-- The worked example, closed. -/
theorem awakeTrue : isTrue (exec (tableOf Try.prog) 100000 (.fn 4) [] (heap0 Try.prog)) = true := by kernel_rfl
noncomputable def tab : Nat → Option AFun := tableY Try.prog [28] [(4, yes)]
theorem tabOk : TOk Try.prog tab := tableY_ok _ _ _ fun x hx => by
  simp only [List.mem_cons, List.not_mem_nil, or_false] at hx
  rcases hx with rfl
  · exact ⟨by kernel_rfl, yes_ok (tableOf_ok _) mixed awakeTrue⟩
theorem t_wicketlaw04_awake : PrimT_wicketlaw04_awake tab := by unfold PrimT_wicketlaw04_awake; kernel_rfl
theorem t_sector_New : tab k_sector_New = some ⟨List.map (·.1) rs_sector_New, C2.erase c2_sector_New, none⟩ := by kernel_rfl
theorem t_wicketref04_New : tab k_wicketref04_New = some ⟨List.map (·.1) rs_wicketref04_New, C2.erase c2_wicketref04_New, none⟩ := by kernel_rfl
theorem t_wicketref04_Disk_Copy : tab k_wicketref04_Disk_Copy = some ⟨List.map (·.1) rs_wicketref04_Disk_Copy, C2.erase c2_wicketref04_Disk_Copy, none⟩ := by kernel_rfl
theorem t_sector_Disk_Image : tab k_sector_Disk_Image = some ⟨List.map (·.1) rs_sector_Disk_Image, C2.erase c2_sector_Disk_Image, none⟩ := by kernel_rfl
theorem t_wicketlaw04_sameWrites : tab k_wicketlaw04_sameWrites = some ⟨List.map (·.1) rs_wicketlaw04_sameWrites, C2.erase c2_wicketlaw04_sameWrites, none⟩ := by kernel_rfl
theorem t_sector_Disk_Len : tab k_sector_Disk_Len = some ⟨List.map (·.1) rs_sector_Disk_Len, C2.erase c2_sector_Disk_Len, none⟩ := by kernel_rfl
theorem t_sector_Disk_Crash : tab k_sector_Disk_Crash = some ⟨List.map (·.1) rs_sector_Disk_Crash, C2.erase c2_sector_Disk_Crash, none⟩ := by kernel_rfl
theorem t_slices_Clone_sector_data_sector_data : tab k_slices_Clone_sector_data_sector_data = some ⟨List.map (·.1) rs_slices_Clone_sector_data_sector_data, C2.erase c2_slices_Clone_sector_data_sector_data, none⟩ := by kernel_rfl
theorem t_slices_Clone_sector_waiting_sector_waiting : tab k_slices_Clone_sector_waiting_sector_waiting = some ⟨List.map (·.1) rs_slices_Clone_sector_waiting_sector_waiting, C2.erase c2_slices_Clone_sector_waiting_sector_waiting, none⟩ := by kernel_rfl
theorem t_wicketlaw04_own : tab k_wicketlaw04_own = some ⟨List.map (·.1) rs_wicketlaw04_own, C2.erase c2_wicketlaw04_own, none⟩ := by kernel_rfl
theorem t_wicketlaw04_marked : tab k_wicketlaw04_marked = some ⟨List.map (·.1) rs_wicketlaw04_marked, C2.erase c2_wicketlaw04_marked, none⟩ := by kernel_rfl
theorem t_wicketlaw04_held : tab k_wicketlaw04_held = some ⟨List.map (·.1) rs_wicketlaw04_held, C2.erase c2_wicketlaw04_held, none⟩ := by kernel_rfl
theorem t_sector_Disk_Flush : tab k_sector_Disk_Flush = some ⟨List.map (·.1) rs_sector_Disk_Flush, C2.erase c2_sector_Disk_Flush, none⟩ := by kernel_rfl
theorem t_wicketref04_Disk_Crash : tab k_wicketref04_Disk_Crash = some ⟨List.map (·.1) rs_wicketref04_Disk_Crash, C2.erase c2_wicketref04_Disk_Crash, none⟩ := by kernel_rfl
theorem t_wicketlaw04_Apart : tab k_wicketlaw04_Apart = some ⟨List.map (·.1) rs_wicketlaw04_Apart, C2.erase c2_wicketlaw04_Apart, none⟩ := by kernel_rfl
theorem t_wicketref04_Disk_Len : tab k_wicketref04_Disk_Len = some ⟨List.map (·.1) rs_wicketref04_Disk_Len, C2.erase c2_wicketref04_Disk_Len, none⟩ := by kernel_rfl
theorem t_sector_Load : tab k_sector_Load = some ⟨List.map (·.1) rs_sector_Load, C2.erase c2_sector_Load, none⟩ := by kernel_rfl
theorem t_wicketref04_Load : tab k_wicketref04_Load = some ⟨List.map (·.1) rs_wicketref04_Load, C2.erase c2_wicketref04_Load, none⟩ := by kernel_rfl
theorem t_slices_Clone_byte_byte : tab k_slices_Clone_byte_byte = some ⟨List.map (·.1) rs_slices_Clone_byte_byte, C2.erase c2_slices_Clone_byte_byte, none⟩ := by kernel_rfl
theorem t_sector_Disk_asked : tab k_sector_Disk_asked = some ⟨List.map (·.1) rs_sector_Disk_asked, C2.erase c2_sector_Disk_asked, none⟩ := by kernel_rfl
theorem t_slices_Backward_sector_waiting_sector_waiting_1 : tab k_slices_Backward_sector_waiting_sector_waiting_1 = some ⟨[], C2.erase c2_slices_Backward_sector_waiting_sector_waiting_1, none⟩ := by kernel_rfl
theorem t_sector_Disk_Copy : tab k_sector_Disk_Copy = some ⟨List.map (·.1) rs_sector_Disk_Copy, C2.erase c2_sector_Disk_Copy, none⟩ := by kernel_rfl
theorem t_sector_Disk_Waiting : tab k_sector_Disk_Waiting = some ⟨List.map (·.1) rs_sector_Disk_Waiting, C2.erase c2_sector_Disk_Waiting, none⟩ := by kernel_rfl
theorem t_sector_Disk_Write : tab k_sector_Disk_Write = some ⟨List.map (·.1) rs_sector_Disk_Write, C2.erase c2_sector_Disk_Write, none⟩ := by kernel_rfl
theorem t_wicketref04_Disk_Read : tab k_wicketref04_Disk_Read = some ⟨List.map (·.1) rs_wicketref04_Disk_Read, C2.erase c2_wicketref04_Disk_Read, none⟩ := by kernel_rfl
theorem t_wicketlaw04_pair_keeps : tab k_wicketlaw04_pair_keeps = some ⟨List.map (·.1) rs_wicketlaw04_pair_keeps, C2.erase c2_wicketlaw04_pair_keeps, none⟩ := by kernel_rfl
theorem t_wicketref04_Disk_Write : tab k_wicketref04_Disk_Write = some ⟨List.map (·.1) rs_wicketref04_Disk_Write, C2.erase c2_wicketref04_Disk_Write, none⟩ := by kernel_rfl
theorem t_wicketref04_Disk_Flush : tab k_wicketref04_Disk_Flush = some ⟨List.map (·.1) rs_wicketref04_Disk_Flush, C2.erase c2_wicketref04_Disk_Flush, none⟩ := by kernel_rfl
theorem t_slices_Backward_sector_waiting_sector_waiting : tab k_slices_Backward_sector_waiting_sector_waiting = some ⟨List.map (·.1) rs_slices_Backward_sector_waiting_sector_waiting, C2.erase c2_slices_Backward_sector_waiting_sector_waiting, none⟩ := by kernel_rfl
theorem t_sector_Disk_Read : tab k_sector_Disk_Read = some ⟨List.map (·.1) rs_sector_Disk_Read, C2.erase c2_sector_Disk_Read, none⟩ := by kernel_rfl
theorem t_wicketlaw04_pair_plays : tab k_wicketlaw04_pair_plays = some ⟨List.map (·.1) rs_wicketlaw04_pair_plays, C2.erase c2_wicketlaw04_pair_plays, none⟩ := by kernel_rfl
theorem t_wicketlaw04_SectorPlays : tab k_wicketlaw04_SectorPlays = some ⟨List.map (·.1) rs_wicketlaw04_SectorPlays, C2.erase c2_wicketlaw04_SectorPlays, none⟩ := by kernel_rfl
theorem tk : LfT tab := ⟨t_wicketlaw04_awake, t_sector_New, t_wicketref04_New, t_wicketref04_Disk_Copy, t_sector_Disk_Image, t_wicketlaw04_sameWrites, t_sector_Disk_Len, t_sector_Disk_Crash, t_slices_Clone_sector_data_sector_data, t_slices_Clone_sector_waiting_sector_waiting, t_wicketlaw04_own, t_wicketlaw04_marked, t_wicketlaw04_held, t_sector_Disk_Flush, t_wicketref04_Disk_Crash, t_wicketlaw04_Apart, t_wicketref04_Disk_Len, t_sector_Load, t_wicketref04_Load, t_slices_Clone_byte_byte, t_sector_Disk_asked, t_slices_Backward_sector_waiting_sector_waiting_1, t_sector_Disk_Copy, t_sector_Disk_Waiting, t_sector_Disk_Write, t_wicketref04_Disk_Read, t_wicketlaw04_pair_keeps, t_wicketref04_Disk_Write, t_wicketref04_Disk_Flush, t_slices_Backward_sector_waiting_sector_waiting, t_sector_Disk_Read, t_wicketlaw04_pair_plays, t_wicketlaw04_SectorPlays⟩

theorem shape : shOf Try.prog 10 22 = some [.sl [.int .i64, .int .i64, .int .i64, .sl [.int .u8], .sl [.int .i64]]] := by kernel_rfl
theorem reach : reachBytes = 140737488351232 := rfl
/-- The script, as it is handed in. -/
theorem steps {u : Value} {G : Ch} (h : Hs reachBytes G (.sl [.int .i64, .int .i64, .int .i64, .sl [.int .u8], .sl [.int .i64]]) u) : ∃ S : List Sps, Scr S u G := by
  rw [Hs] at h
  obtain ⟨chunks, h1, h2, h3, h4⟩ := h
  have hS : ∃ S : List Sps, chunks = S.map Sps.cells ∧ (∀ s ∈ S, Sow 1 s.vd s.D.length (iz .u8 s.D) G ∧ s.D.length + 4096 ≤ 140737488355328) ∧ ∀ s ∈ S, Sow 1 s.vk s.K.length (iz .i64 s.K) G ∧ (s.K.length + 2) * 8 ≤ 140737488355328 := by
    clear h1 h2 h3
    induction chunks with
    | nil => exact ⟨[], rfl, fun _ h => absurd h List.not_mem_nil, fun _ h => absurd h List.not_mem_nil⟩
    | cons c cs ih =>
      obtain ⟨S, rfl, hD, hK⟩ := ih fun c hc => h4 c (List.mem_cons_of_mem _ hc)
      have hc := h4 c (List.mem_cons_self ..)
      simp only [HsL] at hc
      obtain ⟨v0, _, rfl, w0, v1, _, rfl, w1, v2, _, rfl, w2, v3, _, rfl, w3, v4, _, rfl, w4, rfl⟩ := hc
      simp only [Hs.eq_1] at w0 w1 w2
      obtain ⟨z0, rfl, _⟩ := w0
      obtain ⟨z1, rfl, _⟩ := w1
      obtain ⟨z2, rfl, _⟩ := w2
      obtain ⟨D, d1, _, d3, _⟩ := w3.ints
      obtain ⟨K, k1, _, k3, _⟩ := w4.ints
      have d4 : D.length * 1 ≤ reachBytes := d3
      have k4 : K.length * 8 ≤ reachBytes := k3
      rw [reach] at d4 k4
      refine ⟨⟨z0, z1, z2, v3, v4, D, K⟩ :: S, rfl, fun c hm => ?_, fun c hm => ?_⟩
      · rcases List.mem_cons.1 hm with rfl | hm
        · exact ⟨d1, by show D.length + 4096 ≤ 140737488355328; omega⟩
        · exact hD c hm
      · rcases List.mem_cons.1 hm with rfl | hm
        · exact ⟨k1, by show (K.length + 2) * 8 ≤ 140737488355328; omega⟩
        · exact hK c hm
  obtain ⟨S, rfl, hD, hK⟩ := hS
  refine ⟨S, ?_, hD, hK⟩
  rw [List.length_map] at h1
  exact h1

set_option maxRecDepth 100000 in
theorem contract (H : Type) (enc : TypeId × Value → H) (W : World) (base : Nat) (args : Array Value) (ds gs : List (DataW H)) (before : List MemPlace)
    (hval : ∀ (j : Nat) t v, Try.f3.params[j]? = some t → args[j]? = some v → Value.okWide Try.prog W .any base t v)
    (hW : DataW.Whole enc Try.prog Try.f3.params.toList Rows.sectorPlaysSpec.vars false W args.toList ds gs before)
    (hsz : (DataW.weightsEach Try.prog (Try.f3.params.toList ++ Rows.sectorPlaysSpec.plain.varTypes Try.prog) (ds ++ gs)).all (· ≤ reachBytes) = true) :
    Calls Try.prog 3 args W fun e W' => ∃ v, e = .returned v ∧ Rows.sectorPlaysSpec.post enc Try.prog Try.f3 false true false false W args v W' := by
  have hW' := hW
  obtain ⟨p, q, hA0, hV, rfl, hfz, hnd⟩ := hW
  have hA : DataW.TrodAll enc Try.prog W 0 (fun _ => true) true Try.f3.params.toList args.toList ds p := hA0
  rw [Try.params3] at hA hval
  obtain ⟨v0, vs0, d0, ds0, p0, q0, hargs0, rfl, rfl, h0, r0⟩ := trodAll_cons hA
  obtain ⟨v1, vs1, d1, ds1, p1, q1, hargs1, rfl, rfl, h1, r1⟩ := trodAll_cons r0
  obtain ⟨hnil, rfl, rfl⟩ := trodAll_nil r1
  obtain rfl : args = #[v0, v1] := Array.ext' (by rw [hargs0, hargs1, hnil])
  subst hnil
  clear hA0
  obtain ⟨z, rfl⟩ : ∃ z : Int, v0 = .int .i64 z := by
    have hv := hval 0 3 v0 rfl rfl
    have hu : Try.prog.underlying 3 = some (.int .i64) := Try.underlying3
    simp only [Value.okWide, hu, Cell.okWide, Cell.ok] at hv
    cases v0 with
    | int k z => obtain ⟨rfl, _⟩ := hv; exact ⟨z, rfl⟩
    | _ => exact hv.elim
  have hgd : goodZ Try.prog 22 d1 := fun m hm => of_decide_eq_true (List.all_eq_true.1 hsz m (DataW.weights_mem_each (j := 1) (t := 22) (d := d1) (by rw [Try.params3]; rfl) rfl m hm))
  obtain ⟨ι1, H1, a1, g1, g2, g3, g4, g5⟩ := (args0 Try.prog W).deep Bk.sized Try.underlying22 shape ⟨_, hval 1 22 v1 rfl rfl⟩ h1 hgd
  obtain ⟨G0, k1, k2⟩ := hs_of g1.wf _ _ g4
  obtain ⟨G, hown, hG⟩ := own_of g1.wf k1
  obtain ⟨S, hS⟩ := steps (k2.mono hG)
  obtain ⟨n, hn1⟩ : ∃ n, 140737488955328 ≤ n := ⟨_, Nat.le_refl _⟩
  obtain ⟨H', he⟩ := sectorPlays_ok (n := n) (u0 := z) hS hown hn1
  obtain ⟨mm, HH, he2⟩ := law_exec (ps := ps_wicketlaw04_SectorPlays) (rs := rs_wicketlaw04_SectorPlays) (ok_wicketlaw04_SectorPlays tk n) (a := (z, a1, ())) he
  refine (g1.calls tabOk mixed (args := [.int .i64 z, a1]) (args' := [.int .i64 z, v1]) (.cons (.val (.cell (.atom (.int _ _)))) (.cons (.atom g5) .nil)) he2).mono fun e W' h => ?_
  obtain ⟨rfl, hk⟩ := h
  refine ⟨_, rfl, args_post (ty := 4) laidOut hW' rfl (by kernel_rfl) Try.underlying4 rfl ?_ hk⟩
  rw [Try.params3]
  intro t ht
  simp only [List.mem_cons, List.not_mem_nil, or_false] at ht
  rcases ht with rfl | rfl
  · exact ⟨by kernel_rfl, of_decide_eq_true (by kernel_rfl)⟩
  · exact ⟨by kernel_rfl, of_decide_eq_true (by kernel_rfl)⟩

set_option maxRecDepth 100000 in
theorem lifted (os : Os) (started : os.Started) (H : Type) (enc : TypeId × Value → H) :
    ReturnsInHanded {} Try.checked os 3 .any (Rows.sectorPlaysSpec.pre6 enc Try.prog Try.f3 Rows.sectorPlaysRow.domain false) (Rows.sectorPlaysSpec.post enc Try.prog Try.f3 false true false false) := by
  refine returnsInHanded_of_change_sized (C := Try.checked) own started (by kernel_rfl) Try.func3
    (ChangeSpec.witness6 (enc := enc) (C := Try.checked) false ⟨#[], #[.int .i64 0, .slice none 0 0], []⟩ 8 (by kernel_rfl) (by kernel_rfl) (by kernel_rfl) (by kernel_rfl)) ?_
  intro W base args ds gs before hval hW _ hsz _
  exact contract H enc W base args ds gs before hval hW hsz
end sectorPlaysAt

theorem sectorPlays_holds : Rows.SectorPlaysSaid :=
  OpenClaim.holds_of_wide 3 Try.f3 rfl rfl rfl rfl rfl rfl rfl ⟨rfl, rfl, rfl, rfl, rfl⟩ rfl rfl rfl rfl rfl (by kernel_rfl) Try.func3 (by kernel_rfl)
    (of_decide_eq_true (by kernel_rfl)) (by unfold Func.isWrapper; first | (rw [if_pos (by decide +kernel)]; kernel_rfl) | (rw [if_neg (by decide +kernel)]; exact ⟨rfl, rfl⟩))
    (fun os started H enc _ => sectorPlaysAt.lifted os started H enc)

#print axioms sectorPlays_holds
end Go.Proofs.Ytbjipkemgnpifaa
