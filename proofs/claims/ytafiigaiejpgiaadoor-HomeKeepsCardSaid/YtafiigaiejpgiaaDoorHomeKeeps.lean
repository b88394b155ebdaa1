/- The law HomeKeeps, for all arguments, in every world in which the package-level tables hold what the program's text lays: it answers true, and what was there is as it was. No other condition. -/
import Derived.Test.YtafiigaiejpgiaaDoorCards
import Derived.Test.YtafiigaiejpgiaaDoorTie
import Derived.Test.YtafiigaiejpgiaaDoorLHomeKeeps
import Derived.Test.YtafiigaiejpgiaaDoorHkAll
import Derived.Test.YtafiigaiejpgiaaDoorB10
import Derived.Test.YtafiigaiejpgiaaDoorPrim2
import Derived.Test.YtafiigaiejpgiaaDoorAgZ
import Derived.WalkKit
import Derived.ProofKit
import Derived.OpenShut
import Derived.Deep.DeepHandedRow
import Derived.Lib.LaidTab
import Derived.Stop.LaidErr
namespace Go.Proofs.YtafiigaiejpgiaaDoor
open Go.ChangeShapes Go.WideShapes Go.ChangeAt Go.RowKit
set_option linter.unusedVariables false

namespace homeKeepsAt
theorem own : ownKnob Tryd.prog.godebug = none := by kernel_rfl
theorem mixed : Tryd.prog.follows .mixedOrders = true := by kernel_rfl
theorem laidOut : laidOutB Tryd.prog = true := by kernel_rfl
theorem tabName0 : Tryd.prog.globalNamed "wicket/sum.halves" = some 1 := by kernel_rfl
theorem tabType0 : (Tryd.prog.globals[1]?).map (·.type) = some 88 := by kernel_rfl
theorem tabCells0 : Tryd.prog.cellsOf 88 = 16 := by kernel_rfl
theorem tabCell0 : Tryd.prog.cellsOf 75 = 1 := by kernel_rfl
theorem tabLt0 : 1 < Tryd.prog.globals.size := of_decide_eq_true (by kernel_rfl)
theorem tabName1 : Tryd.prog.globalNamed "wicket/super.widths" = some 0 := by kernel_rfl
theorem tabType1 : (Tryd.prog.globals[0]?).map (·.type) = some 73 := by kernel_rfl
theorem tabCells1 : Tryd.prog.cellsOf 73 = 10 := by kernel_rfl
theorem tabCell1 : Tryd.prog.cellsOf 3 = 1 := by kernel_rfl
theorem tabLt1 : 0 < Tryd.prog.globals.size := of_decide_eq_true (by kernel_rfl)

/-- What the row's list gives. -/
theorem tables {W : World} (h : laidMetH Tryd.prog Rows.homeKeepsRow.laid W) : ∀ t ∈ tabsL, TabHolds Tryd.prog W t := by
  have h0 : laidMet Tryd.prog Rows.homeKeepsRow.laid W := h
  have t0 : Lib.TabIs Tryd.prog W "wicket/sum.halves" tab0.k tab0.zs := Lib.tabIs_of_head (rest := [("wicket/super.widths", Rows.laid_wicket_super_widths)]) tabName0 tabType0 Tryd.underlying88 Tryd.underlying75 tabCell0 tabCells0 h0
  have h1 : laidMet Tryd.prog [("wicket/super.widths", Rows.laid_wicket_super_widths)] W := laidMet.tail h0
  have t1 : Lib.TabIs Tryd.prog W "wicket/super.widths" tab1.k tab1.zs := Lib.tabIs_of_head (rest := []) tabName1 tabType1 Tryd.underlying73 Tryd.underlying3 tabCell1 tabCells1 h1
  intro t ht
  simp only [tabsL, List.mem_cons, List.not_mem_nil, or_false] at ht
  rcases ht with rfl | rfl
  · exact tabHolds_of tabName0 tabLt0 t0
  · exact tabHolds_of tabName1 tabLt1 t1
theorem tabsLt : ∀ t ∈ tabsL, t.g < Tryd.prog.globals.size := by
  intro t ht
  simp only [tabsL, List.mem_cons, List.not_mem_nil, or_false] at ht
  rcases ht with rfl | rfl
  · exact tabLt0
  · exact tabLt1
/-- The worked example, closed. -/
theorem answers : isTrue (exec (tableOf Tryd.prog) 100000 (.fn 5) [] (heap1 Tryd.prog tabsL)) = true := by kernel_rfl
noncomputable def tab : Nat → Option AFun := tableX Tryd.prog [(5, yesT tabsL)]
theorem tabOk : TOk Tryd.prog tab := tableX_ok _ _ fun x hx => by
  simp only [List.mem_cons, List.not_mem_nil, or_false] at hx
  rcases hx with rfl
  · exact ⟨by kernel_rfl, yesT_ok (tableOf_ok _) mixed tabsLt answers⟩
theorem t_wicketlaw08_awake : PrimT_wicketlaw08_awake tab := by unfold PrimT_wicketlaw08_awake; kernel_rfl
theorem t_sector_Disk_Image : tab k_sector_Disk_Image = some ⟨List.map (·.1) rs_sector_Disk_Image, C2.erase c2_sector_Disk_Image, none⟩ := by kernel_rfl
theorem t_sector_Disk_Flush : tab k_sector_Disk_Flush = some ⟨List.map (·.1) rs_sector_Disk_Flush, C2.erase c2_sector_Disk_Flush, none⟩ := by kernel_rfl
theorem t_wicketref08_Same : tab k_wicketref08_Same = some ⟨List.map (·.1) rs_wicketref08_Same, C2.erase c2_wicketref08_Same, none⟩ := by kernel_rfl
theorem t_octet_Join : tab k_octet_Join = some ⟨List.map (·.1) rs_octet_Join, C2.erase c2_octet_Join, none⟩ := by kernel_rfl
theorem t_sector_Load : tab k_sector_Load = some ⟨List.map (·.1) rs_sector_Load, C2.erase c2_sector_Load, none⟩ := by kernel_rfl
theorem t_wicketlaw08_small : tab k_wicketlaw08_small = some ⟨List.map (·.1) rs_wicketlaw08_small, C2.erase c2_wicketlaw08_small, none⟩ := by kernel_rfl
theorem t_sector_Disk_Len : tab k_sector_Disk_Len = some ⟨List.map (·.1) rs_sector_Disk_Len, C2.erase c2_sector_Disk_Len, none⟩ := by kernel_rfl
theorem t_slices_Clone_byte_byte : tab k_slices_Clone_byte_byte = some ⟨List.map (·.1) rs_slices_Clone_byte_byte, C2.erase c2_slices_Clone_byte_byte, none⟩ := by kernel_rfl
theorem t_octet_Pad : tab k_octet_Pad = some ⟨List.map (·.1) rs_octet_Pad, C2.erase c2_octet_Pad, none⟩ := by kernel_rfl
theorem t_home_block : tab k_home_block = some ⟨List.map (·.1) rs_home_block, C2.erase c2_home_block, none⟩ := by kernel_rfl
theorem t_sector_Disk_asked : tab k_sector_Disk_asked = some ⟨List.map (·.1) rs_sector_Disk_asked, C2.erase c2_sector_Disk_asked, none⟩ := by kernel_rfl
theorem t_octet_may : tab k_octet_may = some ⟨List.map (·.1) rs_octet_may, C2.erase c2_octet_may, none⟩ := by kernel_rfl
theorem t_sum_push : tab k_sum_push = some ⟨List.map (·.1) rs_sum_push, C2.erase c2_sum_push, none⟩ := by kernel_rfl
theorem t_super_within : tab k_super_within = some ⟨List.map (·.1) rs_super_within, C2.erase c2_super_within, none⟩ := by kernel_rfl
theorem t_slices_Backward_sector_waiting_sector_waiting_1 : tab k_slices_Backward_sector_waiting_sector_waiting_1 = some ⟨[], C2.erase c2_slices_Backward_sector_waiting_sector_waiting_1, none⟩ := by kernel_rfl
theorem t_sector_Disk_Waiting : tab k_sector_Disk_Waiting = some ⟨List.map (·.1) rs_sector_Disk_Waiting, C2.erase c2_sector_Disk_Waiting, none⟩ := by kernel_rfl
theorem t_sector_Disk_Write : tab k_sector_Disk_Write = some ⟨List.map (·.1) rs_sector_Disk_Write, C2.erase c2_sector_Disk_Write, none⟩ := by kernel_rfl
theorem t_octet_Put : tab k_octet_Put = some ⟨List.map (·.1) rs_octet_Put, C2.erase c2_octet_Put, none⟩ := by kernel_rfl
theorem t_sum_Of : tab k_sum_Of = some ⟨List.map (·.1) rs_sum_Of, C2.erase c2_sum_Of, none⟩ := by kernel_rfl
theorem t_super_Config : tab k_super_Config = some ⟨List.map (·.1) rs_super_Config, C2.erase c2_super_Config, none⟩ := by kernel_rfl
theorem t_slices_Backward_sector_waiting_sector_waiting : tab k_slices_Backward_sector_waiting_sector_waiting = some ⟨List.map (·.1) rs_slices_Backward_sector_waiting_sector_waiting, C2.erase c2_slices_Backward_sector_waiting_sector_waiting, none⟩ := by kernel_rfl
theorem t_home_Encode : tab k_home_Encode = some ⟨List.map (·.1) rs_home_Encode, C2.erase c2_home_Encode, none⟩ := by kernel_rfl
theorem t_home_Decode : tab k_home_Decode = some ⟨List.map (·.1) rs_home_Decode, C2.erase c2_home_Decode, none⟩ := by kernel_rfl
theorem t_home_fits : tab k_home_fits = some ⟨List.map (·.1) rs_home_fits, C2.erase c2_home_fits, none⟩ := by kernel_rfl
theorem t_super_Check : tab k_super_Check = some ⟨List.map (·.1) rs_super_Check, C2.erase c2_super_Check, none⟩ := by kernel_rfl
theorem t_sector_Disk_Read : tab k_sector_Disk_Read = some ⟨List.map (·.1) rs_sector_Disk_Read, C2.erase c2_sector_Disk_Read, none⟩ := by kernel_rfl
theorem t_super_Encode : tab k_super_Encode = some ⟨List.map (·.1) rs_super_Encode, C2.erase c2_super_Encode, none⟩ := by kernel_rfl
theorem t_home_has : tab k_home_has = some ⟨List.map (·.1) rs_home_has, C2.erase c2_home_has, none⟩ := by kernel_rfl
theorem t_home_New : tab k_home_New = some ⟨List.map (·.1) rs_home_New, C2.erase c2_home_New, none⟩ := by kernel_rfl
theorem t_home_Save : tab k_home_Save = some ⟨List.map (·.1) rs_home_Save, C2.erase c2_home_Save, none⟩ := by kernel_rfl
theorem t_home_Load : tab k_home_Load = some ⟨List.map (·.1) rs_home_Load, C2.erase c2_home_Load, none⟩ := by kernel_rfl
theorem t_home_All : tab k_home_All = some ⟨List.map (·.1) rs_home_All, C2.erase c2_home_All, none⟩ := by kernel_rfl
theorem t_wicketlaw08_HomeKeeps : tab k_wicketlaw08_HomeKeeps = some ⟨List.map (·.1) rs_wicketlaw08_HomeKeeps, C2.erase c2_wicketlaw08_HomeKeeps, none⟩ := by kernel_rfl
theorem tk : LfT tab := ⟨t_wicketlaw08_awake, t_sector_Disk_Image, t_sector_Disk_Flush, t_wicketref08_Same, t_octet_Join, t_sector_Load, t_wicketlaw08_small, t_sector_Disk_Len, t_slices_Clone_byte_byte, t_octet_Pad, t_home_block, t_sector_Disk_asked, t_octet_may, t_sum_push, t_super_within, t_slices_Backward_sector_waiting_sector_waiting_1, t_sector_Disk_Waiting, t_sector_Disk_Write, t_octet_Put, t_sum_Of, t_super_Config, t_slices_Backward_sector_waiting_sector_waiting, t_home_Encode, t_home_Decode, t_home_fits, t_super_Check, t_sector_Disk_Read, t_super_Encode, t_home_has, t_home_New, t_home_Save, t_home_Load, t_home_All, t_wicketlaw08_HomeKeeps⟩

theorem shapeV : shOf Tryd.prog 10 25 = some (List.replicate 32 (.int .u8)) := by kernel_rfl
theorem shapeC : shOf Tryd.prog 10 23 = some (List.replicate 5 (.int .i64)) := by kernel_rfl
theorem byt_of {L : List Int} (h : ∀ z ∈ L, (Lit.int .u8 z).wf = true) : Byt L := fun z hz => by
  have := h z hz
  simp [Lit.wf, IntKind.min, IntKind.max, IntKind.signed, IntKind.bits] at this; omega
theorem cf_of {L : List Int} (hl : L.length = 5) (h : ∀ z ∈ L, (Lit.int .i64 z).wf = true) : ∃ c : Cf, iz .i64 L = c.cells ∧ -9223372036854775808 ≤ c.l ∧ c.l ≤ 9223372036854775807 := by
  match L, hl with
  | [a, b, c, d, e], _ =>
    have := h b (by simp)
    simp [Lit.wf, IntKind.min, IntKind.max, IntKind.signed, IntKind.bits] at this
    exact ⟨⟨a, b, c, d, e⟩, rfl, by simp only; omega, by simp only; omega⟩

set_option maxRecDepth 100000 in
theorem contract (H : Type) (enc : TypeId × Value → H) (W : World) (base : Nat) (args : Array Value) (ds gs : List (DataW H)) (before : List MemPlace)
    (hval : ∀ (j : Nat) t v, Tryd.f3.params[j]? = some t → args[j]? = some v → Value.okWide Tryd.prog W .any base t v)
    (hW : DataW.Whole enc Tryd.prog Tryd.f3.params.toList Rows.homeKeepsSpec.vars false W args.toList ds gs before) (hL : laidMetH Tryd.prog Rows.homeKeepsRow.laid W)
    (hsz : (DataW.weightsEach Tryd.prog (Tryd.f3.params.toList ++ Rows.homeKeepsSpec.plain.varTypes Tryd.prog) (ds ++ gs)).all (· ≤ reachBytes) = true) :
    Calls Tryd.prog 3 args W fun e W' => ∃ v, e = .returned v ∧ Rows.homeKeepsSpec.post enc Tryd.prog Tryd.f3 false true false false W args v W' := by
  have hW' := hW
  obtain ⟨p, q, hA0, hV, rfl, hfz, hnd⟩ := hW
  have hA : DataW.TrodAll enc Tryd.prog W 0 (fun _ => true) true Tryd.f3.params.toList args.toList ds p := hA0
  rw [Tryd.params3] at hA hval
  obtain ⟨v0, vs0, d0, ds0, p0, q0, hargs0, rfl, rfl, h0, r0⟩ := trodAll_cons hA
  obtain ⟨v1, vs1, d1, ds1, p1, q1, hargs1, rfl, rfl, h1, r1⟩ := trodAll_cons r0
  obtain ⟨v2, vs2, d2, ds2, p2, q2, hargs2, rfl, rfl, h2, r2⟩ := trodAll_cons r1
  obtain ⟨v3, vs3, d3, ds3, p3, q3, hargs3, rfl, rfl, h3, r3⟩ := trodAll_cons r2
  obtain ⟨hnil, rfl, rfl⟩ := trodAll_nil r3
  obtain rfl : args = #[v0, v1, v2, v3] := Array.ext' (by rw [hargs0, hargs1, hargs2, hargs3, hnil])
  subst hnil
  clear hA0
  have hA1 := args1 Tryd.prog W tabsL (tables hL)
  obtain ⟨z1, rfl, wz1⟩ : ∃ z : Int, v1 = .int .i64 z ∧ (Lit.int .i64 z).wf = true := by
    have hv := hval 1 3 v1 rfl rfl
    have hu : Tryd.prog.underlying 3 = some (.int .i64) := Tryd.underlying3
    simp only [Value.okWide, hu, Cell.okWide, Cell.ok] at hv
    cases v1 with
    | int k z => obtain ⟨rfl, hz⟩ := hv; exact ⟨z, rfl, by simpa [Lit.wf, IntKind.has] using hz⟩
    | _ => exact hv.elim
  obtain ⟨z3, rfl, wz3⟩ : ∃ z : Int, v3 = .int .i64 z ∧ (Lit.int .i64 z).wf = true := by
    have hv := hval 3 3 v3 rfl rfl
    have hu : Tryd.prog.underlying 3 = some (.int .i64) := Tryd.underlying3
    simp only [Value.okWide, hu, Cell.okWide, Cell.ok] at hv
    cases v3 with
    | int k z => obtain ⟨rfl, hz⟩ := hv; exact ⟨z, rfl, by simpa [Lit.wf, IntKind.has] using hz⟩
    | _ => exact hv.elim
  have hgd0 : goodZ Tryd.prog 23 d0 := (fun m hm => of_decide_eq_true (List.all_eq_true.1 hsz m (DataW.weights_mem_each (j := 0) (t := 23) (d := d0) (by rw [Tryd.params3]; rfl) rfl m hm)))
  have hgd2 : goodZ Tryd.prog 25 d2 := (fun m hm => of_decide_eq_true (List.all_eq_true.1 hsz m (DataW.weights_mem_each (j := 2) (t := 25) (d := d2) (by rw [Tryd.params3]; rfl) rfl m hm)))
  obtain ⟨C, rfl, hC, wC⟩ := str_arg Bk.sized Tryd.underlying23 shapeC ⟨_, hval 0 23 v0 rfl rfl⟩ h0 hgd0
  obtain ⟨V, rfl, hV, wV⟩ := arr_arg Bk.sized Tryd.underlying25 shapeV ⟨_, hval 2 25 v2 rfl rfl⟩ h2 hgd2
  obtain ⟨c, hc, c1, c2⟩ := cf_of hC wC
  have t0 : (heap1 Tryd.prog tabsL).get 1 = some (.cells tab0.cells true 0) := by simp [heap1, heapT, Heap.get_put, tabsL, tab0, tab1]
  have t1 : (heap1 Tryd.prog tabsL).get 0 = some (.cells tab1.cells true 0) := by simp [heap1, heapT, Heap.get_put, tabsL, tab0, tab1]
  obtain ⟨G, hown, hG⟩ := own_of hA1.wf (G := [tabO, tabP]) fun x hx => by
    simp only [List.mem_cons, List.not_mem_nil, or_false] at hx
    rcases hx with rfl | rfl
    · exact t0
    · exact t1
  obtain ⟨H', he⟩ := homeKeeps_ok (n := 300000) (c := c) (z := z1) (y := z3) ⟨c1, c2⟩ hV (byt_of wV) (hG _ (List.mem_cons_self ..)) (hG _ (List.mem_cons_of_mem _ (List.mem_cons_self ..))) hown (Nat.le_refl _)
  rw [← hc] at he
  obtain ⟨mm, HH, he2⟩ := law_exec (ps := ps_wicketlaw08_HomeKeeps) (rs := rs_wicketlaw08_HomeKeeps) (ok_wicketlaw08_HomeKeeps tk 300000) (a := (.agg ⟨iz .i64 C⟩, z1, .agg ⟨iz .u8 V⟩, z3, ())) he
  refine (hA1.calls tabOk mixed (args := [.agg ⟨iz .i64 C⟩, .int .i64 z1, .agg ⟨iz .u8 V⟩, .int .i64 z3]) (args' := [.agg ⟨iz .i64 C⟩, .int .i64 z1, .agg ⟨iz .u8 V⟩, .int .i64 z3]) (.cons (.val (.agg all2_iz)) (.cons (.val (.cell (.atom (.int _ _)))) (.cons (.val (.agg all2_iz)) (.cons (.val (.cell (.atom (.int _ _)))) .nil)))) he2).mono fun e W' h => ?_
  obtain ⟨rfl, hk⟩ := h
  refine ⟨_, rfl, args_post (ty := 4) laidOut hW' rfl (by kernel_rfl) Tryd.underlying4 rfl ?_ hk⟩
  rw [Tryd.params3]
  intro t ht
  simp only [List.mem_cons, List.not_mem_nil, or_false] at ht
  rcases ht with rfl | rfl | rfl | rfl
  · exact ⟨by kernel_rfl, of_decide_eq_true (by kernel_rfl)⟩
  · exact ⟨by kernel_rfl, of_decide_eq_true (by kernel_rfl)⟩
  · exact ⟨by kernel_rfl, of_decide_eq_true (by kernel_rfl)⟩
  · exact ⟨by kernel_rfl, of_decide_eq_true (by kernel_rfl)⟩

/-- A world for the witness: the settled one, the tables holding what their initialisers lay. -/
noncomputable def laidWorld (os : Os) : World :=
  { World.holding Tryd.prog os ⟨#[], #[], []⟩ with heap := setTab tab1 (setTab tab0 ((World.holding Tryd.prog os ⟨#[], #[], []⟩).heap)) }
theorem laid_met (os : Os) : laidMet Tryd.prog Rows.homeKeepsRow.laid ((laidWorld os).forCall (fun _ _ => 0) ⟨#[], #[.agg #[.int .i64 0, .int .i64 0, .int .i64 0, .int .i64 0, .int .i64 0], .int .i64 0, .agg #[.int .u8 0, .int .u8 0, .int .u8 0, .int .u8 0, .int .u8 0, .int .u8 0, .int .u8 0, .int .u8 0, .int .u8 0, .int .u8 0, .int .u8 0, .int .u8 0, .int .u8 0, .int .u8 0, .int .u8 0, .int .u8 0, .int .u8 0, .int .u8 0, .int .u8 0, .int .u8 0, .int .u8 0, .int .u8 0, .int .u8 0, .int .u8 0, .int .u8 0, .int .u8 0, .int .u8 0, .int .u8 0, .int .u8 0, .int .u8 0, .int .u8 0, .int .u8 0], .int .i64 0], []⟩).memory :=
  laidMet_of_run' 8 (by kernel_rfl) (by kernel_rfl)
theorem reads (os : Os) {H : Type} (enc : TypeId × Value → H) : ∃ places, DataW.whole enc Tryd.prog ((laidWorld os).forCall (fun _ _ => 0) ⟨#[], #[.agg #[.int .i64 0, .int .i64 0, .int .i64 0, .int .i64 0, .int .i64 0], .int .i64 0, .agg #[.int .u8 0, .int .u8 0, .int .u8 0, .int .u8 0, .int .u8 0, .int .u8 0, .int .u8 0, .int .u8 0, .int .u8 0, .int .u8 0, .int .u8 0, .int .u8 0, .int .u8 0, .int .u8 0, .int .u8 0, .int .u8 0, .int .u8 0, .int .u8 0, .int .u8 0, .int .u8 0, .int .u8 0, .int .u8 0, .int .u8 0, .int .u8 0, .int .u8 0, .int .u8 0, .int .u8 0, .int .u8 0, .int .u8 0, .int .u8 0, .int .u8 0, .int .u8 0], .int .i64 0], []⟩).memory Tryd.f3.params.toList Rows.homeKeepsSpec.vars false (#[.agg #[.int .i64 0, .int .i64 0, .int .i64 0, .int .i64 0, .int .i64 0], .int .i64 0, .agg #[.int .u8 0, .int .u8 0, .int .u8 0, .int .u8 0, .int .u8 0, .int .u8 0, .int .u8 0, .int .u8 0, .int .u8 0, .int .u8 0, .int .u8 0, .int .u8 0, .int .u8 0, .int .u8 0, .int .u8 0, .int .u8 0, .int .u8 0, .int .u8 0, .int .u8 0, .int .u8 0, .int .u8 0, .int .u8 0, .int .u8 0, .int .u8 0, .int .u8 0, .int .u8 0, .int .u8 0, .int .u8 0, .int .u8 0, .int .u8 0, .int .u8 0, .int .u8 0], .int .i64 0] : Array Value).toList 8 = some ([.agg [.lit (.int .i64 0), .lit (.int .i64 0), .lit (.int .i64 0), .lit (.int .i64 0), .lit (.int .i64 0)], .lit (.int .i64 0), .agg [.lit (.int .u8 0), .lit (.int .u8 0), .lit (.int .u8 0), .lit (.int .u8 0), .lit (.int .u8 0), .lit (.int .u8 0), .lit (.int .u8 0), .lit (.int .u8 0), .lit (.int .u8 0), .lit (.int .u8 0), .lit (.int .u8 0), .lit (.int .u8 0), .lit (.int .u8 0), .lit (.int .u8 0), .lit (.int .u8 0), .lit (.int .u8 0), .lit (.int .u8 0), .lit (.int .u8 0), .lit (.int .u8 0), .lit (.int .u8 0), .lit (.int .u8 0), .lit (.int .u8 0), .lit (.int .u8 0), .lit (.int .u8 0), .lit (.int .u8 0), .lit (.int .u8 0), .lit (.int .u8 0), .lit (.int .u8 0), .lit (.int .u8 0), .lit (.int .u8 0), .lit (.int .u8 0), .lit (.int .u8 0)], .lit (.int .i64 0)], [], places) :=
  ⟨[], by kernel_rfl⟩

set_option maxRecDepth 100000 in
theorem lifted (os : Os) (started : os.Started) (H : Type) (enc : TypeId × Value → H) (F : Stop.Interp) :
    ReturnsInHanded {} Tryd.checked os 3 .any ((OpenSpec.ofChange Rows.homeKeepsSpec).preRow enc Tryd.prog Tryd.f3 Rows.homeKeepsRow.domain false Rows.homeKeepsRow.laid) (((OpenSpec.ofChange Rows.homeKeepsSpec).at F).post enc Tryd.prog Tryd.f3 false true false false) := by
  obtain ⟨places, hx⟩ := reads os enc
  refine returnsInHanded_of_row (C := Tryd.checked) (s := OpenSpec.ofChange Rows.homeKeepsSpec) own started (by kernel_rfl) Tryd.func3
    (witness_row_at (enc := enc) (C := Tryd.checked) false (laidWorld os) #[.agg #[.int .i64 0, .int .i64 0, .int .i64 0, .int .i64 0, .int .i64 0], .int .i64 0, .agg #[.int .u8 0, .int .u8 0, .int .u8 0, .int .u8 0, .int .u8 0, .int .u8 0, .int .u8 0, .int .u8 0, .int .u8 0, .int .u8 0, .int .u8 0, .int .u8 0, .int .u8 0, .int .u8 0, .int .u8 0, .int .u8 0, .int .u8 0, .int .u8 0, .int .u8 0, .int .u8 0, .int .u8 0, .int .u8 0, .int .u8 0, .int .u8 0, .int .u8 0, .int .u8 0, .int .u8 0, .int .u8 0, .int .u8 0, .int .u8 0, .int .u8 0, .int .u8 0], .int .i64 0] rfl (by kernel_rfl) (by kernel_rfl) (by kernel_rfl)
      (OpenSpec.preRow_of_cond 8 hx (by kernel_rfl) (fun k hk => by cases hk) (by kernel_rfl) (laid_met os))) ?_
  intro W base args ds gs before hval hW _ _ hsz hL _ _
  exact contract H enc W base args ds gs before hval hW hL hsz

theorem said : Rows.HomeKeepsSaid :=
  OpenClaim.holds_of_cond 3 Tryd.f3 rfl rfl rfl rfl rfl rfl rfl ⟨rfl, rfl, rfl, rfl, rfl⟩ rfl rfl rfl rfl rfl (by kernel_rfl) Tryd.func3 (by kernel_rfl)
    (of_decide_eq_true (by kernel_rfl)) (by unfold Func.isWrapper; first | (rw [if_pos (by decide +kernel)]; kernel_rfl) | (rw [if_neg (by decide +kernel)]; exact ⟨rfl, rfl⟩))
    (fun os started H enc _ F => by rw [OpenClaim.pre_eq_preRow]; exact lifted os started H enc F)

theorem plain (f : FuncId) (fn : Func) (hf : Tryd.pinned.checked.prog.funcNamed "wicket/wicketlaw08.HomeKeeps" = some f) (hfn : Tryd.pinned.checked.prog.funcs[f]? = some fn) :
    false = Tryd.pinned.checked.prog.looks [] ∧ ∀ (j : Nat) t, fn.params[j]? = some t → Tryd.pinned.checked.prog.wantsStandIn t = false := by
  obtain rfl : f = 3 := Option.some.inj ((show Tryd.prog.funcNamed "wicket/wicketlaw08.HomeKeeps" = some 3 by kernel_rfl).symm.trans hf) |>.symm
  obtain rfl : fn = Tryd.f3 := (Option.some.inj (Tryd.func3.symm.trans hfn)).symm
  refine ⟨by kernel_rfl, fun j t ht => ?_⟩
  have hm : t ∈ (Tryd.f3.params.toList) := Array.mem_toList_iff.2 (Array.mem_of_getElem? ht)
  rw [Tryd.params3] at hm
  simp only [List.mem_cons, List.not_mem_nil, or_false] at hm
  rcases hm with rfl | rfl | rfl | rfl
  · exact (show Tryd.prog.wantsStandIn 23 = false by kernel_rfl)
  · exact (show Tryd.prog.wantsStandIn 3 = false by kernel_rfl)
  · exact (show Tryd.prog.wantsStandIn 25 = false by kernel_rfl)
  · exact (show Tryd.prog.wantsStandIn 3 = false by kernel_rfl)
end homeKeepsAt

theorem homeKeeps_card : Rows.HomeKeepsCardSaid :=
  Claim7.holds_tied_plain_at .later [] _ _ _ _ homeKeepsAt.said (fun _ h => by cases h) (by kernel_rfl) (fun _ h => by cases h) homeKeeps_row_tie rfl ⟨rfl, rfl⟩ (by kernel_rfl) rfl homeKeepsAt.plain (by kernel_rfl)

#print axioms homeKeeps_card
end Go.Proofs.YtafiigaiejpgiaaDoor
