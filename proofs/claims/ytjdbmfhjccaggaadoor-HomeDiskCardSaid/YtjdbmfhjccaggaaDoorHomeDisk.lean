/- The law HomeDisk, for all arguments, in every world in which the package-level tables hold what the program's text lays: it answers true, and what was there is as it was. No other condition. -/
import Derived.Test.YtjdbmfhjccaggaaDoorCards
import Derived.Test.YtjdbmfhjccaggaaDoorTie
import Derived.Test.YtjdbmfhjccaggaaDoorLHomeDisk
import Derived.Test.YtjdbmfhjccaggaaDoorHdY
import Derived.Test.YtjdbmfhjccaggaaDoorB10
import Derived.Test.YtjdbmfhjccaggaaDoorPrim2
import Derived.Test.YtjdbmfhjccaggaaDoorAgZ
import Derived.WalkKit
import Derived.ProofKit
import Derived.OpenShut
import Derived.Deep.DeepHandedRow
import Derived.Lib.LaidTab
import Derived.Stop.LaidErr
namespace Go.Proofs.YtjdbmfhjccaggaaDoor
open Go.ChangeShapes Go.WideShapes Go.ChangeAt Go.RowKit
set_option linter.unusedVariables false

namespace homeDiskAt
theorem own : ownKnob Tryd.prog.godebug = none := by kernel_rfl
theorem mixed : Tryd.prog.follows .mixedOrders = true := by kernel_rfl
theorem laidOut : laidOutB Tryd.prog = true := by kernel_rfl
theorem tabName0 : Tryd.prog.globalNamed "wicket/sum.halves" = some 1 := by kernel_rfl
theorem tabType0 : (Tryd.prog.globals[1]?).map (·.type) = some 122 := by kernel_rfl
theorem tabCells0 : Tryd.prog.cellsOf 122 = 16 := by kernel_rfl
theorem tabCell0 : Tryd.prog.cellsOf 91 = 1 := by kernel_rfl
theorem tabLt0 : 1 < Tryd.prog.globals.size := of_decide_eq_true (by kernel_rfl)
theorem tabName1 : Tryd.prog.globalNamed "wicket/super.widths" = some 0 := by kernel_rfl
theorem tabType1 : (Tryd.prog.globals[0]?).map (·.type) = some 102 := by kernel_rfl
theorem tabCells1 : Tryd.prog.cellsOf 102 = 10 := by kernel_rfl
theorem tabCell1 : Tryd.prog.cellsOf 3 = 1 := by kernel_rfl
theorem tabLt1 : 0 < Tryd.prog.globals.size := of_decide_eq_true (by kernel_rfl)

/-- What the row's list gives. -/
theorem tables {W : World} (h : laidMetH Tryd.prog Rows.homeDiskRow.laid W) : ∀ t ∈ tabsL, TabHolds Tryd.prog W t := by
  have h0 : laidMet Tryd.prog Rows.homeDiskRow.laid W := h
  have t0 : Lib.TabIs Tryd.prog W "wicket/sum.halves" tab0.k tab0.zs := Lib.tabIs_of_head (rest := [("wicket/super.widths", Rows.laid_wicket_super_widths)]) tabName0 tabType0 Tryd.underlying122 Tryd.underlying91 tabCell0 tabCells0 h0
  have h1 : laidMet Tryd.prog [("wicket/super.widths", Rows.laid_wicket_super_widths)] W := laidMet.tail h0
  have t1 : Lib.TabIs Tryd.prog W "wicket/super.widths" tab1.k tab1.zs := Lib.tabIs_of_head (rest := []) tabName1 tabType1 Tryd.underlying102 Tryd.underlying3 tabCell1 tabCells1 h1
  intro t ht
  simp only [tabsL, List.mem_cons, List.not_mem_nil, or_false] at ht
  rcases ht with rfl | rfl
  · exact tabHolds_of tabName0 tabLt0 t0
  · exact tabHolds_of tabName1 tabLt1 t1
theorem tabsLt : ∀ t ∈ tabsL, t.g < Tryd.prog.globals.size := by
  intro t ht
  simp only [tabsL, List.mem_cons, List.not_mem_nil, or_false] at ht
  rcases ht with rfl | rfl
  · exact tabLt0
  · exact tabLt1
/-- The worked example, closed. -/
theorem answers : isTrue (exec (tableOf Tryd.prog) 100000 (.fn 4) [] (heap1 Tryd.prog tabsL)) = true := by kernel_rfl
noncomputable def tab : Nat → Option AFun := tableY Tryd.prog [11] [(4, yesT tabsL)]
theorem tabOk : TOk Tryd.prog tab := tableY_ok _ _ _ fun x hx => by
  simp only [List.mem_cons, List.not_mem_nil, or_false] at hx
  rcases hx with rfl
  · exact ⟨by kernel_rfl, yesT_ok (tableOf_ok _) mixed tabsLt answers⟩
theorem t_w8_awake : PrimT_w8_awake tab := by unfold PrimT_w8_awake; kernel_rfl
theorem t_w8_small : tab k_w8_small = some ⟨List.map (·.1) rs_w8_small, C2.erase c2_w8_small, none⟩ := by kernel_rfl
theorem t_r8_Same : tab k_r8_Same = some ⟨List.map (·.1) rs_r8_Same, C2.erase c2_r8_Same, none⟩ := by kernel_rfl
theorem t_w8_apart : tab k_w8_apart = some ⟨List.map (·.1) rs_w8_apart, C2.erase c2_w8_apart, none⟩ := by kernel_rfl
theorem t_sector_Disk_Len : tab k_sector_Disk_Len = some ⟨List.map (·.1) rs_sector_Disk_Len, C2.erase c2_sector_Disk_Len, none⟩ := by kernel_rfl
theorem t_octet_Join : tab k_octet_Join = some ⟨List.map (·.1) rs_octet_Join, C2.erase c2_octet_Join, none⟩ := by kernel_rfl
theorem t_sector_Load : tab k_sector_Load = some ⟨List.map (·.1) rs_sector_Load, C2.erase c2_sector_Load, none⟩ := by kernel_rfl
theorem t_r8_May : tab k_r8_May = some ⟨List.map (·.1) rs_r8_May, C2.erase c2_r8_May, none⟩ := by kernel_rfl
theorem t_r4_Load : tab k_r4_Load = some ⟨List.map (·.1) rs_r4_Load, C2.erase c2_r4_Load, none⟩ := by kernel_rfl
theorem t_sector_Disk_Image : tab k_sector_Disk_Image = some ⟨List.map (·.1) rs_sector_Disk_Image, C2.erase c2_sector_Disk_Image, none⟩ := by kernel_rfl
theorem t_sector_Disk_Flush : tab k_sector_Disk_Flush = some ⟨List.map (·.1) rs_sector_Disk_Flush, C2.erase c2_sector_Disk_Flush, none⟩ := by kernel_rfl
theorem t_sector_Disk_Crash : tab k_sector_Disk_Crash = some ⟨List.map (·.1) rs_sector_Disk_Crash, C2.erase c2_sector_Disk_Crash, none⟩ := by kernel_rfl
theorem t_r4_Disk_Crash : tab k_r4_Disk_Crash = some ⟨List.map (·.1) rs_r4_Disk_Crash, C2.erase c2_r4_Disk_Crash, none⟩ := by kernel_rfl
theorem t_home_block : tab k_home_block = some ⟨List.map (·.1) rs_home_block, C2.erase c2_home_block, none⟩ := by kernel_rfl
theorem t_octet_Pad : tab k_octet_Pad = some ⟨List.map (·.1) rs_octet_Pad, C2.erase c2_octet_Pad, none⟩ := by kernel_rfl
theorem t_r8_number : tab k_r8_number = some ⟨List.map (·.1) rs_r8_number, C2.erase c2_r8_number, none⟩ := by kernel_rfl
theorem t_slices_Clone_byte_byte : tab k_slices_Clone_byte_byte = some ⟨List.map (·.1) rs_slices_Clone_byte_byte, C2.erase c2_slices_Clone_byte_byte, none⟩ := by kernel_rfl
theorem t_sector_Disk_asked : tab k_sector_Disk_asked = some ⟨List.map (·.1) rs_sector_Disk_asked, C2.erase c2_sector_Disk_asked, none⟩ := by kernel_rfl
theorem t_r4_Disk_Len : tab k_r4_Disk_Len = some ⟨List.map (·.1) rs_r4_Disk_Len, C2.erase c2_r4_Disk_Len, none⟩ := by kernel_rfl
theorem t_octet_may : tab k_octet_may = some ⟨List.map (·.1) rs_octet_may, C2.erase c2_octet_may, none⟩ := by kernel_rfl
theorem t_sum_push : tab k_sum_push = some ⟨List.map (·.1) rs_sum_push, C2.erase c2_sum_push, none⟩ := by kernel_rfl
theorem t_slices_Backward_sector_waiting_sector_waiting_1 : tab k_slices_Backward_sector_waiting_sector_waiting_1 = some ⟨[], C2.erase c2_slices_Backward_sector_waiting_sector_waiting_1, none⟩ := by kernel_rfl
theorem t_super_within : tab k_super_within = some ⟨List.map (·.1) rs_super_within, C2.erase c2_super_within, none⟩ := by kernel_rfl
theorem t_r2_Push : tab k_r2_Push = some ⟨List.map (·.1) rs_r2_Push, C2.erase c2_r2_Push, none⟩ := by kernel_rfl
theorem t_sector_Disk_Waiting : tab k_sector_Disk_Waiting = some ⟨List.map (·.1) rs_sector_Disk_Waiting, C2.erase c2_sector_Disk_Waiting, none⟩ := by kernel_rfl
theorem t_sector_Disk_Write : tab k_sector_Disk_Write = some ⟨List.map (·.1) rs_sector_Disk_Write, C2.erase c2_sector_Disk_Write, none⟩ := by kernel_rfl
theorem t_r4_Disk_Write : tab k_r4_Disk_Write = some ⟨List.map (·.1) rs_r4_Disk_Write, C2.erase c2_r4_Disk_Write, none⟩ := by kernel_rfl
theorem t_r4_Disk_Flush : tab k_r4_Disk_Flush = some ⟨List.map (·.1) rs_r4_Disk_Flush, C2.erase c2_r4_Disk_Flush, none⟩ := by kernel_rfl
theorem t_octet_Put : tab k_octet_Put = some ⟨List.map (·.1) rs_octet_Put, C2.erase c2_octet_Put, none⟩ := by kernel_rfl
theorem t_sum_Of : tab k_sum_Of = some ⟨List.map (·.1) rs_sum_Of, C2.erase c2_sum_Of, none⟩ := by kernel_rfl
theorem t_r8_fits : tab k_r8_fits = some ⟨List.map (·.1) rs_r8_fits, C2.erase c2_r8_fits, none⟩ := by kernel_rfl
theorem t_r4_Disk_Read : tab k_r4_Disk_Read = some ⟨List.map (·.1) rs_r4_Disk_Read, C2.erase c2_r4_Disk_Read, none⟩ := by kernel_rfl
theorem t_slices_Backward_sector_waiting_sector_waiting : tab k_slices_Backward_sector_waiting_sector_waiting = some ⟨List.map (·.1) rs_slices_Backward_sector_waiting_sector_waiting, C2.erase c2_slices_Backward_sector_waiting_sector_waiting, none⟩ := by kernel_rfl
theorem t_super_Config : tab k_super_Config = some ⟨List.map (·.1) rs_super_Config, C2.erase c2_super_Config, none⟩ := by kernel_rfl
theorem t_r2_Of : tab k_r2_Of = some ⟨List.map (·.1) rs_r2_Of, C2.erase c2_r2_Of, none⟩ := by kernel_rfl
theorem t_w8_desk_same : tab k_w8_desk_same = some ⟨List.map (·.1) rs_w8_desk_same, C2.erase c2_w8_desk_same, none⟩ := by kernel_rfl
theorem t_home_Encode : tab k_home_Encode = some ⟨List.map (·.1) rs_home_Encode, C2.erase c2_home_Encode, none⟩ := by kernel_rfl
theorem t_home_Decode : tab k_home_Decode = some ⟨List.map (·.1) rs_home_Decode, C2.erase c2_home_Decode, none⟩ := by kernel_rfl
theorem t_sector_Disk_Read : tab k_sector_Disk_Read = some ⟨List.map (·.1) rs_sector_Disk_Read, C2.erase c2_sector_Disk_Read, none⟩ := by kernel_rfl
theorem t_super_Check : tab k_super_Check = some ⟨List.map (·.1) rs_super_Check, C2.erase c2_super_Check, none⟩ := by kernel_rfl
theorem t_r8_Summed : tab k_r8_Summed = some ⟨List.map (·.1) rs_r8_Summed, C2.erase c2_r8_Summed, none⟩ := by kernel_rfl
theorem t_home_fits : tab k_home_fits = some ⟨List.map (·.1) rs_home_fits, C2.erase c2_home_fits, none⟩ := by kernel_rfl
theorem t_super_Encode : tab k_super_Encode = some ⟨List.map (·.1) rs_super_Encode, C2.erase c2_super_Encode, none⟩ := by kernel_rfl
theorem t_r8_Super : tab k_r8_Super = some ⟨List.map (·.1) rs_r8_Super, C2.erase c2_r8_Super, none⟩ := by kernel_rfl
theorem t_r8_Encode : tab k_r8_Encode = some ⟨List.map (·.1) rs_r8_Encode, C2.erase c2_r8_Encode, none⟩ := by kernel_rfl
theorem t_r8_Save : tab k_r8_Save = some ⟨List.map (·.1) rs_r8_Save, C2.erase c2_r8_Save, none⟩ := by kernel_rfl
theorem t_home_has : tab k_home_has = some ⟨List.map (·.1) rs_home_has, C2.erase c2_home_has, none⟩ := by kernel_rfl
theorem t_r8_Decode : tab k_r8_Decode = some ⟨List.map (·.1) rs_r8_Decode, C2.erase c2_r8_Decode, none⟩ := by kernel_rfl
theorem t_home_New : tab k_home_New = some ⟨List.map (·.1) rs_home_New, C2.erase c2_home_New, none⟩ := by kernel_rfl
theorem t_r8_New : tab k_r8_New = some ⟨List.map (·.1) rs_r8_New, C2.erase c2_r8_New, none⟩ := by kernel_rfl
theorem t_home_Save : tab k_home_Save = some ⟨List.map (·.1) rs_home_Save, C2.erase c2_home_Save, none⟩ := by kernel_rfl
theorem t_home_Load : tab k_home_Load = some ⟨List.map (·.1) rs_home_Load, C2.erase c2_home_Load, none⟩ := by kernel_rfl
theorem t_r8_Load : tab k_r8_Load = some ⟨List.map (·.1) rs_r8_Load, C2.erase c2_r8_Load, none⟩ := by kernel_rfl
theorem t_home_All : tab k_home_All = some ⟨List.map (·.1) rs_home_All, C2.erase c2_home_All, none⟩ := by kernel_rfl
theorem t_r8_All : tab k_r8_All = some ⟨List.map (·.1) rs_r8_All, C2.erase c2_r8_All, none⟩ := by kernel_rfl
theorem t_w8_desk_plays : tab k_w8_desk_plays = some ⟨List.map (·.1) rs_w8_desk_plays, C2.erase c2_w8_desk_plays, none⟩ := by kernel_rfl
theorem t_w8_HomeDisk : tab k_w8_HomeDisk = some ⟨List.map (·.1) rs_w8_HomeDisk, C2.erase c2_w8_HomeDisk, none⟩ := by kernel_rfl
theorem tk : LfT tab := ⟨t_w8_awake, t_w8_small, t_r8_Same, t_w8_apart, t_sector_Disk_Len, t_octet_Join, t_sector_Load, t_r8_May, t_r4_Load, t_sector_Disk_Image, t_sector_Disk_Flush, t_sector_Disk_Crash, t_r4_Disk_Crash, t_home_block, t_octet_Pad, t_r8_number, t_slices_Clone_byte_byte, t_sector_Disk_asked, t_r4_Disk_Len, t_octet_may, t_sum_push, t_slices_Backward_sector_waiting_sector_waiting_1, t_super_within, t_r2_Push, t_sector_Disk_Waiting, t_sector_Disk_Write, t_r4_Disk_Write, t_r4_Disk_Flush, t_octet_Put, t_sum_Of, t_r8_fits, t_r4_Disk_Read, t_slices_Backward_sector_waiting_sector_waiting, t_super_Config, t_r2_Of, t_w8_desk_same, t_home_Encode, t_home_Decode, t_sector_Disk_Read, t_super_Check, t_r8_Summed, t_home_fits, t_super_Encode, t_r8_Super, t_r8_Encode, t_r8_Save, t_home_has, t_r8_Decode, t_home_New, t_r8_New, t_home_Save, t_home_Load, t_r8_Load, t_home_All, t_r8_All, t_w8_desk_plays, t_w8_HomeDisk⟩

theorem shapeC : shOf Tryd.prog 10 23 = some (List.replicate 5 (.int .i64)) := by kernel_rfl
theorem shapeO : shOf Tryd.prog 10 24 = some [.sl (.int .i64 :: .int .i64 :: (List.replicate 32 (.int .u8) ++ (.sl [.int .u8] :: .sl [.int .i64] :: (List.replicate 5 (.int .i64) ++ [.bool]))))] := by kernel_rfl
theorem reach : reachBytes = 140737488351232 := rfl
theorem byt_of {L : List Int} (h : ∀ z ∈ L, (Lit.int .u8 z).wf = true) : Byt L := fun z hz => by
  have := h z hz
  simp [Lit.wf, IntKind.min, IntKind.max, IntKind.signed, IntKind.bits] at this; omega
theorem cf_of {L : List Int} (hl : L.length = 5) (h : ∀ z ∈ L, (Lit.int .i64 z).wf = true) : ∃ c : Cf, iz .i64 L = c.cells ∧ c.wf := by
  match L, hl with
  | [a, b, c, d, e], _ =>
    have h1 := h a (by simp)
    have h2 := h b (by simp)
    have h3 := h c (by simp)
    simp [Lit.wf, IntKind.min, IntKind.max, IntKind.signed, IntKind.bits] at h1 h2 h3
    exact ⟨⟨a, b, c, d, e⟩, rfl, ⟨by simp only; omega, by simp only; omega⟩, ⟨by simp only; omega, by simp only; omega⟩, ⟨by simp only; omega, by simp only; omega⟩⟩
theorem hsl_ints {M : Nat} {G : Ch} {k : IntKind} {ss : List Sh} : ∀ {n : Nat} {cs : List Value}, HsL M G (List.replicate n (.int k) ++ ss) cs → ∃ (L : List Int) (rest : List Value), cs = iz k L ++ rest ∧ L.length = n ∧ (∀ z ∈ L, (Lit.int k z).wf = true) ∧ HsL M G ss rest := by
  intro n
  induction n with
  | zero => intro cs h; exact ⟨[], cs, rfl, rfl, fun _ h => absurd h List.not_mem_nil, h⟩
  | succ n ih =>
    intro cs h
    rw [List.replicate_succ, List.cons_append, HsL] at h
    obtain ⟨v, rest, rfl, hv, h⟩ := h
    rw [Hs] at hv
    obtain ⟨z, rfl, hz⟩ := hv
    obtain ⟨L, r, rfl, h1, h2, h3⟩ := ih h
    exact ⟨z :: L, r, rfl, by simp [h1], fun y hy => (List.mem_cons.1 hy).elim (fun e => e ▸ hz) (h2 y), h3⟩
theorem lst_form {u : Value} {n : Nat} (h : Lst u n) : ∃ a k c, u = .slice a k c := by
  rcases h with ⟨rfl, _⟩ | ⟨b, rfl⟩ <;> exact ⟨_, _, _, rfl⟩
/-- The script, as it is handed in. -/
theorem steps {u : Value} {G : Ch} (h : Hs reachBytes G (.sl (.int .i64 :: .int .i64 :: (List.replicate 32 (.int .u8) ++ (.sl [.int .u8] :: .sl [.int .i64] :: (List.replicate 5 (.int .i64) ++ [.bool]))))) u) : ∃ S : List DOp, Sow 42 u S.length (S.flatMap DOp.cells) G ∧ ∀ o ∈ S, ∃ R K, o.ok R K G ∧ K.length * 8 ≤ reachBytes := by
  rw [Hs] at h
  obtain ⟨chunks, h1, h2, h3, h4⟩ := h
  have hS : ∃ S : List DOp, chunks = S.map DOp.cells ∧ ∀ o ∈ S, ∃ R K, o.ok R K G ∧ K.length * 8 ≤ reachBytes := by
    clear h1 h2 h3
    induction chunks with
    | nil => exact ⟨[], rfl, fun _ h => absurd h List.not_mem_nil⟩
    | cons c cs ih =>
      obtain ⟨S, rfl, hD⟩ := ih fun c hc => h4 c (List.mem_cons_of_mem _ hc)
      have hc := h4 c (List.mem_cons_self ..)
      rw [HsL] at hc
      obtain ⟨v0, r0, rfl, w0, hc⟩ := hc
      rw [HsL] at hc
      obtain ⟨v1, r1, rfl, w1, hc⟩ := hc
      rw [Hs] at w0 w1
      obtain ⟨z0, rfl, _⟩ := w0
      obtain ⟨z1, rfl, _⟩ := w1
      obtain ⟨V, r2, rfl, hV, wV, hc⟩ := hsl_ints hc
      rw [HsL] at hc
      obtain ⟨v3, r3, rfl, w3, hc⟩ := hc
      rw [HsL] at hc
      obtain ⟨v4, r4, rfl, w4, hc⟩ := hc
      obtain ⟨C, r5, rfl, hC, wC, hc⟩ := hsl_ints hc
      rw [HsL] at hc
      obtain ⟨v6, r6, rfl, w6, hc⟩ := hc
      rw [HsL] at hc
      subst hc
      rw [Hs] at w6
      obtain ⟨b, rfl⟩ := w6
      obtain ⟨R, d1, d2, d3, d4⟩ := w3.ints
      obtain ⟨K, k1, k2, k3, _⟩ := w4.ints
      obtain ⟨c, hc, cw⟩ := cf_of hC wC
      have k4 : K.length * 8 ≤ reachBytes := k3
      rw [hc]
      refine ⟨⟨z0, z1, V, v3, v4, c, b⟩ :: S, rfl, fun o hm => ?_⟩
      rcases List.mem_cons.1 hm with rfl | hm
      · exact ⟨R, K, ⟨hV, byt_of wV, d1, lst_form d2, byt_of d4, k1, lst_form k2, cw⟩, k4⟩
      · exact hD o hm
  obtain ⟨S, rfl, hD⟩ := hS
  refine ⟨S, ?_, hD⟩
  rw [List.length_map] at h1
  exact h1

set_option maxRecDepth 100000 in
theorem contract (H : Type) (enc : TypeId × Value → H) (W : World) (base : Nat) (args : Array Value) (ds gs : List (DataW H)) (before : List MemPlace)
    (hval : ∀ (j : Nat) t v, Tryd.f3.params[j]? = some t → args[j]? = some v → Value.okWide Tryd.prog W .any base t v)
    (hW : DataW.Whole enc Tryd.prog Tryd.f3.params.toList Rows.homeDiskSpec.vars false W args.toList ds gs before) (hL : laidMetH Tryd.prog Rows.homeDiskRow.laid W)
    (hsz : (DataW.weightsEach Tryd.prog (Tryd.f3.params.toList ++ Rows.homeDiskSpec.plain.varTypes Tryd.prog) (ds ++ gs)).all (· ≤ reachBytes) = true) :
    Calls Tryd.prog 3 args W fun e W' => ∃ v, e = .returned v ∧ Rows.homeDiskSpec.post enc Tryd.prog Tryd.f3 false true false false W args v W' := by
  have hW' := hW
  obtain ⟨p, q, hA0, hV, rfl, hfz, hnd⟩ := hW
  have hA : DataW.TrodAll enc Tryd.prog W 0 (fun _ => true) true Tryd.f3.params.toList args.toList ds p := hA0
  rw [Tryd.params3] at hA hval
  obtain ⟨v0, vs0, d0, ds0, p0, q0, hargs0, rfl, rfl, h0, r0⟩ := trodAll_cons hA
  obtain ⟨v1, vs1, d1, ds1, p1, q1, hargs1, rfl, rfl, h1, r1⟩ := trodAll_cons r0
  obtain ⟨hnil, rfl, rfl⟩ := trodAll_nil r1
  obtain rfl : args = #[v0, v1] := Array.ext' (by rw [hargs0, hargs1, hnil])
  subst hnil
  clear hA0
  have hA1 := args1 Tryd.prog W tabsL (tables hL)
  have hgd0 : goodZ Tryd.prog 23 d0 := (fun m hm => of_decide_eq_true (List.all_eq_true.1 hsz m (DataW.weights_mem_each (j := 0) (t := 23) (d := d0) (by rw [Tryd.params3]; rfl) rfl m hm)))
  have hgd1 : goodZ Tryd.prog 24 d1 := (fun m hm => of_decide_eq_true (List.all_eq_true.1 hsz m (DataW.weights_mem_each (j := 1) (t := 24) (d := d1) (by rw [Tryd.params3]; rfl) rfl m hm)))
  obtain ⟨C, rfl, hC, wC⟩ := str_arg Bk.sized Tryd.underlying23 shapeC ⟨_, hval 0 23 v0 rfl rfl⟩ h0 hgd0
  obtain ⟨ι1, H1, a1, g1, g2, g3, g4, g5⟩ := hA1.deep Bk.sized Tryd.underlying24 shapeO ⟨_, hval 1 24 v1 rfl rfl⟩ h1 hgd1
  obtain ⟨c, hc, cw⟩ := cf_of hC wC
  obtain ⟨Ga, m1, m2⟩ := hs_of g1.wf _ _ g4
  have t0 : H1.get 1 = some (.cells tab0.cells true 0) := g3.keep _ _ (by simp [heap1, heapT, Heap.get_put, tabsL, tab0, tab1]) List.not_mem_nil
  have t1 : H1.get 0 = some (.cells tab1.cells true 0) := g3.keep _ _ (by simp [heap1, heapT, Heap.get_put, tabsL, tab0, tab1]) List.not_mem_nil
  obtain ⟨G, hown, hG⟩ := own_of g1.wf (G := tabO :: tabP :: Ga) fun x hx => by
    rcases List.mem_cons.1 hx with rfl | hx
    · exact t0
    · rcases List.mem_cons.1 hx with rfl | hx
      · exact t1
      · exact m1 x hx
  obtain ⟨S, s1, s2⟩ := steps m2
  obtain ⟨n, hn1⟩ : ∃ n, 140737488955328 ≤ n := ⟨_, Nat.le_refl _⟩
  -- what the steps read, and the tables: some of it is theirs, all of it is here
  obtain ⟨H', he⟩ := homeDisk_ok (n := n) (F := []) (c := c) tk cw (s1.mono fun x hx => hG x (List.mem_cons_of_mem _ (List.mem_cons_of_mem _ hx))) (fun o ho => by
    obtain ⟨R, K, k1, k2⟩ := s2 o ho
    rw [reach] at k2
    exact ⟨R, K, k1.mono fun x hx => hG x (List.mem_cons_of_mem _ (List.mem_cons_of_mem _ hx)), by omega, by omega⟩) (hG _ (List.mem_cons_self ..)) (hG _ (List.mem_cons_of_mem _ (List.mem_cons_self ..))) (by rw [List.append_nil]; exact hown) (by omega)
  rw [← hc] at he
  obtain ⟨mm, HH, he2⟩ := law_exec (ps := ps_w8_HomeDisk) (rs := rs_w8_HomeDisk) (ok_w8_HomeDisk tk n) (a := (.agg ⟨iz .i64 C⟩, a1, ())) he
  refine (g1.calls tabOk mixed (args := [.agg ⟨iz .i64 C⟩, a1]) (args' := [.agg ⟨iz .i64 C⟩, v1]) (.cons (.val (.agg all2_iz)) (.cons (.atom g5) .nil)) he2).mono fun e W' h => ?_
  obtain ⟨rfl, hk⟩ := h
  refine ⟨_, rfl, args_post (ty := 4) laidOut hW' rfl (by kernel_rfl) Tryd.underlying4 rfl ?_ hk⟩
  rw [Tryd.params3]
  intro t ht
  simp only [List.mem_cons, List.not_mem_nil, or_false] at ht
  rcases ht with rfl | rfl
  · exact ⟨by kernel_rfl, of_decide_eq_true (by kernel_rfl)⟩
  · exact ⟨by kernel_rfl, of_decide_eq_true (by kernel_rfl)⟩

/-- A world for the witness: the settled one, the tables holding what their initialisers lay. -/
noncomputable def laidWorld (os : Os) : World :=
  { World.holding Tryd.prog os ⟨#[], #[], []⟩ with heap := setTab tab1 (setTab tab0 ((World.holding Tryd.prog os ⟨#[], #[], []⟩).heap)) }
theorem laid_met (os : Os) : laidMet Tryd.prog Rows.homeDiskRow.laid ((laidWorld os).forCall (fun _ _ => 0) ⟨#[], #[.agg #[.int .i64 0, .int .i64 0, .int .i64 0, .int .i64 0, .int .i64 0], .slice none 0 0], []⟩).memory :=
  laidMet_of_run' 8 (by kernel_rfl) (by kernel_rfl)
theorem reads (os : Os) {H : Type} (enc : TypeId × Value → H) : ∃ places, DataW.whole enc Tryd.prog ((laidWorld os).forCall (fun _ _ => 0) ⟨#[], #[.agg #[.int .i64 0, .int .i64 0, .int .i64 0, .int .i64 0, .int .i64 0], .slice none 0 0], []⟩).memory Tryd.f3.params.toList Rows.homeDiskSpec.vars false (#[.agg #[.int .i64 0, .int .i64 0, .int .i64 0, .int .i64 0, .int .i64 0], .slice none 0 0] : Array Value).toList 8 = some ([.agg [.lit (.int .i64 0), .lit (.int .i64 0), .lit (.int .i64 0), .lit (.int .i64 0), .lit (.int .i64 0)], .nil], [], places) :=
  ⟨[], by kernel_rfl⟩

set_option maxRecDepth 100000 in
theorem lifted (os : Os) (started : os.Started) (H : Type) (enc : TypeId × Value → H) (F : Stop.Interp) :
    ReturnsInHanded {} Tryd.checked os 3 .any ((OpenSpec.ofChange Rows.homeDiskSpec).preRow enc Tryd.prog Tryd.f3 Rows.homeDiskRow.domain false Rows.homeDiskRow.laid) (((OpenSpec.ofChange Rows.homeDiskSpec).at F).post enc Tryd.prog Tryd.f3 false true false false) := by
  obtain ⟨places, hx⟩ := reads os enc
  refine returnsInHanded_of_row (C := Tryd.checked) (s := OpenSpec.ofChange Rows.homeDiskSpec) own started (by kernel_rfl) Tryd.func3
    (witness_row_at (enc := enc) (C := Tryd.checked) false (laidWorld os) #[.agg #[.int .i64 0, .int .i64 0, .int .i64 0, .int .i64 0, .int .i64 0], .slice none 0 0] rfl (by kernel_rfl) (by kernel_rfl) (by kernel_rfl)
      (OpenSpec.preRow_of_cond 8 hx (by kernel_rfl) (fun k hk => by cases hk) (by kernel_rfl) (laid_met os))) ?_
  intro W base args ds gs before hval hW _ _ hsz hL _ _
  exact contract H enc W base args ds gs before hval hW hL hsz

theorem said : Rows.HomeDiskSaid :=
  OpenClaim.holds_of_cond 3 Tryd.f3 rfl rfl rfl rfl rfl rfl rfl ⟨rfl, rfl, rfl, rfl, rfl⟩ rfl rfl rfl rfl rfl (by kernel_rfl) Tryd.func3 (by kernel_rfl)
    (of_decide_eq_true (by kernel_rfl)) (by unfold Func.isWrapper; first | (rw [if_pos (by decide +kernel)]; kernel_rfl) | (rw [if_neg (by decide +kernel)]; exact ⟨rfl, rfl⟩))
    (fun os started H enc _ F => by rw [OpenClaim.pre_eq_preRow]; exact lifted os started H enc F)

theorem plain (f : FuncId) (fn : Func) (hf : Tryd.pinned.checked.prog.funcNamed "wicket/wicketlaw08.HomeDisk" = some f) (hfn : Tryd.pinned.checked.prog.funcs[f]? = some fn) :
    false = Tryd.pinned.checked.prog.looks [] ∧ ∀ (j : Nat) t, fn.params[j]? = some t → Tryd.pinned.checked.prog.wantsStandIn t = false := by
  obtain rfl : f = 3 := Option.some.inj ((show Tryd.prog.funcNamed "wicket/wicketlaw08.HomeDisk" = some 3 by kernel_rfl).symm.trans hf) |>.symm
  obtain rfl : fn = Tryd.f3 := (Option.some.inj (Tryd.func3.symm.trans hfn)).symm
  refine ⟨by kernel_rfl, fun j t ht => ?_⟩
  have hm : t ∈ (Tryd.f3.params.toList) := Array.mem_toList_iff.2 (Array.mem_of_getElem? ht)
  rw [Tryd.params3] at hm
  simp only [List.mem_cons, List.not_mem_nil, or_false] at hm
  rcases hm with rfl | rfl
  · exact (show Tryd.prog.wantsStandIn 23 = false by kernel_rfl)
  · exact (show Tryd.prog.wantsStandIn 24 = false by kernel_rfl)
end homeDiskAt

theorem homeDisk_card : Rows.HomeDiskCardSaid :=
  Claim7.holds_tied_plain_at .later [] _ _ _ _ homeDiskAt.said (fun _ h => by cases h) (by kernel_rfl) (fun _ h => by cases h) homeDisk_row_tie rfl ⟨rfl, rfl⟩ (by kernel_rfl) rfl homeDiskAt.plain (by kernel_rfl)

#print axioms homeDisk_card
end Go.Proofs.YtjdbmfhjccaggaaDoor
