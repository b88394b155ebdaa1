/- The law ScanFinds, for all arguments, in every world in which the package-level tables hold what the program's text lays: it answers true, and what was there is as it was. No other condition. -/
import Derived.Test.YtdlfdieehioolaaDoorCards
import Derived.Test.YtdlfdieehioolaaDoorTie
import Derived.Test.YtdlfdieehioolaaDoorLScanFinds
import Derived.Test.YtdlfdieehioolaaDoorScMB
import Derived.Test.YtdlfdieehioolaaDoorB10
import Derived.Test.YtdlfdieehioolaaDoorPrim2
import Derived.Test.YtdlfdieehioolaaDoorAgZ
import Derived.WalkKit
import Derived.ProofKit
import Derived.OpenShut
import Derived.Deep.DeepHandedRow
import Derived.Lib.LaidTab
import Derived.Stop.LaidErr
namespace Go.Proofs.YtdlfdieehioolaaDoor
open Go.ChangeShapes Go.WideShapes Go.ChangeAt Go.RowKit
set_option linter.unusedVariables false

namespace scanFindsAt
theorem own : ownKnob Tryd.prog.godebug = none := by kernel_rfl
theorem mixed : Tryd.prog.follows .mixedOrders = true := by kernel_rfl
theorem laidOut : laidOutB Tryd.prog = true := by kernel_rfl
theorem tabName0 : Tryd.prog.globalNamed "wicket/sum.halves" = some 1 := by kernel_rfl
theorem tabType0 : (Tryd.prog.globals[1]?).map (·.type) = some 152 := by kernel_rfl
theorem tabCells0 : Tryd.prog.cellsOf 152 = 16 := by kernel_rfl
theorem tabCell0 : Tryd.prog.cellsOf 116 = 1 := by kernel_rfl
theorem tabLt0 : 1 < Tryd.prog.globals.size := of_decide_eq_true (by kernel_rfl)
theorem tabName1 : Tryd.prog.globalNamed "wicket/super.widths" = some 0 := by kernel_rfl
theorem tabType1 : (Tryd.prog.globals[0]?).map (·.type) = some 114 := by kernel_rfl
theorem tabCells1 : Tryd.prog.cellsOf 114 = 10 := by kernel_rfl
theorem tabCell1 : Tryd.prog.cellsOf 3 = 1 := by kernel_rfl
theorem tabLt1 : 0 < Tryd.prog.globals.size := of_decide_eq_true (by kernel_rfl)

/-- What the row's list gives. -/
theorem tables {W : World} (h : laidMetH Tryd.prog Rows.scanFindsRow.laid W) : ∀ t ∈ tabsL, TabHolds Tryd.prog W t := by
  have h0 : laidMet Tryd.prog Rows.scanFindsRow.laid W := h
  have t0 : Lib.TabIs Tryd.prog W "wicket/sum.halves" tab0.k tab0.zs := Lib.tabIs_of_head (rest := [("wicket/super.widths", Rows.laid_wicket_super_widths)]) tabName0 tabType0 Tryd.underlying152 Tryd.underlying116 tabCell0 tabCells0 h0
  have h1 : laidMet Tryd.prog [("wicket/super.widths", Rows.laid_wicket_super_widths)] W := laidMet.tail h0
  have t1 : Lib.TabIs Tryd.prog W "wicket/super.widths" tab1.k tab1.zs := Lib.tabIs_of_head (rest := []) tabName1 tabType1 Tryd.underlying114 Tryd.underlying3 tabCell1 tabCells1 h1
  intro t ht
  simp only [tabsL, List.mem_cons, List.not_mem_nil, or_false] at ht
  rcases ht with rfl | rfl
  · exact tabHolds_of tabName0 tabLt0 t0
  · exact tabHolds_of tabName1 tabLt1 t1
theorem tabsLt : ∀ t ∈ tabsL, t.g < Tryd.prog.globals.size := by
  intro t ht
  simp only [tabsL, List.mem_cons, List.not_mem_nil, or_false] at ht
  rcases ht with rfl | rfl
  · exact tabLt0
  · exact tabLt1
/-- The worked example, closed. -/
theorem answers : isTrue (exec (tableOf Tryd.prog) 100000 (.fn 4) [] (heap1 Tryd.prog tabsL)) = true := by kernel_rfl
noncomputable def tab : Nat → Option AFun := tableX Tryd.prog [(4, yesT tabsL)]
theorem tabOk : TOk Tryd.prog tab := tableX_ok _ _ fun x hx => by
  simp only [List.mem_cons, List.not_mem_nil, or_false] at hx
  rcases hx with rfl
  · exact ⟨by kernel_rfl, yesT_ok (tableOf_ok _) mixed tabsLt answers⟩
theorem t_w10_awake : PrimT_w10_awake tab := by unfold PrimT_w10_awake; kernel_rfl
theorem t_w10_num : tab k_w10_num = some ⟨List.map (·.1) rs_w10_num, C2.erase c2_w10_num, none⟩ := by kernel_rfl
theorem t_w10_plain : tab k_w10_plain = some ⟨List.map (·.1) rs_w10_plain, C2.erase c2_w10_plain, none⟩ := by kernel_rfl
theorem t_w10_small : tab k_w10_small = some ⟨List.map (·.1) rs_w10_small, C2.erase c2_w10_small, none⟩ := by kernel_rfl
theorem t_wal_Log_none : tab k_wal_Log_none = some ⟨List.map (·.1) rs_wal_Log_none, C2.erase c2_wal_Log_none, none⟩ := by kernel_rfl
theorem t_sector_Disk_Flush : tab k_sector_Disk_Flush = some ⟨List.map (·.1) rs_sector_Disk_Flush, C2.erase c2_sector_Disk_Flush, none⟩ := by kernel_rfl
theorem t_w10_config_1 : tab k_w10_config_1 = some ⟨List.map (·.1) rs_w10_config_1, C2.erase c2_w10_config_1, none⟩ := by kernel_rfl
theorem t_r10_SameImages : tab k_r10_SameImages = some ⟨List.map (·.1) rs_r10_SameImages, C2.erase c2_r10_SameImages, none⟩ := by kernel_rfl
theorem t_octet_Join : tab k_octet_Join = some ⟨List.map (·.1) rs_octet_Join, C2.erase c2_octet_Join, none⟩ := by kernel_rfl
theorem t_sector_Load : tab k_sector_Load = some ⟨List.map (·.1) rs_sector_Load, C2.erase c2_sector_Load, none⟩ := by kernel_rfl
theorem t_sector_Disk_Len : tab k_sector_Disk_Len = some ⟨List.map (·.1) rs_sector_Disk_Len, C2.erase c2_sector_Disk_Len, none⟩ := by kernel_rfl
theorem t_wal_Log_End : tab k_wal_Log_End = some ⟨List.map (·.1) rs_wal_Log_End, C2.erase c2_wal_Log_End, none⟩ := by kernel_rfl
theorem t_wal_Log_Tail : tab k_wal_Log_Tail = some ⟨List.map (·.1) rs_wal_Log_Tail, C2.erase c2_wal_Log_Tail, none⟩ := by kernel_rfl
theorem t_ring_Span_1 : tab k_ring_Span_1 = some ⟨[], C2.erase c2_ring_Span_1, none⟩ := by kernel_rfl
theorem t_octet_Pad : tab k_octet_Pad = some ⟨List.map (·.1) rs_octet_Pad, C2.erase c2_octet_Pad, none⟩ := by kernel_rfl
theorem t_home_block : tab k_home_block = some ⟨List.map (·.1) rs_home_block, C2.erase c2_home_block, none⟩ := by kernel_rfl
theorem t_super_within : tab k_super_within = some ⟨List.map (·.1) rs_super_within, C2.erase c2_super_within, none⟩ := by kernel_rfl
theorem t_sector_Disk_asked : tab k_sector_Disk_asked = some ⟨List.map (·.1) rs_sector_Disk_asked, C2.erase c2_sector_Disk_asked, none⟩ := by kernel_rfl
theorem t_slices_Clone_byte_byte : tab k_slices_Clone_byte_byte = some ⟨List.map (·.1) rs_slices_Clone_byte_byte, C2.erase c2_slices_Clone_byte_byte, none⟩ := by kernel_rfl
theorem t_super_sizes : tab k_super_sizes = some ⟨List.map (·.1) rs_super_sizes, C2.erase c2_super_sizes, none⟩ := by kernel_rfl
theorem t_bytes_Equal : tab k_bytes_Equal = some ⟨List.map (·.1) rs_bytes_Equal, C2.erase c2_bytes_Equal, none⟩ := by kernel_rfl
theorem t_ring_round : tab k_ring_round = some ⟨List.map (·.1) rs_ring_round, C2.erase c2_ring_round, none⟩ := by kernel_rfl
theorem t_record_Check : tab k_record_Check = some ⟨List.map (·.1) rs_record_Check, C2.erase c2_record_Check, none⟩ := by kernel_rfl
theorem t_octet_may : tab k_octet_may = some ⟨List.map (·.1) rs_octet_may, C2.erase c2_octet_may, none⟩ := by kernel_rfl
theorem t_sum_push : tab k_sum_push = some ⟨List.map (·.1) rs_sum_push, C2.erase c2_sum_push, none⟩ := by kernel_rfl
theorem t_slices_Backward_sector_waiting_sector_waiting_1 : tab k_slices_Backward_sector_waiting_sector_waiting_1 = some ⟨[], C2.erase c2_slices_Backward_sector_waiting_sector_waiting_1, none⟩ := by kernel_rfl
theorem t_octet_number : tab k_octet_number = some ⟨List.map (·.1) rs_octet_number, C2.erase c2_octet_number, none⟩ := by kernel_rfl
theorem t_wal_Log_Flush : tab k_wal_Log_Flush = some ⟨List.map (·.1) rs_wal_Log_Flush, C2.erase c2_wal_Log_Flush, none⟩ := by kernel_rfl
theorem t_w10_config : tab k_w10_config = some ⟨List.map (·.1) rs_w10_config, C2.erase c2_w10_config, none⟩ := by kernel_rfl
theorem t_r10_Same : tab k_r10_Same = some ⟨List.map (·.1) rs_r10_Same, C2.erase c2_r10_Same, none⟩ := by kernel_rfl
theorem t_wal_Log_Used : tab k_wal_Log_Used = some ⟨List.map (·.1) rs_wal_Log_Used, C2.erase c2_wal_Log_Used, none⟩ := by kernel_rfl
theorem t_ring_Span : tab k_ring_Span = some ⟨List.map (·.1) rs_ring_Span, C2.erase c2_ring_Span, none⟩ := by kernel_rfl
theorem t_super_Config : tab k_super_Config = some ⟨List.map (·.1) rs_super_Config, C2.erase c2_super_Config, none⟩ := by kernel_rfl
theorem t_wal_Log_room : tab k_wal_Log_room = some ⟨List.map (·.1) rs_wal_Log_room, C2.erase c2_wal_Log_room, none⟩ := by kernel_rfl
theorem t_ring_Slot : tab k_ring_Slot = some ⟨List.map (·.1) rs_ring_Slot, C2.erase c2_ring_Slot, none⟩ := by kernel_rfl
theorem t_super_Check : tab k_super_Check = some ⟨List.map (·.1) rs_super_Check, C2.erase c2_super_Check, none⟩ := by kernel_rfl
theorem t_octet_Put : tab k_octet_Put = some ⟨List.map (·.1) rs_octet_Put, C2.erase c2_octet_Put, none⟩ := by kernel_rfl
theorem t_sum_Of : tab k_sum_Of = some ⟨List.map (·.1) rs_sum_Of, C2.erase c2_sum_Of, none⟩ := by kernel_rfl
theorem t_wal_Log_sectorOf : tab k_wal_Log_sectorOf = some ⟨List.map (·.1) rs_wal_Log_sectorOf, C2.erase c2_wal_Log_sectorOf, none⟩ := by kernel_rfl
theorem t_sector_Disk_Write : tab k_sector_Disk_Write = some ⟨List.map (·.1) rs_sector_Disk_Write, C2.erase c2_sector_Disk_Write, none⟩ := by kernel_rfl
theorem t_slices_Backward_sector_waiting_sector_waiting : tab k_slices_Backward_sector_waiting_sector_waiting = some ⟨List.map (·.1) rs_slices_Backward_sector_waiting_sector_waiting, C2.erase c2_slices_Backward_sector_waiting_sector_waiting, none⟩ := by kernel_rfl
theorem t_octet_Fields : tab k_octet_Fields = some ⟨List.map (·.1) rs_octet_Fields, C2.erase c2_octet_Fields, none⟩ := by kernel_rfl
theorem t_record_number : tab k_record_number = some ⟨List.map (·.1) rs_record_number, C2.erase c2_record_number, none⟩ := by kernel_rfl
theorem t_wal_Open : tab k_wal_Open = some ⟨List.map (·.1) rs_wal_Open, C2.erase c2_wal_Open, none⟩ := by kernel_rfl
theorem t_super_Encode : tab k_super_Encode = some ⟨List.map (·.1) rs_super_Encode, C2.erase c2_super_Encode, none⟩ := by kernel_rfl
theorem t_home_Encode : tab k_home_Encode = some ⟨List.map (·.1) rs_home_Encode, C2.erase c2_home_Encode, none⟩ := by kernel_rfl
theorem t_sector_Disk_Read : tab k_sector_Disk_Read = some ⟨List.map (·.1) rs_sector_Disk_Read, C2.erase c2_sector_Disk_Read, none⟩ := by kernel_rfl
theorem t_super_Decode : tab k_super_Decode = some ⟨List.map (·.1) rs_super_Decode, C2.erase c2_super_Decode, none⟩ := by kernel_rfl
theorem t_record_laid : tab k_record_laid = some ⟨List.map (·.1) rs_record_laid, C2.erase c2_record_laid, none⟩ := by kernel_rfl
theorem t_home_New : tab k_home_New = some ⟨List.map (·.1) rs_home_New, C2.erase c2_home_New, none⟩ := by kernel_rfl
theorem t_scan_begin : tab k_scan_begin = some ⟨List.map (·.1) rs_scan_begin, C2.erase c2_scan_begin, none⟩ := by kernel_rfl
theorem t_record_Decode : tab k_record_Decode = some ⟨List.map (·.1) rs_record_Decode, C2.erase c2_record_Decode, none⟩ := by kernel_rfl
theorem t_record_Encode : tab k_record_Encode = some ⟨List.map (·.1) rs_record_Encode, C2.erase c2_record_Encode, none⟩ := by kernel_rfl
theorem t_scan_stands : tab k_scan_stands = some ⟨List.map (·.1) rs_scan_stands, C2.erase c2_scan_stands, none⟩ := by kernel_rfl
theorem t_wal_Log_write : tab k_wal_Log_write = some ⟨List.map (·.1) rs_wal_Log_write, C2.erase c2_wal_Log_write, none⟩ := by kernel_rfl
theorem t_scan_Read : tab k_scan_Read = some ⟨List.map (·.1) rs_scan_Read, C2.erase c2_scan_Read, none⟩ := by kernel_rfl
theorem t_wal_Log_Image : tab k_wal_Log_Image = some ⟨List.map (·.1) rs_wal_Log_Image, C2.erase c2_wal_Log_Image, none⟩ := by kernel_rfl
theorem t_wal_Log_Commit : tab k_wal_Log_Commit = some ⟨List.map (·.1) rs_wal_Log_Commit, C2.erase c2_wal_Log_Commit, none⟩ := by kernel_rfl
theorem t_w10_told : tab k_w10_told = some ⟨List.map (·.1) rs_w10_told, C2.erase c2_w10_told, none⟩ := by kernel_rfl
theorem t_w10_ScanFinds : tab k_w10_ScanFinds = some ⟨List.map (·.1) rs_w10_ScanFinds, C2.erase c2_w10_ScanFinds, none⟩ := by kernel_rfl
theorem tk : LfT tab := ⟨t_w10_awake, t_w10_num, t_w10_plain, t_w10_small, t_wal_Log_none, t_sector_Disk_Flush, t_w10_config_1, t_r10_SameImages, t_octet_Join, t_sector_Load, t_sector_Disk_Len, t_wal_Log_End, t_wal_Log_Tail, t_ring_Span_1, t_octet_Pad, t_home_block, t_super_within, t_sector_Disk_asked, t_slices_Clone_byte_byte, t_super_sizes, t_bytes_Equal, t_ring_round, t_record_Check, t_octet_may, t_sum_push, t_slices_Backward_sector_waiting_sector_waiting_1, t_octet_number, t_wal_Log_Flush, t_w10_config, t_r10_Same, t_wal_Log_Used, t_ring_Span, t_super_Config, t_wal_Log_room, t_ring_Slot, t_super_Check, t_octet_Put, t_sum_Of, t_wal_Log_sectorOf, t_sector_Disk_Write, t_slices_Backward_sector_waiting_sector_waiting, t_octet_Fields, t_record_number, t_wal_Open, t_super_Encode, t_home_Encode, t_sector_Disk_Read, t_super_Decode, t_record_laid, t_home_New, t_scan_begin, t_record_Decode, t_record_Encode, t_scan_stands, t_wal_Log_write, t_scan_Read, t_wal_Log_Image, t_wal_Log_Commit, t_w10_told, t_w10_ScanFinds⟩

theorem shapeS : shOf Tryd.prog 10 27 = some (List.replicate 5 (.int .i64) ++ [.sl [.int .u16], .int .u8, .bool, .sl [.int .u8]]) := by kernel_rfl
theorem reach : reachBytes = 140737488351232 := rfl
theorem cf_of {L : List Int} (hl : L.length = 5) : ∃ c : Cf, iz .i64 L = c.cells := by
  match L, hl with
  | [a, b, c, d, e], _ => exact ⟨⟨a, b, c, d, e⟩, rfl⟩
theorem hsl_ints {M : Nat} {G : Ch} {k : IntKind} {ss : List Sh} : ∀ {n : Nat} {cs : List Value}, HsL M G (List.replicate n (.int k) ++ ss) cs → ∃ (L : List Int) (rest : List Value), cs = iz k L ++ rest ∧ L.length = n ∧ HsL M G ss rest := by
  intro n
  induction n with
  | zero => intro cs h; exact ⟨[], cs, rfl, rfl, h⟩
  | succ n ih =>
    intro cs h
    rw [List.replicate_succ, List.cons_append, HsL] at h
    obtain ⟨v, rest, rfl, hv, h⟩ := h
    rw [Hs] at hv
    obtain ⟨z, rfl, hz⟩ := hv
    obtain ⟨L, r, rfl, h1, h3⟩ := ih h
    exact ⟨z :: L, r, rfl, by simp [h1], h3⟩
theorem lst_cell {u : Value} {n : Nat} (h : Lst u n) : isCell u = true := by
  rcases h with ⟨rfl, _⟩ | ⟨b, rfl⟩ <;> rfl
/-- The story, as it is handed in. -/
theorem story {G : Ch} {cs : List Value} (h : HsL reachBytes G (List.replicate 5 (.int .i64) ++ [.sl [.int .u16], .int .u8, .bool, .sl [.int .u8]]) cs) : ∃ (c : Cf) (sets : Value) (sd : Int) (op : Bool) (lat : Value) (S : List Int), cs = sto c sets sd op lat ∧ Sow 1 sets S.length (iz .u16 S) G ∧ S.length ≤ reachBytes ∧ isCell sets = true ∧ isCell lat = true := by
  obtain ⟨L, r, rfl, hL, h⟩ := hsl_ints h
  obtain ⟨c, hc⟩ := cf_of hL
  rw [HsL] at h
  obtain ⟨v1, r1, rfl, w1, h⟩ := h
  rw [HsL] at h
  obtain ⟨v2, r2, rfl, w2, h⟩ := h
  rw [HsL] at h
  obtain ⟨v3, r3, rfl, w3, h⟩ := h
  rw [HsL] at h
  obtain ⟨v4, r4, rfl, w4, h⟩ := h
  rw [HsL] at h
  subst h
  rw [Hs] at w2
  rw [Hs] at w3
  obtain ⟨sd, rfl, _⟩ := w2
  obtain ⟨op, rfl⟩ := w3
  obtain ⟨S, k1, k2, k3, _⟩ := w1.ints
  obtain ⟨R, d1, d2, d3, _⟩ := w4.ints
  have k3 : S.length * 2 ≤ reachBytes := k3
  exact ⟨c, v1, sd, op, v4, S, by rw [hc]; rfl, k1, by omega, lst_cell k2, lst_cell d2⟩

set_option maxRecDepth 100000 in
theorem contract (H : Type) (enc : TypeId × Value → H) (W : World) (base : Nat) (args : Array Value) (ds gs : List (DataW H)) (before : List MemPlace)
    (hval : ∀ (j : Nat) t v, Tryd.f3.params[j]? = some t → args[j]? = some v → Value.okWide Tryd.prog W .any base t v)
    (hW : DataW.Whole enc Tryd.prog Tryd.f3.params.toList Rows.scanFindsSpec.vars false W args.toList ds gs before) (hL : laidMetH Tryd.prog Rows.scanFindsRow.laid W)
    (hsz : (DataW.weightsEach Tryd.prog (Tryd.f3.params.toList ++ Rows.scanFindsSpec.plain.varTypes Tryd.prog) (ds ++ gs)).all (· ≤ reachBytes) = true) :
    Calls Tryd.prog 3 args W fun e W' => ∃ v, e = .returned v ∧ Rows.scanFindsSpec.post enc Tryd.prog Tryd.f3 false true false false W args v W' := by
  have hW' := hW
  obtain ⟨p, q, hA0, hV, rfl, hfz, hnd⟩ := hW
  have hA : DataW.TrodAll enc Tryd.prog W 0 (fun _ => true) true Tryd.f3.params.toList args.toList ds p := hA0
  rw [Tryd.params3] at hA hval
  obtain ⟨v0, vs0, d0, ds0, p0, q0, hargs0, rfl, rfl, h0, r0⟩ := trodAll_cons hA
  obtain ⟨v1, vs1, d1, ds1, p1, q1, hargs1, rfl, rfl, h1, r1⟩ := trodAll_cons r0
  obtain ⟨hnil, rfl, rfl⟩ := trodAll_nil r1
  obtain rfl : args = #[v0, v1] := Array.ext' (by rw [hargs0, hargs1, hnil])
  subst hnil
  clear hA0
  have hA1 := args1 Tryd.prog W tabsL (tables hL)
  have hgd0 : goodZ Tryd.prog 27 d0 := (fun m hm => of_decide_eq_true (List.all_eq_true.1 hsz m (DataW.weights_mem_each (j := 0) (t := 27) (d := d0) (by rw [Tryd.params3]; rfl) rfl m hm)))
  obtain ⟨ι1, H1, cs, cs', rfl, g1, g2, g3, g4, g5⟩ := hA1.strd Bk.sized (by obtain ⟨_, el, fr, hb⟩ := tables hL tab0 (by simp [tabsL]); exact ⟨_, _, el, fr, hb⟩) Tryd.underlying27 shapeS ⟨_, hval 0 27 v0 rfl rfl⟩ h0 hgd0
  obtain ⟨Ga, m1, m2⟩ := hsL_of g1.wf _ _ g4
  have t0 : H1.get 1 = some (.cells tab0.cells true 0) := g3.keep _ _ (by simp [heap1, heapT, Heap.get_put, tabsL, tab0, tab1]) List.not_mem_nil
  have t1 : H1.get 0 = some (.cells tab1.cells true 0) := g3.keep _ _ (by simp [heap1, heapT, Heap.get_put, tabsL, tab0, tab1]) List.not_mem_nil
  obtain ⟨G, hown, hG⟩ := own_of g1.wf (G := tabO :: tabP :: Ga) fun x hx => by
    rcases List.mem_cons.1 hx with rfl | hx
    · exact t0
    · rcases List.mem_cons.1 hx with rfl | hx
      · exact t1
      · exact m1 x hx
  obtain ⟨c, sets, sd, op, lat, S, hcs, y1, yl, y2, y3⟩ := story m2
  have y1 := y1.mono fun x hx => hG x (List.mem_cons_of_mem _ (List.mem_cons_of_mem _ hx))
  rw [reach] at yl
  obtain ⟨n, hn1⟩ : ∃ n, 140737488955328 ≤ n := ⟨_, Nat.le_refl _⟩
  obtain ⟨fl, rfl⟩ : ∃ b : Bool, v1 = .bool b := by
    have hv := hval 1 4 v1 rfl rfl
    have hu : Tryd.prog.underlying 4 = some .bool := Tryd.underlying4
    simp only [Value.okWide, hu, Cell.okWide, Cell.ok] at hv
    cases v1 with
    | bool b => exact ⟨b, rfl⟩
    | _ => exact hv.elim
  obtain ⟨H', he⟩ := scanFinds_ok (n := n) (F := []) (c0 := c) (seed := sd) (op := op) (lat := lat) (fl := fl) (by omega) (by omega) y1 y2 y3 (hG _ (List.mem_cons_self ..)) (hG _ (List.mem_cons_of_mem _ (List.mem_cons_self ..))) (by omega) (by rw [List.append_nil]; exact hown)
  rw [← hcs] at he
  obtain ⟨mm, HH, he2⟩ := law_exec (ps := ps_w10_ScanFinds) (rs := rs_w10_ScanFinds) (ok_w10_ScanFinds tk n) (a := (.agg ⟨cs'⟩, fl, ())) he
  refine (g1.calls tabOk mixed (args := [.agg ⟨cs'⟩, .bool fl]) (args' := [.agg ⟨cs⟩, .bool fl]) (.cons (.val (.agg g5)) (.cons (.val (.cell (.atom (.bool _)))) .nil)) he2).mono fun e W' h => ?_
  obtain ⟨rfl, hk⟩ := h
  refine ⟨_, rfl, args_post (ty := 4) laidOut hW' rfl (by kernel_rfl) Tryd.underlying4 rfl ?_ hk⟩
  rw [Tryd.params3]
  intro t ht
  simp only [List.mem_cons, List.not_mem_nil, or_false] at ht
  rcases ht with rfl | rfl
  · exact ⟨by kernel_rfl, of_decide_eq_true (by kernel_rfl)⟩
  · exact ⟨by kernel_rfl, of_decide_eq_true (by kernel_rfl)⟩

/-- A world for the witness: the settled one, the tables holding what their initialisers lay. -/
noncomputable def laidWorld (os : Os) : World :=
  { World.holding Tryd.prog os ⟨#[], #[], []⟩ with heap := setTab tab1 (setTab tab0 ((World.holding Tryd.prog os ⟨#[], #[], []⟩).heap)) }
theorem laid_met (os : Os) : laidMet Tryd.prog Rows.scanFindsRow.laid ((laidWorld os).forCall (fun _ _ => 0) ⟨#[], #[.agg #[.int .i64 0, .int .i64 0, .int .i64 0, .int .i64 0, .int .i64 0, .slice none 0 0, .int .u8 0, .bool false, .slice none 0 0], .bool false], []⟩).memory :=
  laidMet_of_run' 8 (by kernel_rfl) (by kernel_rfl)
theorem reads (os : Os) {H : Type} (enc : TypeId × Value → H) : ∃ places, DataW.whole enc Tryd.prog ((laidWorld os).forCall (fun _ _ => 0) ⟨#[], #[.agg #[.int .i64 0, .int .i64 0, .int .i64 0, .int .i64 0, .int .i64 0, .slice none 0 0, .int .u8 0, .bool false, .slice none 0 0], .bool false], []⟩).memory Tryd.f3.params.toList Rows.scanFindsSpec.vars false (#[.agg #[.int .i64 0, .int .i64 0, .int .i64 0, .int .i64 0, .int .i64 0, .slice none 0 0, .int .u8 0, .bool false, .slice none 0 0], .bool false] : Array Value).toList 8 = some ([.agg [.agg [.lit (.int .i64 0), .lit (.int .i64 0), .lit (.int .i64 0), .lit (.int .i64 0), .lit (.int .i64 0)], .nil, .lit (.int .u8 0), .lit (.bool false), .nil], .lit (.bool false)], [], places) :=
  ⟨[], by kernel_rfl⟩

set_option maxRecDepth 100000 in
theorem lifted (os : Os) (started : os.Started) (H : Type) (enc : TypeId × Value → H) (F : Stop.Interp) :
    ReturnsInHanded {} Tryd.checked os 3 .any ((OpenSpec.ofChange Rows.scanFindsSpec).preRow enc Tryd.prog Tryd.f3 Rows.scanFindsRow.domain false Rows.scanFindsRow.laid) (((OpenSpec.ofChange Rows.scanFindsSpec).at F).post enc Tryd.prog Tryd.f3 false true false false) := by
  obtain ⟨places, hx⟩ := reads os enc
  refine returnsInHanded_of_row (C := Tryd.checked) (s := OpenSpec.ofChange Rows.scanFindsSpec) own started (by kernel_rfl) Tryd.func3
    (witness_row_at (enc := enc) (C := Tryd.checked) false (laidWorld os) #[.agg #[.int .i64 0, .int .i64 0, .int .i64 0, .int .i64 0, .int .i64 0, .slice none 0 0, .int .u8 0, .bool false, .slice none 0 0], .bool false] rfl (by kernel_rfl) (by kernel_rfl) (by kernel_rfl)
      (OpenSpec.preRow_of_cond 8 hx (by kernel_rfl) (fun k hk => by cases hk) (by kernel_rfl) (laid_met os))) ?_
  intro W base args ds gs before hval hW _ _ hsz hL _ _
  exact contract H enc W base args ds gs before hval hW hL hsz

theorem said : Rows.ScanFindsSaid :=
  OpenClaim.holds_of_cond 3 Tryd.f3 rfl rfl rfl rfl rfl rfl rfl ⟨rfl, rfl, rfl, rfl, rfl⟩ rfl rfl rfl rfl rfl (by kernel_rfl) Tryd.func3 (by kernel_rfl)
    (of_decide_eq_true (by kernel_rfl)) (by unfold Func.isWrapper; first | (rw [if_pos (by decide +kernel)]; kernel_rfl) | (rw [if_neg (by decide +kernel)]; exact ⟨rfl, rfl⟩))
    (fun os started H enc _ F => by rw [OpenClaim.pre_eq_preRow]; exact lifted os started H enc F)

theorem plain (f : FuncId) (fn : Func) (hf : Tryd.pinned.checked.prog.funcNamed "wicket/wicketlaw10.ScanFinds" = some f) (hfn : Tryd.pinned.checked.prog.funcs[f]? = some fn) :
    false = Tryd.pinned.checked.prog.looks [] ∧ ∀ (j : Nat) t, fn.params[j]? = some t → Tryd.pinned.checked.prog.wantsStandIn t = false := by
  obtain rfl : f = 3 := Option.some.inj ((show Tryd.prog.funcNamed "wicket/wicketlaw10.ScanFinds" = some 3 by kernel_rfl).symm.trans hf) |>.symm
  obtain rfl : fn = Tryd.f3 := (Option.some.inj (Tryd.func3.symm.trans hfn)).symm
  refine ⟨by kernel_rfl, fun j t ht => ?_⟩
  have hm : t ∈ (Tryd.f3.params.toList) := Array.mem_toList_iff.2 (Array.mem_of_getElem? ht)
  rw [Tryd.params3] at hm
  simp only [List.mem_cons, List.not_mem_nil, or_false] at hm
  rcases hm with rfl | rfl
  · exact (show Tryd.prog.wantsStandIn 27 = false by kernel_rfl)
  · exact (show Tryd.prog.wantsStandIn 4 = false by kernel_rfl)
end scanFindsAt

theorem scanFinds_card : Rows.ScanFindsCardSaid :=
  Claim7.holds_tied_plain_at .later [] _ _ _ _ scanFindsAt.said (fun _ h => by cases h) (by kernel_rfl) (fun _ h => by cases h) scanFinds_row_tie rfl ⟨rfl, rfl⟩ (by kernel_rfl) rfl scanFindsAt.plain (by kernel_rfl)

#print axioms scanFinds_card
end Go.Proofs.YtdlfdieehioolaaDoor
