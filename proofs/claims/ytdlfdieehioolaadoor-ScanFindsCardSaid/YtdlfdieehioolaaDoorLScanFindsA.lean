/- The functions at hand as plain typed functions, each with the proof that it is what the abstract machine's code does. -/
import Derived.Test.YtdlfdieehioolaaDoorB9t
import Derived.KernelRfl
namespace Go.Proofs.YtdlfdieehioolaaDoor
open Go
set_option linter.unusedVariables false
set_option maxRecDepth 100000
def tab0 : Tab := { g := 1, k := .u32, zs := [0, 498536548, 997073096, 651767980, 1994146192, 1802195444, 1303535960, 1342533948, 3988292384, 4027552580, 3604390888, 3412177804, 2607071920, 2262029012, 2685067896, 3183342108] }
def tab1 : Tab := { g := 0, k := .i64, zs := [1, 1, 1, 1, 1, 1, 1, 3, 8, 8] }
def tabsL : List Tab := [tab0, tab1]
def k_w10_awake : Nat := 4
def k_w10_num : Nat := 7
def k_w10_plain : Nat := 11
def k_w10_small : Nat := 13
def k_wal_Log_none : Nat := 19
def k_sector_Disk_Flush : Nat := 20
def k_w10_config_1 : Nat := 21
def k_r10_SameImages : Nat := 25
def k_octet_Join : Nat := 28
def k_sector_Load : Nat := 29
def k_sector_Disk_Len : Nat := 32
def k_wal_Log_End : Nat := 33
def k_wal_Log_Tail : Nat := 34
def k_ring_Span_1 : Nat := 39
def k_octet_Pad : Nat := 44
def k_home_block : Nat := 46
def k_super_within : Nat := 49
def k_sector_Disk_asked : Nat := 53
def k_slices_Clone_byte_byte : Nat := 55
def k_super_sizes : Nat := 57
def k_bytes_Equal : Nat := 58
def k_ring_round : Nat := 59
def k_record_Check : Nat := 60
def k_octet_may : Nat := 62
def k_sum_push : Nat := 63
def k_slices_Backward_sector_waiting_sector_waiting_1 : Nat := 75
def k_octet_number : Nat := 76
def k_wal_Log_Flush : Nat := 6
def k_w10_config : Nat := 8
def k_r10_Same : Nat := 10
def k_wal_Log_Used : Nat := 16
def k_ring_Span : Nat := 23
def k_super_Config : Nat := 31
def k_wal_Log_room : Nat := 35
def k_ring_Slot : Nat := 40
def k_super_Check : Nat := 42
def k_octet_Put : Nat := 43
def k_sum_Of : Nat := 45
def k_wal_Log_sectorOf : Nat := 51
def k_sector_Disk_Write : Nat := 52
def k_slices_Backward_sector_waiting_sector_waiting : Nat := 54
def k_octet_Fields : Nat := 56
def k_record_number : Nat := 77
def k_wal_Open : Nat := 15
def k_super_Encode : Nat := 26
def k_home_Encode : Nat := 27
def k_sector_Disk_Read : Nat := 37
def k_super_Decode : Nat := 38
def k_record_laid : Nat := 61
def k_home_New : Nat := 12
def k_scan_begin : Nat := 22
def k_record_Decode : Nat := 41
def k_record_Encode : Nat := 50
def k_scan_stands : Nat := 24
def k_wal_Log_write : Nat := 36
def k_scan_Read : Nat := 9
def k_wal_Log_Image : Nat := 17
def k_wal_Log_Commit : Nat := 18
def k_w10_told : Nat := 5
def k_w10_ScanFinds : Nat := 3
def f_w10_awake (n : Nat) (h : Heap) : Option ((Bool × Unit) × Heap) := yesTB tabsL h
noncomputable def s_w10_awake (n : Nat) : Sf1 := mkSf [] [(.tmp 0, .bool)] fun a h => f_w10_awake n h
def PrimT_w10_awake (T : Nat → Option AFun) : Prop := T k_w10_awake = some ⟨[], .skip, some (yesT tabsL)⟩
theorem primOk_w10_awake {T : Nat → Option AFun} (hT : PrimT_w10_awake T) (n : Nat) : Sf1Ok T k_w10_awake (s_w10_awake n) := yesT_sf hT
/- wicket/wicketlaw10.num -/
instance (n : Nat) : OfNat Operand n := ⟨.tmp n⟩
def rg (d : Nat) (o : AOp) (t : Ty) : AOper × Ty := (⟨some d, o, none⟩, t)
def rq (d : Nat) (o : AOp) (g : Nat) (t : Ty) : AOper × Ty := (⟨some d, o, some (g, false)⟩, t)
def rp (d : Nat) (o : AOp) (g : Nat) (t : Ty) : AOper × Ty := (⟨some d, o, some (g, true)⟩, t)
def rn (o : AOp) (t : Ty) : AOper × Ty := (⟨none, o, none⟩, t)
def Ty.i : Ty := .int .i64
def Ty.u : Ty := .int .u8
def c2_w10_num : C2 := .seq (.reg [rg 2 (.move (.const (.int .i64 0))) .i]) <|
 .seq (.reg [rg 3 (.move 0) .i, rg 2 (.move 3) .i]) <|
 .ret
noncomputable def sf_w10_num (n : Nat) : Sf := sfOf []
noncomputable def it_w10_num (n : Nat) : It := itOf []
def f_w10_num (n : Nat) (u0 : Int) (h : Heap) : Option ((Int × Unit) × Heap) :=
  some ((u0, ()), h)
def rs_w10_num : Rs := [(.tmp 2, (.int .i64))]
def ps_w10_num : List Ty := [(.int .i64)]
theorem e_w10_num (n : Nat) (u0 : Int) (h : Heap) : f_w10_num n u0 h = fB (sf_w10_num n) (it_w10_num n) n c2_w10_num rs_w10_num ps_w10_num (u0, ()) h := by kernel_rfl
noncomputable def s_w10_num (n : Nat) : Sf1 := mkSf ps_w10_num rs_w10_num fun a h => f_w10_num n a.1 h
/- wicket/wicketlaw10.plain -/
def c2_w10_plain : C2 := .seq (.reg [rg 1 (.box 0) .ptr, rg 2 (.alloc [(.int .u64 0), (.int .u64 0), (.int .u64 0), (.slice none 0 0)]) .ptr]) <|
 .seq (.reg [rg 6 (.fieldAddr 0 1) .ptr, rg 7 (.load false 1 6) (.int .u64), rg 8 (.fieldAddr 1 1) .ptr, rg 9 (.load false 1 8) (.int .u64), rg 10 (.fieldAddr 2 1) .ptr, rg 11 (.load false 1 10) (.int .u64), rg 12 (.build [(.int .u64 0), (.int .u64 0), (.int .u64 0), (.slice none 0 0)] [(0, 1, 7), (1, 1, 9), (2, 1, 11)]) .any, rg 3 (.alloc [(.int .u64 0), (.int .u64 0), (.int .u64 0), (.slice none 0 0)]) .ptr, rn (.store 4 3 12) .any]) <|
 .seq (.cutn [] <|
 .seq (.reg [rg 13 (.fieldAddr 3 1) .ptr, rg 14 (.load false 1 13) .any, rg 15 (.lenS 14) .i, rg 16 (.move (.const (.int .i64 0))) .i]) <|
 .block 0 <|
 .loop [(16, .i)] <|
 .seq (.reg [rg 17 (.bin .lss 16 15) .any]) <|
 .seq (.cond 17 (.skip) (.exit 0)) <|
 .seq (.block 1 <|
 .seq (.reg [rg 18 (.idxSlice 2 14 16) .ptr, rg 19 (.load true 2 18) .any, rg 5 (.alloc [(.int .u64 0), (.slice none 0 0)]) .ptr, rn (.store 2 5 19) .any]) <|
 .regd [(⟨0, [], false, ⟨(some 20), .fieldAddr 3 3, none⟩⟩, .ptr), (⟨1, [0], false, ⟨(some 21), .load false 1 20, none⟩⟩, .any), (⟨2, [], false, ⟨(some 22), .fieldAddr 0 5, none⟩⟩, .ptr), (⟨3, [2], false, ⟨(some 23), .load false 1 22, none⟩⟩, (.int .u64)), (⟨4, [], false, ⟨(some 24), .buildSlice 0 33 [] [], none⟩⟩, .any), (⟨5, [], false, ⟨(some 25), .fieldAddr 1 5, none⟩⟩, .ptr), (⟨6, [5], false, ⟨(some 26), .load false 1 25, none⟩⟩, .any), (⟨7, [4, 6, 5], true, ⟨(some 27), .append 40 33 24 26, none⟩⟩, .any), (⟨8, [3, 7, 2, 4, 6, 5], false, ⟨(some 28), .build [(.int .u64 0), (.slice none 0 0)] [(0, 1, 23), (1, 1, 27)], none⟩⟩, .any), (⟨9, [8, 3, 7, 2, 4, 6, 5], false, ⟨(some 29), .buildSlice 1 2 [(.int .u64 0), (.slice none 0 0)] [(0, 2, 28)], none⟩⟩, .any), (⟨10, [1, 9, 7, 0, 8, 3, 2, 4, 6, 5], true, ⟨(some 30), .append 32 2 21 29, none⟩⟩, .any), (⟨11, [0, 1, 2, 3, 4, 5, 6, 7, 8, 9, 10], false, ⟨(some 31), .fieldAddr 3 3, none⟩⟩, .ptr), (⟨12, [11, 10, 0, 1, 2, 3, 4, 5, 6, 7, 8, 9], true, ⟨none, .store 1 31 30, none⟩⟩, .any)]) <|
 .reg [rg 32 (.bin .add 16 (.const (.int .i64 1))) .i, rg 16 (.move 32) .i]) <|
 .seq (.reg [rg 33 (.load true 4 3) .any, rn (.store 4 2 33) .any]) <|
 .ret
def f_w10_plain_L28 (n : Nat) (h1 : Heap) (x8 : Value) (n9 : Nat) (v10 : Int) (h11 : Heap) : Option (((Int × Unit) × Heap) ⊕ ((Unit) × Heap)) :=
  bif (decide (v10 < (n9 : Int))) then
    ((ixB 2 x8 v10).bind fun q12 =>
    (ldA 2 h11 (some q12)).bind fun cs13 =>
    bnd ((Heap.new h11 (.cells [(.int .u64 0), (.slice none 0 0)] false 0))) fun h14 =>
    (stB 2 (.agg ⟨cs13⟩) h14 (some (nwA h11))).bind fun h15 =>
    (ldT .any h15 (some (fa (nwA h1) 3))).bind fun x16 =>
    (ldT (.int .u64) h15 (some (fa (nwA h11) 0))).bind fun x17 =>
    (fillL [] []).bind fun cs18 =>
    bnd ((Heap.new h15 (.cells cs18 false 33))) fun h19 =>
    (ldT .any (Heap.dropAll h19 ((Heap.next h15) :: [])) (some (fa (nwA h11) 1))).bind fun x20 =>
    (appendK (hid h19 [] ((Addr.block (fa (nwA h11) 0)) :: ((Addr.block (fa (nwA h1) 3)) :: []))) 40 33 (.slice (some ⟨Heap.next h15, 0, some 0⟩) 0 0) x20).bind fun p21 =>
    bnd (Heap.putBack p21.2 h19 ([] ++ ((Addr.block (fa (nwA h11) 0)) :: ((Addr.block (fa (nwA h1) 3)) :: [])))) fun h22 =>
    (fillL [(.int .u64 0), (.slice none 0 0)] [(0, 1, (.int .u64 x17)), (1, 1, p21.1)]).bind fun cs23 =>
    (fillL [(.int .u64 0), (.slice none 0 0)] [(0, 2, (.agg ⟨cs23⟩))]).bind fun cs24 =>
    bnd ((Heap.new h22 (.cells cs24 false 2))) fun h25 =>
    (appendK h25 32 2 x16 (.slice (some ⟨Heap.next h22, 0, some 0⟩) 1 1)).bind fun p26 =>
    (stB 1 p26.1 p26.2 (some (fa (nwA h1) 3))).bind fun h27 =>
    some (.inl (((IntKind.i64.wrap (v10 + 1)), ()), h27)))
  else
    (some (.inr ((), h11)))
noncomputable def sf_w10_plain (n : Nat) : Sf := sfOf []
noncomputable def it_w10_plain (n : Nat) : It := itOf []
def f_w10_plain (n : Nat) (u0 : Value) (h : Heap) : Option ((Value × Unit) × Heap) :=
  bif (cellsOf u0).all isCell then
    (bnd ((Heap.new h (.cells (cellsOf u0) false 0))) fun h0 =>
    bnd ((Heap.new h0 (.cells [(.int .u64 0), (.int .u64 0), (.int .u64 0), (.slice none 0 0)] false 0))) fun h1 =>
    (ldT (.int .u64) h1 (some (fa (nwA h) 0))).bind fun x2 =>
    (ldT (.int .u64) h1 (some (fa (nwA h) 1))).bind fun x3 =>
    (ldT (.int .u64) h1 (some (fa (nwA h) 2))).bind fun x4 =>
    (fillL [(.int .u64 0), (.int .u64 0), (.int .u64 0), (.slice none 0 0)] [(0, 1, (.int .u64 x2)), (1, 1, (.int .u64 x3)), (2, 1, (.int .u64 x4))]).bind fun cs5 =>
    bnd ((Heap.new h1 (.cells [(.int .u64 0), (.int .u64 0), (.int .u64 0), (.slice none 0 0)] false 0))) fun h6 =>
    (stB 4 (.agg ⟨cs5⟩) h6 (some (nwA h1))).bind fun h7 =>
    (((ldT .any h7 (some (fa (nwA h) 3))).bind fun x8 =>
      (lenB x8).bind fun n9 =>
      loopT (fun a => f_w10_plain_L28 n h1 x8 n9 a.1.1 a.2) n ((0, ()), h7)) : Option ((Unit) × Heap)).bind fun a29 =>
    (ldA 4 a29.2 (some (nwA h1))).bind fun cs30 =>
    (stB 4 (.agg ⟨cs30⟩) a29.2 (some (nwA h0))).bind fun h31 =>
    (ldA 4 h31 (some (nwA h0))).bind fun cs32 =>
    some (((.agg ⟨cs32⟩), ()), h31))
  else
    (none)
def rs_w10_plain : Rs := [(.cell true 4 2, .any)]
def ps_w10_plain : List Ty := [.any]
theorem e_w10_plain (n : Nat) (u0 : Value) (h : Heap) : f_w10_plain n u0 h = fB (sf_w10_plain n) (it_w10_plain n) n c2_w10_plain rs_w10_plain ps_w10_plain (u0, ()) h := by kernel_rfl
noncomputable def s_w10_plain (n : Nat) : Sf1 := mkSf ps_w10_plain rs_w10_plain fun a h => f_w10_plain n a.1 h
/- wicket/wicketlaw10.small -/
def c2_w10_small : C2 := .seq (.reg [rg 0 (.alloc (List.replicate 5 (.int .i64 0))) .ptr]) <|
 .seq (.reg [rg 1 (.build (List.replicate 5 (.int .i64 0)) [(0, 1, (.const (.int .i64 3))), (1, 1, (.const (.int .i64 4))), (2, 1, (.const (.int .i64 2))), (3, 1, (.const (.int .i64 4))), (4, 1, (.const (.int .i64 1)))]) .any, rn (.store 5 0 1) .any]) <|
 .ret
def rs_w10_small : Rs := [(.cell true 5 0, .any)]
/- (*wicket/wal.Log).none -/
def c2_wal_Log_none : C2 := .seq (.reg [rg 2 (.move (.const (.bool false))) .bool]) <|
 .seq (.reg [rg 3 (.move 0) .ptr, rg 4 (.eqv false .ptr 3 (.const (.pointer none))) .bool, rg 5 (.move 4) .bool, rq 6 (.move 0) 5 .ptr, rq 7 (.nilCheck 6) 5 .ptr, rq 8 (.fieldAddr 0 7) 5 .ptr, rq 9 (.load false 1 8) 5 .ptr, rq 10 (.eqv false .ptr 9 (.const (.pointer none))) 5 .bool, rg 11 (.pick 5 (.const (.bool true)) 10) .bool, rg 2 (.move 11) .bool]) <|
 .ret
noncomputable def sf_wal_Log_none (n : Nat) : Sf := sfOf []
noncomputable def it_wal_Log_none (n : Nat) : It := itOf []
def f_wal_Log_none (n : Nat) (u0 : Option Addr) (h : Heap) : Option ((Bool × Unit) × Heap) :=
  bif (Option.isNone u0) then
    (some ((true, ()), h))
  else
    ((u0).bind fun q0 =>
    (ldT .ptr h (some (fa q0 0))).bind fun x1 =>
    some (((Option.isNone x1), ()), h))
def rs_wal_Log_none : Rs := [(.tmp 2, .bool)]
def ps_wal_Log_none : List Ty := [.ptr]
theorem e_wal_Log_none (n : Nat) (u0 : Option Addr) (h : Heap) : f_wal_Log_none n u0 h = fB (sf_wal_Log_none n) (it_wal_Log_none n) n c2_wal_Log_none rs_wal_Log_none ps_wal_Log_none (u0, ()) h := by kernel_rfl
noncomputable def s_wal_Log_none (n : Nat) : Sf1 := mkSf ps_wal_Log_none rs_wal_Log_none fun a h => f_wal_Log_none n a.1 h
/- (*wicket/sector.Disk).Flush -/
def c2_sector_Disk_Flush : C2 := .seq (.reg [rg 2 (.move (.const (.int .i64 0))) .i, rg 3 (.move (.const (.int .i64 0))) .i]) <|
 .seq (.seq (.reg [rg 7 (.move 0) .ptr, rg 8 (.eqv false .ptr 7 (.const (.pointer none))) .bool]) <|
 .cond 8 (.seq (.reg [rg 2 (.move (.const (.int .i64 0))) .i, rg 3 (.move (.const (.int .i64 1))) .i]) <|
 .ret) (.skip)) <|
 .seq (.cutn [] <|
 .seq (.reg [rg 9 (.move 0) .ptr, rg 10 (.nilCheck 9) .ptr, rg 11 (.fieldAddr 1 10) .ptr, rg 12 (.load false 1 11) .any, rg 13 (.lenS 12) .i, rg 14 (.move (.const (.int .i64 0))) .i]) <|
 .block 0 <|
 .loop [(14, .i)] <|
 .seq (.reg [rg 15 (.bin .lss 14 13) .any]) <|
 .seq (.cond 15 (.skip) (.exit 0)) <|
 .seq (.block 1 <|
 .seq (.reg [rg 16 (.idxSlice 65 12 14) .ptr, rg 17 (.load true 65 16) .any, rg 5 (.alloc [(.int .i64 0), (.int .u8 0), (.int .u8 0), (.int .u8 0), (.int .u8 0), (.int .u8 0), (.int .u8 0), (.int .u8 0), (.int .u8 0), (.int .u8 0), (.int .u8 0), (.int .u8 0), (.int .u8 0), (.int .u8 0), (.int .u8 0), (.int .u8 0), (.int .u8 0), (.int .u8 0), (.int .u8 0), (.int .u8 0), (.int .u8 0), (.int .u8 0), (.int .u8 0), (.int .u8 0), (.int .u8 0), (.int .u8 0), (.int .u8 0), (.int .u8 0), (.int .u8 0), (.int .u8 0), (.int .u8 0), (.int .u8 0), (.int .u8 0), (.int .u8 0), (.int .u8 0), (.int .u8 0), (.int .u8 0), (.int .u8 0), (.int .u8 0), (.int .u8 0), (.int .u8 0), (.int .u8 0), (.int .u8 0), (.int .u8 0), (.int .u8 0), (.int .u8 0), (.int .u8 0), (.int .u8 0), (.int .u8 0), (.int .u8 0), (.int .u8 0), (.int .u8 0), (.int .u8 0), (.int .u8 0), (.int .u8 0), (.int .u8 0), (.int .u8 0), (.int .u8 0), (.int .u8 0), (.int .u8 0), (.int .u8 0), (.int .u8 0), (.int .u8 0), (.int .u8 0), (.int .u8 0)]) .ptr, rn (.store 65 5 17) .any]) <|
 .regd [(⟨0, [], false, ⟨(some 18), .move 0, none⟩⟩, .ptr), (⟨1, [0], false, ⟨(some 19), .nilCheck 18, none⟩⟩, .ptr), (⟨2, [1, 0], false, ⟨(some 20), .fieldAddr 0 19, none⟩⟩, .ptr), (⟨3, [2, 1, 0], false, ⟨(some 21), .load false 1 20, none⟩⟩, .any), (⟨4, [], false, ⟨(some 22), .fieldAddr 0 5, none⟩⟩, .ptr), (⟨5, [4], false, ⟨(some 23), .load false 1 22, none⟩⟩, (.int .i64)), (⟨6, [], false, ⟨(some 24), .fieldAddr 1 5, none⟩⟩, .ptr), (⟨7, [6], false, ⟨(some 25), .load true 64 24, none⟩⟩, .any), (⟨8, [3, 5, 0, 1, 2, 4, 6, 7], false, ⟨(some 26), .idxSlice 64 21 23, none⟩⟩, .ptr), (⟨9, [8, 7, 0, 1, 2, 3, 4, 5, 6], true, ⟨none, .store 64 26 25, none⟩⟩, .any)]) <|
 .reg [rg 27 (.bin .add 14 (.const (.int .i64 1))) .i, rg 14 (.move 27) .i]) <|
 .seq (.reg [rg 28 (.move 0) .ptr, rg 29 (.nilCheck 28) .ptr, rg 30 (.fieldAddr 1 29) .ptr, rg 31 (.load false 1 30) .any, rg 32 (.lenS 31) .i, rg 6 (.move 32) .i]) <|
 .seq (.reg [rg 33 (.move 0) .ptr, rg 34 (.nilCheck 33) .ptr, rg 35 (.fieldAddr 1 34) .ptr, rn (.store 1 35 (.const (.slice none 0 0))) .any]) <|
 .seq (.reg [rg 36 (.move 6) .i, rg 2 (.move 36) .i, rg 3 (.move (.const (.int .i64 0))) .i]) <|
 .ret
def f_sector_Disk_Flush_L15 (n : Nat) (u0 : Option Addr) (x1 : Value) (n2 : Nat) (v3 : Int) (h4 : Heap) : Option (((Int × Unit) × Heap) ⊕ ((Unit) × Heap)) :=
  bif (decide (v3 < (n2 : Int))) then
    ((ixB 65 x1 v3).bind fun q5 =>
    (ldA 65 h4 (some q5)).bind fun cs6 =>
    bnd ((Heap.new h4 (.cells [(.int .i64 0), (.int .u8 0), (.int .u8 0), (.int .u8 0), (.int .u8 0), (.int .u8 0), (.int .u8 0), (.int .u8 0), (.int .u8 0), (.int .u8 0), (.int .u8 0), (.int .u8 0), (.int .u8 0), (.int .u8 0), (.int .u8 0), (.int .u8 0), (.int .u8 0), (.int .u8 0), (.int .u8 0), (.int .u8 0), (.int .u8 0), (.int .u8 0), (.int .u8 0), (.int .u8 0), (.int .u8 0), (.int .u8 0), (.int .u8 0), (.int .u8 0), (.int .u8 0), (.int .u8 0), (.int .u8 0), (.int .u8 0), (.int .u8 0), (.int .u8 0), (.int .u8 0), (.int .u8 0), (.int .u8 0), (.int .u8 0), (.int .u8 0), (.int .u8 0), (.int .u8 0), (.int .u8 0), (.int .u8 0), (.int .u8 0), (.int .u8 0), (.int .u8 0), (.int .u8 0), (.int .u8 0), (.int .u8 0), (.int .u8 0), (.int .u8 0), (.int .u8 0), (.int .u8 0), (.int .u8 0), (.int .u8 0), (.int .u8 0), (.int .u8 0), (.int .u8 0), (.int .u8 0), (.int .u8 0), (.int .u8 0), (.int .u8 0), (.int .u8 0), (.int .u8 0), (.int .u8 0)] false 0))) fun h7 =>
    (stB 65 (.agg ⟨cs6⟩) h7 (some (nwA h4))).bind fun h8 =>
    (u0).bind fun q9 =>
    (ldT .any h8 (some (fa q9 0))).bind fun x10 =>
    (ldT (.int .i64) h8 (some (fa (nwA h4) 0))).bind fun x11 =>
    (ldA 64 h8 (some (fa (nwA h4) 1))).bind fun cs12 =>
    (ixB 64 x10 x11).bind fun q13 =>
    (stB 64 (.agg ⟨cs12⟩) h8 (some q13)).bind fun h14 =>
    some (.inl (((IntKind.i64.wrap (v3 + 1)), ()), h14)))
  else
    (some (.inr ((), h4)))
noncomputable def sf_sector_Disk_Flush (n : Nat) : Sf := sfOf []
noncomputable def it_sector_Disk_Flush (n : Nat) : It := itOf []
def f_sector_Disk_Flush (n : Nat) (u0 : Option Addr) (h : Heap) : Option ((Int × Int × Unit) × Heap) :=
  bif (Option.isNone u0) then
    (some ((0, (1, ())), h))
  else
    ((((u0).bind fun q0 =>
      (ldT .any h (some (fa q0 1))).bind fun x1 =>
      (lenB x1).bind fun n2 =>
      loopT (fun a => f_sector_Disk_Flush_L15 n u0 x1 n2 a.1.1 a.2) n ((0, ()), h)) : Option ((Unit) × Heap)).bind fun a16 =>
    (u0).bind fun q17 =>
    (ldT .any a16.2 (some (fa q17 1))).bind fun x18 =>
    (lenB x18).bind fun n19 =>
    (u0).bind fun q20 =>
    (stB 1 (.slice none 0 0) a16.2 (some (fa q20 1))).bind fun h21 =>
    some (((n19 : Int), (0, ())), h21))
def rs_sector_Disk_Flush : Rs := [(.tmp 2, (.int .i64)), (.tmp 3, (.int .i64))]
def ps_sector_Disk_Flush : List Ty := [.ptr]
theorem e_sector_Disk_Flush (n : Nat) (u0 : Option Addr) (h : Heap) : f_sector_Disk_Flush n u0 h = fB (sf_sector_Disk_Flush n) (it_sector_Disk_Flush n) n c2_sector_Disk_Flush rs_sector_Disk_Flush ps_sector_Disk_Flush (u0, ()) h := by kernel_rfl
noncomputable def s_sector_Disk_Flush (n : Nat) : Sf1 := mkSf ps_sector_Disk_Flush rs_sector_Disk_Flush fun a h => f_sector_Disk_Flush n a.1 h
/- wicket/wicketlaw10.config$1 -/
def c2_w10_config_1 : C2 := .seq (.reg [rg 4 (.move (.const (.int .i64 0))) .i]) <|
 .seq (.reg [rg 5 (.move 0) .i, rg 6 (.move 1) .i, rg 7 (.bin .rem 5 6) .i, rg 8 (.move 1) .i, rg 9 (.bin .add 7 8) .i, rg 10 (.move 1) .i, rg 11 (.bin .rem 9 10) .i, rg 12 (.bin .add (.const (.int .i64 1)) 11) .i, rg 4 (.move 12) .i]) <|
 .ret
noncomputable def sf_w10_config_1 (n : Nat) : Sf := sfOf []
noncomputable def it_w10_config_1 (n : Nat) : It := itOf []
def f_w10_config_1 (n : Nat) (u0 : Int) (u1 : Int) (h : Heap) : Option ((Int × Unit) × Heap) :=
  bif decide (u1 = 0) then
    (none)
  else
    (bif decide (u1 = 0) then
      (none)
    else
      (some (((IntKind.i64.wrap (1 + (Int.tmod (IntKind.i64.wrap ((Int.tmod u0 u1) + u1)) u1))), ()), h)))
def rs_w10_config_1 : Rs := [(.tmp 4, (.int .i64))]
def ps_w10_config_1 : List Ty := [(.int .i64), (.int .i64)]
theorem e_w10_config_1 (n : Nat) (u0 : Int) (u1 : Int) (h : Heap) : f_w10_config_1 n u0 u1 h = fB (sf_w10_config_1 n) (it_w10_config_1 n) n c2_w10_config_1 rs_w10_config_1 ps_w10_config_1 (u0, (u1, ())) h := by kernel_rfl
noncomputable def s_w10_config_1 (n : Nat) : Sf1 := mkSf ps_w10_config_1 rs_w10_config_1 fun a h => f_w10_config_1 n a.1 a.2.1 h
/- wicket/wicketref10.SameImages -/
def c2_r10_SameImages : C2 := .seq (.reg [rg 4 (.move (.const (.bool false))) .bool]) <|
 .seq (.seq (.reg [rg 6 (.move 0) .any, rg 7 (.lenS 6) .i, rg 8 (.move 1) .any, rg 9 (.lenS 8) .i, rg 10 (.bin .neq 7 9) .bool]) <|
 .cond 10 (.seq (.reg [rg 4 (.move (.const (.bool false))) .bool]) <|
 .ret) (.skip)) <|
 .seq (.seq (.reg [rg 5 (.move (.const (.int .i64 0))) .i]) <|
 .block 0 <|
 .loop [(5, .i)] <|
 .seq (.seq (.reg [rg 11 (.move 5) .i, rg 12 (.move 0) .any, rg 13 (.lenS 12) .i, rg 14 (.bin .lss 11 13) .bool]) <|
 .cond 14 (.skip) (.exit 0)) <|
 .seq (.block 1 <|
 .seq (.regd [(⟨0, [], false, ⟨(some 17), .move 0, none⟩⟩, .any), (⟨1, [], false, ⟨(some 18), .move 5, none⟩⟩, (.int .i64)), (⟨2, [0, 1], false, ⟨(some 19), .idxSlice 33 17 18, none⟩⟩, .ptr), (⟨3, [2, 0, 1], false, ⟨(some 20), .load true 33 19, none⟩⟩, .any), (⟨4, [], false, ⟨(some 21), .move 1, none⟩⟩, .any), (⟨5, [], false, ⟨(some 22), .move 5, none⟩⟩, (.int .i64)), (⟨6, [4, 5], false, ⟨(some 23), .idxSlice 33 21 22, none⟩⟩, .ptr), (⟨7, [6, 4, 5], false, ⟨(some 24), .load true 33 23, none⟩⟩, .any), (⟨8, [3, 7, 2, 0, 1, 6, 4, 5], false, ⟨(some 25), .eqv true (.agg (List.replicate 33 false)) 20 24, none⟩⟩, .bool)]) <|
 .cond 25 (.seq (.reg [rg 4 (.move (.const (.bool false))) .bool]) <|
 .ret) (.skip)) <|
 .reg [rg 15 (.move 5) .i, rg 16 (.bin .add 15 (.const (.int .i64 1))) .i, rg 5 (.move 16) .i]) <|
 .seq (.reg [rg 4 (.move (.const (.bool true))) .bool]) <|
 .ret
def f_r10_SameImages_L10 (n : Nat) (u1 : Value) (u0 : Value) (v2 : Int) (h3 : Heap) : Option (((Int × Unit) × Heap) ⊕ ((Bool × Unit) × Heap)) :=
  (lenB u0).bind fun n4 =>
  bif (decide (v2 < (n4 : Int))) then
    ((ixB 33 u0 v2).bind fun q5 =>
    (ldA 33 h3 (some q5)).bind fun cs6 =>
    (ixB 33 u1 v2).bind fun q7 =>
    (ldA 33 h3 (some q7)).bind fun cs8 =>
    (eqVals h3 (.agg (List.replicate 33 false)) (.agg ⟨cs6⟩) (.agg ⟨cs8⟩)).bind fun b9 =>
    bif (!b9) then
      (some (.inr ((false, ()), h3)))
    else
      (some (.inl (((IntKind.i64.wrap (v2 + 1)), ()), h3))))
  else
    (some (.inr ((true, ()), h3)))
noncomputable def sf_r10_SameImages (n : Nat) : Sf := sfOf []
noncomputable def it_r10_SameImages (n : Nat) : It := itOf []
def f_r10_SameImages (n : Nat) (u0 : Value) (u1 : Value) (h : Heap) : Option ((Bool × Unit) × Heap) :=
  (lenB u0).bind fun n0 =>
  (lenB u1).bind fun n1 =>
  bif (!decide ((n0 : Int) = (n1 : Int))) then
    (some ((false, ()), h))
  else
    (loopT (fun a => f_r10_SameImages_L10 n u1 u0 a.1.1 a.2) n ((0, ()), h))
def rs_r10_SameImages : Rs := [(.tmp 4, .bool)]
def ps_r10_SameImages : List Ty := [.any, .any]
theorem e_r10_SameImages (n : Nat) (u0 : Value) (u1 : Value) (h : Heap) : f_r10_SameImages n u0 u1 h = fB (sf_r10_SameImages n) (it_r10_SameImages n) n c2_r10_SameImages rs_r10_SameImages ps_r10_SameImages (u0, (u1, ())) h := by kernel_rfl
noncomputable def s_r10_SameImages (n : Nat) : Sf1 := mkSf ps_r10_SameImages rs_r10_SameImages fun a h => f_r10_SameImages n a.1 a.2.1 h
/- wicket/octet.Join -/
def c2_octet_Join : C2 := .seq (.reg [rg 2 (.move (.const (.slice none 0 0))) .any]) <|
 .seq (.reg [rg 3 (.move (.const (.slice none 0 0))) .any]) <|
 .seq (.seq (.reg [rg 6 (.move 0) .any, rg 7 (.lenS 6) .i, rg 8 (.move (.const (.int .i64 0))) .i]) <|
 .block 0 <|
 .loop [(3, .any), (8, .i)] <|
 .seq (.reg [rg 9 (.bin .lss 8 7) .any]) <|
 .seq (.cond 9 (.skip) (.exit 0)) <|
 .seq (.block 1 <|
 .seq (.reg [rg 10 (.idxSlice 1 6 8) .ptr, rg 11 (.load false 1 10) .any, rg 5 (.move 11) .any]) <|
 .reg [rg 12 (.move 3) .any, rg 13 (.move 5) .any, rg 14 (.append 1 1 12 13) .any, rg 3 (.move 14) .any]) <|
 .reg [rg 15 (.bin .add 8 (.const (.int .i64 1))) .i, rg 8 (.move 15) .i]) <|
 .seq (.reg [rg 16 (.move 3) .any, rg 2 (.move 16) .any]) <|
 .ret
def f_octet_Join_L7 (n : Nat) (u0 : Value) (n0 : Nat) (v1 : Value) (v2 : Int) (h3 : Heap) : Option (((Value × Int × Unit) × Heap) ⊕ ((Value × Unit) × Heap)) :=
  bif (decide (v2 < (n0 : Int))) then
    ((ixB 1 u0 v2).bind fun q4 =>
    (ldT .any h3 (some q4)).bind fun x5 =>
    (appendK h3 1 1 v1 x5).bind fun p6 =>
    some (.inl ((p6.1, ((IntKind.i64.wrap (v2 + 1)), ())), p6.2)))
  else
    (Option.map Sum.inr (bif !isTuple v1 then
      (some ((v1, ()), h3))
    else
      (none)))
noncomputable def sf_octet_Join (n : Nat) : Sf := sfOf []
noncomputable def it_octet_Join (n : Nat) : It := itOf []
def f_octet_Join (n : Nat) (u0 : Value) (h : Heap) : Option ((Value × Unit) × Heap) :=
  (lenB u0).bind fun n0 =>
  loopT (fun a => f_octet_Join_L7 n u0 n0 a.1.1 a.1.2.1 a.2) n (((.slice none 0 0), (0, ())), h)
def rs_octet_Join : Rs := [(.tmp 2, .any)]
def ps_octet_Join : List Ty := [.any]
theorem e_octet_Join (n : Nat) (u0 : Value) (h : Heap) : f_octet_Join n u0 h = fB (sf_octet_Join n) (it_octet_Join n) n c2_octet_Join rs_octet_Join ps_octet_Join (u0, ()) h := by kernel_rfl
noncomputable def s_octet_Join (n : Nat) : Sf1 := mkSf ps_octet_Join rs_octet_Join fun a h => f_octet_Join n a.1 h
/- wicket/sector.Load -/
def c2_sector_Load : C2 := .seq (.reg [rg 2 (.move (.const (.pointer none))) .ptr, rg 3 (.move (.const (.int .i64 0))) .i]) <|
 .seq (.reg [rg 7 (.move 0) .any, rg 8 (.lenS 7) .i, rg 9 (.bin .quo 8 (.const (.int .i64 64))) .i, rg 4 (.move 9) .i]) <|
 .seq (.seq (.cutn [(21, .bool)] <|
 .reg [rg 10 (.move 4) .i, rg 11 (.bin .lss 10 (.const (.int .i64 1))) .bool, rg 12 (.move 11) .bool, rq 13 (.move 4) 12 .i, rq 14 (.bin .gtr 13 (.const (.int .i64 4096))) 12 .bool, rg 15 (.pick 12 (.const (.bool true)) 14) .bool, rg 16 (.move 15) .bool, rq 17 (.move 0) 16 .any, rq 18 (.lenS 17) 16 .i, rq 19 (.bin .rem 18 (.const (.int .i64 64))) 16 .i, rq 20 (.bin .neq 19 (.const (.int .i64 0))) 16 .bool, rg 21 (.pick 16 (.const (.bool true)) 20) .bool]) <|
 .cond 21 (.seq (.reg [rg 2 (.move (.const (.pointer none))) .ptr, rg 3 (.move (.const (.int .i64 2))) .i]) <|
 .ret) (.skip)) <|
 .seq (.reg [rg 22 (.move 4) .i, rg 23 (.makeSlice 64 64 (List.replicate 64 (.int .u8 0)) 22 22) .any, rg 24 (.build [(.slice none 0 0), (.slice none 0 0)] [(0, 1, 23)]) .any, rg 25 (.box 24) .ptr, rg 5 (.move 25) .ptr]) <|
 .seq (.cutn [] <|
 .seq (.reg [rg 26 (.move 5) .ptr, rg 27 (.nilCheck 26) .ptr, rg 28 (.fieldAddr 0 27) .ptr, rg 29 (.load false 1 28) .any, rg 30 (.lenS 29) .i, rg 31 (.move (.const (.int .i64 0))) .i]) <|
 .block 0 <|
 .loop [(31, .i)] <|
 .seq (.reg [rg 32 (.bin .lss 31 30) .any]) <|
 .seq (.cond 32 (.skip) (.exit 0)) <|
 .seq (.block 1 <|
 .seq (.reg [rg 33 (.move 31) .i, rg 6 (.move 33) .i]) <|
 .regd [(⟨0, [], false, ⟨(some 34), .move 5, none⟩⟩, .ptr), (⟨1, [0], false, ⟨(some 35), .nilCheck 34, none⟩⟩, .ptr), (⟨2, [1, 0], false, ⟨(some 36), .fieldAddr 0 35, none⟩⟩, .ptr), (⟨3, [2, 1, 0], false, ⟨(some 37), .load false 1 36, none⟩⟩, .any), (⟨4, [], false, ⟨(some 38), .move 6, none⟩⟩, (.int .i64)), (⟨5, [], false, ⟨(some 39), .move 0, none⟩⟩, .any), (⟨6, [], false, ⟨(some 40), .move 6, none⟩⟩, (.int .i64)), (⟨7, [6], false, ⟨(some 41), .bin .mul 40 (.const (.int .i64 64)), none⟩⟩, (.int .i64)), (⟨8, [], false, ⟨(some 42), .move 6, none⟩⟩, (.int .i64)), (⟨9, [8], false, ⟨(some 43), .bin .add 42 (.const (.int .i64 1)), none⟩⟩, (.int .i64)), (⟨10, [9, 8], false, ⟨(some 44), .bin .mul 43 (.const (.int .i64 64)), none⟩⟩, (.int .i64)), (⟨11, [5, 7, 10, 6, 9, 8], false, ⟨(some 45), .slice 1 39 (some 41) (some 44) none, none⟩⟩, .any), (⟨12, [11, 5, 7, 10, 6, 9, 8], false, ⟨(some 46), .arrAt 64 45, none⟩⟩, .ptr), (⟨13, [12, 11, 5, 7, 10, 6, 9, 8], false, ⟨(some 47), .load true 64 46, none⟩⟩, .any), (⟨14, [3, 4, 0, 1, 2, 5, 6, 7, 8, 9, 10, 11, 12, 13], false, ⟨(some 48), .idxSlice 64 37 38, none⟩⟩, .ptr), (⟨15, [14, 13, 0, 1, 2, 3, 4, 5, 6, 7, 8, 9, 10, 11, 12], true, ⟨none, .store 64 48 47, none⟩⟩, .any)]) <|
 .reg [rg 49 (.bin .add 31 (.const (.int .i64 1))) .i, rg 31 (.move 49) .i]) <|
 .seq (.reg [rg 50 (.move 5) .ptr, rg 2 (.move 50) .ptr, rg 3 (.move (.const (.int .i64 0))) .i]) <|
 .ret
def f_sector_Load_L17 (n : Nat) (u0 : Value) (h4 : Heap) (n8 : Nat) (v9 : Int) (h10 : Heap) : Option (((Int × Unit) × Heap) ⊕ ((Unit) × Heap)) :=
  bif (decide (v9 < (n8 : Int))) then
    ((ldT .any h10 (some (fa (nwA h4) 0))).bind fun x11 =>
    (sliceK h10 1 (some (.int .i64 (IntKind.i64.wrap (v9 * 64)))) (some (.int .i64 (IntKind.i64.wrap ((IntKind.i64.wrap (v9 + 1)) * 64)))) none u0).bind fun p12 =>
    (arrB h10 64 p12.1).bind fun q13 =>
    (ldA 64 h10 q13).bind fun cs14 =>
    (ixB 64 x11 v9).bind fun q15 =>
    (stB 64 (.agg ⟨cs14⟩) h10 (some q15)).bind fun h16 =>
    some (.inl (((IntKind.i64.wrap (v9 + 1)), ()), h16)))
  else
    (some (.inr ((), h10)))
noncomputable def sf_sector_Load (n : Nat) : Sf := sfOf []
noncomputable def it_sector_Load (n : Nat) : It := itOf []
def f_sector_Load (n : Nat) (u0 : Value) (h : Heap) : Option ((Option Addr × Int × Unit) × Heap) :=
  (lenB u0).bind fun n0 =>
  ((bif (decide ((IntKind.i64.wrap (Int.tdiv (n0 : Int) 64)) < 1)) then
      (some ((true, ()), h))
    else
      (bif (decide (4096 < (IntKind.i64.wrap (Int.tdiv (n0 : Int) 64)))) then
        (some ((true, ()), h))
      else
        ((lenB u0).bind fun n1 =>
        some (((!decide ((Int.tmod (n1 : Int) 64) = 0)), ()), h)))) : Option ((Bool × Unit) × Heap)).bind fun a2 =>
  bif a2.1.1 then
    (some ((none, (2, ())), a2.2))
  else
    ((mkSl (Heap.next a2.2) 64 64 (List.replicate 64 (.int .u8 0)) (.int .i64 (IntKind.i64.wrap (Int.tdiv (n0 : Int) 64))) (.int .i64 (IntKind.i64.wrap (Int.tdiv (n0 : Int) 64)))).bind fun p3 =>
    bnd ((Heap.new a2.2 (p3.2))) fun h4 =>
    (fillL [(.slice none 0 0), (.slice none 0 0)] [(0, 1, p3.1)]).bind fun cs5 =>
    bif (cs5 : List Value).all isCell then
      (bnd ((Heap.new h4 (.cells cs5 false 0))) fun h6 =>
      (((ldT .any h6 (some (fa (nwA h4) 0))).bind fun x7 =>
        (lenB x7).bind fun n8 =>
        loopT (fun a => f_sector_Load_L17 n u0 h4 n8 a.1.1 a.2) n ((0, ()), h6)) : Option ((Unit) × Heap)).bind fun a18 =>
      some (((some (nwA h4)), (0, ())), a18.2))
    else
      (none))
def rs_sector_Load : Rs := [(.tmp 2, .ptr), (.tmp 3, (.int .i64))]
def ps_sector_Load : List Ty := [.any]
theorem e_sector_Load (n : Nat) (u0 : Value) (h : Heap) : f_sector_Load n u0 h = fB (sf_sector_Load n) (it_sector_Load n) n c2_sector_Load rs_sector_Load ps_sector_Load (u0, ()) h := by kernel_rfl
noncomputable def s_sector_Load (n : Nat) : Sf1 := mkSf ps_sector_Load rs_sector_Load fun a h => f_sector_Load n a.1 h
/- (*wicket/sector.Disk).Len -/
def c2_sector_Disk_Len : C2 := .seq (.reg [rg 2 (.move (.const (.int .i64 0))) .i]) <|
 .seq (.seq (.reg [rg 3 (.move 0) .ptr, rg 4 (.eqv false .ptr 3 (.const (.pointer none))) .bool]) <|
 .cond 4 (.seq (.reg [rg 2 (.move (.const (.int .i64 0))) .i]) <|
 .ret) (.skip)) <|
 .seq (.reg [rg 5 (.move 0) .ptr, rg 6 (.nilCheck 5) .ptr, rg 7 (.fieldAddr 0 6) .ptr, rg 8 (.load false 1 7) .any, rg 9 (.lenS 8) .i, rg 2 (.move 9) .i]) <|
 .ret
noncomputable def sf_sector_Disk_Len (n : Nat) : Sf := sfOf []
noncomputable def it_sector_Disk_Len (n : Nat) : It := itOf []
def f_sector_Disk_Len (n : Nat) (u0 : Option Addr) (h : Heap) : Option ((Int × Unit) × Heap) :=
  bif (Option.isNone u0) then
    (some ((0, ()), h))
  else
    ((u0).bind fun q0 =>
    (ldT .any h (some (fa q0 0))).bind fun x1 =>
    (lenB x1).bind fun n2 =>
    some (((n2 : Int), ()), h))
def rs_sector_Disk_Len : Rs := [(.tmp 2, (.int .i64))]
def ps_sector_Disk_Len : List Ty := [.ptr]
theorem e_sector_Disk_Len (n : Nat) (u0 : Option Addr) (h : Heap) : f_sector_Disk_Len n u0 h = fB (sf_sector_Disk_Len n) (it_sector_Disk_Len n) n c2_sector_Disk_Len rs_sector_Disk_Len ps_sector_Disk_Len (u0, ()) h := by kernel_rfl
noncomputable def s_sector_Disk_Len (n : Nat) : Sf1 := mkSf ps_sector_Disk_Len rs_sector_Disk_Len fun a h => f_sector_Disk_Len n a.1 h
/- (*wicket/wal.Log).End -/
def c2_wal_Log_End : C2 := .seq (.reg [rg 2 (.move (.const (.int .u64 0))) (.int .u64)]) <|
 .seq (.seq (.reg [rg 3 (.move 0) .ptr, rg 4 (.eqv false .ptr 3 (.const (.pointer none))) .bool]) <|
 .cond 4 (.seq (.reg [rg 2 (.move (.const (.int .u64 0))) (.int .u64)]) <|
 .ret) (.skip)) <|
 .seq (.reg [rg 5 (.move 0) .ptr, rg 6 (.nilCheck 5) .ptr, rg 7 (.fieldAddr 8 6) .ptr, rg 8 (.load false 1 7) (.int .u64), rg 2 (.move 8) (.int .u64)]) <|
 .ret
noncomputable def sf_wal_Log_End (n : Nat) : Sf := sfOf []
noncomputable def it_wal_Log_End (n : Nat) : It := itOf []
def f_wal_Log_End (n : Nat) (u0 : Option Addr) (h : Heap) : Option ((Int × Unit) × Heap) :=
  bif (Option.isNone u0) then
    (some ((0, ()), h))
  else
    ((u0).bind fun q0 =>
    (ldT (.int .u64) h (some (fa q0 8))).bind fun x1 =>
    some ((x1, ()), h))
def rs_wal_Log_End : Rs := [(.tmp 2, (.int .u64))]
def ps_wal_Log_End : List Ty := [.ptr]
theorem e_wal_Log_End (n : Nat) (u0 : Option Addr) (h : Heap) : f_wal_Log_End n u0 h = fB (sf_wal_Log_End n) (it_wal_Log_End n) n c2_wal_Log_End rs_wal_Log_End ps_wal_Log_End (u0, ()) h := by kernel_rfl
noncomputable def s_wal_Log_End (n : Nat) : Sf1 := mkSf ps_wal_Log_End rs_wal_Log_End fun a h => f_wal_Log_End n a.1 h
/- (*wicket/wal.Log).Tail -/
def c2_wal_Log_Tail : C2 := .seq (.reg [rg 2 (.move (.const (.int .u64 0))) (.int .u64)]) <|
 .seq (.seq (.reg [rg 3 (.move 0) .ptr, rg 4 (.eqv false .ptr 3 (.const (.pointer none))) .bool]) <|
 .cond 4 (.seq (.reg [rg 2 (.move (.const (.int .u64 0))) (.int .u64)]) <|
 .ret) (.skip)) <|
 .seq (.reg [rg 5 (.move 0) .ptr, rg 6 (.nilCheck 5) .ptr, rg 7 (.fieldAddr 7 6) .ptr, rg 8 (.load false 1 7) (.int .u64), rg 2 (.move 8) (.int .u64)]) <|
 .ret
noncomputable def sf_wal_Log_Tail (n : Nat) : Sf := sfOf []
noncomputable def it_wal_Log_Tail (n : Nat) : It := itOf []
def f_wal_Log_Tail (n : Nat) (u0 : Option Addr) (h : Heap) : Option ((Int × Unit) × Heap) :=
  bif (Option.isNone u0) then
    (some ((0, ()), h))
  else
    ((u0).bind fun q0 =>
    (ldT (.int .u64) h (some (fa q0 7))).bind fun x1 =>
    some ((x1, ()), h))
def rs_wal_Log_Tail : Rs := [(.tmp 2, (.int .u64))]
def ps_wal_Log_Tail : List Ty := [.ptr]
theorem e_wal_Log_Tail (n : Nat) (u0 : Option Addr) (h : Heap) : f_wal_Log_Tail n u0 h = fB (sf_wal_Log_Tail n) (it_wal_Log_Tail n) n c2_wal_Log_Tail rs_wal_Log_Tail ps_wal_Log_Tail (u0, ()) h := by kernel_rfl
noncomputable def s_wal_Log_Tail (n : Nat) : Sf1 := mkSf ps_wal_Log_Tail rs_wal_Log_Tail fun a h => f_wal_Log_Tail n a.1 h
/- wicket/ring.Span$1 -/
def c2_ring_Span_1 : C2 := .seq (.reg [rg 4 (.move (.const (.int .u64 0))) (.int .u64)]) <|
 .block 0 <|
 .loop [(4, (.int .u64))] <|
 .seq (.seq (.cutn [(18, .bool)] <|
 .reg [rg 5 (.move 4) (.int .u64), rg 6 (.bin .lss 5 (.const (.int .u64 64))) .bool, rg 7 (.move 6) .bool, rp 8 (.load false 1 1) 7 (.int .u64), rp 9 (.load false 1 2) 7 (.int .u64), rp 10 (.bin .lss 8 9) 7 .bool, rg 11 (.pick 7 10 (.const (.bool false))) .bool, rg 12 (.move 11) .bool, rp 13 (.move 4) 12 (.int .u64), rp 14 (.load false 1 2) 12 (.int .u64), rp 15 (.load false 1 1) 12 (.int .u64), rp 16 (.bin .sub 14 15) 12 (.int .u64), rp 17 (.bin .lss 13 16) 12 .bool, rg 18 (.pick 12 17 (.const (.bool false))) .bool]) <|
 .cond 18 (.skip) (.exit 0)) <|
 .seq (.block 1 <|
 .seq (.reg [rg 21 (.move 0) .any, rg 22 (.load false 1 1) (.int .u64), rg 23 (.move 4) (.int .u64), rg 24 (.bin .add 22 23) (.int .u64), rg 25 (.callv 21 [24]) .bool, rg 26 (.un .not 25) .bool]) <|
 .cond 26 (.ret) (.skip)) <|
 .reg [rg 19 (.move 4) (.int .u64), rg 20 (.bin .add 19 (.const (.int .u64 1))) (.int .u64), rg 4 (.move 20) (.int .u64)]
def f_ring_Span_1_L9 {V : Type} (hp : V → Heap) (up : V → Heap → V) (y : (Int × Unit) → V → Option (Bool × V)) (n : Nat) (u1 : Option Addr) (u0 : Option Addr) (v0 : Int) (w1 : V) : Option (((Int × Unit) × V) ⊕ (V)) :=
  ((bif (decide (v0 < 64)) then
      ((ldT (.int .u64) (hp w1) u0).bind fun x2 =>
      (ldT (.int .u64) (hp w1) u1).bind fun x3 =>
      bif (decide (x2 < x3)) then
        ((ldT (.int .u64) (hp w1) u1).bind fun x4 =>
        (ldT (.int .u64) (hp w1) u0).bind fun x5 =>
        some (((decide (v0 < (IntKind.u64.wrap (x4 - x5)))), ()), w1))
      else
        (some ((false, ()), w1)))
    else
      (some ((false, ()), w1))) : Option ((Bool × Unit) × V)).bind fun a6 =>
  bif a6.1.1 then
    ((ldT (.int .u64) (hp a6.2) u0).bind fun x7 =>
    (y ((IntKind.u64.wrap (x7 + v0)), ()) a6.2).bind fun p8 =>
    bif (!p8.1) then
      (some (.inr p8.2))
    else
      (some (.inl (((IntKind.u64.wrap (v0 + 1)), ()), p8.2))))
  else
    (some (.inr a6.2))
noncomputable def sf_ring_Span_1 (n : Nat) : Sf := sfOf []
noncomputable def it_ring_Span_1 (n : Nat) : It := itOf []
def f_ring_Span_1 {V : Type} (hp : V → Heap) (up : V → Heap → V) (y : (Int × Unit) → V → Option (Bool × V)) (n : Nat) (u0 : Option Addr) (u1 : Option Addr) (w : V) : Option V :=
  loopT (fun a => f_ring_Span_1_L9 hp up y n u1 u0 a.1.1 a.2) n ((0, ()), w)
theorem e_ring_Span_1 {V : Type} (hp : V → Heap) (up : V → Heap → V) (y : (Int × Unit) → V → Option (Bool × V)) (n : Nat) (u0 : Option Addr) (u1 : Option Addr) (w : V) : f_ring_Span_1 hp up y n u0 u1 w = fI (sf_ring_Span_1 n) (it_ring_Span_1 n) n c2_ring_Span_1 [] [.ptr, .ptr] [(.int .u64)] hp up y () (u0, (u1, ())) w := by kernel_rfl
noncomputable def i_ring_Span_1 (n : Nat) : It1 := mkIt [] [.ptr, .ptr] [(.int .u64)] fun hp up y _ a2 v => f_ring_Span_1 hp up y n a2.1 a2.2.1 v
/- wicket/octet.Pad -/
def c2_octet_Pad : C2 := .seq (.reg [rg 4 (.move (.const (.slice none 0 0))) .any, rg 5 (.move (.const (.int .i64 0))) .i]) <|
 .seq (.block 0 <|
 .seq (.cutn [(6, .bool)] <|
 .reg [rg 7 (.move 1) .i, rg 8 (.bin .lss 7 (.const (.int .i64 0))) .bool, rg 9 (.move 8) .bool, rq 10 (.move 1) 9 .i, rq 11 (.bin .gtr 10 (.const (.int .i64 64))) 9 .bool, rg 12 (.pick 9 (.const (.bool true)) 11) .bool, rg 6 (.move 12) .bool]) <|
 .cond 6 (.seq (.reg [rg 4 (.move (.const (.slice none 0 0))) .any, rg 5 (.move (.const (.int .i64 2))) .i]) <|
 .ret) (.seq (.reg [rg 14 (.move 0) .any, rg 15 (.lenS 14) .i, rg 16 (.move 1) .i, rg 17 (.bin .gtr 15 16) .bool, rg 13 (.move 17) .bool]) <|
 .cond 13 (.seq (.reg [rg 4 (.move (.const (.slice none 0 0))) .any, rg 5 (.move (.const (.int .i64 10))) .i]) <|
 .ret) (.skip))) <|
 .seq (.reg [rg 18 (.move 0) .any, rg 19 (.move 1) .i, rg 20 (.move 0) .any, rg 21 (.lenS 20) .i, rg 22 (.bin .sub 19 21) .i, rg 23 (.makeSlice 1 1 [(.int .u8 0)] 22 22) .any, rg 24 (.buildSlice 2 1 [(.slice none 0 0), (.slice none 0 0)] [(0, 1, 18), (1, 1, 23)]) .any, rg 25 (.call k_octet_Join [24]) .any, rg 4 (.move 25) .any, rg 5 (.move (.const (.int .i64 0))) .i]) <|
 .ret
noncomputable def sf_octet_Pad (n : Nat) : Sf := sfOf [(k_octet_Join, s_octet_Join n)]
noncomputable def it_octet_Pad (n : Nat) : It := itOf []
def f_octet_Pad (n : Nat) (u0 : Value) (u1 : Int) (h : Heap) : Option ((Value × Int × Unit) × Heap) :=
  ((bif (decide (u1 < 0)) then
      (some ((true, ()), h))
    else
      (some (((decide (64 < u1)), ()), h))) : Option ((Bool × Unit) × Heap)).bind fun a0 =>
  bif a0.1.1 then
    (some (((.slice none 0 0), (2, ())), a0.2))
  else
    ((lenB u0).bind fun n1 =>
    bif (decide (u1 < (n1 : Int))) then
      (some (((.slice none 0 0), (10, ())), a0.2))
    else
      ((lenB u0).bind fun n2 =>
      (mkSl (Heap.next a0.2) 1 1 [(.int .u8 0)] (.int .i64 (IntKind.i64.wrap (u1 - (n2 : Int)))) (.int .i64 (IntKind.i64.wrap (u1 - (n2 : Int))))).bind fun p3 =>
      bnd ((Heap.new a0.2 (p3.2))) fun h4 =>
      (fillL [(.slice none 0 0), (.slice none 0 0)] [(0, 1, u0), (1, 1, p3.1)]).bind fun cs5 =>
      bnd ((Heap.new h4 (.cells cs5 false 1))) fun h6 =>
      (f_octet_Join n (.slice (some ⟨Heap.next h4, 0, some 0⟩) 2 2) h6).bind fun p7 =>
      bif !isTuple p7.1.1 then
        (some ((p7.1.1, (0, ())), p7.2))
      else
        (none)))
def rs_octet_Pad : Rs := [(.tmp 4, .any), (.tmp 5, (.int .i64))]
def ps_octet_Pad : List Ty := [.any, (.int .i64)]
theorem e_octet_Pad (n : Nat) (u0 : Value) (u1 : Int) (h : Heap) : f_octet_Pad n u0 u1 h = fB (sf_octet_Pad n) (it_octet_Pad n) n c2_octet_Pad rs_octet_Pad ps_octet_Pad (u0, (u1, ())) h := by kernel_rfl
noncomputable def s_octet_Pad (n : Nat) : Sf1 := mkSf ps_octet_Pad rs_octet_Pad fun a h => f_octet_Pad n a.1 a.2.1 h
/- wicket/home.block -/
def c2_home_block : C2 := .seq (.reg [rg 2 (.move (.const (.bool false))) .bool]) <|
 .seq (.reg [rg 3 (.move 0) .i, rg 4 (.bin .geq 3 (.const (.int .i64 0))) .bool, rg 5 (.move 4) .bool, rp 6 (.move 0) 5 .i, rp 7 (.bin .lss 6 (.const (.int .i64 64))) 5 .bool, rg 8 (.pick 5 7 (.const (.bool false))) .bool, rg 2 (.move 8) .bool]) <|
 .ret
noncomputable def sf_home_block (n : Nat) : Sf := sfOf []
noncomputable def it_home_block (n : Nat) : It := itOf []
def f_home_block (n : Nat) (u0 : Int) (h : Heap) : Option ((Bool × Unit) × Heap) :=
  bif (decide (0 ≤ u0)) then
    (some (((decide (u0 < 64)), ()), h))
  else
    (some ((false, ()), h))
def rs_home_block : Rs := [(.tmp 2, .bool)]
def ps_home_block : List Ty := [(.int .i64)]
theorem e_home_block (n : Nat) (u0 : Int) (h : Heap) : f_home_block n u0 h = fB (sf_home_block n) (it_home_block n) n c2_home_block rs_home_block ps_home_block (u0, ()) h := by kernel_rfl
noncomputable def s_home_block (n : Nat) : Sf1 := mkSf ps_home_block rs_home_block fun a h => f_home_block n a.1 h
/- wicket/super.within -/
def c2_super_within : C2 := .seq (.reg [rg 4 (.move (.const (.bool false))) .bool]) <|
 .seq (.reg [rg 5 (.move 0) .i, rg 6 (.bin .geq 5 (.const (.int .i64 1))) .bool, rg 7 (.move 6) .bool, rp 8 (.move 0) 7 .i, rp 9 (.move 1) 7 .i, rp 10 (.bin .leq 8 9) 7 .bool, rg 11 (.pick 7 10 (.const (.bool false))) .bool, rg 4 (.move 11) .bool]) <|
 .ret
noncomputable def sf_super_within (n : Nat) : Sf := sfOf []
noncomputable def it_super_within (n : Nat) : It := itOf []
def f_super_within (n : Nat) (u0 : Int) (u1 : Int) (h : Heap) : Option ((Bool × Unit) × Heap) :=
  bif (decide (1 ≤ u0)) then
    (some (((decide (u0 ≤ u1)), ()), h))
  else
    (some ((false, ()), h))
def rs_super_within : Rs := [(.tmp 4, .bool)]
def ps_super_within : List Ty := [(.int .i64), (.int .i64)]
theorem e_super_within (n : Nat) (u0 : Int) (u1 : Int) (h : Heap) : f_super_within n u0 u1 h = fB (sf_super_within n) (it_super_within n) n c2_super_within rs_super_within ps_super_within (u0, (u1, ())) h := by kernel_rfl
noncomputable def s_super_within (n : Nat) : Sf1 := mkSf ps_super_within rs_super_within fun a h => f_super_within n a.1 a.2.1 h
/- (*wicket/sector.Disk).asked -/
def c2_sector_Disk_asked : C2 := .seq (.reg [rg 4 (.move (.const (.int .i64 0))) .i]) <|
 .seq (.block 0 <|
 .seq (.reg [rg 6 (.move 0) .ptr, rg 7 (.eqv false .ptr 6 (.const (.pointer none))) .bool, rg 5 (.move 7) .bool]) <|
 .cond 5 (.seq (.reg [rg 4 (.move (.const (.int .i64 1))) .i]) <|
 .ret) (.seq (.cutn [(8, .bool)] <|
 .reg [rg 9 (.move 1) .i, rg 10 (.bin .lss 9 (.const (.int .i64 0))) .bool, rg 11 (.move 10) .bool, rq 12 (.move 1) 11 .i, rq 13 (.move 0) 11 .ptr, rq 14 (.nilCheck 13) 11 .ptr, rq 15 (.fieldAddr 0 14) 11 .ptr, rq 16 (.load false 1 15) 11 .any, rq 17 (.lenS 16) 11 .i, rq 18 (.bin .geq 12 17) 11 .bool, rg 19 (.pick 11 (.const (.bool true)) 18) .bool, rg 8 (.move 19) .bool]) <|
 .cond 8 (.seq (.reg [rg 4 (.move (.const (.int .i64 40))) .i]) <|
 .ret) (.skip))) <|
 .seq (.reg [rg 4 (.move (.const (.int .i64 0))) .i]) <|
 .ret
noncomputable def sf_sector_Disk_asked (n : Nat) : Sf := sfOf []
noncomputable def it_sector_Disk_asked (n : Nat) : It := itOf []
def f_sector_Disk_asked (n : Nat) (u0 : Option Addr) (u1 : Int) (h : Heap) : Option ((Int × Unit) × Heap) :=
  bif (Option.isNone u0) then
    (some ((1, ()), h))
  else
    (((bif (decide (u1 < 0)) then
        (some ((true, ()), h))
      else
        ((u0).bind fun q0 =>
        (ldT .any h (some (fa q0 0))).bind fun x1 =>
        (lenB x1).bind fun n2 =>
        some (((decide ((n2 : Int) ≤ u1)), ()), h))) : Option ((Bool × Unit) × Heap)).bind fun a3 =>
    bif a3.1.1 then
      (some ((40, ()), a3.2))
    else
      (some ((0, ()), a3.2)))
def rs_sector_Disk_asked : Rs := [(.tmp 4, (.int .i64))]
def ps_sector_Disk_asked : List Ty := [.ptr, (.int .i64)]
theorem e_sector_Disk_asked (n : Nat) (u0 : Option Addr) (u1 : Int) (h : Heap) : f_sector_Disk_asked n u0 u1 h = fB (sf_sector_Disk_asked n) (it_sector_Disk_asked n) n c2_sector_Disk_asked rs_sector_Disk_asked ps_sector_Disk_asked (u0, (u1, ())) h := by kernel_rfl
noncomputable def s_sector_Disk_asked (n : Nat) : Sf1 := mkSf ps_sector_Disk_asked rs_sector_Disk_asked fun a h => f_sector_Disk_asked n a.1 a.2.1 h
/- slices.Clone[[]byte,byte] -/
def c2_slices_Clone_byte_byte : C2 := .seq (.reg [rg 2 (.move (.const (.slice none 0 0))) .any]) <|
 .seq (.seq (.reg [rg 3 (.move 0) .any, rg 4 (.eqv false .slice 3 (.const (.slice none 0 0))) .bool]) <|
 .cond 4 (.seq (.reg [rg 2 (.move (.const (.slice none 0 0))) .any]) <|
 .ret) (.skip)) <|
 .seq (.reg [rg 5 (.buildSlice 0 1 [] []) .any, rg 6 (.move 0) .any, rg 7 (.append 1 1 5 6) .any, rg 2 (.move 7) .any]) <|
 .ret
noncomputable def sf_slices_Clone_byte_byte (n : Nat) : Sf := sfOf []
noncomputable def it_slices_Clone_byte_byte (n : Nat) : It := itOf []
def f_slices_Clone_byte_byte (n : Nat) (u0 : Value) (h : Heap) : Option ((Value × Unit) × Heap) :=
  (eqVals h .slice u0 (.slice none 0 0)).bind fun b0 =>
  bif b0 then
    (some (((.slice none 0 0), ()), h))
  else
    ((fillL [] []).bind fun cs1 =>
    bnd ((Heap.new h (.cells cs1 false 1))) fun h2 =>
    (appendK h2 1 1 (.slice (some ⟨Heap.next h, 0, some 0⟩) 0 0) u0).bind fun p3 =>
    bif !isTuple p3.1 then
      (some ((p3.1, ()), p3.2))
    else
      (none))
def rs_slices_Clone_byte_byte : Rs := [(.tmp 2, .any)]
def ps_slices_Clone_byte_byte : List Ty := [.any]
theorem e_slices_Clone_byte_byte (n : Nat) (u0 : Value) (h : Heap) : f_slices_Clone_byte_byte n u0 h = fB (sf_slices_Clone_byte_byte n) (it_slices_Clone_byte_byte n) n c2_slices_Clone_byte_byte rs_slices_Clone_byte_byte ps_slices_Clone_byte_byte (u0, ()) h := by kernel_rfl
noncomputable def s_slices_Clone_byte_byte (n : Nat) : Sf1 := mkSf ps_slices_Clone_byte_byte rs_slices_Clone_byte_byte fun a h => f_slices_Clone_byte_byte n a.1 h
/- wicket/super.sizes -/
def c2_super_sizes : C2 := .seq (.reg [rg 0 (.move (.const (.slice none 0 0))) .any]) <|
 .seq (.reg [rg 1 (.move (.const (.slice none 0 0))) .any]) <|
 .seq (.seq (.reg [rg 4 (.load true 10 (.global 0)) .any, rg 5 (.move (.const (.int .i64 0))) .i]) <|
 .block 0 <|
 .loop [(1, .any), (5, .i)] <|
 .seq (.reg [rg 6 (.bin .lss 5 (.const (.int .i64 10))) .any]) <|
 .seq (.cond 6 (.skip) (.exit 0)) <|
 .seq (.block 1 <|
 .seq (.reg [rg 7 (.index false 10 1 4 5) .i, rg 3 (.move 7) .i]) <|
 .reg [rg 8 (.move 1) .any, rg 9 (.move 3) .i, rg 10 (.buildSlice 1 1 [(.int .i64 0)] [(0, 1, 9)]) .any, rg 11 (.append 8 1 8 10) .any, rg 1 (.move 11) .any]) <|
 .reg [rg 12 (.bin .add 5 (.const (.int .i64 1))) .i, rg 5 (.move 12) .i]) <|
 .seq (.reg [rg 13 (.move 1) .any, rg 0 (.move 13) .any]) <|
 .ret
def f_super_sizes_L8 (n : Nat) (cs0 : List Value) (v1 : Value) (v2 : Int) (h3 : Heap) : Option (((Value × Int × Unit) × Heap) ⊕ ((Value × Unit) × Heap)) :=
  bif (decide (v2 < 10)) then
    ((aixT (.int .i64) 10 (.agg ⟨cs0⟩) v2).bind fun x4 =>
    (fillL [(.int .i64 0)] [(0, 1, (.int .i64 x4))]).bind fun cs5 =>
    bnd ((Heap.new h3 (.cells cs5 false 1))) fun h6 =>
    (appendK h6 8 1 v1 (.slice (some ⟨Heap.next h3, 0, some 0⟩) 1 1)).bind fun p7 =>
    some (.inl ((p7.1, ((IntKind.i64.wrap (v2 + 1)), ())), p7.2)))
  else
    (Option.map Sum.inr (bif !isTuple v1 then
      (some ((v1, ()), h3))
    else
      (none)))
noncomputable def sf_super_sizes (n : Nat) : Sf := sfOf []
noncomputable def it_super_sizes (n : Nat) : It := itOf []
def f_super_sizes (n : Nat)  (h : Heap) : Option ((Value × Unit) × Heap) :=
  (ldA 10 h (some ⟨0, 0, none⟩)).bind fun cs0 =>
  loopT (fun a => f_super_sizes_L8 n cs0 a.1.1 a.1.2.1 a.2) n (((.slice none 0 0), (0, ())), h)
def rs_super_sizes : Rs := [(.tmp 0, .any)]
def ps_super_sizes : List Ty := []
theorem e_super_sizes (n : Nat)  (h : Heap) : f_super_sizes n h = fB (sf_super_sizes n) (it_super_sizes n) n c2_super_sizes rs_super_sizes ps_super_sizes () h := by kernel_rfl
noncomputable def s_super_sizes (n : Nat) : Sf1 := mkSf ps_super_sizes rs_super_sizes fun a h => f_super_sizes n h
/- bytes.Equal -/
def c2_bytes_Equal : C2 := .seq (.reg [rg 4 (.move (.const (.bool false))) .bool]) <|
 .seq (.reg [rg 5 (.move 0) .any, rg 6 (.toStr 5) .any, rg 7 (.move 1) .any, rg 8 (.toStr 7) .any, rg 9 (.bins .eql 6 8) .bool, rg 4 (.move 9) .bool]) <|
 .ret
noncomputable def sf_bytes_Equal (n : Nat) : Sf := sfOf []
noncomputable def it_bytes_Equal (n : Nat) : It := itOf []
def f_bytes_Equal (n : Nat) (u0 : Value) (u1 : Value) (h : Heap) : Option ((Bool × Unit) × Heap) :=
  (toStrK h u0).bind fun p0 =>
  (toStrK h u1).bind fun p1 =>
  (binsT .bool h .eql p0.1 p1.1).bind fun x2 =>
  some ((x2, ()), h)
def rs_bytes_Equal : Rs := [(.tmp 4, .bool)]
def ps_bytes_Equal : List Ty := [.any, .any]
theorem e_bytes_Equal (n : Nat) (u0 : Value) (u1 : Value) (h : Heap) : f_bytes_Equal n u0 u1 h = fB (sf_bytes_Equal n) (it_bytes_Equal n) n c2_bytes_Equal rs_bytes_Equal ps_bytes_Equal (u0, (u1, ())) h := by kernel_rfl
noncomputable def s_bytes_Equal (n : Nat) : Sf1 := mkSf ps_bytes_Equal rs_bytes_Equal fun a h => f_bytes_Equal n a.1 a.2.1 h
/- wicket/ring.round -/
def c2_ring_round : C2 := .seq (.reg [rg 2 (.move (.const (.bool false))) .bool]) <|
 .seq (.reg [rg 3 (.move 0) .i, rg 4 (.bin .geq 3 (.const (.int .i64 2))) .bool, rg 5 (.move 4) .bool, rp 6 (.move 0) 5 .i, rp 7 (.bin .leq 6 (.const (.int .i64 64))) 5 .bool, rg 8 (.pick 5 7 (.const (.bool false))) .bool, rg 2 (.move 8) .bool]) <|
 .ret
noncomputable def sf_ring_round (n : Nat) : Sf := sfOf []
noncomputable def it_ring_round (n : Nat) : It := itOf []
def f_ring_round (n : Nat) (u0 : Int) (h : Heap) : Option ((Bool × Unit) × Heap) :=
  bif (decide (2 ≤ u0)) then
    (some (((decide (u0 ≤ 64)), ()), h))
  else
    (some ((false, ()), h))
def rs_ring_round : Rs := [(.tmp 2, .bool)]
def ps_ring_round : List Ty := [(.int .i64)]
theorem e_ring_round (n : Nat) (u0 : Int) (h : Heap) : f_ring_round n u0 h = fB (sf_ring_round n) (it_ring_round n) n c2_ring_round rs_ring_round ps_ring_round (u0, ()) h := by kernel_rfl
noncomputable def s_ring_round (n : Nat) : Sf1 := mkSf ps_ring_round rs_ring_round fun a h => f_ring_round n a.1 h
/- wicket/record.Check -/
def c2_record_Check : C2 := .seq (.reg [rg 1 (.box 0) .ptr, rg 2 (.move (.const (.int .i64 0))) .i]) <|
 .seq (.reg [rg 4 (.fieldAddr 1 1) .ptr, rg 5 (.load false 1 4) (.int .u64), rg 6 (.bin .leq 5 (.const (.int .u64 4611686018427387904))) .bool, rg 3 (.move 6) .bool]) <|
 .seq (.cutn [(3, .bool)] <|
 .seq (.reg [rg 7 (.fieldAddr 0 1) .ptr, rg 8 (.load false 1 7) .i]) <|
 .block 0 <|
 .seq (.reg [rg 10 (.bin .eql 8 (.const (.int .i64 1))) .bool, rg 9 (.move 10) .bool]) <|
 .cond 9 (.reg [rg 11 (.move 3) .bool, rg 12 (.move 11) .bool, rp 13 (.fieldAddr 2 1) 12 .ptr, rp 14 (.load false 1 13) 12 .i, rp 15 (.bin .geq 14 (.const (.int .i64 0))) 12 .bool, rg 16 (.pick 12 15 (.const (.bool false))) .bool, rg 17 (.move 16) .bool, rp 18 (.fieldAddr 2 1) 17 .ptr, rp 19 (.load false 1 18) 17 .i, rp 20 (.bin .lss 19 (.const (.int .i64 64))) 17 .bool, rg 21 (.pick 17 20 (.const (.bool false))) .bool, rg 22 (.move 21) .bool, rp 23 (.fieldAddr 35 1) 22 .ptr, rp 24 (.load false 1 23) 22 .i, rp 25 (.bin .eql 24 (.const (.int .i64 0))) 22 .bool, rg 26 (.pick 22 25 (.const (.bool false))) .bool, rg 3 (.move 26) .bool]) (.seq (.reg [rg 28 (.bin .eql 8 (.const (.int .i64 2))) .bool, rg 27 (.move 28) .bool]) <|
 .cond 27 (.reg [rg 29 (.move 3) .bool, rg 30 (.move 29) .bool, rp 31 (.fieldAddr 35 1) 30 .ptr, rp 32 (.load false 1 31) 30 .i, rp 33 (.bin .geq 32 (.const (.int .i64 0))) 30 .bool, rg 34 (.pick 30 33 (.const (.bool false))) .bool, rg 35 (.move 34) .bool, rp 36 (.fieldAddr 35 1) 35 .ptr, rp 37 (.load false 1 36) 35 .i, rp 38 (.bin .leq 37 (.const (.int .i64 16))) 35 .bool, rg 39 (.pick 35 38 (.const (.bool false))) .bool, rg 40 (.move 39) .bool, rp 41 (.fieldAddr 2 1) 40 .ptr, rp 42 (.load false 1 41) 40 .i, rp 43 (.bin .eql 42 (.const (.int .i64 0))) 40 .bool, rg 44 (.pick 40 43 (.const (.bool false))) .bool, rg 45 (.move 44) .bool, rp 46 (.fieldAddr 3 1) 45 .ptr, rp 47 (.load true 32 46) 45 .any, rp 48 (.build (List.replicate 32 (.int .u8 0)) []) 45 .any, rp 49 (.eqv false (.agg (List.replicate 32 false)) 47 48) 45 .bool, rg 50 (.pick 45 49 (.const (.bool false))) .bool, rg 3 (.move 50) .bool]) (.reg [rg 3 (.move (.const (.bool false))) .bool]))) <|
 .seq (.seq (.reg [rg 51 (.move 3) .bool, rg 52 (.un .not 51) .bool]) <|
 .cond 52 (.seq (.reg [rg 2 (.move (.const (.int .i64 60))) .i]) <|
 .ret) (.skip)) <|
 .seq (.reg [rg 2 (.move (.const (.int .i64 0))) .i]) <|
 .ret
noncomputable def sf_record_Check (n : Nat) : Sf := sfOf []
noncomputable def it_record_Check (n : Nat) : It := itOf []
def f_record_Check (n : Nat) (u0 : Value) (h : Heap) : Option ((Int × Unit) × Heap) :=
  bif (cellsOf u0).all isCell then
    (bnd ((Heap.new h (.cells (cellsOf u0) false 0))) fun h0 =>
    (ldT (.int .u64) h0 (some (fa (nwA h) 1))).bind fun x1 =>
    (((ldT (.int .i64) h0 (some (fa (nwA h) 0))).bind fun x2 =>
      bif (decide (x2 = 1)) then
        (bif (decide (x1 ≤ 4611686018427387904)) then
          ((ldT (.int .i64) h0 (some (fa (nwA h) 2))).bind fun x3 =>
          bif (decide (0 ≤ x3)) then
            ((ldT (.int .i64) h0 (some (fa (nwA h) 2))).bind fun x4 =>
            bif (decide (x4 < 64)) then
              ((ldT (.int .i64) h0 (some (fa (nwA h) 35))).bind fun x5 =>
              some (((decide (x5 = 0)), ()), h0))
            else
              (some ((false, ()), h0)))
          else
            (some ((false, ()), h0)))
        else
          (some ((false, ()), h0)))
      else
        (bif (decide (x2 = 2)) then
          (bif (decide (x1 ≤ 4611686018427387904)) then
            ((ldT (.int .i64) h0 (some (fa (nwA h) 35))).bind fun x6 =>
            bif (decide (0 ≤ x6)) then
              ((ldT (.int .i64) h0 (some (fa (nwA h) 35))).bind fun x7 =>
              bif (decide (x7 ≤ 16)) then
                ((ldT (.int .i64) h0 (some (fa (nwA h) 2))).bind fun x8 =>
                bif (decide (x8 = 0)) then
                  ((ldA 32 h0 (some (fa (nwA h) 3))).bind fun cs9 =>
                  (fillL (List.replicate 32 (.int .u8 0)) []).bind fun cs10 =>
                  (eqVals h0 (.agg (List.replicate 32 false)) (.agg ⟨cs9⟩) (.agg ⟨cs10⟩)).bind fun b11 =>
                  some ((b11, ()), h0))
                else
                  (some ((false, ()), h0)))
              else
                (some ((false, ()), h0)))
            else
              (some ((false, ()), h0)))
          else
            (some ((false, ()), h0)))
        else
          (some ((false, ()), h0)))) : Option ((Bool × Unit) × Heap)).bind fun a12 =>
    bif (!a12.1.1) then
      (some ((60, ()), a12.2))
    else
      (some ((0, ()), a12.2)))
  else
    (none)
def rs_record_Check : Rs := [(.tmp 2, (.int .i64))]
def ps_record_Check : List Ty := [.any]
theorem e_record_Check (n : Nat) (u0 : Value) (h : Heap) : f_record_Check n u0 h = fB (sf_record_Check n) (it_record_Check n) n c2_record_Check rs_record_Check ps_record_Check (u0, ()) h := by kernel_rfl
noncomputable def s_record_Check (n : Nat) : Sf1 := mkSf ps_record_Check rs_record_Check fun a h => f_record_Check n a.1 h
/- wicket/octet.may -/
def c2_octet_may : C2 := .seq (.reg [rg 2 (.move (.const (.bool false))) .bool]) <|
 .seq (.reg [rg 3 (.move 0) .i, rg 4 (.bin .geq 3 (.const (.int .i64 1))) .bool, rg 5 (.move 4) .bool, rp 6 (.move 0) 5 .i, rp 7 (.bin .leq 6 (.const (.int .i64 8))) 5 .bool, rg 8 (.pick 5 7 (.const (.bool false))) .bool, rg 2 (.move 8) .bool]) <|
 .ret
noncomputable def sf_octet_may (n : Nat) : Sf := sfOf []
noncomputable def it_octet_may (n : Nat) : It := itOf []
def f_octet_may (n : Nat) (u0 : Int) (h : Heap) : Option ((Bool × Unit) × Heap) :=
  bif (decide (1 ≤ u0)) then
    (some (((decide (u0 ≤ 8)), ()), h))
  else
    (some ((false, ()), h))
def rs_octet_may : Rs := [(.tmp 2, .bool)]
def ps_octet_may : List Ty := [(.int .i64)]
theorem e_octet_may (n : Nat) (u0 : Int) (h : Heap) : f_octet_may n u0 h = fB (sf_octet_may n) (it_octet_may n) n c2_octet_may rs_octet_may ps_octet_may (u0, ()) h := by kernel_rfl
noncomputable def s_octet_may (n : Nat) : Sf1 := mkSf ps_octet_may rs_octet_may fun a h => f_octet_may n a.1 h
/- wicket/sum.push -/
def c2_sum_push : C2 := .seq (.reg [rg 4 (.move (.const (.int .u32 0))) (.int .u32)]) <|
 .seq (.reg [rg 5 (.move 0) (.int .u32), rg 6 (.move 1) .u, rg 7 (.conv .u32 6) (.int .u32), rg 8 (.bin .xor 5 7) (.int .u32), rg 0 (.move 8) (.int .u32)]) <|
 .seq (.reg [rg 9 (.move 0) (.int .u32), rg 10 (.bin .and 9 (.const (.int .u32 15))) (.int .u32), rg 11 (.idxArr 16 1 (.global 1) 10) .ptr, rg 12 (.load false 1 11) (.int .u32), rg 13 (.move 0) (.int .u32), rg 14 (.bin .shr 13 (.const (.int .u64 4))) (.int .u32), rg 15 (.bin .xor 12 14) (.int .u32), rg 0 (.move 15) (.int .u32)]) <|
 .seq (.reg [rg 16 (.move 0) (.int .u32), rg 17 (.bin .and 16 (.const (.int .u32 15))) (.int .u32), rg 18 (.idxArr 16 1 (.global 1) 17) .ptr, rg 19 (.load false 1 18) (.int .u32), rg 20 (.move 0) (.int .u32), rg 21 (.bin .shr 20 (.const (.int .u64 4))) (.int .u32), rg 22 (.bin .xor 19 21) (.int .u32), rg 4 (.move 22) (.int .u32)]) <|
 .ret
noncomputable def sf_sum_push (n : Nat) : Sf := sfOf []
noncomputable def it_sum_push (n : Nat) : It := itOf []
def f_sum_push (n : Nat) (u0 : Int) (u1 : Int) (h : Heap) : Option ((Int × Unit) × Heap) :=
  (bitB .xor .u32 u0 .u32 (IntKind.u32.wrap (u1))).bind fun x0 =>
  (bitB .and .u32 x0 .u32 15).bind fun x1 =>
  (ixA 16 1 (some ⟨1, 0, none⟩) x1).bind fun q2 =>
  (ldT (.int .u32) h (some q2)).bind fun x3 =>
  (bitB .shr .u32 x0 .u64 4).bind fun x4 =>
  (bitB .xor .u32 x3 .u32 x4).bind fun x5 =>
  (bitB .and .u32 x5 .u32 15).bind fun x6 =>
  (ixA 16 1 (some ⟨1, 0, none⟩) x6).bind fun q7 =>
  (ldT (.int .u32) h (some q7)).bind fun x8 =>
  (bitB .shr .u32 x5 .u64 4).bind fun x9 =>
  (bitB .xor .u32 x8 .u32 x9).bind fun x10 =>
  some ((x10, ()), h)
def rs_sum_push : Rs := [(.tmp 4, (.int .u32))]
def ps_sum_push : List Ty := [(.int .u32), (.int .u8)]
theorem e_sum_push (n : Nat) (u0 : Int) (u1 : Int) (h : Heap) : f_sum_push n u0 u1 h = fB (sf_sum_push n) (it_sum_push n) n c2_sum_push rs_sum_push ps_sum_push (u0, (u1, ())) h := by kernel_rfl
noncomputable def s_sum_push (n : Nat) : Sf1 := mkSf ps_sum_push rs_sum_push fun a h => f_sum_push n a.1 a.2.1 h
/- slices.Backward[[]wicket/sector.waiting,wicket/sector.waiting]$1 -/
def c2_slices_Backward_sector_waiting_sector_waiting_1 : C2 := .seq (.reg [rg 4 (.load false 1 1) .any, rg 5 (.lenS 4) .i, rg 6 (.bin .sub 5 (.const (.int .i64 1))) .i, rg 3 (.move 6) .i]) <|
 .block 0 <|
 .loop [(3, .i)] <|
 .seq (.seq (.reg [rg 7 (.move 3) .i, rg 8 (.bin .geq 7 (.const (.int .i64 0))) .bool]) <|
 .cond 8 (.skip) (.exit 0)) <|
 .seq (.block 1 <|
 .seq (.reg [rg 11 (.move 0) .any, rg 12 (.move 3) .i, rg 13 (.load false 1 1) .any, rg 14 (.move 3) .i, rg 15 (.idxSlice 65 13 14) .ptr, rg 16 (.load true 65 15) .any, rg 17 (.callv 11 [12, 16]) .bool, rg 18 (.un .not 17) .bool]) <|
 .cond 18 (.ret) (.skip)) <|
 .reg [rg 9 (.move 3) .i, rg 10 (.bin .sub 9 (.const (.int .i64 1))) .i, rg 3 (.move 10) .i]
def f_slices_Backward_sector_waiting_sector_waiting_1_L8 {V : Type} (hp : V → Heap) (up : V → Heap → V) (y : (Int × Value × Unit) → V → Option (Bool × V)) (n : Nat) (u0 : Option Addr) (v2 : Int) (w3 : V) : Option (((Int × Unit) × V) ⊕ (V)) :=
  bif (decide (0 ≤ v2)) then
    ((ldT .any (hp w3) u0).bind fun x4 =>
    (ixB 65 x4 v2).bind fun q5 =>
    (ldA 65 (hp w3) (some q5)).bind fun cs6 =>
    (y (v2, ((.agg ⟨cs6⟩), ())) w3).bind fun p7 =>
    bif (!p7.1) then
      (some (.inr p7.2))
    else
      (some (.inl (((IntKind.i64.wrap (v2 - 1)), ()), p7.2))))
  else
    (some (.inr w3))
noncomputable def sf_slices_Backward_sector_waiting_sector_waiting_1 (n : Nat) : Sf := sfOf []
noncomputable def it_slices_Backward_sector_waiting_sector_waiting_1 (n : Nat) : It := itOf []
def f_slices_Backward_sector_waiting_sector_waiting_1 {V : Type} (hp : V → Heap) (up : V → Heap → V) (y : (Int × Value × Unit) → V → Option (Bool × V)) (n : Nat) (u0 : Option Addr) (w : V) : Option V :=
  (ldT .any (hp w) u0).bind fun x0 =>
  (lenB x0).bind fun n1 =>
  loopT (fun a => f_slices_Backward_sector_waiting_sector_waiting_1_L8 hp up y n u0 a.1.1 a.2) n (((IntKind.i64.wrap ((n1 : Int) - 1)), ()), w)
theorem e_slices_Backward_sector_waiting_sector_waiting_1 {V : Type} (hp : V → Heap) (up : V → Heap → V) (y : (Int × Value × Unit) → V → Option (Bool × V)) (n : Nat) (u0 : Option Addr) (w : V) : f_slices_Backward_sector_waiting_sector_waiting_1 hp up y n u0 w = fI (sf_slices_Backward_sector_waiting_sector_waiting_1 n) (it_slices_Backward_sector_waiting_sector_waiting_1 n) n c2_slices_Backward_sector_waiting_sector_waiting_1 [] [.ptr] [(.int .i64), .any] hp up y () (u0, ()) w := by kernel_rfl
noncomputable def i_slices_Backward_sector_waiting_sector_waiting_1 (n : Nat) : It1 := mkIt [] [.ptr] [(.int .i64), .any] fun hp up y _ a2 v => f_slices_Backward_sector_waiting_sector_waiting_1 hp up y n a2.1 v
/- wicket/octet.number -/
def c2_octet_number : C2 := .seq (.reg [rg 2 (.move (.const (.int .u64 0))) (.int .u64)]) <|
 .seq (.reg [rg 3 (.move (.const (.int .u64 0))) (.int .u64)]) <|
 .seq (.seq (.reg [rg 5 (.move 0) .any, rg 6 (.lenS 5) .i, rg 7 (.bin .sub 6 (.const (.int .i64 1))) .i, rg 4 (.move 7) .i]) <|
 .block 0 <|
 .loop [(3, (.int .u64)), (4, .i)] <|
 .seq (.seq (.reg [rg 8 (.move 4) .i, rg 9 (.bin .geq 8 (.const (.int .i64 0))) .bool]) <|
 .cond 9 (.skip) (.exit 0)) <|
 .seq (.block 1 <|
 .reg [rg 12 (.move 3) (.int .u64), rg 13 (.bin .shl 12 (.const (.int .u64 8))) (.int .u64), rg 14 (.move 0) .any, rg 15 (.move 4) .i, rg 16 (.idxSlice 1 14 15) .ptr, rg 17 (.load false 1 16) .u, rg 18 (.conv .u64 17) (.int .u64), rg 19 (.bin .or 13 18) (.int .u64), rg 3 (.move 19) (.int .u64)]) <|
 .reg [rg 10 (.move 4) .i, rg 11 (.bin .sub 10 (.const (.int .i64 1))) .i, rg 4 (.move 11) .i]) <|
 .seq (.reg [rg 20 (.move 3) (.int .u64), rg 2 (.move 20) (.int .u64)]) <|
 .ret
def f_octet_number_L8 (n : Nat) (u0 : Value) (v1 : Int) (v2 : Int) (h3 : Heap) : Option (((Int × Int × Unit) × Heap) ⊕ ((Int × Unit) × Heap)) :=
  bif (decide (0 ≤ v2)) then
    ((bitB .shl .u64 v1 .u64 8).bind fun x4 =>
    (ixB 1 u0 v2).bind fun q5 =>
    (ldT (.int .u8) h3 (some q5)).bind fun x6 =>
    (bitB .or .u64 x4 .u64 (IntKind.u64.wrap (x6))).bind fun x7 =>
    some (.inl ((x7, ((IntKind.i64.wrap (v2 - 1)), ())), h3)))
  else
    (some (.inr ((v1, ()), h3)))
noncomputable def sf_octet_number (n : Nat) : Sf := sfOf []
noncomputable def it_octet_number (n : Nat) : It := itOf []
def f_octet_number (n : Nat) (u0 : Value) (h : Heap) : Option ((Int × Unit) × Heap) :=
  (lenB u0).bind fun n0 =>
  loopT (fun a => f_octet_number_L8 n u0 a.1.1 a.1.2.1 a.2) n ((0, ((IntKind.i64.wrap ((n0 : Int) - 1)), ())), h)
def rs_octet_number : Rs := [(.tmp 2, (.int .u64))]
def ps_octet_number : List Ty := [.any]
theorem e_octet_number (n : Nat) (u0 : Value) (h : Heap) : f_octet_number n u0 h = fB (sf_octet_number n) (it_octet_number n) n c2_octet_number rs_octet_number ps_octet_number (u0, ()) h := by kernel_rfl
noncomputable def s_octet_number (n : Nat) : Sf1 := mkSf ps_octet_number rs_octet_number fun a h => f_octet_number n a.1 h
/- (*wicket/wal.Log).Flush -/
def c2_wal_Log_Flush : C2 := .seq (.reg [rg 2 (.move (.const (.int .i64 0))) .i, rg 3 (.move (.const (.int .i64 0))) .i]) <|
 .seq (.seq (.reg [rg 4 (.move 0) .ptr, rg 5 (.call k_wal_Log_none [4]) .bool]) <|
 .cond 5 (.seq (.reg [rg 2 (.move (.const (.int .i64 0))) .i, rg 3 (.move (.const (.int .i64 1))) .i]) <|
 .ret) (.skip)) <|
 .seq (.reg [rg 6 (.move 0) .ptr, rg 7 (.nilCheck 6) .ptr, rg 8 (.fieldAddr 0 7) .ptr, rg 9 (.load false 1 8) .ptr, rg 10 (.call k_sector_Disk_Flush [9]) .any, rg 11 (.extract 10 0) .i, rg 12 (.extract 10 1) .i, rg 2 (.move 11) .i, rg 3 (.move 12) .i]) <|
 .ret
noncomputable def sf_wal_Log_Flush (n : Nat) : Sf := sfOf [(k_wal_Log_none, s_wal_Log_none n), (k_sector_Disk_Flush, s_sector_Disk_Flush n)]
noncomputable def it_wal_Log_Flush (n : Nat) : It := itOf []
def f_wal_Log_Flush (n : Nat) (u0 : Option Addr) (h : Heap) : Option ((Int × Int × Unit) × Heap) :=
  (f_wal_Log_none n u0 h).bind fun p0 =>
  bif p0.1.1 then
    (some ((0, (1, ())), p0.2))
  else
    ((u0).bind fun q1 =>
    (ldT .ptr p0.2 (some (fa q1 0))).bind fun x2 =>
    (f_sector_Disk_Flush n x2 p0.2).bind fun p3 =>
    some ((p3.1.1, (p3.1.2.1, ())), p3.2))
def rs_wal_Log_Flush : Rs := [(.tmp 2, (.int .i64)), (.tmp 3, (.int .i64))]
def ps_wal_Log_Flush : List Ty := [.ptr]
theorem e_wal_Log_Flush (n : Nat) (u0 : Option Addr) (h : Heap) : f_wal_Log_Flush n u0 h = fB (sf_wal_Log_Flush n) (it_wal_Log_Flush n) n c2_wal_Log_Flush rs_wal_Log_Flush ps_wal_Log_Flush (u0, ()) h := by kernel_rfl
noncomputable def s_wal_Log_Flush (n : Nat) : Sf1 := mkSf ps_wal_Log_Flush rs_wal_Log_Flush fun a h => f_wal_Log_Flush n a.1 h
/- wicket/wicketlaw10.config -/
def c2_w10_config : C2 := .seq (.reg [rg 1 (.box 0) .ptr, rg 2 (.alloc (List.replicate 5 (.int .i64 0))) .ptr]) <|
 .seq (.reg [rg 3 (.move (.func k_w10_config_1)) .any]) <|
 .seq (.reg [rg 4 (.move 3) .any, rg 5 (.fieldAddr 0 1) .ptr, rg 6 (.load false 1 5) .i, rg 7 (.callv 4 [6, (.const (.int .i64 6))]) .i, rg 8 (.fieldAddr 0 1) .ptr, rn (.store 1 8 7) .any]) <|
 .seq (.reg [rg 9 (.move 3) .any, rg 10 (.fieldAddr 1 1) .ptr, rg 11 (.load false 1 10) .i, rg 12 (.callv 9 [11, (.const (.int .i64 12))]) .i, rg 13 (.bin .add (.const (.int .i64 1)) 12) .i, rg 14 (.fieldAddr 1 1) .ptr, rn (.store 1 14 13) .any]) <|
 .seq (.reg [rg 15 (.move 3) .any, rg 16 (.fieldAddr 2 1) .ptr, rg 17 (.load false 1 16) .i, rg 18 (.fieldAddr 0 1) .ptr, rg 19 (.load false 1 18) .i, rg 20 (.fieldAddr 1 1) .ptr, rg 21 (.load false 1 20) .i, rg 22 (.bin .sub 21 (.const (.int .i64 1))) .i, rg 23 (.minmax false [19, 22]) .i, rg 24 (.callv 15 [17, 23]) .i, rg 25 (.fieldAddr 2 1) .ptr, rn (.store 1 25 24) .any]) <|
 .seq (.reg [rg 26 (.move 3) .any, rg 27 (.fieldAddr 3 1) .ptr, rg 28 (.load false 1 27) .i, rg 29 (.fieldAddr 1 1) .ptr, rg 30 (.load false 1 29) .i, rg 31 (.callv 26 [28, 30]) .i, rg 32 (.fieldAddr 3 1) .ptr, rn (.store 1 32 31) .any]) <|
 .seq (.reg [rg 33 (.move 3) .any, rg 34 (.fieldAddr 4 1) .ptr, rg 35 (.load false 1 34) .i, rg 36 (.callv 33 [35, (.const (.int .i64 8))]) .i, rg 37 (.fieldAddr 4 1) .ptr, rn (.store 1 37 36) .any]) <|
 .seq (.reg [rg 38 (.load true 5 1) .any, rn (.store 5 2 38) .any]) <|
 .ret
noncomputable def sf_w10_config (n : Nat) : Sf := sfOf [(k_w10_config_1, s_w10_config_1 n)]
noncomputable def it_w10_config (n : Nat) : It := itOf []
def f_w10_config (n : Nat) (u0 : Value) (h : Heap) : Option ((Value × Unit) × Heap) :=
  bif (cellsOf u0).all isCell then
    (bnd ((Heap.new h (.cells (cellsOf u0) false 0))) fun h0 =>
    bnd ((Heap.new h0 (.cells (List.replicate 5 (.int .i64 0)) false 0))) fun h1 =>
    (ldT (.int .i64) h1 (some (fa (nwA h) 0))).bind fun x2 =>
    (f_w10_config_1 n x2 6 h1).bind fun p3 =>
    (stB 1 (.int .i64 p3.1.1) p3.2 (some (fa (nwA h) 0))).bind fun h4 =>
    (ldT (.int .i64) h4 (some (fa (nwA h) 1))).bind fun x5 =>
    (f_w10_config_1 n x5 12 h4).bind fun p6 =>
    (stB 1 (.int .i64 (IntKind.i64.wrap (1 + p6.1.1))) p6.2 (some (fa (nwA h) 1))).bind fun h7 =>
    (ldT (.int .i64) h7 (some (fa (nwA h) 2))).bind fun x8 =>
    (ldT (.int .i64) h7 (some (fa (nwA h) 0))).bind fun x9 =>
    (ldT (.int .i64) h7 (some (fa (nwA h) 1))).bind fun x10 =>
    (f_w10_config_1 n x8 (if (IntKind.i64.wrap (x10 - 1)) < x9 then (IntKind.i64.wrap (x10 - 1)) else x9) h7).bind fun p11 =>
    (stB 1 (.int .i64 p11.1.1) p11.2 (some (fa (nwA h) 2))).bind fun h12 =>
    (ldT (.int .i64) h12 (some (fa (nwA h) 3))).bind fun x13 =>
    (ldT (.int .i64) h12 (some (fa (nwA h) 1))).bind fun x14 =>
    (f_w10_config_1 n x13 x14 h12).bind fun p15 =>
    (stB 1 (.int .i64 p15.1.1) p15.2 (some (fa (nwA h) 3))).bind fun h16 =>
    (ldT (.int .i64) h16 (some (fa (nwA h) 4))).bind fun x17 =>
    (f_w10_config_1 n x17 8 h16).bind fun p18 =>
    (stB 1 (.int .i64 p18.1.1) p18.2 (some (fa (nwA h) 4))).bind fun h19 =>
    (ldA 5 h19 (some (nwA h))).bind fun cs20 =>
    (stB 5 (.agg ⟨cs20⟩) h19 (some (nwA h0))).bind fun h21 =>
    (ldA 5 h21 (some (nwA h0))).bind fun cs22 =>
    some (((.agg ⟨cs22⟩), ()), h21))
  else
    (none)
def rs_w10_config : Rs := [(.cell true 5 2, .any)]
def ps_w10_config : List Ty := [.any]
theorem e_w10_config (n : Nat) (u0 : Value) (h : Heap) : f_w10_config n u0 h = fB (sf_w10_config n) (it_w10_config n) n c2_w10_config rs_w10_config ps_w10_config (u0, ()) h := by kernel_rfl
noncomputable def s_w10_config (n : Nat) : Sf1 := mkSf ps_w10_config rs_w10_config fun a h => f_w10_config n a.1 h
/- wicket/wicketref10.Same -/
def c2_r10_Same : C2 := .seq (.reg [rg 2 (.box 0) .ptr, rg 3 (.box 1) .ptr, rg 4 (.move (.const (.bool false))) .bool]) <|
 .seq (.seq (.cutn [(33, .bool)] <|
 .reg [rg 6 (.fieldAddr 0 2) .ptr, rg 7 (.load false 1 6) (.int .u64), rg 8 (.fieldAddr 0 3) .ptr, rg 9 (.load false 1 8) (.int .u64), rg 10 (.bin .neq 7 9) .bool, rg 11 (.move 10) .bool, rq 12 (.fieldAddr 1 2) 11 .ptr, rq 13 (.load false 1 12) 11 (.int .u64), rq 14 (.fieldAddr 1 3) 11 .ptr, rq 15 (.load false 1 14) 11 (.int .u64), rq 16 (.bin .neq 13 15) 11 .bool, rg 17 (.pick 11 (.const (.bool true)) 16) .bool, rg 18 (.move 17) .bool, rq 19 (.fieldAddr 2 2) 18 .ptr, rq 20 (.load false 1 19) 18 (.int .u64), rq 21 (.fieldAddr 2 3) 18 .ptr, rq 22 (.load false 1 21) 18 (.int .u64), rq 23 (.bin .neq 20 22) 18 .bool, rg 24 (.pick 18 (.const (.bool true)) 23) .bool, rg 25 (.move 24) .bool, rq 26 (.fieldAddr 3 2) 25 .ptr, rq 27 (.load false 1 26) 25 .any, rq 28 (.lenS 27) 25 .i, rq 29 (.fieldAddr 3 3) 25 .ptr, rq 30 (.load false 1 29) 25 .any, rq 31 (.lenS 30) 25 .i, rq 32 (.bin .neq 28 31) 25 .bool, rg 33 (.pick 25 (.const (.bool true)) 32) .bool]) <|
 .cond 33 (.seq (.reg [rg 4 (.move (.const (.bool false))) .bool]) <|
 .ret) (.skip)) <|
 .seq (.seq (.reg [rg 5 (.move (.const (.int .i64 0))) .i]) <|
 .block 0 <|
 .loop [(5, .i)] <|
 .seq (.seq (.reg [rg 34 (.move 5) .i, rg 35 (.fieldAddr 3 2) .ptr, rg 36 (.load false 1 35) .any, rg 37 (.lenS 36) .i, rg 38 (.bin .lss 34 37) .bool]) <|
 .cond 38 (.skip) (.exit 0)) <|
 .seq (.block 1 <|
 .seq (.cutn [(69, .bool)] <|
 .regd [(⟨0, [], false, ⟨(some 41), .fieldAddr 3 2, none⟩⟩, .ptr), (⟨1, [0], false, ⟨(some 42), .load false 1 41, none⟩⟩, .any), (⟨2, [], false, ⟨(some 43), .move 5, none⟩⟩, (.int .i64)), (⟨3, [1, 2, 0], false, ⟨(some 44), .idxSlice 2 42 43, none⟩⟩, .ptr), (⟨4, [3, 1, 2, 0], false, ⟨(some 45), .fieldAddr 0 44, none⟩⟩, .ptr), (⟨5, [4, 3, 1, 2, 0], false, ⟨(some 46), .load false 1 45, none⟩⟩, (.int .u64)), (⟨6, [], false, ⟨(some 47), .fieldAddr 3 3, none⟩⟩, .ptr), (⟨7, [6], false, ⟨(some 48), .load false 1 47, none⟩⟩, .any), (⟨8, [], false, ⟨(some 49), .move 5, none⟩⟩, (.int .i64)), (⟨9, [7, 8, 6], false, ⟨(some 50), .idxSlice 2 48 49, none⟩⟩, .ptr), (⟨10, [9, 7, 8, 6], false, ⟨(some 51), .fieldAddr 0 50, none⟩⟩, .ptr), (⟨11, [10, 9, 7, 8, 6], false, ⟨(some 52), .load false 1 51, none⟩⟩, (.int .u64)), (⟨12, [5, 11, 4, 3, 1, 2, 0, 10, 9, 7, 8, 6], false, ⟨(some 53), .bin .neq 46 52, none⟩⟩, .bool), (⟨13, [12, 5, 11, 4, 3, 1, 2, 0, 10, 9, 7, 8, 6], false, ⟨(some 54), .move 53, none⟩⟩, .bool), (⟨14, [13, 12, 5, 11, 4, 3, 1, 2, 0, 10, 9, 7, 8, 6], false, ⟨(some 55), .fieldAddr 3 2, some (54, false)⟩⟩, .ptr), (⟨15, [14, 13, 12, 5, 11, 4, 3, 1, 2, 0, 10, 9, 7, 8, 6], false, ⟨(some 56), .load false 1 55, some (54, false)⟩⟩, .any), (⟨16, [13, 12, 5, 11, 4, 3, 1, 2, 0, 10, 9, 7, 8, 6], false, ⟨(some 57), .move 5, some (54, false)⟩⟩, (.int .i64)), (⟨17, [15, 16, 13, 14, 12, 5, 11, 4, 3, 1, 2, 0, 10, 9, 7, 8, 6], false, ⟨(some 58), .idxSlice 2 56 57, some (54, false)⟩⟩, .ptr), (⟨18, [17, 13, 15, 16, 14, 12, 5, 11, 4, 3, 1, 2, 0, 10, 9, 7, 8, 6], false, ⟨(some 59), .fieldAddr 1 58, some (54, false)⟩⟩, .ptr), (⟨19, [18, 13, 17, 15, 16, 14, 12, 5, 11, 4, 3, 1, 2, 0, 10, 9, 7, 8, 6], false, ⟨(some 60), .load false 1 59, some (54, false)⟩⟩, .any), (⟨20, [13, 12, 5, 11, 4, 3, 1, 2, 0, 10, 9, 7, 8, 6], false, ⟨(some 61), .fieldAddr 3 3, some (54, false)⟩⟩, .ptr), (⟨21, [20, 13, 12, 5, 11, 4, 3, 1, 2, 0, 10, 9, 7, 8, 6], false, ⟨(some 62), .load false 1 61, some (54, false)⟩⟩, .any), (⟨22, [13, 12, 5, 11, 4, 3, 1, 2, 0, 10, 9, 7, 8, 6], false, ⟨(some 63), .move 5, some (54, false)⟩⟩, (.int .i64)), (⟨23, [21, 22, 13, 20, 12, 5, 11, 4, 3, 1, 2, 0, 10, 9, 7, 8, 6], false, ⟨(some 64), .idxSlice 2 62 63, some (54, false)⟩⟩, .ptr), (⟨24, [23, 13, 21, 22, 20, 12, 5, 11, 4, 3, 1, 2, 0, 10, 9, 7, 8, 6], false, ⟨(some 65), .fieldAddr 1 64, some (54, false)⟩⟩, .ptr), (⟨25, [24, 13, 23, 21, 22, 20, 12, 5, 11, 4, 3, 1, 2, 0, 10, 9, 7, 8, 6], false, ⟨(some 66), .load false 1 65, some (54, false)⟩⟩, .any), (⟨26, [19, 25, 13, 18, 17, 15, 16, 14, 12, 5, 11, 4, 3, 1, 2, 0, 10, 9, 7, 8, 6, 24, 23, 21, 22, 20], true, ⟨(some 67), .call k_r10_SameImages [60, 66], some (54, false)⟩⟩, .bool), (⟨27, [26, 13, 19, 25, 18, 17, 15, 16, 14, 12, 5, 11, 4, 3, 1, 2, 0, 10, 9, 7, 8, 6, 24, 23, 21, 22, 20], false, ⟨(some 68), .un .not 67, some (54, false)⟩⟩, .bool), (⟨28, [13, 27, 12, 5, 11, 4, 3, 1, 2, 0, 10, 9, 7, 8, 6, 26, 19, 25, 18, 17, 15, 16, 14, 24, 23, 21, 22, 20], false, ⟨(some 69), .pick 54 (.const (.bool true)) 68, none⟩⟩, .bool)]) <|
 .cond 69 (.seq (.reg [rg 4 (.move (.const (.bool false))) .bool]) <|
 .ret) (.skip)) <|
 .reg [rg 39 (.move 5) .i, rg 40 (.bin .add 39 (.const (.int .i64 1))) .i, rg 5 (.move 40) .i]) <|
 .seq (.reg [rg 4 (.move (.const (.bool true))) .bool]) <|
 .ret
def f_r10_Same_L31 (n : Nat) (h : Heap) (h0 : Heap) (v13 : Int) (h14 : Heap) : Option (((Int × Unit) × Heap) ⊕ ((Bool × Unit) × Heap)) :=
  (ldT .any h14 (some (fa (nwA h) 3))).bind fun x15 =>
  (lenB x15).bind fun n16 =>
  bif (decide (v13 < (n16 : Int))) then
    ((((ldT .any h14 (some (fa (nwA h) 3))).bind fun x17 =>
      (ixB 2 x17 v13).bind fun q18 =>
      (ldT (.int .u64) h14 (some (fa q18 0))).bind fun x19 =>
      (ldT .any h14 (some (fa (nwA h0) 3))).bind fun x20 =>
      (ixB 2 x20 v13).bind fun q21 =>
      (ldT (.int .u64) h14 (some (fa q21 0))).bind fun x22 =>
      bif (!decide (x19 = x22)) then
        (some ((true, ()), h14))
      else
        ((ldT .any h14 (some (fa (nwA h) 3))).bind fun x23 =>
        (ixB 2 x23 v13).bind fun q24 =>
        (ldT .any h14 (some (fa q24 1))).bind fun x25 =>
        (ldT .any h14 (some (fa (nwA h0) 3))).bind fun x26 =>
        (ixB 2 x26 v13).bind fun q27 =>
        (ldT .any h14 (some (fa q27 1))).bind fun x28 =>
        (f_r10_SameImages n x25 x28 h14).bind fun p29 =>
        some (((!p29.1.1), ()), p29.2))) : Option ((Bool × Unit) × Heap)).bind fun a30 =>
    bif a30.1.1 then
      (some (.inr ((false, ()), a30.2)))
    else
      (some (.inl (((IntKind.i64.wrap (v13 + 1)), ()), a30.2))))
  else
    (some (.inr ((true, ()), h14)))
noncomputable def sf_r10_Same (n : Nat) : Sf := sfOf [(k_r10_SameImages, s_r10_SameImages n)]
noncomputable def it_r10_Same (n : Nat) : It := itOf []
def f_r10_Same (n : Nat) (u0 : Value) (u1 : Value) (h : Heap) : Option ((Bool × Unit) × Heap) :=
  bif (cellsOf u0).all isCell then
    (bnd ((Heap.new h (.cells (cellsOf u0) false 0))) fun h0 =>
    bif (cellsOf u1).all isCell then
      (bnd ((Heap.new h0 (.cells (cellsOf u1) false 0))) fun h1 =>
      (((ldT (.int .u64) h1 (some (fa (nwA h) 0))).bind fun x2 =>
        (ldT (.int .u64) h1 (some (fa (nwA h0) 0))).bind fun x3 =>
        bif (!decide (x2 = x3)) then
          (some ((true, ()), h1))
        else
          ((ldT (.int .u64) h1 (some (fa (nwA h) 1))).bind fun x4 =>
          (ldT (.int .u64) h1 (some (fa (nwA h0) 1))).bind fun x5 =>
          bif (!decide (x4 = x5)) then
            (some ((true, ()), h1))
          else
            ((ldT (.int .u64) h1 (some (fa (nwA h) 2))).bind fun x6 =>
            (ldT (.int .u64) h1 (some (fa (nwA h0) 2))).bind fun x7 =>
            bif (!decide (x6 = x7)) then
              (some ((true, ()), h1))
            else
              ((ldT .any h1 (some (fa (nwA h) 3))).bind fun x8 =>
              (lenB x8).bind fun n9 =>
              (ldT .any h1 (some (fa (nwA h0) 3))).bind fun x10 =>
              (lenB x10).bind fun n11 =>
              some (((!decide ((n9 : Int) = (n11 : Int))), ()), h1))))) : Option ((Bool × Unit) × Heap)).bind fun a12 =>
      bif a12.1.1 then
        (some ((false, ()), a12.2))
      else
        (loopT (fun a => f_r10_Same_L31 n h h0 a.1.1 a.2) n ((0, ()), a12.2)))
    else
      (none))
  else
    (none)
def rs_r10_Same : Rs := [(.tmp 4, .bool)]
def ps_r10_Same : List Ty := [.any, .any]
theorem e_r10_Same (n : Nat) (u0 : Value) (u1 : Value) (h : Heap) : f_r10_Same n u0 u1 h = fB (sf_r10_Same n) (it_r10_Same n) n c2_r10_Same rs_r10_Same ps_r10_Same (u0, (u1, ())) h := by kernel_rfl
noncomputable def s_r10_Same (n : Nat) : Sf1 := mkSf ps_r10_Same rs_r10_Same fun a h => f_r10_Same n a.1 a.2.1 h
/- (*wicket/wal.Log).Used -/
def c2_wal_Log_Used : C2 := .seq (.reg [rg 2 (.move (.const (.int .i64 0))) .i]) <|
 .seq (.reg [rg 3 (.move 0) .ptr, rg 4 (.call k_wal_Log_End [3]) (.int .u64), rg 5 (.move 0) .ptr, rg 6 (.call k_wal_Log_Tail [5]) (.int .u64), rg 7 (.bin .sub 4 6) (.int .u64), rg 8 (.conv .i64 7) .i, rg 2 (.move 8) .i]) <|
 .ret
noncomputable def sf_wal_Log_Used (n : Nat) : Sf := sfOf [(k_wal_Log_End, s_wal_Log_End n), (k_wal_Log_Tail, s_wal_Log_Tail n)]
noncomputable def it_wal_Log_Used (n : Nat) : It := itOf []
def f_wal_Log_Used (n : Nat) (u0 : Option Addr) (h : Heap) : Option ((Int × Unit) × Heap) :=
  (f_wal_Log_End n u0 h).bind fun p0 =>
  (f_wal_Log_Tail n u0 p0.2).bind fun p1 =>
  some (((IntKind.i64.wrap ((IntKind.u64.wrap (p0.1.1 - p1.1.1)))), ()), p1.2)
def rs_wal_Log_Used : Rs := [(.tmp 2, (.int .i64))]
def ps_wal_Log_Used : List Ty := [.ptr]
theorem e_wal_Log_Used (n : Nat) (u0 : Option Addr) (h : Heap) : f_wal_Log_Used n u0 h = fB (sf_wal_Log_Used n) (it_wal_Log_Used n) n c2_wal_Log_Used rs_wal_Log_Used ps_wal_Log_Used (u0, ()) h := by kernel_rfl
noncomputable def s_wal_Log_Used (n : Nat) : Sf1 := mkSf ps_wal_Log_Used rs_wal_Log_Used fun a h => f_wal_Log_Used n a.1 h
/- wicket/ring.Span -/
def c2_ring_Span : C2 := .seq (.reg [rg 2 (.box 0) .ptr, rg 3 (.box 1) .ptr, rg 4 (.move (.const .nilFunc)) (.fn k_ring_Span_1 2)]) <|
 .seq (.reg [rg 5 (.makeFunc k_ring_Span_1 [] [2, 3]) (.fn k_ring_Span_1 2), rg 4 (.move 5) (.fn k_ring_Span_1 2)]) <|
 .ret
noncomputable def sf_ring_Span (n : Nat) : Sf := sfOf []
noncomputable def it_ring_Span (n : Nat) : It := itOf []
def f_ring_Span (n : Nat) (u0 : Int) (u1 : Int) (h : Heap) : Option ((Ptrs 2 × Unit) × Heap) :=
  bnd ((Heap.new h (.cells [(.int .u64 u0)] false 0))) fun h0 =>
  bnd ((Heap.new h0 (.cells [(.int .u64 u1)] false 0))) fun h1 =>
  some ((((some (nwA h)), ((some (nwA h0)), ())), ()), h1)
def rs_ring_Span : Rs := [(.tmp 4, (.fn k_ring_Span_1 2))]
def ps_ring_Span : List Ty := [(.int .u64), (.int .u64)]
theorem e_ring_Span (n : Nat) (u0 : Int) (u1 : Int) (h : Heap) : f_ring_Span n u0 u1 h = fB (sf_ring_Span n) (it_ring_Span n) n c2_ring_Span rs_ring_Span ps_ring_Span (u0, (u1, ())) h := by kernel_rfl
noncomputable def s_ring_Span (n : Nat) : Sf1 := mkSf ps_ring_Span rs_ring_Span fun a h => f_ring_Span n a.1 a.2.1 h
/- wicket/super.Config -/
def c2_super_Config : C2 := .seq (.reg [rg 1 (.box 0) .ptr, rg 2 (.move (.const (.int .i64 0))) .i]) <|
 .seq (.block 0 <|
 .seq (.cutn [(3, .bool)] <|
 .seq (.reg [rg 4 (.fieldAddr 0 1) .ptr, rg 5 (.load false 1 4) .i, rg 6 (.call k_super_within [5, (.const (.int .i64 64))]) .bool, rg 7 (.un .not 6) .bool, rg 3 (.move 7) .bool]) <|
 .cond 3 (.skip) (.seq (.reg [rg 8 (.fieldAddr 1 1) .ptr, rg 9 (.load false 1 8) .i, rg 10 (.bin .sub 9 (.const (.int .i64 1))) .i, rg 11 (.call k_super_within [10, (.const (.int .i64 63))]) .bool, rg 12 (.un .not 11) .bool, rg 3 (.move 12) .bool]) <|
 .cond 3 (.skip) (.reg [rg 13 (.fieldAddr 4 1) .ptr, rg 14 (.load false 1 13) .i, rg 15 (.call k_super_within [14, (.const (.int .i64 8))]) .bool, rg 16 (.un .not 15) .bool, rg 3 (.move 16) .bool]))) <|
 .cond 3 (.seq (.reg [rg 2 (.move (.const (.int .i64 3))) .i]) <|
 .ret) (.seq (.cutn [(17, .bool)] <|
 .seq (.reg [rg 18 (.fieldAddr 2 1) .ptr, rg 19 (.load false 1 18) .i, rg 20 (.fieldAddr 0 1) .ptr, rg 21 (.load false 1 20) .i, rg 22 (.fieldAddr 1 1) .ptr, rg 23 (.load false 1 22) .i, rg 24 (.bin .sub 23 (.const (.int .i64 1))) .i, rg 25 (.minmax false [(.const (.int .i64 16)), 21, 24]) .i, rg 26 (.call k_super_within [19, 25]) .bool, rg 27 (.un .not 26) .bool, rg 17 (.move 27) .bool]) <|
 .cond 17 (.skip) (.reg [rg 28 (.fieldAddr 3 1) .ptr, rg 29 (.load false 1 28) .i, rg 30 (.fieldAddr 1 1) .ptr, rg 31 (.load false 1 30) .i, rg 32 (.call k_super_within [29, 31]) .bool, rg 33 (.un .not 32) .bool, rg 17 (.move 33) .bool])) <|
 .cond 17 (.seq (.reg [rg 2 (.move (.const (.int .i64 3))) .i]) <|
 .ret) (.skip))) <|
 .seq (.reg [rg 2 (.move (.const (.int .i64 0))) .i]) <|
 .ret
noncomputable def sf_super_Config (n : Nat) : Sf := sfOf [(k_super_within, s_super_within n)]
noncomputable def it_super_Config (n : Nat) : It := itOf []
def f_super_Config (n : Nat) (u0 : Value) (h : Heap) : Option ((Int × Unit) × Heap) :=
  bif (cellsOf u0).all isCell then
    (bnd ((Heap.new h (.cells (cellsOf u0) false 0))) fun h0 =>
    (((ldT (.int .i64) h0 (some (fa (nwA h) 0))).bind fun x1 =>
      (f_super_within n x1 64 h0).bind fun p2 =>
      bif (!p2.1.1) then
        (some (((!p2.1.1), ()), p2.2))
      else
        ((ldT (.int .i64) p2.2 (some (fa (nwA h) 1))).bind fun x3 =>
        (f_super_within n (IntKind.i64.wrap (x3 - 1)) 63 p2.2).bind fun p4 =>
        bif (!p4.1.1) then
          (some (((!p4.1.1), ()), p4.2))
        else
          ((ldT (.int .i64) p4.2 (some (fa (nwA h) 4))).bind fun x5 =>
          (f_super_within n x5 8 p4.2).bind fun p6 =>
          some (((!p6.1.1), ()), p6.2)))) : Option ((Bool × Unit) × Heap)).bind fun a7 =>
    bif a7.1.1 then
      (some ((3, ()), a7.2))
    else
      ((((ldT (.int .i64) a7.2 (some (fa (nwA h) 2))).bind fun x8 =>
        (ldT (.int .i64) a7.2 (some (fa (nwA h) 0))).bind fun x9 =>
        (ldT (.int .i64) a7.2 (some (fa (nwA h) 1))).bind fun x10 =>
        (f_super_within n x8 (if (IntKind.i64.wrap (x10 - 1)) < (if x9 < 16 then x9 else 16) then (IntKind.i64.wrap (x10 - 1)) else (if x9 < 16 then x9 else 16)) a7.2).bind fun p11 =>
        bif (!p11.1.1) then
          (some (((!p11.1.1), ()), p11.2))
        else
          ((ldT (.int .i64) p11.2 (some (fa (nwA h) 3))).bind fun x12 =>
          (ldT (.int .i64) p11.2 (some (fa (nwA h) 1))).bind fun x13 =>
          (f_super_within n x12 x13 p11.2).bind fun p14 =>
          some (((!p14.1.1), ()), p14.2))) : Option ((Bool × Unit) × Heap)).bind fun a15 =>
      bif a15.1.1 then
        (some ((3, ()), a15.2))
      else
        (some ((0, ()), a15.2))))
  else
    (none)
def rs_super_Config : Rs := [(.tmp 2, (.int .i64))]
def ps_super_Config : List Ty := [.any]
theorem e_super_Config (n : Nat) (u0 : Value) (h : Heap) : f_super_Config n u0 h = fB (sf_super_Config n) (it_super_Config n) n c2_super_Config rs_super_Config ps_super_Config (u0, ()) h := by kernel_rfl
noncomputable def s_super_Config (n : Nat) : Sf1 := mkSf ps_super_Config rs_super_Config fun a h => f_super_Config n a.1 h
/- (*wicket/wal.Log).room -/
def c2_wal_Log_room : C2 := .seq (.reg [rg 2 (.move (.const (.int .i64 0))) .i]) <|
 .seq (.block 0 <|
 .seq (.reg [rg 4 (.move 0) .ptr, rg 5 (.call k_wal_Log_none [4]) .bool, rg 3 (.move 5) .bool]) <|
 .cond 3 (.seq (.reg [rg 2 (.move (.const (.int .i64 1))) .i]) <|
 .ret) (.seq (.reg [rg 7 (.move 0) .ptr, rg 8 (.nilCheck 7) .ptr, rg 9 (.fieldAddr 8 8) .ptr, rg 10 (.load false 1 9) (.int .u64), rg 11 (.bin .eql 10 (.const (.int .u64 4611686018427387904))) .bool, rg 6 (.move 11) .bool]) <|
 .cond 6 (.seq (.reg [rg 2 (.move (.const (.int .i64 31))) .i]) <|
 .ret) (.seq (.regd [(⟨0, [], false, ⟨(some 13), .move 0, none⟩⟩, .ptr), (⟨2, [], false, ⟨(some 15), .move 0, none⟩⟩, .ptr), (⟨3, [2], false, ⟨(some 16), .nilCheck 15, none⟩⟩, .ptr), (⟨4, [3, 2], false, ⟨(some 17), .fieldAddr 1 16, none⟩⟩, .ptr), (⟨5, [4, 3, 2], false, ⟨(some 18), .fieldAddr 1 17, none⟩⟩, .ptr), (⟨6, [5, 4, 3, 2], false, ⟨(some 19), .load false 1 18, none⟩⟩, (.int .i64)), (⟨1, [0], true, ⟨(some 14), .call k_wal_Log_Used [13], none⟩⟩, (.int .i64)), (⟨7, [1, 6, 0, 5, 4, 3, 2], false, ⟨(some 20), .bin .eql 14 19, none⟩⟩, .bool), (⟨8, [7, 1, 6, 0, 5, 4, 3, 2], false, ⟨(some 12), .move 20, none⟩⟩, .bool)]) <|
 .cond 12 (.seq (.reg [rg 2 (.move (.const (.int .i64 90))) .i]) <|
 .ret) (.skip)))) <|
 .seq (.reg [rg 2 (.move (.const (.int .i64 0))) .i]) <|
 .ret
noncomputable def sf_wal_Log_room (n : Nat) : Sf := sfOf [(k_wal_Log_none, s_wal_Log_none n), (k_wal_Log_Used, s_wal_Log_Used n)]
noncomputable def it_wal_Log_room (n : Nat) : It := itOf []
def f_wal_Log_room (n : Nat) (u0 : Option Addr) (h : Heap) : Option ((Int × Unit) × Heap) :=
  (f_wal_Log_none n u0 h).bind fun p0 =>
  bif p0.1.1 then
    (some ((1, ()), p0.2))
  else
    ((u0).bind fun q1 =>
    (ldT (.int .u64) p0.2 (some (fa q1 8))).bind fun x2 =>
    bif (decide (x2 = 4611686018427387904)) then
      (some ((31, ()), p0.2))
    else
      ((u0).bind fun q3 =>
      (ldT (.int .i64) p0.2 (some (fa (fa q3 1) 1))).bind fun x4 =>
      (f_wal_Log_Used n u0 (hid p0.2 [] ((Addr.block (fa (fa q3 1) 1)) :: []))).bind fun p5 =>
      bnd (Heap.putBack p5.2 p0.2 ([] ++ ((Addr.block (fa (fa q3 1) 1)) :: []))) fun h6 =>
      bif (decide (p5.1.1 = x4)) then
        (some ((90, ()), h6))
      else
        (some ((0, ()), h6))))
def rs_wal_Log_room : Rs := [(.tmp 2, (.int .i64))]
def ps_wal_Log_room : List Ty := [.ptr]
theorem e_wal_Log_room (n : Nat) (u0 : Option Addr) (h : Heap) : f_wal_Log_room n u0 h = fB (sf_wal_Log_room n) (it_wal_Log_room n) n c2_wal_Log_room rs_wal_Log_room ps_wal_Log_room (u0, ()) h := by kernel_rfl
noncomputable def s_wal_Log_room (n : Nat) : Sf1 := mkSf ps_wal_Log_room rs_wal_Log_room fun a h => f_wal_Log_room n a.1 h
/- wicket/ring.Slot -/
def c2_ring_Slot : C2 := .seq (.reg [rg 4 (.move (.const (.int .i64 0))) .i, rg 5 (.move (.const (.int .i64 0))) .i]) <|
 .seq (.block 0 <|
 .seq (.reg [rg 7 (.move 1) .i, rg 8 (.call k_ring_round [7]) .bool, rg 9 (.un .not 8) .bool, rg 6 (.move 9) .bool]) <|
 .cond 6 (.seq (.reg [rg 4 (.move (.const (.int .i64 0))) .i, rg 5 (.move (.const (.int .i64 2))) .i]) <|
 .ret) (.seq (.reg [rg 11 (.move 0) (.int .u64), rg 12 (.bin .gtr 11 (.const (.int .u64 4611686018427387968))) .bool, rg 10 (.move 12) .bool]) <|
 .cond 10 (.seq (.reg [rg 4 (.move (.const (.int .i64 0))) .i, rg 5 (.move (.const (.int .i64 31))) .i]) <|
 .ret) (.skip))) <|
 .seq (.reg [rg 13 (.move 0) (.int .u64), rg 14 (.move 1) .i, rg 15 (.conv .u64 14) (.int .u64), rg 16 (.bin .rem 13 15) (.int .u64), rg 17 (.conv .i64 16) .i, rg 4 (.move 17) .i, rg 5 (.move (.const (.int .i64 0))) .i]) <|
 .ret
noncomputable def sf_ring_Slot (n : Nat) : Sf := sfOf [(k_ring_round, s_ring_round n)]
noncomputable def it_ring_Slot (n : Nat) : It := itOf []
def f_ring_Slot (n : Nat) (u0 : Int) (u1 : Int) (h : Heap) : Option ((Int × Int × Unit) × Heap) :=
  (f_ring_round n u1 h).bind fun p0 =>
  bif (!p0.1.1) then
    (some ((0, (2, ())), p0.2))
  else
    (bif (decide (4611686018427387968 < u0)) then
      (some ((0, (31, ())), p0.2))
    else
      (bif decide ((IntKind.u64.wrap (u1)) = 0) then
        (none)
      else
        (some (((IntKind.i64.wrap ((Int.tmod u0 (IntKind.u64.wrap (u1))))), (0, ())), p0.2))))
def rs_ring_Slot : Rs := [(.tmp 4, (.int .i64)), (.tmp 5, (.int .i64))]
def ps_ring_Slot : List Ty := [(.int .u64), (.int .i64)]
theorem e_ring_Slot (n : Nat) (u0 : Int) (u1 : Int) (h : Heap) : f_ring_Slot n u0 u1 h = fB (sf_ring_Slot n) (it_ring_Slot n) n c2_ring_Slot rs_ring_Slot ps_ring_Slot (u0, (u1, ())) h := by kernel_rfl
noncomputable def s_ring_Slot (n : Nat) : Sf1 := mkSf ps_ring_Slot rs_ring_Slot fun a h => f_ring_Slot n a.1 a.2.1 h
/- wicket/super.Check -/
def c2_super_Check : C2 := .seq (.reg [rg 1 (.box 0) .ptr, rg 2 (.move (.const (.int .i64 0))) .i]) <|
 .seq (.seq (.reg [rg 4 (.fieldAddr 0 1) .ptr, rg 5 (.load true 5 4) .any, rg 6 (.call k_super_Config [5]) .i, rg 3 (.move 6) .i]) <|
 .seq (.reg [rg 7 (.move 3) .i, rg 8 (.bin .neq 7 (.const (.int .i64 0))) .bool]) <|
 .cond 8 (.seq (.reg [rg 9 (.move 3) .i, rg 2 (.move 9) .i]) <|
 .ret) (.skip)) <|
 .seq (.seq (.cutn [(22, .bool)] <|
 .reg [rg 10 (.fieldAddr 5 1) .ptr, rg 11 (.load false 1 10) (.int .u64), rg 12 (.bin .gtr 11 (.const (.int .u64 4611686018427387904))) .bool, rg 13 (.move 12) .bool, rq 14 (.fieldAddr 6 1) 13 .ptr, rq 15 (.load false 1 14) 13 (.int .u64), rq 16 (.bin .lss 15 (.const (.int .u64 1))) 13 .bool, rg 17 (.pick 13 (.const (.bool true)) 16) .bool, rg 18 (.move 17) .bool, rq 19 (.fieldAddr 6 1) 18 .ptr, rq 20 (.load false 1 19) 18 (.int .u64), rq 21 (.bin .gtr 20 (.const (.int .u64 4611686018427387904))) 18 .bool, rg 22 (.pick 18 (.const (.bool true)) 21) .bool]) <|
 .cond 22 (.seq (.reg [rg 2 (.move (.const (.int .i64 70))) .i]) <|
 .ret) (.skip)) <|
 .seq (.reg [rg 2 (.move (.const (.int .i64 0))) .i]) <|
 .ret
noncomputable def sf_super_Check (n : Nat) : Sf := sfOf [(k_super_Config, s_super_Config n)]
noncomputable def it_super_Check (n : Nat) : It := itOf []
def f_super_Check (n : Nat) (u0 : Value) (h : Heap) : Option ((Int × Unit) × Heap) :=
  bif (cellsOf u0).all isCell then
    (bnd ((Heap.new h (.cells (cellsOf u0) false 0))) fun h0 =>
    (ldA 5 h0 (some (fa (nwA h) 0))).bind fun cs1 =>
    (f_super_Config n (.agg ⟨cs1⟩) h0).bind fun p2 =>
    bif (!decide (p2.1.1 = 0)) then
      (some ((p2.1.1, ()), p2.2))
    else
      ((((ldT (.int .u64) p2.2 (some (fa (nwA h) 5))).bind fun x3 =>
        bif (decide (4611686018427387904 < x3)) then
          (some ((true, ()), p2.2))
        else
          ((ldT (.int .u64) p2.2 (some (fa (nwA h) 6))).bind fun x4 =>
          bif (decide (x4 < 1)) then
            (some ((true, ()), p2.2))
          else
            ((ldT (.int .u64) p2.2 (some (fa (nwA h) 6))).bind fun x5 =>
            some (((decide (4611686018427387904 < x5)), ()), p2.2)))) : Option ((Bool × Unit) × Heap)).bind fun a6 =>
      bif a6.1.1 then
        (some ((70, ()), a6.2))
      else
        (some ((0, ()), a6.2))))
  else
    (none)
def rs_super_Check : Rs := [(.tmp 2, (.int .i64))]
def ps_super_Check : List Ty := [.any]
theorem e_super_Check (n : Nat) (u0 : Value) (h : Heap) : f_super_Check n u0 h = fB (sf_super_Check n) (it_super_Check n) n c2_super_Check rs_super_Check ps_super_Check (u0, ()) h := by kernel_rfl
noncomputable def s_super_Check (n : Nat) : Sf1 := mkSf ps_super_Check rs_super_Check fun a h => f_super_Check n a.1 h
/- wicket/octet.Put -/
def c2_octet_Put : C2 := .seq (.reg [rg 4 (.move (.const (.slice none 0 0))) .any, rg 5 (.move (.const (.int .i64 0))) .i]) <|
 .seq (.seq (.reg [rg 8 (.move 1) .i, rg 9 (.call k_octet_may [8]) .bool, rg 10 (.un .not 9) .bool]) <|
 .cond 10 (.seq (.reg [rg 4 (.move (.const (.slice none 0 0))) .any, rg 5 (.move (.const (.int .i64 2))) .i]) <|
 .ret) (.skip)) <|
 .seq (.reg [rg 11 (.move 1) .i, rg 12 (.makeSlice 1 1 [(.int .u8 0)] 11 11) .any, rg 6 (.move 12) .any]) <|
 .seq (.cutn [(0, (.int .u64))] <|
 .seq (.reg [rg 13 (.move 6) .any, rg 14 (.lenS 13) .i, rg 15 (.move (.const (.int .i64 0))) .i]) <|
 .block 0 <|
 .loop [(0, (.int .u64)), (15, .i)] <|
 .seq (.reg [rg 16 (.bin .lss 15 14) .any]) <|
 .seq (.cond 16 (.skip) (.exit 0)) <|
 .seq (.block 1 <|
 .seq (.reg [rg 17 (.move 15) .i, rg 7 (.move 17) .i]) <|
 .seq (.reg [rg 18 (.move 6) .any, rg 19 (.move 7) .i, rg 20 (.move 0) (.int .u64), rg 21 (.conv .u8 20) .u, rg 22 (.idxSlice 1 18 19) .ptr, rn (.store 1 22 21) .any]) <|
 .reg [rg 23 (.move 0) (.int .u64), rg 24 (.bin .shr 23 (.const (.int .u64 8))) (.int .u64), rg 0 (.move 24) (.int .u64)]) <|
 .reg [rg 25 (.bin .add 15 (.const (.int .i64 1))) .i, rg 15 (.move 25) .i]) <|
 .seq (.seq (.reg [rg 26 (.move 0) (.int .u64), rg 27 (.bin .neq 26 (.const (.int .u64 0))) .bool]) <|
 .cond 27 (.seq (.reg [rg 4 (.move (.const (.slice none 0 0))) .any, rg 5 (.move (.const (.int .i64 10))) .i]) <|
 .ret) (.skip)) <|
 .seq (.reg [rg 28 (.move 6) .any, rg 4 (.move 28) .any, rg 5 (.move (.const (.int .i64 0))) .i]) <|
 .ret
def f_octet_Put_L10 (n : Nat) (p1 : (Value × AObj)) (n3 : Nat) (v4 : Int) (v5 : Int) (h6 : Heap) : Option (((Int × Int × Unit) × Heap) ⊕ ((Int × Unit) × Heap)) :=
  bif (decide (v5 < (n3 : Int))) then
    ((ixB 1 p1.1 v5).bind fun q7 =>
    (stB 1 (.int .u8 (IntKind.u8.wrap (v4))) h6 (some q7)).bind fun h8 =>
    (bitB .shr .u64 v4 .u64 8).bind fun x9 =>
    some (.inl ((x9, ((IntKind.i64.wrap (v5 + 1)), ())), h8)))
  else
    (some (.inr ((v4, ()), h6)))
noncomputable def sf_octet_Put (n : Nat) : Sf := sfOf [(k_octet_may, s_octet_may n)]
noncomputable def it_octet_Put (n : Nat) : It := itOf []
def f_octet_Put (n : Nat) (u0 : Int) (u1 : Int) (h : Heap) : Option ((Value × Int × Unit) × Heap) :=
  (f_octet_may n u1 h).bind fun p0 =>
  bif (!p0.1.1) then
    (some (((.slice none 0 0), (2, ())), p0.2))
  else
    ((mkSl (Heap.next p0.2) 1 1 [(.int .u8 0)] (.int .i64 u1) (.int .i64 u1)).bind fun p1 =>
    bnd ((Heap.new p0.2 (p1.2))) fun h2 =>
    (((lenB p1.1).bind fun n3 =>
      loopT (fun a => f_octet_Put_L10 n p1 n3 a.1.1 a.1.2.1 a.2) n ((u0, (0, ())), h2)) : Option ((Int × Unit) × Heap)).bind fun a11 =>
    bif (!decide (a11.1.1 = 0)) then
      (some (((.slice none 0 0), (10, ())), a11.2))
    else
      (bif !isTuple p1.1 then
        (some ((p1.1, (0, ())), a11.2))
      else
        (none)))
def rs_octet_Put : Rs := [(.tmp 4, .any), (.tmp 5, (.int .i64))]
def ps_octet_Put : List Ty := [(.int .u64), (.int .i64)]
theorem e_octet_Put (n : Nat) (u0 : Int) (u1 : Int) (h : Heap) : f_octet_Put n u0 u1 h = fB (sf_octet_Put n) (it_octet_Put n) n c2_octet_Put rs_octet_Put ps_octet_Put (u0, (u1, ())) h := by kernel_rfl
noncomputable def s_octet_Put (n : Nat) : Sf1 := mkSf ps_octet_Put rs_octet_Put fun a h => f_octet_Put n a.1 a.2.1 h
/- wicket/sum.Of -/
def c2_sum_Of : C2 := .seq (.reg [rg 2 (.move (.const (.int .u32 0))) (.int .u32)]) <|
 .seq (.reg [rg 3 (.move (.const (.int .u32 4294967295))) (.int .u32)]) <|
 .seq (.cutn [(3, (.int .u32))] <|
 .seq (.reg [rg 8 (.move 0) .any, rg 9 (.lenS 8) .i, rg 10 (.move (.const (.int .i64 0))) .i]) <|
 .block 0 <|
 .loop [(3, (.int .u32)), (10, .i)] <|
 .seq (.reg [rg 11 (.bin .lss 10 9) .any]) <|
 .seq (.cond 11 (.skip) (.exit 0)) <|
 .seq (.cutn [(3, (.int .u32))] <|
 .block 1 <|
 .seq (.reg [rg 12 (.idxSlice 1 8 10) .ptr, rg 13 (.load false 1 12) .any, rg 5 (.move 13) .any]) <|
 .seq (.reg [rg 14 (.move 5) .any, rg 15 (.lenS 14) .i, rg 16 (.move (.const (.int .i64 0))) .i]) <|
 .block 2 <|
 .loop [(3, (.int .u32)), (16, .i)] <|
 .seq (.reg [rg 17 (.bin .lss 16 15) .any]) <|
 .seq (.cond 17 (.skip) (.exit 2)) <|
 .seq (.block 3 <|
 .seq (.reg [rg 18 (.idxSlice 1 14 16) .ptr, rg 19 (.load false 1 18) .u, rg 7 (.move 19) .u]) <|
 .reg [rg 20 (.move 3) (.int .u32), rg 21 (.move 7) .u, rg 22 (.call k_sum_push [20, 21]) (.int .u32), rg 3 (.move 22) (.int .u32)]) <|
 .reg [rg 23 (.bin .add 16 (.const (.int .i64 1))) .i, rg 16 (.move 23) .i]) <|
 .reg [rg 24 (.bin .add 10 (.const (.int .i64 1))) .i, rg 10 (.move 24) .i]) <|
 .seq (.reg [rg 25 (.move 3) (.int .u32), rg 26 (.un .xor 25) (.int .u32), rg 2 (.move 26) (.int .u32)]) <|
 .ret
def f_sum_Of_L13 (n : Nat) (x5 : Value) (n6 : Nat) (v7 : Int) (v8 : Int) (h9 : Heap) : Option (((Int × Int × Unit) × Heap) ⊕ ((Int × Unit) × Heap)) :=
  bif (decide (v8 < (n6 : Int))) then
    ((ixB 1 x5 v8).bind fun q10 =>
    (ldT (.int .u8) h9 (some q10)).bind fun x11 =>
    (f_sum_push n v7 x11 h9).bind fun p12 =>
    some (.inl ((p12.1.1, ((IntKind.i64.wrap (v8 + 1)), ())), p12.2)))
  else
    (some (.inr ((v7, ()), h9)))
def f_sum_Of_L15 (n : Nat) (u0 : Value) (n0 : Nat) (v1 : Int) (v2 : Int) (h3 : Heap) : Option (((Int × Int × Unit) × Heap) ⊕ ((Int × Unit) × Heap)) :=
  bif (decide (v2 < (n0 : Int))) then
    ((((ixB 1 u0 v2).bind fun q4 =>
      (ldT .any h3 (some q4)).bind fun x5 =>
      (lenB x5).bind fun n6 =>
      loopT (fun a => f_sum_Of_L13 n x5 n6 a.1.1 a.1.2.1 a.2) n ((v1, (0, ())), h3)) : Option ((Int × Unit) × Heap)).bind fun a14 =>
    some (.inl ((a14.1.1, ((IntKind.i64.wrap (v2 + 1)), ())), a14.2)))
  else
    (some (.inr ((v1, ()), h3)))
noncomputable def sf_sum_Of (n : Nat) : Sf := sfOf [(k_sum_push, s_sum_push n)]
noncomputable def it_sum_Of (n : Nat) : It := itOf []
def f_sum_Of (n : Nat) (u0 : Value) (h : Heap) : Option ((Int × Unit) × Heap) :=
  (((lenB u0).bind fun n0 =>
    loopT (fun a => f_sum_Of_L15 n u0 n0 a.1.1 a.1.2.1 a.2) n ((4294967295, (0, ())), h)) : Option ((Int × Unit) × Heap)).bind fun a16 =>
  (unB .xor .u32 a16.1.1).bind fun x17 =>
  some ((x17, ()), a16.2)
def rs_sum_Of : Rs := [(.tmp 2, (.int .u32))]
def ps_sum_Of : List Ty := [.any]
theorem e_sum_Of (n : Nat) (u0 : Value) (h : Heap) : f_sum_Of n u0 h = fB (sf_sum_Of n) (it_sum_Of n) n c2_sum_Of rs_sum_Of ps_sum_Of (u0, ()) h := by kernel_rfl
noncomputable def s_sum_Of (n : Nat) : Sf1 := mkSf ps_sum_Of rs_sum_Of fun a h => f_sum_Of n a.1 h
/- (*wicket/wal.Log).sectorOf -/
def c2_wal_Log_sectorOf : C2 := .seq (.reg [rg 4 (.move (.const (.int .i64 0))) .i, rg 5 (.move (.const (.int .i64 0))) .i]) <|
 .seq (.reg [rg 9 (.move 1) (.int .u64), rg 10 (.move 0) .ptr, rg 11 (.nilCheck 10) .ptr, rg 12 (.fieldAddr 1 11) .ptr, rg 13 (.fieldAddr 1 12) .ptr, rg 14 (.load false 1 13) .i, rg 15 (.call k_ring_Slot [9, 14]) .any, rg 8 (.move 15) .any, rg 16 (.extract 8 0) .i, rg 17 (.extract 8 1) .i, rg 6 (.move 16) .i, rg 7 (.move 17) .i]) <|
 .seq (.reg [rg 18 (.move 0) .ptr, rg 19 (.nilCheck 18) .ptr, rg 20 (.fieldAddr 1 19) .ptr, rg 21 (.fieldAddr 0 20) .ptr, rg 22 (.load false 1 21) .i, rg 23 (.bin .add (.const (.int .i64 1)) 22) .i, rg 24 (.move 6) .i, rg 25 (.bin .add 23 24) .i, rg 26 (.move 7) .i, rg 4 (.move 25) .i, rg 5 (.move 26) .i]) <|
 .ret
noncomputable def sf_wal_Log_sectorOf (n : Nat) : Sf := sfOf [(k_ring_Slot, s_ring_Slot n)]
noncomputable def it_wal_Log_sectorOf (n : Nat) : It := itOf []
def f_wal_Log_sectorOf (n : Nat) (u0 : Option Addr) (u1 : Int) (h : Heap) : Option ((Int × Int × Unit) × Heap) :=
  (u0).bind fun q0 =>
  (ldT (.int .i64) h (some (fa (fa q0 1) 1))).bind fun x1 =>
  (f_ring_Slot n u1 x1 h).bind fun p2 =>
  (u0).bind fun q3 =>
  (ldT (.int .i64) p2.2 (some (fa (fa q3 1) 0))).bind fun x4 =>
  some (((IntKind.i64.wrap ((IntKind.i64.wrap (1 + x4)) + p2.1.1)), (p2.1.2.1, ())), p2.2)
def rs_wal_Log_sectorOf : Rs := [(.tmp 4, (.int .i64)), (.tmp 5, (.int .i64))]
def ps_wal_Log_sectorOf : List Ty := [.ptr, (.int .u64)]
theorem e_wal_Log_sectorOf (n : Nat) (u0 : Option Addr) (u1 : Int) (h : Heap) : f_wal_Log_sectorOf n u0 u1 h = fB (sf_wal_Log_sectorOf n) (it_wal_Log_sectorOf n) n c2_wal_Log_sectorOf rs_wal_Log_sectorOf ps_wal_Log_sectorOf (u0, (u1, ())) h := by kernel_rfl
noncomputable def s_wal_Log_sectorOf (n : Nat) : Sf1 := mkSf ps_wal_Log_sectorOf rs_wal_Log_sectorOf fun a h => f_wal_Log_sectorOf n a.1 a.2.1 h
/- (*wicket/sector.Disk).Write -/
def c2_sector_Disk_Write : C2 := .seq (.reg [rg 6 (.move (.const (.int .i64 0))) .i]) <|
 .seq (.seq (.reg [rg 8 (.move 0) .ptr, rg 9 (.move 1) .i, rg 10 (.call k_sector_Disk_asked [8, 9]) .i, rg 7 (.move 10) .i]) <|
 .seq (.reg [rg 11 (.move 7) .i, rg 12 (.bin .neq 11 (.const (.int .i64 0))) .bool]) <|
 .cond 12 (.seq (.reg [rg 13 (.move 7) .i, rg 6 (.move 13) .i]) <|
 .ret) (.skip)) <|
 .seq (.seq (.reg [rg 14 (.move 2) .any, rg 15 (.lenS 14) .i, rg 16 (.bin .neq 15 (.const (.int .i64 64))) .bool]) <|
 .cond 16 (.seq (.reg [rg 6 (.move (.const (.int .i64 2))) .i]) <|
 .ret) (.skip)) <|
 .seq (.regd [(⟨0, [], false, ⟨(some 17), .move 0, none⟩⟩, .ptr), (⟨1, [], false, ⟨(some 18), .move 0, none⟩⟩, .ptr), (⟨2, [1], false, ⟨(some 19), .nilCheck 18, none⟩⟩, .ptr), (⟨3, [2, 1], false, ⟨(some 20), .fieldAddr 1 19, none⟩⟩, .ptr), (⟨4, [3, 2, 1], false, ⟨(some 21), .load false 1 20, none⟩⟩, .any), (⟨5, [], false, ⟨(some 22), .move 1, none⟩⟩, (.int .i64)), (⟨6, [], false, ⟨(some 23), .move 2, none⟩⟩, .any), (⟨7, [6], false, ⟨(some 24), .arrAt 64 23, none⟩⟩, .ptr), (⟨8, [7, 6], false, ⟨(some 25), .load true 64 24, none⟩⟩, .any), (⟨9, [5, 8, 7, 6], false, ⟨(some 26), .build [(.int .i64 0), (.int .u8 0), (.int .u8 0), (.int .u8 0), (.int .u8 0), (.int .u8 0), (.int .u8 0), (.int .u8 0), (.int .u8 0), (.int .u8 0), (.int .u8 0), (.int .u8 0), (.int .u8 0), (.int .u8 0), (.int .u8 0), (.int .u8 0), (.int .u8 0), (.int .u8 0), (.int .u8 0), (.int .u8 0), (.int .u8 0), (.int .u8 0), (.int .u8 0), (.int .u8 0), (.int .u8 0), (.int .u8 0), (.int .u8 0), (.int .u8 0), (.int .u8 0), (.int .u8 0), (.int .u8 0), (.int .u8 0), (.int .u8 0), (.int .u8 0), (.int .u8 0), (.int .u8 0), (.int .u8 0), (.int .u8 0), (.int .u8 0), (.int .u8 0), (.int .u8 0), (.int .u8 0), (.int .u8 0), (.int .u8 0), (.int .u8 0), (.int .u8 0), (.int .u8 0), (.int .u8 0), (.int .u8 0), (.int .u8 0), (.int .u8 0), (.int .u8 0), (.int .u8 0), (.int .u8 0), (.int .u8 0), (.int .u8 0), (.int .u8 0), (.int .u8 0), (.int .u8 0), (.int .u8 0), (.int .u8 0), (.int .u8 0), (.int .u8 0), (.int .u8 0), (.int .u8 0)] [(0, 1, 22), (1, 64, 25)], none⟩⟩, .any), (⟨10, [9, 5, 8, 7, 6], false, ⟨(some 27), .buildSlice 1 65 [(.int .i64 0), (.int .u8 0), (.int .u8 0), (.int .u8 0), (.int .u8 0), (.int .u8 0), (.int .u8 0), (.int .u8 0), (.int .u8 0), (.int .u8 0), (.int .u8 0), (.int .u8 0), (.int .u8 0), (.int .u8 0), (.int .u8 0), (.int .u8 0), (.int .u8 0), (.int .u8 0), (.int .u8 0), (.int .u8 0), (.int .u8 0), (.int .u8 0), (.int .u8 0), (.int .u8 0), (.int .u8 0), (.int .u8 0), (.int .u8 0), (.int .u8 0), (.int .u8 0), (.int .u8 0), (.int .u8 0), (.int .u8 0), (.int .u8 0), (.int .u8 0), (.int .u8 0), (.int .u8 0), (.int .u8 0), (.int .u8 0), (.int .u8 0), (.int .u8 0), (.int .u8 0), (.int .u8 0), (.int .u8 0), (.int .u8 0), (.int .u8 0), (.int .u8 0), (.int .u8 0), (.int .u8 0), (.int .u8 0), (.int .u8 0), (.int .u8 0), (.int .u8 0), (.int .u8 0), (.int .u8 0), (.int .u8 0), (.int .u8 0), (.int .u8 0), (.int .u8 0), (.int .u8 0), (.int .u8 0), (.int .u8 0), (.int .u8 0), (.int .u8 0), (.int .u8 0), (.int .u8 0)] [(0, 65, 26)], none⟩⟩, .any), (⟨11, [4, 10, 3, 2, 1, 9, 5, 8, 7, 6], true, ⟨(some 28), .append 72 65 21 27, none⟩⟩, .any), (⟨12, [0, 1, 2, 3, 4, 5, 6, 7, 8, 9, 10, 11], false, ⟨(some 29), .nilCheck 17, none⟩⟩, .ptr), (⟨13, [12, 0, 1, 2, 3, 4, 5, 6, 7, 8, 9, 10, 11], false, ⟨(some 30), .fieldAddr 1 29, none⟩⟩, .ptr), (⟨14, [13, 11, 0, 1, 2, 3, 4, 5, 6, 7, 8, 9, 10, 12], true, ⟨none, .store 1 30 28, none⟩⟩, .any)]) <|
 .seq (.reg [rg 6 (.move (.const (.int .i64 0))) .i]) <|
 .ret
noncomputable def sf_sector_Disk_Write (n : Nat) : Sf := sfOf [(k_sector_Disk_asked, s_sector_Disk_asked n)]
noncomputable def it_sector_Disk_Write (n : Nat) : It := itOf []
def f_sector_Disk_Write (n : Nat) (u0 : Option Addr) (u1 : Int) (u2 : Value) (h : Heap) : Option ((Int × Unit) × Heap) :=
  (f_sector_Disk_asked n u0 u1 h).bind fun p0 =>
  bif (!decide (p0.1.1 = 0)) then
    (some ((p0.1.1, ()), p0.2))
  else
    ((lenB u2).bind fun n1 =>
    bif (!decide ((n1 : Int) = 64)) then
      (some ((2, ()), p0.2))
    else
      ((u0).bind fun q2 =>
      (ldT .any p0.2 (some (fa q2 1))).bind fun x3 =>
      (arrB p0.2 64 u2).bind fun q4 =>
      (ldA 64 p0.2 q4).bind fun cs5 =>
      (fillL [(.int .i64 0), (.int .u8 0), (.int .u8 0), (.int .u8 0), (.int .u8 0), (.int .u8 0), (.int .u8 0), (.int .u8 0), (.int .u8 0), (.int .u8 0), (.int .u8 0), (.int .u8 0), (.int .u8 0), (.int .u8 0), (.int .u8 0), (.int .u8 0), (.int .u8 0), (.int .u8 0), (.int .u8 0), (.int .u8 0), (.int .u8 0), (.int .u8 0), (.int .u8 0), (.int .u8 0), (.int .u8 0), (.int .u8 0), (.int .u8 0), (.int .u8 0), (.int .u8 0), (.int .u8 0), (.int .u8 0), (.int .u8 0), (.int .u8 0), (.int .u8 0), (.int .u8 0), (.int .u8 0), (.int .u8 0), (.int .u8 0), (.int .u8 0), (.int .u8 0), (.int .u8 0), (.int .u8 0), (.int .u8 0), (.int .u8 0), (.int .u8 0), (.int .u8 0), (.int .u8 0), (.int .u8 0), (.int .u8 0), (.int .u8 0), (.int .u8 0), (.int .u8 0), (.int .u8 0), (.int .u8 0), (.int .u8 0), (.int .u8 0), (.int .u8 0), (.int .u8 0), (.int .u8 0), (.int .u8 0), (.int .u8 0), (.int .u8 0), (.int .u8 0), (.int .u8 0), (.int .u8 0)] [(0, 1, (.int .i64 u1)), (1, 64, (.agg ⟨cs5⟩))]).bind fun cs6 =>
      (fillL [(.int .i64 0), (.int .u8 0), (.int .u8 0), (.int .u8 0), (.int .u8 0), (.int .u8 0), (.int .u8 0), (.int .u8 0), (.int .u8 0), (.int .u8 0), (.int .u8 0), (.int .u8 0), (.int .u8 0), (.int .u8 0), (.int .u8 0), (.int .u8 0), (.int .u8 0), (.int .u8 0), (.int .u8 0), (.int .u8 0), (.int .u8 0), (.int .u8 0), (.int .u8 0), (.int .u8 0), (.int .u8 0), (.int .u8 0), (.int .u8 0), (.int .u8 0), (.int .u8 0), (.int .u8 0), (.int .u8 0), (.int .u8 0), (.int .u8 0), (.int .u8 0), (.int .u8 0), (.int .u8 0), (.int .u8 0), (.int .u8 0), (.int .u8 0), (.int .u8 0), (.int .u8 0), (.int .u8 0), (.int .u8 0), (.int .u8 0), (.int .u8 0), (.int .u8 0), (.int .u8 0), (.int .u8 0), (.int .u8 0), (.int .u8 0), (.int .u8 0), (.int .u8 0), (.int .u8 0), (.int .u8 0), (.int .u8 0), (.int .u8 0), (.int .u8 0), (.int .u8 0), (.int .u8 0), (.int .u8 0), (.int .u8 0), (.int .u8 0), (.int .u8 0), (.int .u8 0), (.int .u8 0)] [(0, 65, (.agg ⟨cs6⟩))]).bind fun cs7 =>
      bnd ((Heap.new p0.2 (.cells cs7 false 65))) fun h8 =>
      (appendK h8 72 65 x3 (.slice (some ⟨Heap.next p0.2, 0, some 0⟩) 1 1)).bind fun p9 =>
      (u0).bind fun q10 =>
      (stB 1 p9.1 p9.2 (some (fa q10 1))).bind fun h11 =>
      some ((0, ()), h11)))
def rs_sector_Disk_Write : Rs := [(.tmp 6, (.int .i64))]
def ps_sector_Disk_Write : List Ty := [.ptr, (.int .i64), .any]
theorem e_sector_Disk_Write (n : Nat) (u0 : Option Addr) (u1 : Int) (u2 : Value) (h : Heap) : f_sector_Disk_Write n u0 u1 u2 h = fB (sf_sector_Disk_Write n) (it_sector_Disk_Write n) n c2_sector_Disk_Write rs_sector_Disk_Write ps_sector_Disk_Write (u0, (u1, (u2, ()))) h := by kernel_rfl
noncomputable def s_sector_Disk_Write (n : Nat) : Sf1 := mkSf ps_sector_Disk_Write rs_sector_Disk_Write fun a h => f_sector_Disk_Write n a.1 a.2.1 a.2.2.1 h
/- slices.Backward[[]wicket/sector.waiting,wicket/sector.waiting] -/
def c2_slices_Backward_sector_waiting_sector_waiting : C2 := .seq (.reg [rg 1 (.box 0) .ptr, rg 2 (.move (.const .nilFunc)) (.fn k_slices_Backward_sector_waiting_sector_waiting_1 1)]) <|
 .seq (.reg [rg 3 (.makeFunc k_slices_Backward_sector_waiting_sector_waiting_1 [] [1]) (.fn k_slices_Backward_sector_waiting_sector_waiting_1 1), rg 2 (.move 3) (.fn k_slices_Backward_sector_waiting_sector_waiting_1 1)]) <|
 .ret
noncomputable def sf_slices_Backward_sector_waiting_sector_waiting (n : Nat) : Sf := sfOf []
noncomputable def it_slices_Backward_sector_waiting_sector_waiting (n : Nat) : It := itOf []
def f_slices_Backward_sector_waiting_sector_waiting (n : Nat) (u0 : Value) (h : Heap) : Option ((Ptrs 1 × Unit) × Heap) :=
  bif (cellsOf u0).all isCell then
    (bnd ((Heap.new h (.cells (cellsOf u0) false 0))) fun h0 =>
    some ((((some (nwA h)), ()), ()), h0))
  else
    (none)
def rs_slices_Backward_sector_waiting_sector_waiting : Rs := [(.tmp 2, (.fn k_slices_Backward_sector_waiting_sector_waiting_1 1))]
def ps_slices_Backward_sector_waiting_sector_waiting : List Ty := [.any]
theorem e_slices_Backward_sector_waiting_sector_waiting (n : Nat) (u0 : Value) (h : Heap) : f_slices_Backward_sector_waiting_sector_waiting n u0 h = fB (sf_slices_Backward_sector_waiting_sector_waiting n) (it_slices_Backward_sector_waiting_sector_waiting n) n c2_slices_Backward_sector_waiting_sector_waiting rs_slices_Backward_sector_waiting_sector_waiting ps_slices_Backward_sector_waiting_sector_waiting (u0, ()) h := by kernel_rfl
noncomputable def s_slices_Backward_sector_waiting_sector_waiting (n : Nat) : Sf1 := mkSf ps_slices_Backward_sector_waiting_sector_waiting rs_slices_Backward_sector_waiting_sector_waiting fun a h => f_slices_Backward_sector_waiting_sector_waiting n a.1 h
/- wicket/octet.Fields -/
def c2_octet_Fields : C2 := .seq (.reg [rg 4 (.move (.const (.slice none 0 0))) .any, rg 5 (.move (.const (.slice none 0 0))) .any, rg 6 (.move (.const (.int .i64 0))) .i]) <|
 .seq (.cut [(4, .any)] <|
 .seq (.reg [rg 11 (.move 1) .any, rg 12 (.lenS 11) .i, rg 13 (.move (.const (.int .i64 0))) .i]) <|
 .block 0 <|
 .loop [(4, .any), (13, .i)] <|
 .seq (.reg [rg 14 (.bin .lss 13 12) .any]) <|
 .seq (.cond 14 (.skip) (.exit 0)) <|
 .seq (.block 1 <|
 .seq (.reg [rg 15 (.idxSlice 1 11 13) .ptr, rg 16 (.load false 1 15) .i, rg 8 (.move 16) .i]) <|
 .seq (.reg [rg 17 (.move 8) .i, rg 18 (.call k_octet_may [17]) .bool, rg 19 (.un .not 18) .bool]) <|
 .cond 19 (.seq (.reg [rg 4 (.move (.const (.slice none 0 0))) .any, rg 5 (.move (.const (.slice none 0 0))) .any, rg 6 (.move (.const (.int .i64 2))) .i]) <|
 .ret) (.skip)) <|
 .reg [rg 20 (.bin .add 13 (.const (.int .i64 1))) .i, rg 13 (.move 20) .i]) <|
 .seq (.cut [(0, .any), (4, .any)] <|
 .seq (.reg [rg 21 (.move 1) .any, rg 22 (.lenS 21) .i, rg 23 (.move (.const (.int .i64 0))) .i]) <|
 .block 2 <|
 .loop [(0, .any), (4, .any), (23, .i)] <|
 .seq (.reg [rg 24 (.bin .lss 23 22) .any]) <|
 .seq (.cond 24 (.skip) (.exit 2)) <|
 .seq (.block 3 <|
 .seq (.reg [rg 25 (.idxSlice 1 21 23) .ptr, rg 26 (.load false 1 25) .i, rg 10 (.move 26) .i]) <|
 .seq (.seq (.reg [rg 27 (.move 0) .any, rg 28 (.lenS 27) .i, rg 29 (.move 10) .i, rg 30 (.bin .lss 28 29) .bool]) <|
 .cond 30 (.seq (.reg [rg 4 (.move (.const (.slice none 0 0))) .any, rg 5 (.move (.const (.slice none 0 0))) .any, rg 6 (.move (.const (.int .i64 11))) .i]) <|
 .ret) (.skip)) <|
 .seq (.reg [rg 31 (.move 4) .any, rg 32 (.move 0) .any, rg 33 (.move 10) .i, rg 34 (.slice 1 32 none (some 33) none) .any, rg 35 (.call k_octet_number [34]) (.int .u64), rg 36 (.buildSlice 1 1 [(.int .u64 0)] [(0, 1, 35)]) .any, rg 37 (.append 8 1 31 36) .any, rg 4 (.move 37) .any]) <|
 .reg [rg 38 (.move 0) .any, rg 39 (.move 10) .i, rg 40 (.slice 1 38 (some 39) none none) .any, rg 0 (.move 40) .any]) <|
 .reg [rg 41 (.bin .add 23 (.const (.int .i64 1))) .i, rg 23 (.move 41) .i]) <|
 .seq (.reg [rg 42 (.move 4) .any, rg 43 (.move 0) .any, rg 44 (.buildSlice 1 1 [(.slice none 0 0)] [(0, 1, 43)]) .any, rg 45 (.call k_octet_Join [44]) .any, rg 4 (.move 42) .any, rg 5 (.move 45) .any, rg 6 (.move (.const (.int .i64 0))) .i]) <|
 .ret
def f_octet_Fields_L8 (n : Nat) (u1 : Value) (n1 : Nat) (v2 : Value) (v3 : Int) (h4 : Heap) : Option (((Value × Int × Unit) × Heap) ⊕ (((Value × Unit) × Heap) ⊕ ((Value × Value × Int × Unit) × Heap))) :=
  bif (decide (v3 < (n1 : Int))) then
    ((ixB 1 u1 v3).bind fun q5 =>
    (ldT (.int .i64) h4 (some q5)).bind fun x6 =>
    (f_octet_may n x6 h4).bind fun p7 =>
    bif (!p7.1.1) then
      (some (.inr (.inr (((.slice none 0 0), ((.slice none 0 0), (2, ()))), p7.2))))
    else
      (some (.inl ((v2, ((IntKind.i64.wrap (v3 + 1)), ())), p7.2))))
  else
    (some (.inr (.inl ((v2, ()), h4))))
def f_octet_Fields_C9 (n : Nat) (u1 : Value) (h0 : Heap) : Option (((Value × Unit) × Heap) ⊕ ((Value × Value × Int × Unit) × Heap)) :=
  (lenB u1).bind fun n1 =>
  loopT (fun a => f_octet_Fields_L8 n u1 n1 a.1.1 a.1.2.1 a.2) n (((.slice none 0 0), (0, ())), h0)
def f_octet_Fields_L26 (n : Nat) (u1 : Value) (n12 : Nat) (v13 : Value) (v14 : Value) (v15 : Int) (h16 : Heap) : Option (((Value × Value × Int × Unit) × Heap) ⊕ (((Value × Value × Unit) × Heap) ⊕ ((Value × Value × Int × Unit) × Heap))) :=
  bif (decide (v15 < (n12 : Int))) then
    ((ixB 1 u1 v15).bind fun q17 =>
    (ldT (.int .i64) h16 (some q17)).bind fun x18 =>
    (lenB v13).bind fun n19 =>
    bif (decide ((n19 : Int) < x18)) then
      (some (.inr (.inr (((.slice none 0 0), ((.slice none 0 0), (11, ()))), h16))))
    else
      ((sliceK h16 1 none (some (.int .i64 x18)) none v13).bind fun p20 =>
      (f_octet_number n p20.1 h16).bind fun p21 =>
      (fillL [(.int .u64 0)] [(0, 1, (.int .u64 p21.1.1))]).bind fun cs22 =>
      bnd ((Heap.new p21.2 (.cells cs22 false 1))) fun h23 =>
      (appendK h23 8 1 v14 (.slice (some ⟨Heap.next p21.2, 0, some 0⟩) 1 1)).bind fun p24 =>
      (sliceK p24.2 1 (some (.int .i64 x18)) none none v13).bind fun p25 =>
      some (.inl ((p25.1, (p24.1, ((IntKind.i64.wrap (v15 + 1)), ()))), p24.2))))
  else
    (some (.inr (.inl ((v13, (v14, ())), h16))))
def f_octet_Fields_C27 (n : Nat) (u1 : Value) (u0 : Value) (a10 : ((Value × Unit) × Heap)) (h11 : Heap) : Option (((Value × Value × Unit) × Heap) ⊕ ((Value × Value × Int × Unit) × Heap)) :=
  (lenB u1).bind fun n12 =>
  loopT (fun a => f_octet_Fields_L26 n u1 n12 a.1.1 a.1.2.1 a.1.2.2.1 a.2) n ((u0, (a10.1.1, (0, ()))), h11)
noncomputable def sf_octet_Fields (n : Nat) : Sf := sfOf [(k_octet_may, s_octet_may n), (k_octet_number, s_octet_number n), (k_octet_Join, s_octet_Join n)]
noncomputable def it_octet_Fields (n : Nat) : It := itOf []
def f_octet_Fields (n : Nat) (u0 : Value) (u1 : Value) (h : Heap) : Option ((Value × Value × Int × Unit) × Heap) :=
  thenB (f_octet_Fields_C9 n u1 (h)) fun a10 =>
  thenB (f_octet_Fields_C27 n u1 u0 a10 (a10.2)) fun a28 =>
  (fillL [(.slice none 0 0)] [(0, 1, a28.1.1)]).bind fun cs29 =>
  bnd ((Heap.new a28.2 (.cells cs29 false 1))) fun h30 =>
  (f_octet_Join n (.slice (some ⟨Heap.next a28.2, 0, some 0⟩) 1 1) h30).bind fun p31 =>
  bif !isTuple a28.1.2.1 then
    (bif !isTuple p31.1.1 then
      (some ((a28.1.2.1, (p31.1.1, (0, ()))), p31.2))
    else
      (none))
  else
    (none)
def rs_octet_Fields : Rs := [(.tmp 4, .any), (.tmp 5, .any), (.tmp 6, (.int .i64))]
def ps_octet_Fields : List Ty := [.any, .any]
theorem e_octet_Fields (n : Nat) (u0 : Value) (u1 : Value) (h : Heap) : f_octet_Fields n u0 u1 h = fB (sf_octet_Fields n) (it_octet_Fields n) n c2_octet_Fields rs_octet_Fields ps_octet_Fields (u0, (u1, ())) h := by kernel_rfl
noncomputable def s_octet_Fields (n : Nat) : Sf1 := mkSf ps_octet_Fields rs_octet_Fields fun a h => f_octet_Fields n a.1 a.2.1 h
/- wicket/record.number -/
def c2_record_number : C2 := .seq (.reg [rg 4 (.move (.const (.slice none 0 0))) .any]) <|
 .seq (.reg [rg 8 (.move 0) (.int .u64), rg 9 (.move 1) .i, rg 10 (.call k_octet_Put [8, 9]) .any, rg 7 (.move 10) .any, rg 11 (.extract 7 0) .any, rg 12 (.extract 7 1) .i, rg 5 (.move 11) .any, rg 6 (.move 12) .i]) <|
 .seq (.reg [rg 13 (.move 5) .any, rg 4 (.move 13) .any]) <|
 .ret
noncomputable def sf_record_number (n : Nat) : Sf := sfOf [(k_octet_Put, s_octet_Put n)]
noncomputable def it_record_number (n : Nat) : It := itOf []
def f_record_number (n : Nat) (u0 : Int) (u1 : Int) (h : Heap) : Option ((Value × Unit) × Heap) :=
  (f_octet_Put n u0 u1 h).bind fun p0 =>
  bif !isTuple p0.1.1 then
    (some ((p0.1.1, ()), p0.2))
  else
    (none)
def rs_record_number : Rs := [(.tmp 4, .any)]
def ps_record_number : List Ty := [(.int .u64), (.int .i64)]
theorem e_record_number (n : Nat) (u0 : Int) (u1 : Int) (h : Heap) : f_record_number n u0 u1 h = fB (sf_record_number n) (it_record_number n) n c2_record_number rs_record_number ps_record_number (u0, (u1, ())) h := by kernel_rfl
noncomputable def s_record_number (n : Nat) : Sf1 := mkSf ps_record_number rs_record_number fun a h => f_record_number n a.1 a.2.1 h
/- wicket/wal.Open -/
def c2_wal_Open : C2 := .seq (.reg [rg 5 (.box 1) .ptr, rg 8 (.move (.const (.pointer none))) .ptr, rg 9 (.move (.const (.int .i64 0))) .i]) <|
 .seq (.seq (.reg [rg 11 (.move 0) .ptr, rg 12 (.eqv false .ptr 11 (.const (.pointer none))) .bool]) <|
 .cond 12 (.seq (.reg [rg 8 (.move (.const (.pointer none))) .ptr, rg 9 (.move (.const (.int .i64 1))) .i]) <|
 .ret) (.skip)) <|
 .seq (.seq (.reg [rg 13 (.load true 5 5) .any, rg 14 (.call k_super_Config [13]) .i, rg 10 (.move 14) .i]) <|
 .seq (.reg [rg 15 (.move 10) .i, rg 16 (.bin .neq 15 (.const (.int .i64 0))) .bool]) <|
 .cond 16 (.seq (.reg [rg 17 (.move 10) .i, rg 8 (.move (.const (.pointer none))) .ptr, rg 9 (.move 17) .i]) <|
 .ret) (.skip)) <|
 .seq (.block 0 <|
 .seq (.regd [(⟨0, [], false, ⟨(some 19), .move 0, none⟩⟩, .ptr), (⟨2, [], false, ⟨(some 21), .fieldAddr 0 5, none⟩⟩, .ptr), (⟨3, [2], false, ⟨(some 22), .load false 1 21, none⟩⟩, (.int .i64)), (⟨4, [3, 2], false, ⟨(some 23), .bin .add (.const (.int .i64 1)) 22, none⟩⟩, (.int .i64)), (⟨5, [], false, ⟨(some 24), .fieldAddr 1 5, none⟩⟩, .ptr), (⟨6, [5], false, ⟨(some 25), .load false 1 24, none⟩⟩, (.int .i64)), (⟨7, [4, 6, 3, 2, 5], false, ⟨(some 26), .bin .add 23 25, none⟩⟩, (.int .i64)), (⟨1, [0], true, ⟨(some 20), .call k_sector_Disk_Len [19], none⟩⟩, (.int .i64)), (⟨8, [1, 7, 0, 4, 6, 3, 2, 5], false, ⟨(some 27), .bin .neq 20 26, none⟩⟩, .bool), (⟨9, [8, 1, 7, 0, 4, 6, 3, 2, 5], false, ⟨(some 18), .move 27, none⟩⟩, .bool)]) <|
 .cond 18 (.seq (.reg [rg 8 (.move (.const (.pointer none))) .ptr, rg 9 (.move (.const (.int .i64 40))) .i]) <|
 .ret) (.seq (.cutn [(28, .bool)] <|
 .reg [rg 29 (.move 2) (.int .u64), rg 30 (.bin .gtr 29 (.const (.int .u64 4611686018427387904))) .bool, rg 31 (.move 30) .bool, rq 32 (.move 3) 31 (.int .u64), rq 33 (.bin .gtr 32 (.const (.int .u64 4611686018427387904))) 31 .bool, rg 34 (.pick 31 (.const (.bool true)) 33) .bool, rg 28 (.move 34) .bool]) <|
 .cond 28 (.seq (.reg [rg 8 (.move (.const (.pointer none))) .ptr, rg 9 (.move (.const (.int .i64 31))) .i]) <|
 .ret) (.seq (.reg [rg 36 (.move 3) (.int .u64), rg 37 (.bin .eql 36 (.const (.int .u64 0))) .bool, rg 35 (.move 37) .bool]) <|
 .cond 35 (.seq (.reg [rg 8 (.move (.const (.pointer none))) .ptr, rg 9 (.move (.const (.int .i64 2))) .i]) <|
 .ret) (.skip)))) <|
 .seq (.reg [rg 38 (.move 0) .ptr, rg 39 (.load true 5 5) .any, rg 40 (.move 3) (.int .u64), rg 41 (.move 2) (.int .u64), rg 42 (.move 2) (.int .u64), rg 43 (.move 2) (.int .u64), rg 44 (.build [(.pointer none), (.int .i64 0), (.int .i64 0), (.int .i64 0), (.int .i64 0), (.int .i64 0), (.int .u64 0), (.int .u64 0), (.int .u64 0), (.int .u64 0), (.int .i64 0), (.int .i64 0)] [(0, 1, 38), (1, 5, 39), (6, 1, 40), (7, 1, 41), (8, 1, 42), (9, 1, 43)]) .any, rg 45 (.box 44) .ptr, rg 8 (.move 45) .ptr, rg 9 (.move (.const (.int .i64 0))) .i]) <|
 .ret
noncomputable def sf_wal_Open (n : Nat) : Sf := sfOf [(k_super_Config, s_super_Config n), (k_sector_Disk_Len, s_sector_Disk_Len n)]
noncomputable def it_wal_Open (n : Nat) : It := itOf []
def f_wal_Open (n : Nat) (u0 : Option Addr) (u1 : Value) (u2 : Int) (u3 : Int) (h : Heap) : Option ((Option Addr × Int × Unit) × Heap) :=
  bif (cellsOf u1).all isCell then
    (bnd ((Heap.new h (.cells (cellsOf u1) false 0))) fun h0 =>
    bif (Option.isNone u0) then
      (some ((none, (1, ())), h0))
    else
      ((ldA 5 h0 (some (nwA h))).bind fun cs1 =>
      (f_super_Config n (.agg ⟨cs1⟩) h0).bind fun p2 =>
      bif (!decide (p2.1.1 = 0)) then
        (some ((none, (p2.1.1, ())), p2.2))
      else
        ((ldT (.int .i64) p2.2 (some (fa (nwA h) 0))).bind fun x3 =>
        (ldT (.int .i64) p2.2 (some (fa (nwA h) 1))).bind fun x4 =>
        (f_sector_Disk_Len n u0 (hid p2.2 [] ((Addr.block (fa (nwA h) 1)) :: ((Addr.block (fa (nwA h) 0)) :: [])))).bind fun p5 =>
        bnd (Heap.putBack p5.2 p2.2 ([] ++ ((Addr.block (fa (nwA h) 1)) :: ((Addr.block (fa (nwA h) 0)) :: [])))) fun h6 =>
        bif (!decide (p5.1.1 = (IntKind.i64.wrap ((IntKind.i64.wrap (1 + x3)) + x4)))) then
          (some ((none, (40, ())), h6))
        else
          (((bif (decide (4611686018427387904 < u2)) then
              (some ((true, ()), h6))
            else
              (some (((decide (4611686018427387904 < u3)), ()), h6))) : Option ((Bool × Unit) × Heap)).bind fun a7 =>
          bif a7.1.1 then
            (some ((none, (31, ())), a7.2))
          else
            (bif (decide (u3 = 0)) then
              (some ((none, (2, ())), a7.2))
            else
              ((ldA 5 a7.2 (some (nwA h))).bind fun cs8 =>
              (fillL [(.pointer none), (.int .i64 0), (.int .i64 0), (.int .i64 0), (.int .i64 0), (.int .i64 0), (.int .u64 0), (.int .u64 0), (.int .u64 0), (.int .u64 0), (.int .i64 0), (.int .i64 0)] [(0, 1, (.pointer u0)), (1, 5, (.agg ⟨cs8⟩)), (6, 1, (.int .u64 u3)), (7, 1, (.int .u64 u2)), (8, 1, (.int .u64 u2)), (9, 1, (.int .u64 u2))]).bind fun cs9 =>
              bif (cs9 : List Value).all isCell then
                (bnd ((Heap.new a7.2 (.cells cs9 false 0))) fun h10 =>
                some (((some (nwA a7.2)), (0, ())), h10))
              else
                (none)))))))
  else
    (none)
def rs_wal_Open : Rs := [(.tmp 8, .ptr), (.tmp 9, (.int .i64))]
def ps_wal_Open : List Ty := [.ptr, .any, (.int .u64), (.int .u64)]
theorem e_wal_Open (n : Nat) (u0 : Option Addr) (u1 : Value) (u2 : Int) (u3 : Int) (h : Heap) : f_wal_Open n u0 u1 u2 u3 h = fB (sf_wal_Open n) (it_wal_Open n) n c2_wal_Open rs_wal_Open ps_wal_Open (u0, (u1, (u2, (u3, ())))) h := by kernel_rfl
noncomputable def s_wal_Open (n : Nat) : Sf1 := mkSf ps_wal_Open rs_wal_Open fun a h => f_wal_Open n a.1 a.2.1 a.2.2.1 a.2.2.2.1 h
/- wicket/super.Encode -/
def c2_super_Encode : C2 := .seq (.reg [rg 1 (.box 0) .ptr, rg 2 (.move (.const (.slice none 0 0))) .any, rg 3 (.move (.const (.int .i64 0))) .i]) <|
 .seq (.seq (.reg [rg 13 (.load true 7 1) .any, rg 14 (.call k_super_Check [13]) .i, rg 4 (.move 14) .i]) <|
 .seq (.reg [rg 15 (.move 4) .i, rg 16 (.bin .neq 15 (.const (.int .i64 0))) .bool]) <|
 .cond 16 (.seq (.reg [rg 17 (.move 4) .i, rg 2 (.move (.const (.slice none 0 0))) .any, rg 3 (.move 17) .i]) <|
 .ret) (.skip)) <|
 .seq (.reg [rg 18 (.fieldAddr 0 1) .ptr, rg 19 (.load true 5 18) .any, rg 5 (.alloc (List.replicate 5 (.int .i64 0))) .ptr, rn (.store 5 5 19) .any]) <|
 .seq (.reg [rg 20 (.buildSlice 6 1 (List.replicate 6 (.int .u8 0)) [(0, 1, (.const (.int .u8 87))), (1, 1, (.const (.int .u8 73))), (2, 1, (.const (.int .u8 67))), (3, 1, (.const (.int .u8 75))), (4, 1, (.const (.int .u8 69))), (5, 1, (.const (.int .u8 84)))]) .any, rg 21 (.markS 20) .any, rg 6 (.move 21) .any]) <|
 .seq (.cutn [(6, .any)] <|
 .seq (.reg [rg 22 (.fieldAddr 0 5) .ptr, rg 23 (.load false 1 22) .i, rg 24 (.conv .u64 23) (.int .u64), rg 25 (.fieldAddr 1 5) .ptr, rg 26 (.load false 1 25) .i, rg 27 (.conv .u64 26) (.int .u64), rg 28 (.fieldAddr 2 5) .ptr, rg 29 (.load false 1 28) .i, rg 30 (.conv .u64 29) (.int .u64), rg 31 (.fieldAddr 3 5) .ptr, rg 32 (.load false 1 31) .i, rg 33 (.conv .u64 32) (.int .u64), rg 34 (.fieldAddr 4 5) .ptr, rg 35 (.load false 1 34) .i, rg 36 (.conv .u64 35) (.int .u64), rg 37 (.fieldAddr 5 1) .ptr, rg 38 (.load false 1 37) (.int .u64), rg 39 (.fieldAddr 6 1) .ptr, rg 40 (.load false 1 39) (.int .u64), rg 41 (.buildSlice 10 1 (List.replicate 10 (.int .u64 0)) [(0, 1, (.const (.int .u64 1))), (1, 1, (.const (.int .u64 0))), (2, 1, 24), (3, 1, 27), (4, 1, 30), (5, 1, 33), (6, 1, 36), (7, 1, (.const (.int .u64 0))), (8, 1, 38), (9, 1, 40)]) .any, rg 42 (.lenS 41) .i, rg 43 (.move (.const (.int .i64 0))) .i]) <|
 .block 0 <|
 .loop [(6, .any), (43, .i)] <|
 .seq (.reg [rg 44 (.bin .lss 43 42) .any]) <|
 .seq (.cond 44 (.skip) (.exit 0)) <|
 .seq (.block 1 <|
 .seq (.reg [rg 45 (.move 43) .i, rg 46 (.idxSlice 1 41 43) .ptr, rg 47 (.load false 1 46) (.int .u64), rg 7 (.move 45) .i, rg 8 (.move 47) (.int .u64)]) <|
 .seq (.reg [rg 49 (.move 8) (.int .u64), rg 50 (.move 7) .i, rg 51 (.idxArr 10 1 (.global 0) 50) .ptr, rg 52 (.load false 1 51) .i, rg 53 (.call k_octet_Put [49, 52]) .any, rg 48 (.move 53) .any, rg 54 (.extract 48 0) .any, rg 55 (.extract 48 1) .i, rg 9 (.move 54) .any, rg 10 (.move 55) .i]) <|
 .reg [rg 56 (.move 6) .any, rg 57 (.move 9) .any, rg 58 (.append 1 1 56 57) .any, rg 6 (.move 58) .any]) <|
 .reg [rg 59 (.bin .add 43 (.const (.int .i64 1))) .i, rg 43 (.move 59) .i]) <|
 .seq (.reg [rg 61 (.move 6) .any, rg 62 (.call k_octet_Pad [61, (.const (.int .i64 60))]) .any, rg 60 (.move 62) .any, rg 63 (.extract 60 0) .any, rg 64 (.extract 60 1) .i, rg 6 (.move 63) .any]) <|
 .seq (.reg [rg 66 (.move 6) .any, rg 67 (.buildSlice 1 1 [(.slice none 0 0)] [(0, 1, 66)]) .any, rg 68 (.call k_sum_Of [67]) (.int .u32), rg 69 (.conv .u64 68) (.int .u64), rg 70 (.call k_octet_Put [69, (.const (.int .i64 4))]) .any, rg 65 (.move 70) .any, rg 71 (.extract 65 0) .any, rg 72 (.extract 65 1) .i, rg 11 (.move 71) .any, rg 12 (.move 72) .i]) <|
 .seq (.reg [rg 73 (.move 6) .any, rg 74 (.move 11) .any, rg 75 (.append 1 1 73 74) .any, rg 2 (.move 75) .any, rg 3 (.move (.const (.int .i64 0))) .i]) <|
 .ret
def f_super_Encode_L28 (n : Nat) (p8 : (Value × Heap)) (n18 : Nat) (v19 : Value) (v20 : Int) (h21 : Heap) : Option (((Value × Int × Unit) × Heap) ⊕ ((Value × Unit) × Heap)) :=
  bif (decide (v20 < (n18 : Int))) then
    ((ixB 1 (.slice (some ⟨Heap.next p8.2, 0, some 0⟩) 10 10) v20).bind fun q22 =>
    (ldT (.int .u64) h21 (some q22)).bind fun x23 =>
    (ixA 10 1 (some ⟨0, 0, none⟩) v20).bind fun q24 =>
    (ldT (.int .i64) h21 (some q24)).bind fun x25 =>
    (f_octet_Put n x23 x25 h21).bind fun p26 =>
    (appendK p26.2 1 1 v19 p26.1.1).bind fun p27 =>
    some (.inl ((p27.1, ((IntKind.i64.wrap (v20 + 1)), ())), p27.2)))
  else
    (some (.inr ((v19, ()), h21)))
noncomputable def sf_super_Encode (n : Nat) : Sf := sfOf [(k_super_Check, s_super_Check n), (k_octet_Put, s_octet_Put n), (k_octet_Pad, s_octet_Pad n), (k_sum_Of, s_sum_Of n)]
noncomputable def it_super_Encode (n : Nat) : It := itOf []
def f_super_Encode (n : Nat) (u0 : Value) (h : Heap) : Option ((Value × Int × Unit) × Heap) :=
  bif (cellsOf u0).all isCell then
    (bnd ((Heap.new h (.cells (cellsOf u0) false 0))) fun h0 =>
    (ldA 7 h0 (some (nwA h))).bind fun cs1 =>
    (f_super_Check n (.agg ⟨cs1⟩) h0).bind fun p2 =>
    bif (!decide (p2.1.1 = 0)) then
      (some (((.slice none 0 0), (p2.1.1, ())), p2.2))
    else
      ((ldA 5 p2.2 (some (fa (nwA h) 0))).bind fun cs3 =>
      bnd ((Heap.new p2.2 (.cells (List.replicate 5 (.int .i64 0)) false 0))) fun h4 =>
      (stB 5 (.agg ⟨cs3⟩) h4 (some (nwA p2.2))).bind fun h5 =>
      (fillL (List.replicate 6 (.int .u8 0)) [(0, 1, (.int .u8 87)), (1, 1, (.int .u8 73)), (2, 1, (.int .u8 67)), (3, 1, (.int .u8 75)), (4, 1, (.int .u8 69)), (5, 1, (.int .u8 84))]).bind fun cs6 =>
      bnd ((Heap.new h5 (.cells cs6 false 1))) fun h7 =>
      (markSK h7 (.slice (some ⟨Heap.next h5, 0, some 0⟩) 6 6)).bind fun p8 =>
      (((ldT (.int .i64) p8.2 (some (fa (nwA p2.2) 0))).bind fun x9 =>
        (ldT (.int .i64) p8.2 (some (fa (nwA p2.2) 1))).bind fun x10 =>
        (ldT (.int .i64) p8.2 (some (fa (nwA p2.2) 2))).bind fun x11 =>
        (ldT (.int .i64) p8.2 (some (fa (nwA p2.2) 3))).bind fun x12 =>
        (ldT (.int .i64) p8.2 (some (fa (nwA p2.2) 4))).bind fun x13 =>
        (ldT (.int .u64) p8.2 (some (fa (nwA h) 5))).bind fun x14 =>
        (ldT (.int .u64) p8.2 (some (fa (nwA h) 6))).bind fun x15 =>
        (fillL (List.replicate 10 (.int .u64 0)) [(0, 1, (.int .u64 1)), (1, 1, (.int .u64 0)), (2, 1, (.int .u64 (IntKind.u64.wrap (x9)))), (3, 1, (.int .u64 (IntKind.u64.wrap (x10)))), (4, 1, (.int .u64 (IntKind.u64.wrap (x11)))), (5, 1, (.int .u64 (IntKind.u64.wrap (x12)))), (6, 1, (.int .u64 (IntKind.u64.wrap (x13)))), (7, 1, (.int .u64 0)), (8, 1, (.int .u64 x14)), (9, 1, (.int .u64 x15))]).bind fun cs16 =>
        bnd ((Heap.new p8.2 (.cells cs16 false 1))) fun h17 =>
        (lenB (.slice (some ⟨Heap.next p8.2, 0, some 0⟩) 10 10)).bind fun n18 =>
        loopT (fun a => f_super_Encode_L28 n p8 n18 a.1.1 a.1.2.1 a.2) n ((p8.1, (0, ())), h17)) : Option ((Value × Unit) × Heap)).bind fun a29 =>
      (f_octet_Pad n a29.1.1 60 a29.2).bind fun p30 =>
      (fillL [(.slice none 0 0)] [(0, 1, p30.1.1)]).bind fun cs31 =>
      bnd ((Heap.new p30.2 (.cells cs31 false 1))) fun h32 =>
      (f_sum_Of n (.slice (some ⟨Heap.next p30.2, 0, some 0⟩) 1 1) h32).bind fun p33 =>
      (f_octet_Put n (IntKind.u64.wrap (p33.1.1)) 4 p33.2).bind fun p34 =>
      (appendK p34.2 1 1 p30.1.1 p34.1.1).bind fun p35 =>
      bif !isTuple p35.1 then
        (some ((p35.1, (0, ())), p35.2))
      else
        (none)))
  else
    (none)
def rs_super_Encode : Rs := [(.tmp 2, .any), (.tmp 3, (.int .i64))]
def ps_super_Encode : List Ty := [.any]
theorem e_super_Encode (n : Nat) (u0 : Value) (h : Heap) : f_super_Encode n u0 h = fB (sf_super_Encode n) (it_super_Encode n) n c2_super_Encode rs_super_Encode ps_super_Encode (u0, ()) h := by kernel_rfl
noncomputable def s_super_Encode (n : Nat) : Sf1 := mkSf ps_super_Encode rs_super_Encode fun a h => f_super_Encode n a.1 h
end Go.Proofs.YtdlfdieehioolaaDoor
