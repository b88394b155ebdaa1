/- The functions at hand, the second half. -/
import Derived.Test.YtdlfdieehioolaaDoorLScanFindsA
namespace Go.Proofs.YtdlfdieehioolaaDoor
open Go
set_option linter.unusedVariables false
set_option maxRecDepth 100000
/- wicket/home.Encode -/
def c2_home_Encode : C2 := .seq (.reg [rg 3 (.box 1) .ptr, rg 4 (.move (.const (.slice none 0 0))) .any, rg 5 (.move (.const (.int .i64 0))) .i]) <|
 .seq (.seq (.reg [rg 9 (.move 0) .i, rg 10 (.call k_home_block [9]) .bool, rg 11 (.un .not 10) .bool]) <|
 .cond 11 (.seq (.reg [rg 4 (.move (.const (.slice none 0 0))) .any, rg 5 (.move (.const (.int .i64 51))) .i]) <|
 .ret) (.skip)) <|
 .seq (.reg [rg 12 (.buildSlice 4 1 (List.replicate 4 (.int .u8 0)) [(0, 1, (.const (.int .u8 72))), (1, 1, (.const (.int .u8 79))), (2, 1, (.const (.int .u8 77))), (3, 1, (.const (.int .u8 69)))]) .any, rg 13 (.markS 12) .any, rg 14 (.move 0) .i, rg 15 (.conv .u8 14) .u, rg 16 (.buildSlice 2 1 [(.int .u8 0), (.int .u8 0)] [(0, 1, (.const (.int .u8 1))), (1, 1, 15)]) .any, rg 17 (.buildSlice 2 1 [(.slice none 0 0), (.slice none 0 0)] [(0, 1, 13), (1, 1, 16)]) .any, rg 18 (.call k_octet_Join [17]) .any, rg 6 (.move 18) .any]) <|
 .seq (.regd [(⟨0, [], false, ⟨(some 19), .move 6, none⟩⟩, .any), (⟨1, [], false, ⟨(some 20), .move 6, none⟩⟩, .any), (⟨2, [1], false, ⟨(some 21), .lenS 20, none⟩⟩, (.int .i64)), (⟨3, [2, 1], false, ⟨(some 22), .bin .sub (.const (.int .i64 28)) 21, none⟩⟩, (.int .i64)), (⟨4, [3, 2, 1], false, ⟨(some 23), .makeSlice 1 1 [(.int .u8 0)] 22 22, none⟩⟩, .any), (⟨5, [], false, ⟨(some 24), .sliceArr 32 1 3 none none none, none⟩⟩, .any), (⟨6, [0, 4, 5, 3, 2, 1], false, ⟨(some 25), .buildSlice 3 1 [(.slice none 0 0), (.slice none 0 0), (.slice none 0 0)] [(0, 1, 19), (1, 1, 23), (2, 1, 24)], none⟩⟩, .any), (⟨7, [6, 0, 4, 5, 3, 2, 1], true, ⟨(some 26), .call k_octet_Join [25], none⟩⟩, .any), (⟨8, [7, 0, 1, 2, 3, 4, 5, 6], true, ⟨(some 6), .move 26, none⟩⟩, .any)]) <|
 .seq (.reg [rg 28 (.move 6) .any, rg 29 (.buildSlice 1 1 [(.slice none 0 0)] [(0, 1, 28)]) .any, rg 30 (.call k_sum_Of [29]) (.int .u32), rg 31 (.conv .u64 30) (.int .u64), rg 32 (.call k_octet_Put [31, (.const (.int .i64 4))]) .any, rg 27 (.move 32) .any, rg 33 (.extract 27 0) .any, rg 34 (.extract 27 1) .i, rg 7 (.move 33) .any, rg 8 (.move 34) .i]) <|
 .seq (.reg [rg 35 (.move 6) .any, rg 36 (.move 7) .any, rg 37 (.buildSlice 2 1 [(.slice none 0 0), (.slice none 0 0)] [(0, 1, 35), (1, 1, 36)]) .any, rg 38 (.call k_octet_Join [37]) .any, rg 39 (.move 8) .i, rg 4 (.move 38) .any, rg 5 (.move 39) .i]) <|
 .ret
noncomputable def sf_home_Encode (n : Nat) : Sf := sfOf [(k_home_block, s_home_block n), (k_octet_Join, s_octet_Join n), (k_sum_Of, s_sum_Of n), (k_octet_Put, s_octet_Put n)]
noncomputable def it_home_Encode (n : Nat) : It := itOf []
def f_home_Encode (n : Nat) (u0 : Int) (u1 : Value) (h : Heap) : Option ((Value × Int × Unit) × Heap) :=
  bif (cellsOf u1).all isCell then
    (bnd ((Heap.new h (.cells (cellsOf u1) false 0))) fun h0 =>
    (f_home_block n u0 h0).bind fun p1 =>
    bif (!p1.1.1) then
      (some (((.slice none 0 0), (51, ())), p1.2))
    else
      ((fillL (List.replicate 4 (.int .u8 0)) [(0, 1, (.int .u8 72)), (1, 1, (.int .u8 79)), (2, 1, (.int .u8 77)), (3, 1, (.int .u8 69))]).bind fun cs2 =>
      bnd ((Heap.new p1.2 (.cells cs2 false 1))) fun h3 =>
      (markSK h3 (.slice (some ⟨Heap.next p1.2, 0, some 0⟩) 4 4)).bind fun p4 =>
      (fillL [(.int .u8 0), (.int .u8 0)] [(0, 1, (.int .u8 1)), (1, 1, (.int .u8 (IntKind.u8.wrap (u0))))]).bind fun cs5 =>
      bnd ((Heap.new p4.2 (.cells cs5 false 1))) fun h6 =>
      (fillL [(.slice none 0 0), (.slice none 0 0)] [(0, 1, p4.1), (1, 1, (.slice (some ⟨Heap.next p4.2, 0, some 0⟩) 2 2))]).bind fun cs7 =>
      bnd ((Heap.new h6 (.cells cs7 false 1))) fun h8 =>
      (f_octet_Join n (.slice (some ⟨Heap.next h6, 0, some 0⟩) 2 2) h8).bind fun p9 =>
      (lenB p9.1.1).bind fun n10 =>
      (mkSl (Heap.next p9.2) 1 1 [(.int .u8 0)] (.int .i64 (IntKind.i64.wrap (28 - (n10 : Int)))) (.int .i64 (IntKind.i64.wrap (28 - (n10 : Int))))).bind fun p11 =>
      bnd ((Heap.new p9.2 (p11.2))) fun h12 =>
      (sliceArrK (Heap.dropAll h12 ((Heap.next p9.2) :: [])) 32 1 none none (.pointer (some (nwA h)))).bind fun p13 =>
      (fillL [(.slice none 0 0), (.slice none 0 0), (.slice none 0 0)] [(0, 1, p9.1.1), (1, 1, p11.1), (2, 1, p13.1)]).bind fun cs14 =>
      bnd ((Heap.new h12 (.cells cs14 false 1))) fun h15 =>
      (f_octet_Join n (.slice (some ⟨Heap.next h12, 0, some 0⟩) 3 3) h15).bind fun p16 =>
      (fillL [(.slice none 0 0)] [(0, 1, p16.1.1)]).bind fun cs17 =>
      bnd ((Heap.new p16.2 (.cells cs17 false 1))) fun h18 =>
      (f_sum_Of n (.slice (some ⟨Heap.next p16.2, 0, some 0⟩) 1 1) h18).bind fun p19 =>
      (f_octet_Put n (IntKind.u64.wrap (p19.1.1)) 4 p19.2).bind fun p20 =>
      (fillL [(.slice none 0 0), (.slice none 0 0)] [(0, 1, p16.1.1), (1, 1, p20.1.1)]).bind fun cs21 =>
      bnd ((Heap.new p20.2 (.cells cs21 false 1))) fun h22 =>
      (f_octet_Join n (.slice (some ⟨Heap.next p20.2, 0, some 0⟩) 2 2) h22).bind fun p23 =>
      bif !isTuple p23.1.1 then
        (some ((p23.1.1, (p20.1.2.1, ())), p23.2))
      else
        (none)))
  else
    (none)
def rs_home_Encode : Rs := [(.tmp 4, .any), (.tmp 5, (.int .i64))]
def ps_home_Encode : List Ty := [(.int .i64), .any]
theorem e_home_Encode (n : Nat) (u0 : Int) (u1 : Value) (h : Heap) : f_home_Encode n u0 u1 h = fB (sf_home_Encode n) (it_home_Encode n) n c2_home_Encode rs_home_Encode ps_home_Encode (u0, (u1, ())) h := by kernel_rfl
noncomputable def s_home_Encode (n : Nat) : Sf1 := mkSf ps_home_Encode rs_home_Encode fun a h => f_home_Encode n a.1 a.2.1 h
/- (*wicket/sector.Disk).Read -/
def c2_sector_Disk_Read : C2 := .seq (.reg [rg 3 (.box 1) .ptr, rg 4 (.alloc [(.slice none 0 0)]) .ptr, rg 5 (.alloc [(.int .i64 0)]) .ptr]) <|
 .seq (.seq (.reg [rg 9 (.move 0) .ptr, rg 10 (.load false 1 3) .i, rg 11 (.call k_sector_Disk_asked [9, 10]) .i, rg 6 (.move 11) .i]) <|
 .seq (.reg [rg 12 (.move 6) .i, rg 13 (.bin .neq 12 (.const (.int .i64 0))) .bool]) <|
 .cond 13 (.seq (.reg [rg 14 (.move 6) .i, rn (.store 1 4 (.const (.slice none 0 0))) .any, rn (.store 1 5 14) .any]) <|
 .ret) (.skip)) <|
 .seq (.seq (.reg [rg 15 (.move 0) .ptr, rg 16 (.nilCheck 15) .ptr, rg 17 (.fieldAddr 1 16) .ptr, rg 18 (.load false 1 17) .any, rg 19 (.call k_slices_Backward_sector_waiting_sector_waiting [18]) (.fn k_slices_Backward_sector_waiting_sector_waiting_1 1)]) <|
 .block 0 <|
 .range 19 [20, 21] [.ret] (.reg [rg 8 (.alloc [(.int .i64 0), (.int .u8 0), (.int .u8 0), (.int .u8 0), (.int .u8 0), (.int .u8 0), (.int .u8 0), (.int .u8 0), (.int .u8 0), (.int .u8 0), (.int .u8 0), (.int .u8 0), (.int .u8 0), (.int .u8 0), (.int .u8 0), (.int .u8 0), (.int .u8 0), (.int .u8 0), (.int .u8 0), (.int .u8 0), (.int .u8 0), (.int .u8 0), (.int .u8 0), (.int .u8 0), (.int .u8 0), (.int .u8 0), (.int .u8 0), (.int .u8 0), (.int .u8 0), (.int .u8 0), (.int .u8 0), (.int .u8 0), (.int .u8 0), (.int .u8 0), (.int .u8 0), (.int .u8 0), (.int .u8 0), (.int .u8 0), (.int .u8 0), (.int .u8 0), (.int .u8 0), (.int .u8 0), (.int .u8 0), (.int .u8 0), (.int .u8 0), (.int .u8 0), (.int .u8 0), (.int .u8 0), (.int .u8 0), (.int .u8 0), (.int .u8 0), (.int .u8 0), (.int .u8 0), (.int .u8 0), (.int .u8 0), (.int .u8 0), (.int .u8 0), (.int .u8 0), (.int .u8 0), (.int .u8 0), (.int .u8 0), (.int .u8 0), (.int .u8 0), (.int .u8 0), (.int .u8 0)]) .ptr, rn (.store 65 8 21) .any]) (.block 1 <|
 .seq (.reg [rg 22 (.fieldAddr 0 8) .ptr, rg 23 (.load false 1 22) .i, rg 24 (.load false 1 3) .i, rg 25 (.bin .eql 23 24) .bool]) <|
 .cond 25 (.seq (.reg [rg 26 (.fieldAddr 1 8) .ptr, rg 27 (.sliceArr 64 1 26 none none none) .any, rg 28 (.call k_slices_Clone_byte_byte [27]) .any, rn (.store 1 4 28) .any, rn (.store 1 5 (.const (.int .i64 0))) .any]) <|
 .ret) (.skip))) <|
 .seq (.regd [(⟨0, [], false, ⟨(some 29), .move 0, none⟩⟩, .ptr), (⟨1, [0], false, ⟨(some 30), .nilCheck 29, none⟩⟩, .ptr), (⟨2, [1, 0], false, ⟨(some 31), .fieldAddr 0 30, none⟩⟩, .ptr), (⟨3, [2, 1, 0], false, ⟨(some 32), .load false 1 31, none⟩⟩, .any), (⟨4, [], false, ⟨(some 33), .load false 1 3, none⟩⟩, (.int .i64)), (⟨5, [3, 4, 2, 1, 0], false, ⟨(some 34), .idxSlice 64 32 33, none⟩⟩, .ptr), (⟨6, [5, 3, 4, 2, 1, 0], false, ⟨(some 35), .sliceArr 64 1 34 none none none, none⟩⟩, .any), (⟨7, [6, 5, 3, 4, 2, 1, 0], true, ⟨(some 36), .call k_slices_Clone_byte_byte [35], none⟩⟩, .any), (⟨8, [7, 0, 1, 2, 3, 4, 5, 6], true, ⟨none, .store 1 4 36, none⟩⟩, .any), (⟨9, [8, 0, 1, 2, 3, 4, 5, 6, 7], true, ⟨none, .store 1 5 (.const (.int .i64 0)), none⟩⟩, .any)]) <|
 .ret
def f_sector_Disk_Read_B23 (n : Nat) (h : Heap) (h0 : Heap) (h1 : Heap) (y12 : Int) (y13 : Value) (v14 : (Heap × Nat)) : Option (Bool × (Heap × Nat)) :=
  bif Nat.beq v14.2 0 then
    (bnd ((Heap.new v14.1 (.cells [(.int .i64 0), (.int .u8 0), (.int .u8 0), (.int .u8 0), (.int .u8 0), (.int .u8 0), (.int .u8 0), (.int .u8 0), (.int .u8 0), (.int .u8 0), (.int .u8 0), (.int .u8 0), (.int .u8 0), (.int .u8 0), (.int .u8 0), (.int .u8 0), (.int .u8 0), (.int .u8 0), (.int .u8 0), (.int .u8 0), (.int .u8 0), (.int .u8 0), (.int .u8 0), (.int .u8 0), (.int .u8 0), (.int .u8 0), (.int .u8 0), (.int .u8 0), (.int .u8 0), (.int .u8 0), (.int .u8 0), (.int .u8 0), (.int .u8 0), (.int .u8 0), (.int .u8 0), (.int .u8 0), (.int .u8 0), (.int .u8 0), (.int .u8 0), (.int .u8 0), (.int .u8 0), (.int .u8 0), (.int .u8 0), (.int .u8 0), (.int .u8 0), (.int .u8 0), (.int .u8 0), (.int .u8 0), (.int .u8 0), (.int .u8 0), (.int .u8 0), (.int .u8 0), (.int .u8 0), (.int .u8 0), (.int .u8 0), (.int .u8 0), (.int .u8 0), (.int .u8 0), (.int .u8 0), (.int .u8 0), (.int .u8 0), (.int .u8 0), (.int .u8 0), (.int .u8 0), (.int .u8 0)] false 0))) fun h15 =>
    (stB 65 y13 h15 (some (nwA v14.1))).bind fun h16 =>
    (ldT (.int .i64) h16 (some (fa (nwA v14.1) 0))).bind fun x17 =>
    (ldT (.int .i64) h16 (some (nwA h))).bind fun x18 =>
    bif (decide (x17 = x18)) then
      ((sliceArrK h16 64 1 none none (.pointer (some (fa (nwA v14.1) 1)))).bind fun p19 =>
      (f_slices_Clone_byte_byte n p19.1 h16).bind fun p20 =>
      (stB 1 p20.1.1 p20.2 (some (nwA h0))).bind fun h21 =>
      (stB 1 (.int .i64 0) h21 (some (nwA h1))).bind fun h22 =>
      some (false, (h22, 1)))
    else
      (some (true, (h16, 0))))
  else none
noncomputable def sf_sector_Disk_Read (n : Nat) : Sf := sfOf [(k_sector_Disk_asked, s_sector_Disk_asked n), (k_slices_Backward_sector_waiting_sector_waiting, s_slices_Backward_sector_waiting_sector_waiting n), (k_slices_Clone_byte_byte, s_slices_Clone_byte_byte n)]
noncomputable def it_sector_Disk_Read (n : Nat) : It := itOf [(k_slices_Backward_sector_waiting_sector_waiting_1, i_slices_Backward_sector_waiting_sector_waiting_1 n)]
def f_sector_Disk_Read (n : Nat) (u0 : Option Addr) (u1 : Int) (h : Heap) : Option ((Value × Int × Unit) × Heap) :=
  bnd ((Heap.new h (.cells [(.int .i64 u1)] false 0))) fun h0 =>
  bnd ((Heap.new h0 (.cells [(.slice none 0 0)] false 0))) fun h1 =>
  bnd ((Heap.new h1 (.cells [(.int .i64 0)] false 0))) fun h2 =>
  (ldT (.int .i64) h2 (some (nwA h))).bind fun x3 =>
  (f_sector_Disk_asked n u0 x3 h2).bind fun p4 =>
  bif (!decide (p4.1.1 = 0)) then
    ((stB 1 (.slice none 0 0) p4.2 (some (nwA h0))).bind fun h5 =>
    (stB 1 (.int .i64 p4.1.1) h5 (some (nwA h1))).bind fun h6 =>
    (ldT .any h6 (some (nwA h0))).bind fun x7 =>
    bif !isTuple x7 then
      ((ldT (.int .i64) h6 (some (nwA h1))).bind fun x8 =>
      some ((x7, (x8, ())), h6))
    else
      (none))
  else
    ((u0).bind fun q9 =>
    (ldT .any p4.2 (some (fa q9 1))).bind fun x10 =>
    (f_slices_Backward_sector_waiting_sector_waiting n x10 p4.2).bind fun p11 =>
    (f_slices_Backward_sector_waiting_sector_waiting_1 (V := (Heap × Nat)) (fun v => v.1) (fun v h => (h, v.2)) (fun a v => f_sector_Disk_Read_B23 n h h0 h1 a.1 a.2.1 v) n p11.1.1.1 ((Heap.hole (Heap.hole p11.2)), 0)).bind fun v24 =>
    bif Nat.beq v24.2 0 then
      ((u0).bind fun q25 =>
      (ldT .any v24.1 (some (fa q25 0))).bind fun x26 =>
      (ldT (.int .i64) v24.1 (some (nwA h))).bind fun x27 =>
      (ixB 64 x26 x27).bind fun q28 =>
      (sliceArrK v24.1 64 1 none none (.pointer (some q28))).bind fun p29 =>
      (f_slices_Clone_byte_byte n p29.1 v24.1).bind fun p30 =>
      (stB 1 p30.1.1 p30.2 (some (nwA h0))).bind fun h31 =>
      (stB 1 (.int .i64 0) h31 (some (nwA h1))).bind fun h32 =>
      (ldT .any h32 (some (nwA h0))).bind fun x33 =>
      bif !isTuple x33 then
        ((ldT (.int .i64) h32 (some (nwA h1))).bind fun x34 =>
        some ((x33, (x34, ())), h32))
      else
        (none))
    else
      (bif Nat.beq v24.2 1 then
        ((ldT .any v24.1 (some (nwA h0))).bind fun x35 =>
        bif !isTuple x35 then
          ((ldT (.int .i64) v24.1 (some (nwA h1))).bind fun x36 =>
          some ((x35, (x36, ())), v24.1))
        else
          (none))
      else
        (none)))
def rs_sector_Disk_Read : Rs := [(.cell false 1 4, .any), (.cell false 1 5, (.int .i64))]
def ps_sector_Disk_Read : List Ty := [.ptr, (.int .i64)]
theorem e_sector_Disk_Read (n : Nat) (u0 : Option Addr) (u1 : Int) (h : Heap) : f_sector_Disk_Read n u0 u1 h = fB (sf_sector_Disk_Read n) (it_sector_Disk_Read n) n c2_sector_Disk_Read rs_sector_Disk_Read ps_sector_Disk_Read (u0, (u1, ())) h := by kernel_rfl
noncomputable def s_sector_Disk_Read (n : Nat) : Sf1 := mkSf ps_sector_Disk_Read rs_sector_Disk_Read fun a h => f_sector_Disk_Read n a.1 a.2.1 h
/- wicket/super.Decode -/
def c2_super_Decode : C2 := .seq (.reg [rg 2 (.alloc [(.int .i64 0), (.int .i64 0), (.int .i64 0), (.int .i64 0), (.int .i64 0), (.int .u64 0), (.int .u64 0)]) .ptr, rg 3 (.move (.const (.int .i64 0))) .i]) <|
 .seq (.seq (.reg [rg 10 (.move 0) .any, rg 11 (.lenS 10) .i, rg 12 (.bin .neq 11 (.const (.int .i64 64))) .bool]) <|
 .cond 12 (.seq (.reg [rg 13 (.build [(.int .i64 0), (.int .i64 0), (.int .i64 0), (.int .i64 0), (.int .i64 0), (.int .u64 0), (.int .u64 0)] []) .any, rn (.store 7 2 13) .any, rg 3 (.move (.const (.int .i64 2))) .i]) <|
 .ret) (.skip)) <|
 .seq (.regd [(⟨0, [], false, ⟨(some 15), .move 0, none⟩⟩, .any), (⟨1, [0], false, ⟨(some 16), .slice 1 15 (some (.const (.int .i64 6))) none none, none⟩⟩, .any), (⟨2, [], true, ⟨(some 17), .call k_super_sizes [], none⟩⟩, .any), (⟨3, [1, 2, 0], true, ⟨(some 18), .call k_octet_Fields [16, 17], none⟩⟩, .any), (⟨4, [3, 1, 2, 0], false, ⟨(some 14), .move 18, none⟩⟩, .any), (⟨5, [4, 3, 1, 2, 0], false, ⟨(some 19), .extract 14 0, none⟩⟩, .any), (⟨6, [4, 3, 1, 2, 0], false, ⟨(some 20), .extract 14 1, none⟩⟩, .any), (⟨7, [4, 3, 1, 2, 0], false, ⟨(some 21), .extract 14 2, none⟩⟩, (.int .i64)), (⟨8, [5, 3, 0, 1, 2, 4], false, ⟨(some 4), .move 19, none⟩⟩, .any), (⟨9, [6, 8, 0, 1, 2, 3, 4, 5], false, ⟨(some 5), .move 20, none⟩⟩, .any), (⟨10, [7, 9, 0, 1, 2, 3, 4, 5, 6, 8], false, ⟨(some 6), .move 21, none⟩⟩, (.int .i64))]) <|
 .seq (.regd [(⟨0, [], false, ⟨(some 22), .move 4, none⟩⟩, .any), (⟨1, [0], false, ⟨(some 23), .idxSlice 1 22 (.const (.int .i64 2)), none⟩⟩, .ptr), (⟨2, [1, 0], false, ⟨(some 24), .load false 1 23, none⟩⟩, (.int .u64)), (⟨3, [2, 1, 0], false, ⟨(some 25), .conv .i64 24, none⟩⟩, (.int .i64)), (⟨4, [], false, ⟨(some 26), .move 4, none⟩⟩, .any), (⟨5, [4], false, ⟨(some 27), .idxSlice 1 26 (.const (.int .i64 3)), none⟩⟩, .ptr), (⟨6, [5, 4], false, ⟨(some 28), .load false 1 27, none⟩⟩, (.int .u64)), (⟨7, [6, 5, 4], false, ⟨(some 29), .conv .i64 28, none⟩⟩, (.int .i64)), (⟨8, [], false, ⟨(some 30), .move 4, none⟩⟩, .any), (⟨9, [8], false, ⟨(some 31), .idxSlice 1 30 (.const (.int .i64 4)), none⟩⟩, .ptr), (⟨10, [9, 8], false, ⟨(some 32), .load false 1 31, none⟩⟩, (.int .u64)), (⟨11, [10, 9, 8], false, ⟨(some 33), .conv .i64 32, none⟩⟩, (.int .i64)), (⟨12, [], false, ⟨(some 34), .move 4, none⟩⟩, .any), (⟨13, [12], false, ⟨(some 35), .idxSlice 1 34 (.const (.int .i64 5)), none⟩⟩, .ptr), (⟨14, [13, 12], false, ⟨(some 36), .load false 1 35, none⟩⟩, (.int .u64)), (⟨15, [14, 13, 12], false, ⟨(some 37), .conv .i64 36, none⟩⟩, (.int .i64)), (⟨16, [], false, ⟨(some 38), .move 4, none⟩⟩, .any), (⟨17, [16], false, ⟨(some 39), .idxSlice 1 38 (.const (.int .i64 6)), none⟩⟩, .ptr), (⟨18, [17, 16], false, ⟨(some 40), .load false 1 39, none⟩⟩, (.int .u64)), (⟨19, [18, 17, 16], false, ⟨(some 41), .conv .i64 40, none⟩⟩, (.int .i64)), (⟨20, [3, 7, 11, 15, 19, 2, 1, 0, 6, 5, 4, 10, 9, 8, 14, 13, 12, 18, 17, 16], false, ⟨(some 42), .build (List.replicate 5 (.int .i64 0)) [(0, 1, 25), (1, 1, 29), (2, 1, 33), (3, 1, 37), (4, 1, 41)], none⟩⟩, .any), (⟨21, [], false, ⟨(some 43), .move 4, none⟩⟩, .any), (⟨22, [21], false, ⟨(some 44), .idxSlice 1 43 (.const (.int .i64 8)), none⟩⟩, .ptr), (⟨23, [22, 21], false, ⟨(some 45), .load false 1 44, none⟩⟩, (.int .u64)), (⟨24, [], false, ⟨(some 46), .move 4, none⟩⟩, .any), (⟨25, [24], false, ⟨(some 47), .idxSlice 1 46 (.const (.int .i64 9)), none⟩⟩, .ptr), (⟨26, [25, 24], false, ⟨(some 48), .load false 1 47, none⟩⟩, (.int .u64)), (⟨27, [20, 23, 26, 3, 7, 11, 15, 19, 2, 1, 0, 6, 5, 4, 10, 9, 8, 14, 13, 12, 18, 17, 16, 22, 21, 25, 24], false, ⟨(some 49), .build [(.int .i64 0), (.int .i64 0), (.int .i64 0), (.int .i64 0), (.int .i64 0), (.int .u64 0), (.int .u64 0)] [(0, 5, 42), (5, 1, 45), (6, 1, 48)], none⟩⟩, .any), (⟨28, [], false, ⟨(some 7), .alloc [(.int .i64 0), (.int .i64 0), (.int .i64 0), (.int .i64 0), (.int .i64 0), (.int .u64 0), (.int .u64 0)], none⟩⟩, .ptr), (⟨29, [28, 27, 0, 1, 2, 3, 4, 5, 6, 7, 8, 9, 10, 11, 12, 13, 14, 15, 16, 17, 18, 19, 20, 21, 22, 23, 24, 25, 26], true, ⟨none, .store 7 7 49, none⟩⟩, .any)]) <|
 .seq (.seq (.reg [rg 51 (.load true 7 7) .any, rg 52 (.call k_super_Encode [51]) .any, rg 50 (.move 52) .any, rg 53 (.extract 50 0) .any, rg 54 (.extract 50 1) .i, rg 8 (.move 53) .any, rg 9 (.move 54) .i]) <|
 .seq (.cutn [(62, .bool)] <|
 .reg [rg 55 (.move 9) .i, rg 56 (.bin .neq 55 (.const (.int .i64 0))) .bool, rg 57 (.move 56) .bool, rq 58 (.move 8) 57 .any, rq 59 (.move 0) 57 .any, rq 60 (.call k_bytes_Equal [58, 59]) 57 .bool, rq 61 (.un .not 60) 57 .bool, rg 62 (.pick 57 (.const (.bool true)) 61) .bool]) <|
 .cond 62 (.seq (.reg [rg 63 (.build [(.int .i64 0), (.int .i64 0), (.int .i64 0), (.int .i64 0), (.int .i64 0), (.int .u64 0), (.int .u64 0)] []) .any, rn (.store 7 2 63) .any, rg 3 (.move (.const (.int .i64 70))) .i]) <|
 .ret) (.skip)) <|
 .seq (.reg [rg 64 (.load true 7 7) .any, rn (.store 7 2 64) .any, rg 3 (.move (.const (.int .i64 0))) .i]) <|
 .ret
noncomputable def sf_super_Decode (n : Nat) : Sf := sfOf [(k_super_sizes, s_super_sizes n), (k_octet_Fields, s_octet_Fields n), (k_super_Encode, s_super_Encode n), (k_bytes_Equal, s_bytes_Equal n)]
noncomputable def it_super_Decode (n : Nat) : It := itOf []
def f_super_Decode (n : Nat) (u0 : Value) (h : Heap) : Option ((Value × Int × Unit) × Heap) :=
  bnd ((Heap.new h (.cells [(.int .i64 0), (.int .i64 0), (.int .i64 0), (.int .i64 0), (.int .i64 0), (.int .u64 0), (.int .u64 0)] false 0))) fun h0 =>
  (lenB u0).bind fun n1 =>
  bif (!decide ((n1 : Int) = 64)) then
    ((fillL [(.int .i64 0), (.int .i64 0), (.int .i64 0), (.int .i64 0), (.int .i64 0), (.int .u64 0), (.int .u64 0)] []).bind fun cs2 =>
    (stB 7 (.agg ⟨cs2⟩) h0 (some (nwA h))).bind fun h3 =>
    (ldA 7 h3 (some (nwA h))).bind fun cs4 =>
    some (((.agg ⟨cs4⟩), (2, ())), h3))
  else
    ((sliceK h0 1 (some (.int .i64 6)) none none u0).bind fun p5 =>
    (f_super_sizes n h0).bind fun p6 =>
    (f_octet_Fields n p5.1 p6.1.1 p6.2).bind fun p7 =>
    (ixB 1 p7.1.1 2).bind fun q8 =>
    (ldT (.int .u64) p7.2 (some q8)).bind fun x9 =>
    (ixB 1 p7.1.1 3).bind fun q10 =>
    (ldT (.int .u64) p7.2 (some q10)).bind fun x11 =>
    (ixB 1 p7.1.1 4).bind fun q12 =>
    (ldT (.int .u64) p7.2 (some q12)).bind fun x13 =>
    (ixB 1 p7.1.1 5).bind fun q14 =>
    (ldT (.int .u64) p7.2 (some q14)).bind fun x15 =>
    (ixB 1 p7.1.1 6).bind fun q16 =>
    (ldT (.int .u64) p7.2 (some q16)).bind fun x17 =>
    (fillL (List.replicate 5 (.int .i64 0)) [(0, 1, (.int .i64 (IntKind.i64.wrap (x9)))), (1, 1, (.int .i64 (IntKind.i64.wrap (x11)))), (2, 1, (.int .i64 (IntKind.i64.wrap (x13)))), (3, 1, (.int .i64 (IntKind.i64.wrap (x15)))), (4, 1, (.int .i64 (IntKind.i64.wrap (x17))))]).bind fun cs18 =>
    (ixB 1 p7.1.1 8).bind fun q19 =>
    (ldT (.int .u64) p7.2 (some q19)).bind fun x20 =>
    (ixB 1 p7.1.1 9).bind fun q21 =>
    (ldT (.int .u64) p7.2 (some q21)).bind fun x22 =>
    (fillL [(.int .i64 0), (.int .i64 0), (.int .i64 0), (.int .i64 0), (.int .i64 0), (.int .u64 0), (.int .u64 0)] [(0, 5, (.agg ⟨cs18⟩)), (5, 1, (.int .u64 x20)), (6, 1, (.int .u64 x22))]).bind fun cs23 =>
    bnd ((Heap.new p7.2 (.cells [(.int .i64 0), (.int .i64 0), (.int .i64 0), (.int .i64 0), (.int .i64 0), (.int .u64 0), (.int .u64 0)] false 0))) fun h24 =>
    (stB 7 (.agg ⟨cs23⟩) h24 (some (nwA p7.2))).bind fun h25 =>
    (ldA 7 h25 (some (nwA p7.2))).bind fun cs26 =>
    (f_super_Encode n (.agg ⟨cs26⟩) h25).bind fun p27 =>
    ((bif (!decide (p27.1.2.1 = 0)) then
        (some ((true, ()), p27.2))
      else
        ((f_bytes_Equal n p27.1.1 u0 p27.2).bind fun p28 =>
        some (((!p28.1.1), ()), p28.2))) : Option ((Bool × Unit) × Heap)).bind fun a29 =>
    bif a29.1.1 then
      ((fillL [(.int .i64 0), (.int .i64 0), (.int .i64 0), (.int .i64 0), (.int .i64 0), (.int .u64 0), (.int .u64 0)] []).bind fun cs30 =>
      (stB 7 (.agg ⟨cs30⟩) a29.2 (some (nwA h))).bind fun h31 =>
      (ldA 7 h31 (some (nwA h))).bind fun cs32 =>
      some (((.agg ⟨cs32⟩), (70, ())), h31))
    else
      ((ldA 7 a29.2 (some (nwA p7.2))).bind fun cs33 =>
      (stB 7 (.agg ⟨cs33⟩) a29.2 (some (nwA h))).bind fun h34 =>
      (ldA 7 h34 (some (nwA h))).bind fun cs35 =>
      some (((.agg ⟨cs35⟩), (0, ())), h34)))
def rs_super_Decode : Rs := [(.cell true 7 2, .any), (.tmp 3, (.int .i64))]
def ps_super_Decode : List Ty := [.any]
theorem e_super_Decode (n : Nat) (u0 : Value) (h : Heap) : f_super_Decode n u0 h = fB (sf_super_Decode n) (it_super_Decode n) n c2_super_Decode rs_super_Decode ps_super_Decode (u0, ()) h := by kernel_rfl
noncomputable def s_super_Decode (n : Nat) : Sf1 := mkSf ps_super_Decode rs_super_Decode fun a h => f_super_Decode n a.1 h
/- wicket/record.laid -/
def c2_record_laid : C2 := .seq (.reg [rg 1 (.box 0) .ptr, rg 2 (.move (.const (.slice none 0 0))) .any]) <|
 .seq (.reg [rg 5 (.fieldAddr 0 1) .ptr, rg 6 (.load false 1 5) .i, rg 7 (.conv .u8 6) .u, rg 8 (.buildSlice 4 1 (List.replicate 4 (.int .u8 0)) [(0, 1, (.const (.int .u8 87))), (1, 1, 7), (2, 1, (.const (.int .u8 0))), (3, 1, (.const (.int .u8 0)))]) .any, rg 3 (.move 8) .any]) <|
 .seq (.regd [(⟨0, [], false, ⟨(some 9), .move 3, none⟩⟩, .any), (⟨1, [], false, ⟨(some 10), .fieldAddr 1 1, none⟩⟩, .ptr), (⟨2, [1], false, ⟨(some 11), .load false 1 10, none⟩⟩, (.int .u64)), (⟨4, [], false, ⟨(some 13), .fieldAddr 2 1, none⟩⟩, .ptr), (⟨5, [4], false, ⟨(some 14), .load false 1 13, none⟩⟩, (.int .i64)), (⟨6, [], false, ⟨(some 15), .fieldAddr 35 1, none⟩⟩, .ptr), (⟨7, [6], false, ⟨(some 16), .load false 1 15, none⟩⟩, (.int .i64)), (⟨8, [5, 7, 4, 6], false, ⟨(some 17), .bin .add 14 16, none⟩⟩, (.int .i64)), (⟨9, [8, 5, 7, 4, 6], false, ⟨(some 18), .conv .u64 17, none⟩⟩, (.int .u64)), (⟨11, [], false, ⟨(some 20), .fieldAddr 3 1, none⟩⟩, .ptr), (⟨12, [11], false, ⟨(some 21), .sliceArr 32 1 20 none none none, none⟩⟩, .any), (⟨13, [], false, ⟨(some 22), .makeSlice 1 1 [(.int .u8 0)] (.const (.int .i64 12)) (.const (.int .i64 12)), none⟩⟩, .any), (⟨3, [2, 1], true, ⟨(some 12), .call k_record_number [11, (.const (.int .i64 8))], none⟩⟩, .any), (⟨10, [9, 3, 8, 5, 7, 4, 6, 2, 1], true, ⟨(some 19), .call k_record_number [18, (.const (.int .i64 4))], none⟩⟩, .any), (⟨14, [0, 3, 10, 12, 13, 2, 1, 9, 8, 5, 7, 4, 6, 11], false, ⟨(some 23), .buildSlice 5 1 (List.replicate 5 (.slice none 0 0)) [(0, 1, 9), (1, 1, 12), (2, 1, 19), (3, 1, 21), (4, 1, 22)], none⟩⟩, .any), (⟨15, [14, 10, 0, 3, 12, 13, 2, 1, 9, 8, 5, 7, 4, 6, 11], true, ⟨(some 24), .call k_octet_Join [23], none⟩⟩, .any), (⟨16, [15, 0, 1, 2, 3, 4, 5, 6, 7, 8, 9, 10, 11, 12, 13, 14], false, ⟨(some 4), .move 24, none⟩⟩, .any)]) <|
 .seq (.reg [rg 25 (.move 4) .any, rg 26 (.move 4) .any, rg 27 (.buildSlice 1 1 [(.slice none 0 0)] [(0, 1, 26)]) .any, rg 28 (.call k_sum_Of [27]) (.int .u32), rg 29 (.conv .u64 28) (.int .u64), rg 30 (.call k_record_number [29, (.const (.int .i64 4))]) .any, rg 31 (.buildSlice 2 1 [(.slice none 0 0), (.slice none 0 0)] [(0, 1, 25), (1, 1, 30)]) .any, rg 32 (.call k_octet_Join [31]) .any, rg 2 (.move 32) .any]) <|
 .ret
noncomputable def sf_record_laid (n : Nat) : Sf := sfOf [(k_record_number, s_record_number n), (k_octet_Join, s_octet_Join n), (k_sum_Of, s_sum_Of n)]
noncomputable def it_record_laid (n : Nat) : It := itOf []
def f_record_laid (n : Nat) (u0 : Value) (h : Heap) : Option ((Value × Unit) × Heap) :=
  bif (cellsOf u0).all isCell then
    (bnd ((Heap.new h (.cells (cellsOf u0) false 0))) fun h0 =>
    (ldT (.int .i64) h0 (some (fa (nwA h) 0))).bind fun x1 =>
    (fillL (List.replicate 4 (.int .u8 0)) [(0, 1, (.int .u8 87)), (1, 1, (.int .u8 (IntKind.u8.wrap (x1)))), (2, 1, (.int .u8 0)), (3, 1, (.int .u8 0))]).bind fun cs2 =>
    bnd ((Heap.new h0 (.cells cs2 false 1))) fun h3 =>
    (ldT (.int .u64) h3 (some (fa (nwA h) 1))).bind fun x4 =>
    (ldT (.int .i64) h3 (some (fa (nwA h) 2))).bind fun x5 =>
    (ldT (.int .i64) h3 (some (fa (nwA h) 35))).bind fun x6 =>
    (sliceArrK h3 32 1 none none (.pointer (some (fa (nwA h) 3)))).bind fun p7 =>
    (mkSl (Heap.next h3) 1 1 [(.int .u8 0)] (.int .i64 12) (.int .i64 12)).bind fun p8 =>
    bnd ((Heap.new h3 (p8.2))) fun h9 =>
    (f_record_number n x4 8 (hid h9 ((Heap.next h3) :: []) ((Addr.block (fa (nwA h) 35)) :: ((Addr.block (fa (nwA h) 2)) :: [])))).bind fun p10 =>
    bnd (Heap.putBack p10.2 h9 (((Heap.next h3) :: []) ++ ((Addr.block (fa (nwA h) 35)) :: ((Addr.block (fa (nwA h) 2)) :: [])))) fun h11 =>
    (f_record_number n (IntKind.u64.wrap ((IntKind.i64.wrap (x5 + x6)))) 4 (hid h11 ((Heap.next h3) :: []) [])).bind fun p12 =>
    bnd (Heap.putBack p12.2 h11 (((Heap.next h3) :: []) ++ [])) fun h13 =>
    (fillL (List.replicate 5 (.slice none 0 0)) [(0, 1, (.slice (some ⟨Heap.next h0, 0, some 0⟩) 4 4)), (1, 1, p10.1.1), (2, 1, p12.1.1), (3, 1, p7.1), (4, 1, p8.1)]).bind fun cs14 =>
    bnd ((Heap.new h13 (.cells cs14 false 1))) fun h15 =>
    (f_octet_Join n (.slice (some ⟨Heap.next h13, 0, some 0⟩) 5 5) h15).bind fun p16 =>
    (fillL [(.slice none 0 0)] [(0, 1, p16.1.1)]).bind fun cs17 =>
    bnd ((Heap.new p16.2 (.cells cs17 false 1))) fun h18 =>
    (f_sum_Of n (.slice (some ⟨Heap.next p16.2, 0, some 0⟩) 1 1) h18).bind fun p19 =>
    (f_record_number n (IntKind.u64.wrap (p19.1.1)) 4 p19.2).bind fun p20 =>
    (fillL [(.slice none 0 0), (.slice none 0 0)] [(0, 1, p16.1.1), (1, 1, p20.1.1)]).bind fun cs21 =>
    bnd ((Heap.new p20.2 (.cells cs21 false 1))) fun h22 =>
    (f_octet_Join n (.slice (some ⟨Heap.next p20.2, 0, some 0⟩) 2 2) h22).bind fun p23 =>
    bif !isTuple p23.1.1 then
      (some ((p23.1.1, ()), p23.2))
    else
      (none))
  else
    (none)
def rs_record_laid : Rs := [(.tmp 2, .any)]
def ps_record_laid : List Ty := [.any]
theorem e_record_laid (n : Nat) (u0 : Value) (h : Heap) : f_record_laid n u0 h = fB (sf_record_laid n) (it_record_laid n) n c2_record_laid rs_record_laid ps_record_laid (u0, ()) h := by kernel_rfl
noncomputable def s_record_laid (n : Nat) : Sf1 := mkSf ps_record_laid rs_record_laid fun a h => f_record_laid n a.1 h
/- wicket/home.New -/
def c2_home_New : C2 := .seq (.reg [rg 1 (.box 0) .ptr, rg 2 (.move (.const (.pointer none))) .ptr, rg 3 (.move (.const (.int .i64 0))) .i]) <|
 .seq (.reg [rg 11 (.load true 5 1) .any, rg 12 (.build [(.int .i64 0), (.int .i64 0), (.int .i64 0), (.int .i64 0), (.int .i64 0), (.int .u64 0), (.int .u64 0)] [(0, 5, 11), (6, 1, (.const (.int .u64 1)))]) .any, rg 13 (.call k_super_Encode [12]) .any, rg 10 (.move 13) .any, rg 14 (.extract 10 0) .any, rg 15 (.extract 10 1) .i, rg 4 (.move 14) .any, rg 5 (.move 15) .i]) <|
 .seq (.seq (.reg [rg 16 (.move 5) .i, rg 17 (.bin .neq 16 (.const (.int .i64 0))) .bool]) <|
 .cond 17 (.seq (.reg [rg 18 (.move 5) .i, rg 2 (.move (.const (.pointer none))) .ptr, rg 3 (.move 18) .i]) <|
 .ret) (.skip)) <|
 .seq (.reg [rg 19 (.move 4) .any, rg 6 (.move 19) .any]) <|
 .seq (.cut [(6, .any)] <|
 .seq (.reg [rg 20 (.fieldAddr 0 1) .ptr, rg 21 (.load false 1 20) .i, rg 22 (.move (.const (.int .i64 0))) .i]) <|
 .block 0 <|
 .loop [(6, .any), (22, .i)] <|
 .seq (.reg [rg 23 (.bin .lss 22 21) .bool]) <|
 .seq (.cond 23 (.skip) (.exit 0)) <|
 .seq (.block 1 <|
 .seq (.reg [rg 24 (.move 22) .i, rg 7 (.move 24) .i]) <|
 .seq (.reg [rg 26 (.move 7) .i, rg 27 (.build (List.replicate 32 (.int .u8 0)) []) .any, rg 28 (.call k_home_Encode [26, 27]) .any, rg 25 (.move 28) .any, rg 29 (.extract 25 0) .any, rg 30 (.extract 25 1) .i, rg 8 (.move 29) .any, rg 9 (.move 30) .i]) <|
 .seq (.seq (.reg [rg 31 (.move 9) .i, rg 32 (.bin .neq 31 (.const (.int .i64 0))) .bool]) <|
 .cond 32 (.seq (.reg [rg 33 (.move 9) .i, rg 2 (.move (.const (.pointer none))) .ptr, rg 3 (.move 33) .i]) <|
 .ret) (.skip)) <|
 .reg [rg 34 (.move 6) .any, rg 35 (.move 8) .any, rg 36 (.buildSlice 2 1 [(.slice none 0 0), (.slice none 0 0)] [(0, 1, 34), (1, 1, 35)]) .any, rg 37 (.call k_octet_Join [36]) .any, rg 6 (.move 37) .any]) <|
 .reg [rg 38 (.bin .add 22 (.const (.int .i64 1))) .i, rg 22 (.move 38) .i]) <|
 .seq (.reg [rg 39 (.move 6) .any, rg 40 (.fieldAddr 1 1) .ptr, rg 41 (.load false 1 40) .i, rg 42 (.bin .mul (.const (.int .i64 64)) 41) .i, rg 43 (.makeSlice 1 1 [(.int .u8 0)] 42 42) .any, rg 44 (.buildSlice 2 1 [(.slice none 0 0), (.slice none 0 0)] [(0, 1, 39), (1, 1, 43)]) .any, rg 45 (.call k_octet_Join [44]) .any, rg 46 (.call k_sector_Load [45]) .any, rg 47 (.extract 46 0) .ptr, rg 48 (.extract 46 1) .i, rg 2 (.move 47) .ptr, rg 3 (.move 48) .i]) <|
 .ret
def f_home_New_L14 (n : Nat) (x5 : Int) (v6 : Value) (v7 : Int) (h8 : Heap) : Option (((Value × Int × Unit) × Heap) ⊕ (((Value × Unit) × Heap) ⊕ ((Option Addr × Int × Unit) × Heap))) :=
  bif (decide (v7 < x5)) then
    ((fillL (List.replicate 32 (.int .u8 0)) []).bind fun cs9 =>
    (f_home_Encode n v7 (.agg ⟨cs9⟩) h8).bind fun p10 =>
    bif (!decide (p10.1.2.1 = 0)) then
      (some (.inr (.inr ((none, (p10.1.2.1, ())), p10.2))))
    else
      ((fillL [(.slice none 0 0), (.slice none 0 0)] [(0, 1, v6), (1, 1, p10.1.1)]).bind fun cs11 =>
      bnd ((Heap.new p10.2 (.cells cs11 false 1))) fun h12 =>
      (f_octet_Join n (.slice (some ⟨Heap.next p10.2, 0, some 0⟩) 2 2) h12).bind fun p13 =>
      some (.inl ((p13.1.1, ((IntKind.i64.wrap (v7 + 1)), ())), p13.2))))
  else
    (some (.inr (.inl ((v6, ()), h8))))
def f_home_New_C15 (n : Nat) (h : Heap) (p3 : ((Value × Int × Unit) × Heap)) (h4 : Heap) : Option (((Value × Unit) × Heap) ⊕ ((Option Addr × Int × Unit) × Heap)) :=
  (ldT (.int .i64) h4 (some (fa (nwA h) 0))).bind fun x5 =>
  loopT (fun a => f_home_New_L14 n x5 a.1.1 a.1.2.1 a.2) n ((p3.1.1, (0, ())), h4)
noncomputable def sf_home_New (n : Nat) : Sf := sfOf [(k_super_Encode, s_super_Encode n), (k_home_Encode, s_home_Encode n), (k_octet_Join, s_octet_Join n), (k_sector_Load, s_sector_Load n)]
noncomputable def it_home_New (n : Nat) : It := itOf []
def f_home_New (n : Nat) (u0 : Value) (h : Heap) : Option ((Option Addr × Int × Unit) × Heap) :=
  bif (cellsOf u0).all isCell then
    (bnd ((Heap.new h (.cells (cellsOf u0) false 0))) fun h0 =>
    (ldA 5 h0 (some (nwA h))).bind fun cs1 =>
    (fillL [(.int .i64 0), (.int .i64 0), (.int .i64 0), (.int .i64 0), (.int .i64 0), (.int .u64 0), (.int .u64 0)] [(0, 5, (.agg ⟨cs1⟩)), (6, 1, (.int .u64 1))]).bind fun cs2 =>
    (f_super_Encode n (.agg ⟨cs2⟩) h0).bind fun p3 =>
    bif (!decide (p3.1.2.1 = 0)) then
      (some ((none, (p3.1.2.1, ())), p3.2))
    else
      (thenB (f_home_New_C15 n h p3 (p3.2)) fun a16 =>
      (ldT (.int .i64) a16.2 (some (fa (nwA h) 1))).bind fun x17 =>
      (mkSl (Heap.next a16.2) 1 1 [(.int .u8 0)] (.int .i64 (IntKind.i64.wrap (64 * x17))) (.int .i64 (IntKind.i64.wrap (64 * x17)))).bind fun p18 =>
      bnd ((Heap.new a16.2 (p18.2))) fun h19 =>
      (fillL [(.slice none 0 0), (.slice none 0 0)] [(0, 1, a16.1.1), (1, 1, p18.1)]).bind fun cs20 =>
      bnd ((Heap.new h19 (.cells cs20 false 1))) fun h21 =>
      (f_octet_Join n (.slice (some ⟨Heap.next h19, 0, some 0⟩) 2 2) h21).bind fun p22 =>
      (f_sector_Load n p22.1.1 p22.2).bind fun p23 =>
      some ((p23.1.1, (p23.1.2.1, ())), p23.2)))
  else
    (none)
def rs_home_New : Rs := [(.tmp 2, .ptr), (.tmp 3, (.int .i64))]
def ps_home_New : List Ty := [.any]
theorem e_home_New (n : Nat) (u0 : Value) (h : Heap) : f_home_New n u0 h = fB (sf_home_New n) (it_home_New n) n c2_home_New rs_home_New ps_home_New (u0, ()) h := by kernel_rfl
noncomputable def s_home_New (n : Nat) : Sf1 := mkSf ps_home_New rs_home_New fun a h => f_home_New n a.1 h
/- wicket/scan.begin -/
def c2_scan_begin : C2 := .seq (.reg [rg 3 (.box 1) .ptr, rg 4 (.alloc [(.int .i64 0), (.int .i64 0), (.int .i64 0), (.int .i64 0), (.int .i64 0), (.int .u64 0), (.int .u64 0)]) .ptr, rg 5 (.move (.const (.int .i64 0))) .i]) <|
 .seq (.seq (.reg [rg 11 (.move 0) .ptr, rg 12 (.eqv false .ptr 11 (.const (.pointer none))) .bool]) <|
 .cond 12 (.seq (.reg [rg 13 (.build [(.int .i64 0), (.int .i64 0), (.int .i64 0), (.int .i64 0), (.int .i64 0), (.int .u64 0), (.int .u64 0)] []) .any, rn (.store 7 4 13) .any, rg 5 (.move (.const (.int .i64 1))) .i]) <|
 .ret) (.skip)) <|
 .seq (.seq (.reg [rg 14 (.load true 5 3) .any, rg 15 (.call k_super_Config [14]) .i, rg 6 (.move 15) .i]) <|
 .seq (.reg [rg 16 (.move 6) .i, rg 17 (.bin .neq 16 (.const (.int .i64 0))) .bool]) <|
 .cond 17 (.seq (.reg [rg 18 (.build [(.int .i64 0), (.int .i64 0), (.int .i64 0), (.int .i64 0), (.int .i64 0), (.int .u64 0), (.int .u64 0)] []) .any, rg 19 (.move 6) .i, rn (.store 7 4 18) .any, rg 5 (.move 19) .i]) <|
 .ret) (.skip)) <|
 .seq (.seq (.regd [(⟨0, [], false, ⟨(some 20), .move 0, none⟩⟩, .ptr), (⟨2, [], false, ⟨(some 22), .fieldAddr 0 3, none⟩⟩, .ptr), (⟨3, [2], false, ⟨(some 23), .load false 1 22, none⟩⟩, (.int .i64)), (⟨4, [3, 2], false, ⟨(some 24), .bin .add (.const (.int .i64 1)) 23, none⟩⟩, (.int .i64)), (⟨5, [], false, ⟨(some 25), .fieldAddr 1 3, none⟩⟩, .ptr), (⟨6, [5], false, ⟨(some 26), .load false 1 25, none⟩⟩, (.int .i64)), (⟨7, [4, 6, 3, 2, 5], false, ⟨(some 27), .bin .add 24 26, none⟩⟩, (.int .i64)), (⟨1, [0], true, ⟨(some 21), .call k_sector_Disk_Len [20], none⟩⟩, (.int .i64)), (⟨8, [1, 7, 0, 4, 6, 3, 2, 5], false, ⟨(some 28), .bin .neq 21 27, none⟩⟩, .bool)]) <|
 .cond 28 (.seq (.reg [rg 29 (.build [(.int .i64 0), (.int .i64 0), (.int .i64 0), (.int .i64 0), (.int .i64 0), (.int .u64 0), (.int .u64 0)] []) .any, rn (.store 7 4 29) .any, rg 5 (.move (.const (.int .i64 40))) .i]) <|
 .ret) (.skip)) <|
 .seq (.reg [rg 31 (.move 0) .ptr, rg 32 (.call k_sector_Disk_Read [31, (.const (.int .i64 0))]) .any, rg 30 (.move 32) .any, rg 33 (.extract 30 0) .any, rg 34 (.extract 30 1) .i, rg 7 (.move 33) .any, rg 8 (.move 34) .i]) <|
 .seq (.reg [rg 36 (.move 7) .any, rg 37 (.call k_super_Decode [36]) .any, rg 35 (.move 37) .any, rg 38 (.extract 35 0) .any, rg 39 (.extract 35 1) .i, rg 9 (.alloc [(.int .i64 0), (.int .i64 0), (.int .i64 0), (.int .i64 0), (.int .i64 0), (.int .u64 0), (.int .u64 0)]) .ptr, rn (.store 7 9 38) .any, rg 10 (.move 39) .i]) <|
 .seq (.block 0 <|
 .seq (.reg [rg 41 (.move 10) .i, rg 42 (.bin .neq 41 (.const (.int .i64 0))) .bool, rg 40 (.move 42) .bool]) <|
 .cond 40 (.seq (.reg [rg 43 (.build [(.int .i64 0), (.int .i64 0), (.int .i64 0), (.int .i64 0), (.int .i64 0), (.int .u64 0), (.int .u64 0)] []) .any, rn (.store 7 4 43) .any, rg 5 (.move (.const (.int .i64 70))) .i]) <|
 .ret) (.seq (.reg [rg 45 (.fieldAddr 0 9) .ptr, rg 46 (.load true 5 45) .any, rg 47 (.load true 5 3) .any, rg 48 (.eqv true (.agg [false, false, false, false, false]) 46 47) .bool, rg 44 (.move 48) .bool]) <|
 .cond 44 (.seq (.reg [rg 49 (.build [(.int .i64 0), (.int .i64 0), (.int .i64 0), (.int .i64 0), (.int .i64 0), (.int .u64 0), (.int .u64 0)] []) .any, rn (.store 7 4 49) .any, rg 5 (.move (.const (.int .i64 3))) .i]) <|
 .ret) (.skip))) <|
 .seq (.reg [rg 50 (.load true 7 9) .any, rn (.store 7 4 50) .any, rg 5 (.move (.const (.int .i64 0))) .i]) <|
 .ret
noncomputable def sf_scan_begin (n : Nat) : Sf := sfOf [(k_super_Config, s_super_Config n), (k_sector_Disk_Len, s_sector_Disk_Len n), (k_sector_Disk_Read, s_sector_Disk_Read n), (k_super_Decode, s_super_Decode n)]
noncomputable def it_scan_begin (n : Nat) : It := itOf []
def f_scan_begin (n : Nat) (u0 : Option Addr) (u1 : Value) (h : Heap) : Option ((Value × Int × Unit) × Heap) :=
  bif (cellsOf u1).all isCell then
    (bnd ((Heap.new h (.cells (cellsOf u1) false 0))) fun h0 =>
    bnd ((Heap.new h0 (.cells [(.int .i64 0), (.int .i64 0), (.int .i64 0), (.int .i64 0), (.int .i64 0), (.int .u64 0), (.int .u64 0)] false 0))) fun h1 =>
    bif (Option.isNone u0) then
      ((fillL [(.int .i64 0), (.int .i64 0), (.int .i64 0), (.int .i64 0), (.int .i64 0), (.int .u64 0), (.int .u64 0)] []).bind fun cs2 =>
      (stB 7 (.agg ⟨cs2⟩) h1 (some (nwA h0))).bind fun h3 =>
      (ldA 7 h3 (some (nwA h0))).bind fun cs4 =>
      some (((.agg ⟨cs4⟩), (1, ())), h3))
    else
      ((ldA 5 h1 (some (nwA h))).bind fun cs5 =>
      (f_super_Config n (.agg ⟨cs5⟩) h1).bind fun p6 =>
      bif (!decide (p6.1.1 = 0)) then
        ((fillL [(.int .i64 0), (.int .i64 0), (.int .i64 0), (.int .i64 0), (.int .i64 0), (.int .u64 0), (.int .u64 0)] []).bind fun cs7 =>
        (stB 7 (.agg ⟨cs7⟩) p6.2 (some (nwA h0))).bind fun h8 =>
        (ldA 7 h8 (some (nwA h0))).bind fun cs9 =>
        some (((.agg ⟨cs9⟩), (p6.1.1, ())), h8))
      else
        ((ldT (.int .i64) p6.2 (some (fa (nwA h) 0))).bind fun x10 =>
        (ldT (.int .i64) p6.2 (some (fa (nwA h) 1))).bind fun x11 =>
        (f_sector_Disk_Len n u0 (hid p6.2 [] ((Addr.block (fa (nwA h) 1)) :: ((Addr.block (fa (nwA h) 0)) :: [])))).bind fun p12 =>
        bnd (Heap.putBack p12.2 p6.2 ([] ++ ((Addr.block (fa (nwA h) 1)) :: ((Addr.block (fa (nwA h) 0)) :: [])))) fun h13 =>
        bif (!decide (p12.1.1 = (IntKind.i64.wrap ((IntKind.i64.wrap (1 + x10)) + x11)))) then
          ((fillL [(.int .i64 0), (.int .i64 0), (.int .i64 0), (.int .i64 0), (.int .i64 0), (.int .u64 0), (.int .u64 0)] []).bind fun cs14 =>
          (stB 7 (.agg ⟨cs14⟩) h13 (some (nwA h0))).bind fun h15 =>
          (ldA 7 h15 (some (nwA h0))).bind fun cs16 =>
          some (((.agg ⟨cs16⟩), (40, ())), h15))
        else
          ((f_sector_Disk_Read n u0 0 h13).bind fun p17 =>
          (f_super_Decode n p17.1.1 p17.2).bind fun p18 =>
          bnd ((Heap.new p18.2 (.cells [(.int .i64 0), (.int .i64 0), (.int .i64 0), (.int .i64 0), (.int .i64 0), (.int .u64 0), (.int .u64 0)] false 0))) fun h19 =>
          (stB 7 p18.1.1 h19 (some (nwA p18.2))).bind fun h20 =>
          bif (!decide (p18.1.2.1 = 0)) then
            ((fillL [(.int .i64 0), (.int .i64 0), (.int .i64 0), (.int .i64 0), (.int .i64 0), (.int .u64 0), (.int .u64 0)] []).bind fun cs21 =>
            (stB 7 (.agg ⟨cs21⟩) h20 (some (nwA h0))).bind fun h22 =>
            (ldA 7 h22 (some (nwA h0))).bind fun cs23 =>
            some (((.agg ⟨cs23⟩), (70, ())), h22))
          else
            ((ldA 5 h20 (some (fa (nwA p18.2) 0))).bind fun cs24 =>
            (ldA 5 h20 (some (nwA h))).bind fun cs25 =>
            (eqVals h20 (.agg [false, false, false, false, false]) (.agg ⟨cs24⟩) (.agg ⟨cs25⟩)).bind fun b26 =>
            bif (!b26) then
              ((fillL [(.int .i64 0), (.int .i64 0), (.int .i64 0), (.int .i64 0), (.int .i64 0), (.int .u64 0), (.int .u64 0)] []).bind fun cs27 =>
              (stB 7 (.agg ⟨cs27⟩) h20 (some (nwA h0))).bind fun h28 =>
              (ldA 7 h28 (some (nwA h0))).bind fun cs29 =>
              some (((.agg ⟨cs29⟩), (3, ())), h28))
            else
              ((ldA 7 h20 (some (nwA p18.2))).bind fun cs30 =>
              (stB 7 (.agg ⟨cs30⟩) h20 (some (nwA h0))).bind fun h31 =>
              (ldA 7 h31 (some (nwA h0))).bind fun cs32 =>
              some (((.agg ⟨cs32⟩), (0, ())), h31)))))))
  else
    (none)
def rs_scan_begin : Rs := [(.cell true 7 4, .any), (.tmp 5, (.int .i64))]
def ps_scan_begin : List Ty := [.ptr, .any]
theorem e_scan_begin (n : Nat) (u0 : Option Addr) (u1 : Value) (h : Heap) : f_scan_begin n u0 u1 h = fB (sf_scan_begin n) (it_scan_begin n) n c2_scan_begin rs_scan_begin ps_scan_begin (u0, (u1, ())) h := by kernel_rfl
noncomputable def s_scan_begin (n : Nat) : Sf1 := mkSf ps_scan_begin rs_scan_begin fun a h => f_scan_begin n a.1 a.2.1 h
/- wicket/record.Decode -/
def c2_record_Decode : C2 := .seq (.reg [rg 2 (.alloc [(.int .i64 0), (.int .u64 0), (.int .i64 0), (.int .u8 0), (.int .u8 0), (.int .u8 0), (.int .u8 0), (.int .u8 0), (.int .u8 0), (.int .u8 0), (.int .u8 0), (.int .u8 0), (.int .u8 0), (.int .u8 0), (.int .u8 0), (.int .u8 0), (.int .u8 0), (.int .u8 0), (.int .u8 0), (.int .u8 0), (.int .u8 0), (.int .u8 0), (.int .u8 0), (.int .u8 0), (.int .u8 0), (.int .u8 0), (.int .u8 0), (.int .u8 0), (.int .u8 0), (.int .u8 0), (.int .u8 0), (.int .u8 0), (.int .u8 0), (.int .u8 0), (.int .u8 0), (.int .i64 0)]) .ptr, rg 3 (.move (.const (.int .i64 0))) .i]) <|
 .seq (.seq (.reg [rg 8 (.move 0) .any, rg 9 (.lenS 8) .i, rg 10 (.bin .neq 9 (.const (.int .i64 64))) .bool]) <|
 .cond 10 (.seq (.reg [rg 11 (.build [(.int .i64 0), (.int .u64 0), (.int .i64 0), (.int .u8 0), (.int .u8 0), (.int .u8 0), (.int .u8 0), (.int .u8 0), (.int .u8 0), (.int .u8 0), (.int .u8 0), (.int .u8 0), (.int .u8 0), (.int .u8 0), (.int .u8 0), (.int .u8 0), (.int .u8 0), (.int .u8 0), (.int .u8 0), (.int .u8 0), (.int .u8 0), (.int .u8 0), (.int .u8 0), (.int .u8 0), (.int .u8 0), (.int .u8 0), (.int .u8 0), (.int .u8 0), (.int .u8 0), (.int .u8 0), (.int .u8 0), (.int .u8 0), (.int .u8 0), (.int .u8 0), (.int .u8 0), (.int .i64 0)] []) .any, rn (.store 36 2 11) .any, rg 3 (.move (.const (.int .i64 2))) .i]) <|
 .ret) (.skip)) <|
 .seq (.reg [rg 13 (.move 0) .any, rg 14 (.slice 1 13 (some (.const (.int .i64 4))) (some (.const (.int .i64 16))) none) .any, rg 15 (.buildSlice 2 1 [(.int .i64 0), (.int .i64 0)] [(0, 1, (.const (.int .i64 8))), (1, 1, (.const (.int .i64 4)))]) .any, rg 16 (.call k_octet_Fields [14, 15]) .any, rg 12 (.move 16) .any, rg 17 (.extract 12 0) .any, rg 18 (.extract 12 1) .any, rg 19 (.extract 12 2) .i, rg 4 (.move 17) .any, rg 5 (.move 18) .any, rg 6 (.move 19) .i]) <|
 .seq (.seq (.cutn [(26, .bool)] <|
 .reg [rg 20 (.move 6) .i, rg 21 (.bin .neq 20 (.const (.int .i64 0))) .bool, rg 22 (.move 21) .bool, rq 23 (.move 4) 22 .any, rq 24 (.lenS 23) 22 .i, rq 25 (.bin .neq 24 (.const (.int .i64 2))) 22 .bool, rg 26 (.pick 22 (.const (.bool true)) 25) .bool]) <|
 .cond 26 (.seq (.reg [rg 27 (.build [(.int .i64 0), (.int .u64 0), (.int .i64 0), (.int .u8 0), (.int .u8 0), (.int .u8 0), (.int .u8 0), (.int .u8 0), (.int .u8 0), (.int .u8 0), (.int .u8 0), (.int .u8 0), (.int .u8 0), (.int .u8 0), (.int .u8 0), (.int .u8 0), (.int .u8 0), (.int .u8 0), (.int .u8 0), (.int .u8 0), (.int .u8 0), (.int .u8 0), (.int .u8 0), (.int .u8 0), (.int .u8 0), (.int .u8 0), (.int .u8 0), (.int .u8 0), (.int .u8 0), (.int .u8 0), (.int .u8 0), (.int .u8 0), (.int .u8 0), (.int .u8 0), (.int .u8 0), (.int .i64 0)] []) .any, rn (.store 36 2 27) .any, rg 3 (.move (.const (.int .i64 60))) .i]) <|
 .ret) (.skip)) <|
 .seq (.regd [(⟨0, [], false, ⟨(some 28), .move 0, none⟩⟩, .any), (⟨1, [0], false, ⟨(some 29), .idxSlice 1 28 (.const (.int .i64 1)), none⟩⟩, .ptr), (⟨2, [1, 0], false, ⟨(some 30), .load false 1 29, none⟩⟩, (.int .u8)), (⟨3, [2, 1, 0], false, ⟨(some 31), .conv .i64 30, none⟩⟩, (.int .i64)), (⟨4, [], false, ⟨(some 32), .move 4, none⟩⟩, .any), (⟨5, [4], false, ⟨(some 33), .idxSlice 1 32 (.const (.int .i64 0)), none⟩⟩, .ptr), (⟨6, [5, 4], false, ⟨(some 34), .load false 1 33, none⟩⟩, (.int .u64)), (⟨7, [3, 6, 2, 1, 0, 5, 4], false, ⟨(some 35), .build [(.int .i64 0), (.int .u64 0), (.int .i64 0), (.int .u8 0), (.int .u8 0), (.int .u8 0), (.int .u8 0), (.int .u8 0), (.int .u8 0), (.int .u8 0), (.int .u8 0), (.int .u8 0), (.int .u8 0), (.int .u8 0), (.int .u8 0), (.int .u8 0), (.int .u8 0), (.int .u8 0), (.int .u8 0), (.int .u8 0), (.int .u8 0), (.int .u8 0), (.int .u8 0), (.int .u8 0), (.int .u8 0), (.int .u8 0), (.int .u8 0), (.int .u8 0), (.int .u8 0), (.int .u8 0), (.int .u8 0), (.int .u8 0), (.int .u8 0), (.int .u8 0), (.int .u8 0), (.int .i64 0)] [(0, 1, 31), (1, 1, 34)], none⟩⟩, .any), (⟨8, [], false, ⟨(some 7), .alloc [(.int .i64 0), (.int .u64 0), (.int .i64 0), (.int .u8 0), (.int .u8 0), (.int .u8 0), (.int .u8 0), (.int .u8 0), (.int .u8 0), (.int .u8 0), (.int .u8 0), (.int .u8 0), (.int .u8 0), (.int .u8 0), (.int .u8 0), (.int .u8 0), (.int .u8 0), (.int .u8 0), (.int .u8 0), (.int .u8 0), (.int .u8 0), (.int .u8 0), (.int .u8 0), (.int .u8 0), (.int .u8 0), (.int .u8 0), (.int .u8 0), (.int .u8 0), (.int .u8 0), (.int .u8 0), (.int .u8 0), (.int .u8 0), (.int .u8 0), (.int .u8 0), (.int .u8 0), (.int .i64 0)], none⟩⟩, .ptr), (⟨9, [8, 7, 0, 1, 2, 3, 4, 5, 6], true, ⟨none, .store 36 7 35, none⟩⟩, .any)]) <|
 .seq (.regd [(⟨0, [], false, ⟨(some 36), .fieldAddr 3 7, none⟩⟩, .ptr), (⟨1, [0], false, ⟨(some 37), .sliceArr 32 1 36 none none none, none⟩⟩, .any), (⟨2, [], false, ⟨(some 38), .move 0, none⟩⟩, .any), (⟨3, [2], false, ⟨(some 39), .slice 1 38 (some (.const (.int .i64 16))) none none, none⟩⟩, .any), (⟨4, [1, 3, 0, 2], true, ⟨(some 40), .copy 1 37 39, none⟩⟩, (.int .i64))]) <|
 .seq (.cutn [] <|
 .seq (.reg [rg 41 (.fieldAddr 0 7) .ptr, rg 42 (.load false 1 41) .i]) <|
 .block 0 <|
 .seq (.reg [rg 44 (.bin .eql 42 (.const (.int .i64 1))) .bool, rg 43 (.move 44) .bool]) <|
 .cond 43 (.reg [rg 45 (.move 4) .any, rg 46 (.idxSlice 1 45 (.const (.int .i64 1))) .ptr, rg 47 (.load false 1 46) (.int .u64), rg 48 (.conv .i64 47) .i, rg 49 (.fieldAddr 2 7) .ptr, rn (.store 1 49 48) .any]) (.seq (.reg [rg 51 (.bin .eql 42 (.const (.int .i64 2))) .bool, rg 50 (.move 51) .bool]) <|
 .cond 50 (.reg [rg 52 (.move 4) .any, rg 53 (.idxSlice 1 52 (.const (.int .i64 1))) .ptr, rg 54 (.load false 1 53) (.int .u64), rg 55 (.conv .i64 54) .i, rg 56 (.fieldAddr 35 7) .ptr, rn (.store 1 56 55) .any]) (.skip))) <|
 .seq (.seq (.cutn [(66, .bool)] <|
 .reg [rg 57 (.load true 36 7) .any, rg 58 (.call k_record_Check [57]) .i, rg 59 (.bin .neq 58 (.const (.int .i64 0))) .bool, rg 60 (.move 59) .bool, rq 61 (.load true 36 7) 60 .any, rq 62 (.call k_record_laid [61]) 60 .any, rq 63 (.move 0) 60 .any, rq 64 (.call k_bytes_Equal [62, 63]) 60 .bool, rq 65 (.un .not 64) 60 .bool, rg 66 (.pick 60 (.const (.bool true)) 65) .bool]) <|
 .cond 66 (.seq (.reg [rg 67 (.build [(.int .i64 0), (.int .u64 0), (.int .i64 0), (.int .u8 0), (.int .u8 0), (.int .u8 0), (.int .u8 0), (.int .u8 0), (.int .u8 0), (.int .u8 0), (.int .u8 0), (.int .u8 0), (.int .u8 0), (.int .u8 0), (.int .u8 0), (.int .u8 0), (.int .u8 0), (.int .u8 0), (.int .u8 0), (.int .u8 0), (.int .u8 0), (.int .u8 0), (.int .u8 0), (.int .u8 0), (.int .u8 0), (.int .u8 0), (.int .u8 0), (.int .u8 0), (.int .u8 0), (.int .u8 0), (.int .u8 0), (.int .u8 0), (.int .u8 0), (.int .u8 0), (.int .u8 0), (.int .i64 0)] []) .any, rn (.store 36 2 67) .any, rg 3 (.move (.const (.int .i64 60))) .i]) <|
 .ret) (.skip)) <|
 .seq (.reg [rg 68 (.load true 36 7) .any, rn (.store 36 2 68) .any, rg 3 (.move (.const (.int .i64 0))) .i]) <|
 .ret
noncomputable def sf_record_Decode (n : Nat) : Sf := sfOf [(k_octet_Fields, s_octet_Fields n), (k_record_Check, s_record_Check n), (k_record_laid, s_record_laid n), (k_bytes_Equal, s_bytes_Equal n)]
noncomputable def it_record_Decode (n : Nat) : It := itOf []
def f_record_Decode (n : Nat) (u0 : Value) (h : Heap) : Option ((Value × Int × Unit) × Heap) :=
  bnd ((Heap.new h (.cells [(.int .i64 0), (.int .u64 0), (.int .i64 0), (.int .u8 0), (.int .u8 0), (.int .u8 0), (.int .u8 0), (.int .u8 0), (.int .u8 0), (.int .u8 0), (.int .u8 0), (.int .u8 0), (.int .u8 0), (.int .u8 0), (.int .u8 0), (.int .u8 0), (.int .u8 0), (.int .u8 0), (.int .u8 0), (.int .u8 0), (.int .u8 0), (.int .u8 0), (.int .u8 0), (.int .u8 0), (.int .u8 0), (.int .u8 0), (.int .u8 0), (.int .u8 0), (.int .u8 0), (.int .u8 0), (.int .u8 0), (.int .u8 0), (.int .u8 0), (.int .u8 0), (.int .u8 0), (.int .i64 0)] false 0))) fun h0 =>
  (lenB u0).bind fun n1 =>
  bif (!decide ((n1 : Int) = 64)) then
    ((fillL [(.int .i64 0), (.int .u64 0), (.int .i64 0), (.int .u8 0), (.int .u8 0), (.int .u8 0), (.int .u8 0), (.int .u8 0), (.int .u8 0), (.int .u8 0), (.int .u8 0), (.int .u8 0), (.int .u8 0), (.int .u8 0), (.int .u8 0), (.int .u8 0), (.int .u8 0), (.int .u8 0), (.int .u8 0), (.int .u8 0), (.int .u8 0), (.int .u8 0), (.int .u8 0), (.int .u8 0), (.int .u8 0), (.int .u8 0), (.int .u8 0), (.int .u8 0), (.int .u8 0), (.int .u8 0), (.int .u8 0), (.int .u8 0), (.int .u8 0), (.int .u8 0), (.int .u8 0), (.int .i64 0)] []).bind fun cs2 =>
    (stB 36 (.agg ⟨cs2⟩) h0 (some (nwA h))).bind fun h3 =>
    (ldA 36 h3 (some (nwA h))).bind fun cs4 =>
    some (((.agg ⟨cs4⟩), (2, ())), h3))
  else
    ((sliceK h0 1 (some (.int .i64 4)) (some (.int .i64 16)) none u0).bind fun p5 =>
    (fillL [(.int .i64 0), (.int .i64 0)] [(0, 1, (.int .i64 8)), (1, 1, (.int .i64 4))]).bind fun cs6 =>
    bnd ((Heap.new h0 (.cells cs6 false 1))) fun h7 =>
    (f_octet_Fields n p5.1 (.slice (some ⟨Heap.next h0, 0, some 0⟩) 2 2) h7).bind fun p8 =>
    ((bif (!decide (p8.1.2.2.1 = 0)) then
        (some ((true, ()), p8.2))
      else
        ((lenB p8.1.1).bind fun n9 =>
        some (((!decide ((n9 : Int) = 2)), ()), p8.2))) : Option ((Bool × Unit) × Heap)).bind fun a10 =>
    bif a10.1.1 then
      ((fillL [(.int .i64 0), (.int .u64 0), (.int .i64 0), (.int .u8 0), (.int .u8 0), (.int .u8 0), (.int .u8 0), (.int .u8 0), (.int .u8 0), (.int .u8 0), (.int .u8 0), (.int .u8 0), (.int .u8 0), (.int .u8 0), (.int .u8 0), (.int .u8 0), (.int .u8 0), (.int .u8 0), (.int .u8 0), (.int .u8 0), (.int .u8 0), (.int .u8 0), (.int .u8 0), (.int .u8 0), (.int .u8 0), (.int .u8 0), (.int .u8 0), (.int .u8 0), (.int .u8 0), (.int .u8 0), (.int .u8 0), (.int .u8 0), (.int .u8 0), (.int .u8 0), (.int .u8 0), (.int .i64 0)] []).bind fun cs11 =>
      (stB 36 (.agg ⟨cs11⟩) a10.2 (some (nwA h))).bind fun h12 =>
      (ldA 36 h12 (some (nwA h))).bind fun cs13 =>
      some (((.agg ⟨cs13⟩), (60, ())), h12))
    else
      ((ixB 1 u0 1).bind fun q14 =>
      (ldT (.int .u8) a10.2 (some q14)).bind fun x15 =>
      (ixB 1 p8.1.1 0).bind fun q16 =>
      (ldT (.int .u64) a10.2 (some q16)).bind fun x17 =>
      (fillL [(.int .i64 0), (.int .u64 0), (.int .i64 0), (.int .u8 0), (.int .u8 0), (.int .u8 0), (.int .u8 0), (.int .u8 0), (.int .u8 0), (.int .u8 0), (.int .u8 0), (.int .u8 0), (.int .u8 0), (.int .u8 0), (.int .u8 0), (.int .u8 0), (.int .u8 0), (.int .u8 0), (.int .u8 0), (.int .u8 0), (.int .u8 0), (.int .u8 0), (.int .u8 0), (.int .u8 0), (.int .u8 0), (.int .u8 0), (.int .u8 0), (.int .u8 0), (.int .u8 0), (.int .u8 0), (.int .u8 0), (.int .u8 0), (.int .u8 0), (.int .u8 0), (.int .u8 0), (.int .i64 0)] [(0, 1, (.int .i64 (IntKind.i64.wrap (x15)))), (1, 1, (.int .u64 x17))]).bind fun cs18 =>
      bnd ((Heap.new a10.2 (.cells [(.int .i64 0), (.int .u64 0), (.int .i64 0), (.int .u8 0), (.int .u8 0), (.int .u8 0), (.int .u8 0), (.int .u8 0), (.int .u8 0), (.int .u8 0), (.int .u8 0), (.int .u8 0), (.int .u8 0), (.int .u8 0), (.int .u8 0), (.int .u8 0), (.int .u8 0), (.int .u8 0), (.int .u8 0), (.int .u8 0), (.int .u8 0), (.int .u8 0), (.int .u8 0), (.int .u8 0), (.int .u8 0), (.int .u8 0), (.int .u8 0), (.int .u8 0), (.int .u8 0), (.int .u8 0), (.int .u8 0), (.int .u8 0), (.int .u8 0), (.int .u8 0), (.int .u8 0), (.int .i64 0)] false 0))) fun h19 =>
      (stB 36 (.agg ⟨cs18⟩) h19 (some (nwA a10.2))).bind fun h20 =>
      (sliceArrK h20 32 1 none none (.pointer (some (fa (nwA a10.2) 3)))).bind fun p21 =>
      (sliceK h20 1 (some (.int .i64 16)) none none u0).bind fun p22 =>
      (copyK h20 1 p21.1 p22.1).bind fun p23 =>
      (((ldT (.int .i64) p23.2 (some (fa (nwA a10.2) 0))).bind fun x24 =>
        bif (decide (x24 = 1)) then
          ((ixB 1 p8.1.1 1).bind fun q25 =>
          (ldT (.int .u64) p23.2 (some q25)).bind fun x26 =>
          (stB 1 (.int .i64 (IntKind.i64.wrap (x26))) p23.2 (some (fa (nwA a10.2) 2))).bind fun h27 =>
          some ((), h27))
        else
          (bif (decide (x24 = 2)) then
            ((ixB 1 p8.1.1 1).bind fun q28 =>
            (ldT (.int .u64) p23.2 (some q28)).bind fun x29 =>
            (stB 1 (.int .i64 (IntKind.i64.wrap (x29))) p23.2 (some (fa (nwA a10.2) 35))).bind fun h30 =>
            some ((), h30))
          else
            (some ((), p23.2)))) : Option ((Unit) × Heap)).bind fun a31 =>
      (((ldA 36 a31.2 (some (nwA a10.2))).bind fun cs32 =>
        (f_record_Check n (.agg ⟨cs32⟩) a31.2).bind fun p33 =>
        bif (!decide (p33.1.1 = 0)) then
          (some ((true, ()), p33.2))
        else
          ((ldA 36 p33.2 (some (nwA a10.2))).bind fun cs34 =>
          (f_record_laid n (.agg ⟨cs34⟩) p33.2).bind fun p35 =>
          (f_bytes_Equal n p35.1.1 u0 p35.2).bind fun p36 =>
          some (((!p36.1.1), ()), p36.2))) : Option ((Bool × Unit) × Heap)).bind fun a37 =>
      bif a37.1.1 then
        ((fillL [(.int .i64 0), (.int .u64 0), (.int .i64 0), (.int .u8 0), (.int .u8 0), (.int .u8 0), (.int .u8 0), (.int .u8 0), (.int .u8 0), (.int .u8 0), (.int .u8 0), (.int .u8 0), (.int .u8 0), (.int .u8 0), (.int .u8 0), (.int .u8 0), (.int .u8 0), (.int .u8 0), (.int .u8 0), (.int .u8 0), (.int .u8 0), (.int .u8 0), (.int .u8 0), (.int .u8 0), (.int .u8 0), (.int .u8 0), (.int .u8 0), (.int .u8 0), (.int .u8 0), (.int .u8 0), (.int .u8 0), (.int .u8 0), (.int .u8 0), (.int .u8 0), (.int .u8 0), (.int .i64 0)] []).bind fun cs38 =>
        (stB 36 (.agg ⟨cs38⟩) a37.2 (some (nwA h))).bind fun h39 =>
        (ldA 36 h39 (some (nwA h))).bind fun cs40 =>
        some (((.agg ⟨cs40⟩), (60, ())), h39))
      else
        ((ldA 36 a37.2 (some (nwA a10.2))).bind fun cs41 =>
        (stB 36 (.agg ⟨cs41⟩) a37.2 (some (nwA h))).bind fun h42 =>
        (ldA 36 h42 (some (nwA h))).bind fun cs43 =>
        some (((.agg ⟨cs43⟩), (0, ())), h42))))
def rs_record_Decode : Rs := [(.cell true 36 2, .any), (.tmp 3, (.int .i64))]
def ps_record_Decode : List Ty := [.any]
theorem e_record_Decode (n : Nat) (u0 : Value) (h : Heap) : f_record_Decode n u0 h = fB (sf_record_Decode n) (it_record_Decode n) n c2_record_Decode rs_record_Decode ps_record_Decode (u0, ()) h := by kernel_rfl
noncomputable def s_record_Decode (n : Nat) : Sf1 := mkSf ps_record_Decode rs_record_Decode fun a h => f_record_Decode n a.1 h
/- wicket/record.Encode -/
def c2_record_Encode : C2 := .seq (.reg [rg 1 (.box 0) .ptr, rg 2 (.move (.const (.slice none 0 0))) .any, rg 3 (.move (.const (.int .i64 0))) .i]) <|
 .seq (.seq (.reg [rg 5 (.load true 36 1) .any, rg 6 (.call k_record_Check [5]) .i, rg 4 (.move 6) .i]) <|
 .seq (.reg [rg 7 (.move 4) .i, rg 8 (.bin .neq 7 (.const (.int .i64 0))) .bool]) <|
 .cond 8 (.seq (.reg [rg 9 (.move 4) .i, rg 2 (.move (.const (.slice none 0 0))) .any, rg 3 (.move 9) .i]) <|
 .ret) (.skip)) <|
 .seq (.reg [rg 10 (.load true 36 1) .any, rg 11 (.call k_record_laid [10]) .any, rg 2 (.move 11) .any, rg 3 (.move (.const (.int .i64 0))) .i]) <|
 .ret
noncomputable def sf_record_Encode (n : Nat) : Sf := sfOf [(k_record_Check, s_record_Check n), (k_record_laid, s_record_laid n)]
noncomputable def it_record_Encode (n : Nat) : It := itOf []
def f_record_Encode (n : Nat) (u0 : Value) (h : Heap) : Option ((Value × Int × Unit) × Heap) :=
  bif (cellsOf u0).all isCell then
    (bnd ((Heap.new h (.cells (cellsOf u0) false 0))) fun h0 =>
    (ldA 36 h0 (some (nwA h))).bind fun cs1 =>
    (f_record_Check n (.agg ⟨cs1⟩) h0).bind fun p2 =>
    bif (!decide (p2.1.1 = 0)) then
      (some (((.slice none 0 0), (p2.1.1, ())), p2.2))
    else
      ((ldA 36 p2.2 (some (nwA h))).bind fun cs3 =>
      (f_record_laid n (.agg ⟨cs3⟩) p2.2).bind fun p4 =>
      bif !isTuple p4.1.1 then
        (some ((p4.1.1, (0, ())), p4.2))
      else
        (none)))
  else
    (none)
def rs_record_Encode : Rs := [(.tmp 2, .any), (.tmp 3, (.int .i64))]
def ps_record_Encode : List Ty := [.any]
theorem e_record_Encode (n : Nat) (u0 : Value) (h : Heap) : f_record_Encode n u0 h = fB (sf_record_Encode n) (it_record_Encode n) n c2_record_Encode rs_record_Encode ps_record_Encode (u0, ()) h := by kernel_rfl
noncomputable def s_record_Encode (n : Nat) : Sf1 := mkSf ps_record_Encode rs_record_Encode fun a h => f_record_Encode n a.1 h
/- wicket/scan.stands -/
def c2_scan_stands : C2 := .seq (.reg [rg 4 (.box 1) .ptr, rg 6 (.alloc [(.int .i64 0), (.int .u64 0), (.int .i64 0), (.int .u8 0), (.int .u8 0), (.int .u8 0), (.int .u8 0), (.int .u8 0), (.int .u8 0), (.int .u8 0), (.int .u8 0), (.int .u8 0), (.int .u8 0), (.int .u8 0), (.int .u8 0), (.int .u8 0), (.int .u8 0), (.int .u8 0), (.int .u8 0), (.int .u8 0), (.int .u8 0), (.int .u8 0), (.int .u8 0), (.int .u8 0), (.int .u8 0), (.int .u8 0), (.int .u8 0), (.int .u8 0), (.int .u8 0), (.int .u8 0), (.int .u8 0), (.int .u8 0), (.int .u8 0), (.int .u8 0), (.int .u8 0), (.int .i64 0)]) .ptr, rg 7 (.move (.const (.bool false))) .bool]) <|
 .seq (.reg [rg 13 (.move 2) (.int .u64), rg 14 (.fieldAddr 1 4) .ptr, rg 15 (.load false 1 14) .i, rg 16 (.call k_ring_Slot [13, 15]) .any, rg 12 (.move 16) .any, rg 17 (.extract 12 0) .i, rg 18 (.extract 12 1) .i, rg 8 (.move 17) .i, rg 9 (.move 18) .i]) <|
 .seq (.seq (.reg [rg 19 (.move 9) .i, rg 20 (.bin .neq 19 (.const (.int .i64 0))) .bool]) <|
 .cond 20 (.seq (.reg [rg 21 (.build [(.int .i64 0), (.int .u64 0), (.int .i64 0), (.int .u8 0), (.int .u8 0), (.int .u8 0), (.int .u8 0), (.int .u8 0), (.int .u8 0), (.int .u8 0), (.int .u8 0), (.int .u8 0), (.int .u8 0), (.int .u8 0), (.int .u8 0), (.int .u8 0), (.int .u8 0), (.int .u8 0), (.int .u8 0), (.int .u8 0), (.int .u8 0), (.int .u8 0), (.int .u8 0), (.int .u8 0), (.int .u8 0), (.int .u8 0), (.int .u8 0), (.int .u8 0), (.int .u8 0), (.int .u8 0), (.int .u8 0), (.int .u8 0), (.int .u8 0), (.int .u8 0), (.int .u8 0), (.int .i64 0)] []) .any, rn (.store 36 6 21) .any, rg 7 (.move (.const (.bool false))) .bool]) <|
 .ret) (.skip)) <|
 .seq (.reg [rg 23 (.move 0) .ptr, rg 24 (.fieldAddr 0 4) .ptr, rg 25 (.load false 1 24) .i, rg 26 (.bin .add (.const (.int .i64 1)) 25) .i, rg 27 (.move 8) .i, rg 28 (.bin .add 26 27) .i, rg 29 (.call k_sector_Disk_Read [23, 28]) .any, rg 22 (.move 29) .any, rg 30 (.extract 22 0) .any, rg 31 (.extract 22 1) .i, rg 10 (.move 30) .any, rg 9 (.move 31) .i]) <|
 .seq (.seq (.reg [rg 32 (.move 9) .i, rg 33 (.bin .neq 32 (.const (.int .i64 0))) .bool]) <|
 .cond 33 (.seq (.reg [rg 34 (.build [(.int .i64 0), (.int .u64 0), (.int .i64 0), (.int .u8 0), (.int .u8 0), (.int .u8 0), (.int .u8 0), (.int .u8 0), (.int .u8 0), (.int .u8 0), (.int .u8 0), (.int .u8 0), (.int .u8 0), (.int .u8 0), (.int .u8 0), (.int .u8 0), (.int .u8 0), (.int .u8 0), (.int .u8 0), (.int .u8 0), (.int .u8 0), (.int .u8 0), (.int .u8 0), (.int .u8 0), (.int .u8 0), (.int .u8 0), (.int .u8 0), (.int .u8 0), (.int .u8 0), (.int .u8 0), (.int .u8 0), (.int .u8 0), (.int .u8 0), (.int .u8 0), (.int .u8 0), (.int .i64 0)] []) .any, rn (.store 36 6 34) .any, rg 7 (.move (.const (.bool false))) .bool]) <|
 .ret) (.skip)) <|
 .seq (.reg [rg 36 (.move 10) .any, rg 37 (.call k_record_Decode [36]) .any, rg 35 (.move 37) .any, rg 38 (.extract 35 0) .any, rg 39 (.extract 35 1) .i, rg 11 (.alloc [(.int .i64 0), (.int .u64 0), (.int .i64 0), (.int .u8 0), (.int .u8 0), (.int .u8 0), (.int .u8 0), (.int .u8 0), (.int .u8 0), (.int .u8 0), (.int .u8 0), (.int .u8 0), (.int .u8 0), (.int .u8 0), (.int .u8 0), (.int .u8 0), (.int .u8 0), (.int .u8 0), (.int .u8 0), (.int .u8 0), (.int .u8 0), (.int .u8 0), (.int .u8 0), (.int .u8 0), (.int .u8 0), (.int .u8 0), (.int .u8 0), (.int .u8 0), (.int .u8 0), (.int .u8 0), (.int .u8 0), (.int .u8 0), (.int .u8 0), (.int .u8 0), (.int .u8 0), (.int .i64 0)]) .ptr, rn (.store 36 11 38) .any, rg 9 (.move 39) .i]) <|
 .seq (.regd [(⟨0, [], false, ⟨(some 40), .load true 36 11, none⟩⟩, .any), (⟨1, [], false, ⟨(some 41), .move 9, none⟩⟩, (.int .i64)), (⟨2, [1], false, ⟨(some 42), .bin .eql 41 (.const (.int .i64 0)), none⟩⟩, .bool), (⟨3, [2, 1], false, ⟨(some 43), .move 42, none⟩⟩, .bool), (⟨4, [3, 2, 1], false, ⟨(some 44), .fieldAddr 1 11, some (43, true)⟩⟩, .ptr), (⟨5, [4, 3, 2, 1], false, ⟨(some 45), .load false 1 44, some (43, true)⟩⟩, (.int .u64)), (⟨6, [3, 2, 1], false, ⟨(some 46), .move 2, some (43, true)⟩⟩, (.int .u64)), (⟨7, [5, 6, 3, 4, 2, 1], false, ⟨(some 47), .bin .eql 45 46, some (43, true)⟩⟩, .bool), (⟨8, [3, 7, 2, 1, 5, 6, 4], false, ⟨(some 48), .pick 43 47 (.const (.bool false)), none⟩⟩, .bool), (⟨9, [8, 3, 7, 2, 1, 5, 6, 4], false, ⟨(some 49), .move 48, none⟩⟩, .bool), (⟨10, [9, 8, 3, 7, 2, 1, 5, 6, 4], false, ⟨(some 50), .fieldAddr 0 11, some (49, true)⟩⟩, .ptr), (⟨11, [10, 9, 8, 3, 7, 2, 1, 5, 6, 4], false, ⟨(some 51), .load false 1 50, some (49, true)⟩⟩, (.int .i64)), (⟨12, [11, 9, 10, 8, 3, 7, 2, 1, 5, 6, 4], false, ⟨(some 52), .bin .neq 51 (.const (.int .i64 1)), some (49, true)⟩⟩, .bool), (⟨13, [12, 9, 11, 10, 8, 3, 7, 2, 1, 5, 6, 4], false, ⟨(some 53), .move 52, some (49, true)⟩⟩, .bool), (⟨14, [13, 12, 9, 11, 10, 8, 3, 7, 2, 1, 5, 6, 4], false, ⟨(some 54), .fieldAddr 2 11, some (53, false)⟩⟩, .ptr), (⟨15, [14, 13, 12, 9, 11, 10, 8, 3, 7, 2, 1, 5, 6, 4], false, ⟨(some 55), .load false 1 54, some (53, false)⟩⟩, (.int .i64)), (⟨16, [13, 12, 9, 11, 10, 8, 3, 7, 2, 1, 5, 6, 4], false, ⟨(some 56), .fieldAddr 0 4, some (53, false)⟩⟩, .ptr), (⟨17, [16, 13, 12, 9, 11, 10, 8, 3, 7, 2, 1, 5, 6, 4], false, ⟨(some 57), .load false 1 56, some (53, false)⟩⟩, (.int .i64)), (⟨18, [15, 17, 13, 14, 12, 9, 11, 10, 8, 3, 7, 2, 1, 5, 6, 4, 16], false, ⟨(some 58), .bin .lss 55 57, some (53, false)⟩⟩, .bool), (⟨19, [13, 18, 9, 12, 11, 10, 8, 3, 7, 2, 1, 5, 6, 4, 15, 17, 14, 16], false, ⟨(some 59), .pick 53 (.const (.bool true)) 58, some (49, true)⟩⟩, .bool), (⟨20, [9, 19, 8, 3, 7, 2, 1, 5, 6, 4, 13, 18, 12, 11, 10, 15, 17, 14, 16], false, ⟨(some 60), .pick 49 59 (.const (.bool false)), none⟩⟩, .bool), (⟨21, [0, 13, 12, 9, 11, 10, 8, 3, 7, 2, 1, 5, 6, 4], true, ⟨none, .store 36 6 40, none⟩⟩, .any), (⟨22, [20, 21, 0, 1, 2, 3, 4, 5, 6, 7, 8, 9, 10, 11, 12, 13, 14, 15, 16, 17, 18, 19], false, ⟨(some 7), .move 60, none⟩⟩, .bool)]) <|
 .ret
noncomputable def sf_scan_stands (n : Nat) : Sf := sfOf [(k_ring_Slot, s_ring_Slot n), (k_sector_Disk_Read, s_sector_Disk_Read n), (k_record_Decode, s_record_Decode n)]
noncomputable def it_scan_stands (n : Nat) : It := itOf []
def f_scan_stands (n : Nat) (u0 : Option Addr) (u1 : Value) (u2 : Int) (h : Heap) : Option ((Value × Bool × Unit) × Heap) :=
  bif (cellsOf u1).all isCell then
    (bnd ((Heap.new h (.cells (cellsOf u1) false 0))) fun h0 =>
    bnd ((Heap.new h0 (.cells [(.int .i64 0), (.int .u64 0), (.int .i64 0), (.int .u8 0), (.int .u8 0), (.int .u8 0), (.int .u8 0), (.int .u8 0), (.int .u8 0), (.int .u8 0), (.int .u8 0), (.int .u8 0), (.int .u8 0), (.int .u8 0), (.int .u8 0), (.int .u8 0), (.int .u8 0), (.int .u8 0), (.int .u8 0), (.int .u8 0), (.int .u8 0), (.int .u8 0), (.int .u8 0), (.int .u8 0), (.int .u8 0), (.int .u8 0), (.int .u8 0), (.int .u8 0), (.int .u8 0), (.int .u8 0), (.int .u8 0), (.int .u8 0), (.int .u8 0), (.int .u8 0), (.int .u8 0), (.int .i64 0)] false 0))) fun h1 =>
    (ldT (.int .i64) h1 (some (fa (nwA h) 1))).bind fun x2 =>
    (f_ring_Slot n u2 x2 h1).bind fun p3 =>
    bif (!decide (p3.1.2.1 = 0)) then
      ((fillL [(.int .i64 0), (.int .u64 0), (.int .i64 0), (.int .u8 0), (.int .u8 0), (.int .u8 0), (.int .u8 0), (.int .u8 0), (.int .u8 0), (.int .u8 0), (.int .u8 0), (.int .u8 0), (.int .u8 0), (.int .u8 0), (.int .u8 0), (.int .u8 0), (.int .u8 0), (.int .u8 0), (.int .u8 0), (.int .u8 0), (.int .u8 0), (.int .u8 0), (.int .u8 0), (.int .u8 0), (.int .u8 0), (.int .u8 0), (.int .u8 0), (.int .u8 0), (.int .u8 0), (.int .u8 0), (.int .u8 0), (.int .u8 0), (.int .u8 0), (.int .u8 0), (.int .u8 0), (.int .i64 0)] []).bind fun cs4 =>
      (stB 36 (.agg ⟨cs4⟩) p3.2 (some (nwA h0))).bind fun h5 =>
      (ldA 36 h5 (some (nwA h0))).bind fun cs6 =>
      some (((.agg ⟨cs6⟩), (false, ())), h5))
    else
      ((ldT (.int .i64) p3.2 (some (fa (nwA h) 0))).bind fun x7 =>
      (f_sector_Disk_Read n u0 (IntKind.i64.wrap ((IntKind.i64.wrap (1 + x7)) + p3.1.1)) p3.2).bind fun p8 =>
      bif (!decide (p8.1.2.1 = 0)) then
        ((fillL [(.int .i64 0), (.int .u64 0), (.int .i64 0), (.int .u8 0), (.int .u8 0), (.int .u8 0), (.int .u8 0), (.int .u8 0), (.int .u8 0), (.int .u8 0), (.int .u8 0), (.int .u8 0), (.int .u8 0), (.int .u8 0), (.int .u8 0), (.int .u8 0), (.int .u8 0), (.int .u8 0), (.int .u8 0), (.int .u8 0), (.int .u8 0), (.int .u8 0), (.int .u8 0), (.int .u8 0), (.int .u8 0), (.int .u8 0), (.int .u8 0), (.int .u8 0), (.int .u8 0), (.int .u8 0), (.int .u8 0), (.int .u8 0), (.int .u8 0), (.int .u8 0), (.int .u8 0), (.int .i64 0)] []).bind fun cs9 =>
        (stB 36 (.agg ⟨cs9⟩) p8.2 (some (nwA h0))).bind fun h10 =>
        (ldA 36 h10 (some (nwA h0))).bind fun cs11 =>
        some (((.agg ⟨cs11⟩), (false, ())), h10))
      else
        ((f_record_Decode n p8.1.1 p8.2).bind fun p12 =>
        bnd ((Heap.new p12.2 (.cells [(.int .i64 0), (.int .u64 0), (.int .i64 0), (.int .u8 0), (.int .u8 0), (.int .u8 0), (.int .u8 0), (.int .u8 0), (.int .u8 0), (.int .u8 0), (.int .u8 0), (.int .u8 0), (.int .u8 0), (.int .u8 0), (.int .u8 0), (.int .u8 0), (.int .u8 0), (.int .u8 0), (.int .u8 0), (.int .u8 0), (.int .u8 0), (.int .u8 0), (.int .u8 0), (.int .u8 0), (.int .u8 0), (.int .u8 0), (.int .u8 0), (.int .u8 0), (.int .u8 0), (.int .u8 0), (.int .u8 0), (.int .u8 0), (.int .u8 0), (.int .u8 0), (.int .u8 0), (.int .i64 0)] false 0))) fun h13 =>
        (stB 36 p12.1.1 h13 (some (nwA p12.2))).bind fun h14 =>
        (ldA 36 h14 (some (nwA p12.2))).bind fun cs15 =>
        bif (decide (p12.1.2.1 = 0)) then
          ((ldT (.int .u64) h14 (some (fa (nwA p12.2) 1))).bind fun x16 =>
          bif (decide (x16 = u2)) then
            ((ldT (.int .i64) h14 (some (fa (nwA p12.2) 0))).bind fun x17 =>
            bif (!decide (x17 = 1)) then
              ((stB 36 (.agg ⟨cs15⟩) h14 (some (nwA h0))).bind fun h18 =>
              (ldA 36 h18 (some (nwA h0))).bind fun cs19 =>
              some (((.agg ⟨cs19⟩), (true, ())), h18))
            else
              ((ldT (.int .i64) h14 (some (fa (nwA p12.2) 2))).bind fun x20 =>
              (ldT (.int .i64) h14 (some (fa (nwA h) 0))).bind fun x21 =>
              (stB 36 (.agg ⟨cs15⟩) (hid h14 [] ((Addr.block (fa (nwA h) 0)) :: ((Addr.block (fa (nwA p12.2) 2)) :: []))) (some (nwA h0))).bind fun h22 =>
              bnd (Heap.putBack h22 h14 ([] ++ ((Addr.block (fa (nwA h) 0)) :: ((Addr.block (fa (nwA p12.2) 2)) :: [])))) fun h23 =>
              (ldA 36 h23 (some (nwA h0))).bind fun cs24 =>
              some (((.agg ⟨cs24⟩), ((decide (x20 < x21)), ())), h23)))
          else
            ((stB 36 (.agg ⟨cs15⟩) h14 (some (nwA h0))).bind fun h25 =>
            (ldA 36 h25 (some (nwA h0))).bind fun cs26 =>
            some (((.agg ⟨cs26⟩), (false, ())), h25)))
        else
          ((stB 36 (.agg ⟨cs15⟩) h14 (some (nwA h0))).bind fun h27 =>
          (ldA 36 h27 (some (nwA h0))).bind fun cs28 =>
          some (((.agg ⟨cs28⟩), (false, ())), h27)))))
  else
    (none)
def rs_scan_stands : Rs := [(.cell true 36 6, .any), (.tmp 7, .bool)]
def ps_scan_stands : List Ty := [.ptr, .any, (.int .u64)]
theorem e_scan_stands (n : Nat) (u0 : Option Addr) (u1 : Value) (u2 : Int) (h : Heap) : f_scan_stands n u0 u1 u2 h = fB (sf_scan_stands n) (it_scan_stands n) n c2_scan_stands rs_scan_stands ps_scan_stands (u0, (u1, (u2, ()))) h := by kernel_rfl
noncomputable def s_scan_stands (n : Nat) : Sf1 := mkSf ps_scan_stands rs_scan_stands fun a h => f_scan_stands n a.1 a.2.1 a.2.2.1 h
/- (*wicket/wal.Log).write -/
def c2_wal_Log_write : C2 := .seq (.reg [rg 3 (.box 1) .ptr, rg 4 (.move (.const (.int .u64 0))) (.int .u64), rg 5 (.move (.const (.int .i64 0))) .i]) <|
 .seq (.reg [rg 10 (.move 0) .ptr, rg 11 (.nilCheck 10) .ptr, rg 12 (.fieldAddr 8 11) .ptr, rg 13 (.load false 1 12) (.int .u64), rg 14 (.fieldAddr 1 3) .ptr, rn (.store 1 14 13) .any]) <|
 .seq (.reg [rg 16 (.load true 36 3) .any, rg 17 (.call k_record_Encode [16]) .any, rg 15 (.move 17) .any, rg 18 (.extract 15 0) .any, rg 19 (.extract 15 1) .i, rg 6 (.move 18) .any, rg 7 (.move 19) .i]) <|
 .seq (.seq (.reg [rg 20 (.move 7) .i, rg 21 (.bin .neq 20 (.const (.int .i64 0))) .bool]) <|
 .cond 21 (.seq (.reg [rg 22 (.move 7) .i, rg 4 (.move (.const (.int .u64 0))) (.int .u64), rg 5 (.move 22) .i]) <|
 .ret) (.skip)) <|
 .seq (.reg [rg 24 (.move 0) .ptr, rg 25 (.move 0) .ptr, rg 26 (.nilCheck 25) .ptr, rg 27 (.fieldAddr 8 26) .ptr, rg 28 (.load false 1 27) (.int .u64), rg 29 (.call k_wal_Log_sectorOf [24, 28]) .any, rg 23 (.move 29) .any, rg 30 (.extract 23 0) .i, rg 31 (.extract 23 1) .i, rg 8 (.move 30) .i, rg 7 (.move 31) .i]) <|
 .seq (.seq (.reg [rg 32 (.move 7) .i, rg 33 (.bin .neq 32 (.const (.int .i64 0))) .bool]) <|
 .cond 33 (.seq (.reg [rg 34 (.move 7) .i, rg 4 (.move (.const (.int .u64 0))) (.int .u64), rg 5 (.move 34) .i]) <|
 .ret) (.skip)) <|
 .seq (.seq (.reg [rg 35 (.move 0) .ptr, rg 36 (.nilCheck 35) .ptr, rg 37 (.fieldAddr 0 36) .ptr, rg 38 (.load false 1 37) .ptr, rg 39 (.move 8) .i, rg 40 (.move 6) .any, rg 41 (.call k_sector_Disk_Write [38, 39, 40]) .i, rg 9 (.move 41) .i]) <|
 .seq (.reg [rg 42 (.move 9) .i, rg 43 (.bin .neq 42 (.const (.int .i64 0))) .bool]) <|
 .cond 43 (.seq (.reg [rg 44 (.move 9) .i, rg 4 (.move (.const (.int .u64 0))) (.int .u64), rg 5 (.move 44) .i]) <|
 .ret) (.skip)) <|
 .seq (.reg [rg 45 (.move 0) .ptr, rg 46 (.nilCheck 45) .ptr, rg 47 (.fieldAddr 8 46) .ptr, rg 48 (.load false 1 47) (.int .u64), rg 49 (.bin .add 48 (.const (.int .u64 1))) (.int .u64), rg 50 (.nilCheck 45) .ptr, rg 51 (.fieldAddr 8 50) .ptr, rn (.store 1 51 49) .any]) <|
 .seq (.reg [rg 52 (.fieldAddr 1 3) .ptr, rg 53 (.load false 1 52) (.int .u64), rg 4 (.move 53) (.int .u64), rg 5 (.move (.const (.int .i64 0))) .i]) <|
 .ret
noncomputable def sf_wal_Log_write (n : Nat) : Sf := sfOf [(k_record_Encode, s_record_Encode n), (k_wal_Log_sectorOf, s_wal_Log_sectorOf n), (k_sector_Disk_Write, s_sector_Disk_Write n)]
noncomputable def it_wal_Log_write (n : Nat) : It := itOf []
def f_wal_Log_write (n : Nat) (u0 : Option Addr) (u1 : Value) (h : Heap) : Option ((Int × Int × Unit) × Heap) :=
  bif (cellsOf u1).all isCell then
    (bnd ((Heap.new h (.cells (cellsOf u1) false 0))) fun h0 =>
    (u0).bind fun q1 =>
    (ldT (.int .u64) h0 (some (fa q1 8))).bind fun x2 =>
    (stB 1 (.int .u64 x2) h0 (some (fa (nwA h) 1))).bind fun h3 =>
    (ldA 36 h3 (some (nwA h))).bind fun cs4 =>
    (f_record_Encode n (.agg ⟨cs4⟩) h3).bind fun p5 =>
    bif (!decide (p5.1.2.1 = 0)) then
      (some ((0, (p5.1.2.1, ())), p5.2))
    else
      ((u0).bind fun q6 =>
      (ldT (.int .u64) p5.2 (some (fa q6 8))).bind fun x7 =>
      (f_wal_Log_sectorOf n u0 x7 p5.2).bind fun p8 =>
      bif (!decide (p8.1.2.1 = 0)) then
        (some ((0, (p8.1.2.1, ())), p8.2))
      else
        ((u0).bind fun q9 =>
        (ldT .ptr p8.2 (some (fa q9 0))).bind fun x10 =>
        (f_sector_Disk_Write n x10 p8.1.1 p5.1.1 p8.2).bind fun p11 =>
        bif (!decide (p11.1.1 = 0)) then
          (some ((0, (p11.1.1, ())), p11.2))
        else
          ((u0).bind fun q12 =>
          (ldT (.int .u64) p11.2 (some (fa q12 8))).bind fun x13 =>
          (u0).bind fun q14 =>
          (stB 1 (.int .u64 (IntKind.u64.wrap (x13 + 1))) p11.2 (some (fa q14 8))).bind fun h15 =>
          (ldT (.int .u64) h15 (some (fa (nwA h) 1))).bind fun x16 =>
          some ((x16, (0, ())), h15)))))
  else
    (none)
def rs_wal_Log_write : Rs := [(.tmp 4, (.int .u64)), (.tmp 5, (.int .i64))]
def ps_wal_Log_write : List Ty := [.ptr, .any]
theorem e_wal_Log_write (n : Nat) (u0 : Option Addr) (u1 : Value) (h : Heap) : f_wal_Log_write n u0 u1 h = fB (sf_wal_Log_write n) (it_wal_Log_write n) n c2_wal_Log_write rs_wal_Log_write ps_wal_Log_write (u0, (u1, ())) h := by kernel_rfl
noncomputable def s_wal_Log_write (n : Nat) : Sf1 := mkSf ps_wal_Log_write rs_wal_Log_write fun a h => f_wal_Log_write n a.1 a.2.1 h
/- wicket/scan.Read -/
def c2_scan_Read : C2 := .seq (.reg [rg 2 (.box 0) .ptr, rg 3 (.box 1) .ptr, rg 4 (.alloc [(.int .u64 0), (.int .u64 0), (.int .u64 0), (.slice none 0 0)]) .ptr, rg 5 (.move (.const (.int .i64 0))) .i]) <|
 .seq (.reg [rg 15 (.load false 1 2) .ptr, rg 16 (.load true 5 3) .any, rg 17 (.call k_scan_begin [15, 16]) .any, rg 14 (.move 17) .any, rg 18 (.extract 14 0) .any, rg 19 (.extract 14 1) .i, rg 6 (.alloc [(.int .i64 0), (.int .i64 0), (.int .i64 0), (.int .i64 0), (.int .i64 0), (.int .u64 0), (.int .u64 0)]) .ptr, rn (.store 7 6 18) .any, rg 7 (.move 19) .i]) <|
 .seq (.seq (.reg [rg 20 (.move 7) .i, rg 21 (.bin .neq 20 (.const (.int .i64 0))) .bool]) <|
 .cond 21 (.seq (.reg [rg 22 (.build [(.int .u64 0), (.int .u64 0), (.int .u64 0), (.slice none 0 0)] []) .any, rg 23 (.move 7) .i, rn (.store 4 4 22) .any, rg 5 (.move 23) .i]) <|
 .ret) (.skip)) <|
 .seq (.reg [rg 24 (.fieldAddr 5 6) .ptr, rg 25 (.load false 1 24) (.int .u64), rg 26 (.fieldAddr 6 6) .ptr, rg 27 (.load false 1 26) (.int .u64), rg 28 (.fieldAddr 5 6) .ptr, rg 29 (.load false 1 28) (.int .u64), rg 30 (.build [(.int .u64 0), (.int .u64 0), (.int .u64 0), (.slice none 0 0)] [(0, 1, 25), (1, 1, 27), (2, 1, 29)]) .any, rg 8 (.alloc [(.int .u64 0), (.int .u64 0), (.int .u64 0), (.slice none 0 0)]) .ptr, rn (.store 4 8 30) .any]) <|
 .seq (.reg [rg 9 (.alloc [(.slice none 0 0)]) .ptr]) <|
 .seq (.skip) <|
 .seq (.cutn [] <|
 .seq (.reg [rg 31 (.fieldAddr 5 6) .ptr, rg 32 (.load false 1 31) (.int .u64), rg 33 (.fieldAddr 5 6) .ptr, rg 34 (.load false 1 33) (.int .u64), rg 35 (.fieldAddr 1 3) .ptr, rg 36 (.load false 1 35) .i, rg 37 (.conv .u64 36) (.int .u64), rg 38 (.bin .add 34 37) (.int .u64), rg 39 (.call k_ring_Span [32, 38]) (.fn k_ring_Span_1 2)]) <|
 .block 0 <|
 .range 39 [40] [.exit 0] (.reg [rg 10 (.move 40) (.int .u64)]) (.block 1 <|
 .seq (.reg [rg 42 (.load false 1 2) .ptr, rg 43 (.load true 5 3) .any, rg 44 (.move 10) (.int .u64), rg 45 (.call k_scan_stands [42, 43, 44]) .any, rg 41 (.move 45) .any, rg 46 (.extract 41 0) .any, rg 47 (.extract 41 1) .bool, rg 11 (.alloc [(.int .i64 0), (.int .u64 0), (.int .i64 0), (.int .u8 0), (.int .u8 0), (.int .u8 0), (.int .u8 0), (.int .u8 0), (.int .u8 0), (.int .u8 0), (.int .u8 0), (.int .u8 0), (.int .u8 0), (.int .u8 0), (.int .u8 0), (.int .u8 0), (.int .u8 0), (.int .u8 0), (.int .u8 0), (.int .u8 0), (.int .u8 0), (.int .u8 0), (.int .u8 0), (.int .u8 0), (.int .u8 0), (.int .u8 0), (.int .u8 0), (.int .u8 0), (.int .u8 0), (.int .u8 0), (.int .u8 0), (.int .u8 0), (.int .u8 0), (.int .u8 0), (.int .u8 0), (.int .i64 0)]) .ptr, rn (.store 36 11 46) .any, rg 12 (.move 47) .bool]) <|
 .block 2 <|
 .seq (.reg [rg 78 (.move 12) .bool, rg 79 (.un .not 78) .bool, rg 77 (.move 79) .bool]) <|
 .cond 77 (.exit 0) (.seq (.reg [rg 81 (.fieldAddr 0 11) .ptr, rg 82 (.load false 1 81) .i, rg 83 (.bin .eql 82 (.const (.int .i64 2))) .bool, rg 80 (.move 83) .bool]) <|
 .cond 80 (.seq (.seq (.reg [rg 84 (.fieldAddr 35 11) .ptr, rg 85 (.load false 1 84) .i, rg 86 (.load false 1 9) .any, rg 87 (.lenS 86) .i, rg 88 (.bin .neq 85 87) .bool]) <|
 .cond 88 (.exit 0) (.skip)) <|
 .seq (.reg [rg 89 (.fieldAddr 3 8) .ptr, rg 90 (.load false 1 89) .any, rg 91 (.move 10) (.int .u64), rg 92 (.load false 1 9) .any, rg 93 (.build [(.int .u64 0), (.slice none 0 0)] [(0, 1, 91), (1, 1, 92)]) .any, rg 94 (.buildSlice 1 2 [(.int .u64 0), (.slice none 0 0)] [(0, 2, 93)]) .any, rg 95 (.append 32 2 90 94) .any, rg 96 (.fieldAddr 3 8) .ptr, rn (.store 1 96 95) .any]) <|
 .seq (.reg [rg 97 (.move 10) (.int .u64), rg 98 (.bin .add 97 (.const (.int .u64 1))) (.int .u64), rg 99 (.fieldAddr 2 8) .ptr, rn (.store 1 99 98) .any]) <|
 .reg [rn (.store 1 9 (.const (.slice none 0 0))) .any]) (.seq (.seq (.reg [rg 48 (.load false 1 9) .any, rg 49 (.lenS 48) .i, rg 13 (.move 49) .i]) <|
 .seq (.cutn [(68, .bool)] <|
 .regd [(⟨0, [], false, ⟨(some 50), .move 13, none⟩⟩, (.int .i64)), (⟨1, [], false, ⟨(some 51), .fieldAddr 2 3, none⟩⟩, .ptr), (⟨2, [1], false, ⟨(some 52), .load false 1 51, none⟩⟩, (.int .i64)), (⟨3, [0, 2, 1], false, ⟨(some 53), .bin .eql 50 52, none⟩⟩, .bool), (⟨4, [3, 0, 2, 1], false, ⟨(some 54), .move 53, none⟩⟩, .bool), (⟨5, [4, 3, 0, 2, 1], false, ⟨(some 55), .move 13, some (54, false)⟩⟩, (.int .i64)), (⟨6, [5, 4, 3, 0, 2, 1], false, ⟨(some 56), .bin .gtr 55 (.const (.int .i64 0)), some (54, false)⟩⟩, .bool), (⟨7, [6, 4, 5, 3, 0, 2, 1], false, ⟨(some 57), .move 56, some (54, false)⟩⟩, .bool), (⟨8, [7, 6, 4, 5, 3, 0, 2, 1], false, ⟨(some 58), .fieldAddr 2 11, some (57, true)⟩⟩, .ptr), (⟨9, [8, 7, 6, 4, 5, 3, 0, 2, 1], false, ⟨(some 59), .load false 1 58, some (57, true)⟩⟩, (.int .i64)), (⟨10, [7, 6, 4, 5, 3, 0, 2, 1], false, ⟨(some 60), .load false 1 9, some (57, true)⟩⟩, .any), (⟨11, [7, 6, 4, 5, 3, 0, 2, 1], false, ⟨(some 61), .move 13, some (57, true)⟩⟩, (.int .i64)), (⟨12, [11, 7, 6, 4, 5, 3, 0, 2, 1], false, ⟨(some 62), .bin .sub 61 (.const (.int .i64 1)), some (57, true)⟩⟩, (.int .i64)), (⟨13, [10, 12, 7, 6, 4, 5, 3, 0, 2, 1, 11], false, ⟨(some 63), .idxSlice 33 60 62, some (57, true)⟩⟩, .ptr), (⟨14, [13, 7, 10, 12, 6, 4, 5, 3, 0, 2, 1, 11], false, ⟨(some 64), .fieldAddr 0 63, some (57, true)⟩⟩, .ptr), (⟨15, [14, 7, 13, 10, 12, 6, 4, 5, 3, 0, 2, 1, 11], false, ⟨(some 65), .load false 1 64, some (57, true)⟩⟩, (.int .i64)), (⟨16, [9, 15, 7, 8, 6, 4, 5, 3, 0, 2, 1, 14, 13, 10, 12, 11], false, ⟨(some 66), .bin .leq 59 65, some (57, true)⟩⟩, .bool), (⟨17, [7, 16, 4, 6, 5, 3, 0, 2, 1, 9, 15, 8, 14, 13, 10, 12, 11], false, ⟨(some 67), .pick 57 66 (.const (.bool false)), some (54, false)⟩⟩, .bool), (⟨18, [4, 17, 3, 0, 2, 1, 7, 16, 6, 5, 9, 15, 8, 14, 13, 10, 12, 11], false, ⟨(some 68), .pick 54 (.const (.bool true)) 67, none⟩⟩, .bool)]) <|
 .cond 68 (.exit 0) (.skip)) <|
 .reg [rg 69 (.load false 1 9) .any, rg 70 (.fieldAddr 2 11) .ptr, rg 71 (.load false 1 70) .i, rg 72 (.fieldAddr 3 11) .ptr, rg 73 (.load true 32 72) .any, rg 74 (.build [(.int .i64 0), (.int .u8 0), (.int .u8 0), (.int .u8 0), (.int .u8 0), (.int .u8 0), (.int .u8 0), (.int .u8 0), (.int .u8 0), (.int .u8 0), (.int .u8 0), (.int .u8 0), (.int .u8 0), (.int .u8 0), (.int .u8 0), (.int .u8 0), (.int .u8 0), (.int .u8 0), (.int .u8 0), (.int .u8 0), (.int .u8 0), (.int .u8 0), (.int .u8 0), (.int .u8 0), (.int .u8 0), (.int .u8 0), (.int .u8 0), (.int .u8 0), (.int .u8 0), (.int .u8 0), (.int .u8 0), (.int .u8 0), (.int .u8 0)] [(0, 1, 71), (1, 32, 73)]) .any, rg 75 (.buildSlice 1 33 [(.int .i64 0), (.int .u8 0), (.int .u8 0), (.int .u8 0), (.int .u8 0), (.int .u8 0), (.int .u8 0), (.int .u8 0), (.int .u8 0), (.int .u8 0), (.int .u8 0), (.int .u8 0), (.int .u8 0), (.int .u8 0), (.int .u8 0), (.int .u8 0), (.int .u8 0), (.int .u8 0), (.int .u8 0), (.int .u8 0), (.int .u8 0), (.int .u8 0), (.int .u8 0), (.int .u8 0), (.int .u8 0), (.int .u8 0), (.int .u8 0), (.int .u8 0), (.int .u8 0), (.int .u8 0), (.int .u8 0), (.int .u8 0), (.int .u8 0)] [(0, 33, 74)]) .any, rg 76 (.append 40 33 69 75) .any, rn (.store 1 9 76) .any])))) <|
 .seq (.reg [rg 100 (.load true 4 8) .any, rn (.store 4 4 100) .any, rg 5 (.move (.const (.int .i64 0))) .i]) <|
 .ret
def f_scan_Read_B58 (n : Nat) (h : Heap) (h0 : Heap) (h7 : Heap) (h16 : Heap) (y22 : Int) (v23 : (Heap × Nat)) : Option (Bool × (Heap × Nat)) :=
  bif Nat.beq v23.2 0 then
    ((ldT .ptr v23.1 (some (nwA h))).bind fun x24 =>
    (ldA 5 v23.1 (some (nwA h0))).bind fun cs25 =>
    (f_scan_stands n x24 (.agg ⟨cs25⟩) y22 v23.1).bind fun p26 =>
    bnd ((Heap.new p26.2 (.cells [(.int .i64 0), (.int .u64 0), (.int .i64 0), (.int .u8 0), (.int .u8 0), (.int .u8 0), (.int .u8 0), (.int .u8 0), (.int .u8 0), (.int .u8 0), (.int .u8 0), (.int .u8 0), (.int .u8 0), (.int .u8 0), (.int .u8 0), (.int .u8 0), (.int .u8 0), (.int .u8 0), (.int .u8 0), (.int .u8 0), (.int .u8 0), (.int .u8 0), (.int .u8 0), (.int .u8 0), (.int .u8 0), (.int .u8 0), (.int .u8 0), (.int .u8 0), (.int .u8 0), (.int .u8 0), (.int .u8 0), (.int .u8 0), (.int .u8 0), (.int .u8 0), (.int .u8 0), (.int .i64 0)] false 0))) fun h27 =>
    (stB 36 p26.1.1 h27 (some (nwA p26.2))).bind fun h28 =>
    bif (!p26.1.2.1) then
      (some (false, (h28, 1)))
    else
      ((ldT (.int .i64) h28 (some (fa (nwA p26.2) 0))).bind fun x29 =>
      bif (decide (x29 = 2)) then
        ((ldT (.int .i64) h28 (some (fa (nwA p26.2) 35))).bind fun x30 =>
        (ldT .any h28 (some (nwA h16))).bind fun x31 =>
        (lenB x31).bind fun n32 =>
        bif (!decide (x30 = (n32 : Int))) then
          (some (false, (h28, 1)))
        else
          ((ldT .any h28 (some (fa (nwA h7) 3))).bind fun x33 =>
          (ldT .any h28 (some (nwA h16))).bind fun x34 =>
          (fillL [(.int .u64 0), (.slice none 0 0)] [(0, 1, (.int .u64 y22)), (1, 1, x34)]).bind fun cs35 =>
          (fillL [(.int .u64 0), (.slice none 0 0)] [(0, 2, (.agg ⟨cs35⟩))]).bind fun cs36 =>
          bnd ((Heap.new h28 (.cells cs36 false 2))) fun h37 =>
          (appendK h37 32 2 x33 (.slice (some ⟨Heap.next h28, 0, some 0⟩) 1 1)).bind fun p38 =>
          (stB 1 p38.1 p38.2 (some (fa (nwA h7) 3))).bind fun h39 =>
          (stB 1 (.int .u64 (IntKind.u64.wrap (y22 + 1))) h39 (some (fa (nwA h7) 2))).bind fun h40 =>
          (stB 1 (.slice none 0 0) h40 (some (nwA h16))).bind fun h41 =>
          some (true, (h41, 0))))
      else
        ((ldT .any h28 (some (nwA h16))).bind fun x42 =>
        (lenB x42).bind fun n43 =>
        (((ldT (.int .i64) h28 (some (fa (nwA h0) 2))).bind fun x44 =>
          bif (decide ((n43 : Int) = x44)) then
            (some ((true, ()), h28))
          else
            (bif (decide (0 < (n43 : Int))) then
              ((ldT (.int .i64) h28 (some (fa (nwA p26.2) 2))).bind fun x45 =>
              (ldT .any h28 (some (nwA h16))).bind fun x46 =>
              (ixB 33 x46 (IntKind.i64.wrap ((n43 : Int) - 1))).bind fun q47 =>
              (ldT (.int .i64) h28 (some (fa q47 0))).bind fun x48 =>
              some (((decide (x45 ≤ x48)), ()), h28))
            else
              (some ((false, ()), h28)))) : Option ((Bool × Unit) × Heap)).bind fun a49 =>
        bif a49.1.1 then
          (some (false, (a49.2, 1)))
        else
          ((ldT .any a49.2 (some (nwA h16))).bind fun x50 =>
          (ldT (.int .i64) a49.2 (some (fa (nwA p26.2) 2))).bind fun x51 =>
          (ldA 32 a49.2 (some (fa (nwA p26.2) 3))).bind fun cs52 =>
          (fillL [(.int .i64 0), (.int .u8 0), (.int .u8 0), (.int .u8 0), (.int .u8 0), (.int .u8 0), (.int .u8 0), (.int .u8 0), (.int .u8 0), (.int .u8 0), (.int .u8 0), (.int .u8 0), (.int .u8 0), (.int .u8 0), (.int .u8 0), (.int .u8 0), (.int .u8 0), (.int .u8 0), (.int .u8 0), (.int .u8 0), (.int .u8 0), (.int .u8 0), (.int .u8 0), (.int .u8 0), (.int .u8 0), (.int .u8 0), (.int .u8 0), (.int .u8 0), (.int .u8 0), (.int .u8 0), (.int .u8 0), (.int .u8 0), (.int .u8 0)] [(0, 1, (.int .i64 x51)), (1, 32, (.agg ⟨cs52⟩))]).bind fun cs53 =>
          (fillL [(.int .i64 0), (.int .u8 0), (.int .u8 0), (.int .u8 0), (.int .u8 0), (.int .u8 0), (.int .u8 0), (.int .u8 0), (.int .u8 0), (.int .u8 0), (.int .u8 0), (.int .u8 0), (.int .u8 0), (.int .u8 0), (.int .u8 0), (.int .u8 0), (.int .u8 0), (.int .u8 0), (.int .u8 0), (.int .u8 0), (.int .u8 0), (.int .u8 0), (.int .u8 0), (.int .u8 0), (.int .u8 0), (.int .u8 0), (.int .u8 0), (.int .u8 0), (.int .u8 0), (.int .u8 0), (.int .u8 0), (.int .u8 0), (.int .u8 0)] [(0, 33, (.agg ⟨cs53⟩))]).bind fun cs54 =>
          bnd ((Heap.new a49.2 (.cells cs54 false 33))) fun h55 =>
          (appendK h55 40 33 x50 (.slice (some ⟨Heap.next a49.2, 0, some 0⟩) 1 1)).bind fun p56 =>
          (stB 1 p56.1 p56.2 (some (nwA h16))).bind fun h57 =>
          some (true, (h57, 0))))))
  else none
noncomputable def sf_scan_Read (n : Nat) : Sf := sfOf [(k_scan_begin, s_scan_begin n), (k_ring_Span, s_ring_Span n), (k_scan_stands, s_scan_stands n)]
noncomputable def it_scan_Read (n : Nat) : It := itOf [(k_ring_Span_1, i_ring_Span_1 n)]
def f_scan_Read (n : Nat) (u0 : Option Addr) (u1 : Value) (h : Heap) : Option ((Value × Int × Unit) × Heap) :=
  bnd ((Heap.new h (.cells [(.pointer u0)] false 0))) fun h0 =>
  bif (cellsOf u1).all isCell then
    (bnd ((Heap.new h0 (.cells (cellsOf u1) false 0))) fun h1 =>
    bnd ((Heap.new h1 (.cells [(.int .u64 0), (.int .u64 0), (.int .u64 0), (.slice none 0 0)] false 0))) fun h2 =>
    (ldT .ptr h2 (some (nwA h))).bind fun x3 =>
    (ldA 5 h2 (some (nwA h0))).bind fun cs4 =>
    (f_scan_begin n x3 (.agg ⟨cs4⟩) h2).bind fun p5 =>
    bnd ((Heap.new p5.2 (.cells [(.int .i64 0), (.int .i64 0), (.int .i64 0), (.int .i64 0), (.int .i64 0), (.int .u64 0), (.int .u64 0)] false 0))) fun h6 =>
    (stB 7 p5.1.1 h6 (some (nwA p5.2))).bind fun h7 =>
    bif (!decide (p5.1.2.1 = 0)) then
      ((fillL [(.int .u64 0), (.int .u64 0), (.int .u64 0), (.slice none 0 0)] []).bind fun cs8 =>
      (stB 4 (.agg ⟨cs8⟩) h7 (some (nwA h1))).bind fun h9 =>
      (ldA 4 h9 (some (nwA h1))).bind fun cs10 =>
      some (((.agg ⟨cs10⟩), (p5.1.2.1, ())), h9))
    else
      ((ldT (.int .u64) h7 (some (fa (nwA p5.2) 5))).bind fun x11 =>
      (ldT (.int .u64) h7 (some (fa (nwA p5.2) 6))).bind fun x12 =>
      (ldT (.int .u64) h7 (some (fa (nwA p5.2) 5))).bind fun x13 =>
      (fillL [(.int .u64 0), (.int .u64 0), (.int .u64 0), (.slice none 0 0)] [(0, 1, (.int .u64 x11)), (1, 1, (.int .u64 x12)), (2, 1, (.int .u64 x13))]).bind fun cs14 =>
      bnd ((Heap.new h7 (.cells [(.int .u64 0), (.int .u64 0), (.int .u64 0), (.slice none 0 0)] false 0))) fun h15 =>
      (stB 4 (.agg ⟨cs14⟩) h15 (some (nwA h7))).bind fun h16 =>
      bnd ((Heap.new h16 (.cells [(.slice none 0 0)] false 0))) fun h17 =>
      (((ldT (.int .u64) h17 (some (fa (nwA p5.2) 5))).bind fun x18 =>
        (ldT (.int .u64) h17 (some (fa (nwA p5.2) 5))).bind fun x19 =>
        (ldT (.int .i64) h17 (some (fa (nwA h0) 1))).bind fun x20 =>
        (f_ring_Span n x18 (IntKind.u64.wrap (x19 + (IntKind.u64.wrap (x20)))) h17).bind fun p21 =>
        (f_ring_Span_1 (V := (Heap × Nat)) (fun v => v.1) (fun v h => (h, v.2)) (fun a v => f_scan_Read_B58 n h h0 h7 h16 a.1 v) n p21.1.1.1 p21.1.1.2.1 ((Heap.hole (Heap.hole p21.2)), 0)).bind fun v59 =>
        bif Nat.beq v59.2 0 then
          (some ((), v59.1))
        else
          (bif Nat.beq v59.2 1 then
            (some ((), v59.1))
          else
            (none))) : Option ((Unit) × Heap)).bind fun a60 =>
      (ldA 4 a60.2 (some (nwA h7))).bind fun cs61 =>
      (stB 4 (.agg ⟨cs61⟩) a60.2 (some (nwA h1))).bind fun h62 =>
      (ldA 4 h62 (some (nwA h1))).bind fun cs63 =>
      some (((.agg ⟨cs63⟩), (0, ())), h62)))
  else
    (none)
def rs_scan_Read : Rs := [(.cell true 4 4, .any), (.tmp 5, (.int .i64))]
def ps_scan_Read : List Ty := [.ptr, .any]
theorem e_scan_Read (n : Nat) (u0 : Option Addr) (u1 : Value) (h : Heap) : f_scan_Read n u0 u1 h = fB (sf_scan_Read n) (it_scan_Read n) n c2_scan_Read rs_scan_Read ps_scan_Read (u0, (u1, ())) h := by kernel_rfl
noncomputable def s_scan_Read (n : Nat) : Sf1 := mkSf ps_scan_Read rs_scan_Read fun a h => f_scan_Read n a.1 a.2.1 h
/- (*wicket/wal.Log).Image -/
def c2_wal_Log_Image : C2 := .seq (.reg [rg 5 (.box 2) .ptr, rg 6 (.move (.const (.int .u64 0))) (.int .u64), rg 7 (.move (.const (.int .i64 0))) .i]) <|
 .seq (.seq (.reg [rg 11 (.move 0) .ptr, rg 12 (.call k_wal_Log_room [11]) .i, rg 8 (.move 12) .i]) <|
 .seq (.reg [rg 13 (.move 8) .i, rg 14 (.bin .neq 13 (.const (.int .i64 0))) .bool]) <|
 .cond 14 (.seq (.reg [rg 15 (.move 8) .i, rg 6 (.move (.const (.int .u64 0))) (.int .u64), rg 7 (.move 15) .i]) <|
 .ret) (.skip)) <|
 .seq (.seq (.cutn [(53, .bool)] <|
 .regd [(⟨0, [], false, ⟨(some 16), .move 1, none⟩⟩, (.int .i64)), (⟨1, [0], false, ⟨(some 17), .bin .lss 16 (.const (.int .i64 0)), none⟩⟩, .bool), (⟨2, [1, 0], false, ⟨(some 18), .move 17, none⟩⟩, .bool), (⟨3, [2, 1, 0], false, ⟨(some 19), .move 1, some (18, false)⟩⟩, (.int .i64)), (⟨4, [2, 1, 0], false, ⟨(some 20), .move 0, some (18, false)⟩⟩, .ptr), (⟨5, [4, 2, 1, 0], false, ⟨(some 21), .nilCheck 20, some (18, false)⟩⟩, .ptr), (⟨6, [5, 2, 4, 1, 0], false, ⟨(some 22), .fieldAddr 1 21, some (18, false)⟩⟩, .ptr), (⟨7, [6, 2, 5, 4, 1, 0], false, ⟨(some 23), .fieldAddr 0 22, some (18, false)⟩⟩, .ptr), (⟨8, [7, 2, 6, 5, 4, 1, 0], false, ⟨(some 24), .load false 1 23, some (18, false)⟩⟩, (.int .i64)), (⟨9, [3, 8, 2, 1, 0, 7, 6, 5, 4], false, ⟨(some 25), .bin .geq 19 24, some (18, false)⟩⟩, .bool), (⟨10, [2, 9, 1, 0, 3, 8, 7, 6, 5, 4], false, ⟨(some 26), .pick 18 (.const (.bool true)) 25, none⟩⟩, .bool), (⟨11, [10, 2, 9, 1, 0, 3, 8, 7, 6, 5, 4], false, ⟨(some 27), .move 26, none⟩⟩, .bool), (⟨12, [11, 10, 2, 9, 1, 0, 3, 8, 7, 6, 5, 4], false, ⟨(some 28), .move 0, some (27, false)⟩⟩, .ptr), (⟨13, [12, 11, 10, 2, 9, 1, 0, 3, 8, 7, 6, 5, 4], false, ⟨(some 29), .nilCheck 28, some (27, false)⟩⟩, .ptr), (⟨14, [13, 11, 12, 10, 2, 9, 1, 0, 3, 8, 7, 6, 5, 4], false, ⟨(some 30), .fieldAddr 10 29, some (27, false)⟩⟩, .ptr), (⟨15, [14, 11, 13, 12, 10, 2, 9, 1, 0, 3, 8, 7, 6, 5, 4], false, ⟨(some 31), .load false 1 30, some (27, false)⟩⟩, (.int .i64)), (⟨16, [15, 11, 14, 13, 12, 10, 2, 9, 1, 0, 3, 8, 7, 6, 5, 4], false, ⟨(some 32), .bin .gtr 31 (.const (.int .i64 0)), some (27, false)⟩⟩, .bool), (⟨17, [16, 11, 15, 14, 13, 12, 10, 2, 9, 1, 0, 3, 8, 7, 6, 5, 4], false, ⟨(some 33), .move 32, some (27, false)⟩⟩, .bool), (⟨18, [17, 16, 11, 15, 14, 13, 12, 10, 2, 9, 1, 0, 3, 8, 7, 6, 5, 4], false, ⟨(some 34), .move 1, some (33, true)⟩⟩, (.int .i64)), (⟨19, [17, 16, 11, 15, 14, 13, 12, 10, 2, 9, 1, 0, 3, 8, 7, 6, 5, 4], false, ⟨(some 35), .move 0, some (33, true)⟩⟩, .ptr), (⟨20, [19, 17, 16, 11, 15, 14, 13, 12, 10, 2, 9, 1, 0, 3, 8, 7, 6, 5, 4], false, ⟨(some 36), .nilCheck 35, some (33, true)⟩⟩, .ptr), (⟨21, [20, 17, 19, 16, 11, 15, 14, 13, 12, 10, 2, 9, 1, 0, 3, 8, 7, 6, 5, 4], false, ⟨(some 37), .fieldAddr 11 36, some (33, true)⟩⟩, .ptr), (⟨22, [21, 17, 20, 19, 16, 11, 15, 14, 13, 12, 10, 2, 9, 1, 0, 3, 8, 7, 6, 5, 4], false, ⟨(some 38), .load false 1 37, some (33, true)⟩⟩, (.int .i64)), (⟨23, [18, 22, 17, 16, 11, 15, 14, 13, 12, 10, 2, 9, 1, 0, 3, 8, 7, 6, 5, 4, 21, 20, 19], false, ⟨(some 39), .bin .leq 34 38, some (33, true)⟩⟩, .bool), (⟨24, [17, 23, 11, 16, 15, 14, 13, 12, 10, 2, 9, 1, 0, 3, 8, 7, 6, 5, 4, 18, 22, 21, 20, 19], false, ⟨(some 40), .pick 33 39 (.const (.bool false)), some (27, false)⟩⟩, .bool), (⟨25, [11, 24, 10, 2, 9, 1, 0, 3, 8, 7, 6, 5, 4, 17, 23, 16, 15, 14, 13, 12, 18, 22, 21, 20, 19], false, ⟨(some 41), .pick 27 (.const (.bool true)) 40, none⟩⟩, .bool), (⟨26, [25, 17, 11, 24, 10, 2, 9, 1, 0, 3, 8, 7, 6, 5, 4, 23, 16, 15, 14, 13, 12, 18, 22, 21, 20, 19], false, ⟨(some 42), .move 41, none⟩⟩, .bool), (⟨27, [26, 25, 17, 11, 24, 10, 2, 9, 1, 0, 3, 8, 7, 6, 5, 4, 23, 16, 15, 14, 13, 12, 18, 22, 21, 20, 19], false, ⟨(some 43), .move 0, some (42, false)⟩⟩, .ptr), (⟨28, [27, 26, 25, 17, 11, 24, 10, 2, 9, 1, 0, 3, 8, 7, 6, 5, 4, 23, 16, 15, 14, 13, 12, 18, 22, 21, 20, 19], false, ⟨(some 44), .nilCheck 43, some (42, false)⟩⟩, .ptr), (⟨29, [28, 26, 27, 25, 17, 11, 24, 10, 2, 9, 1, 0, 3, 8, 7, 6, 5, 4, 23, 16, 15, 14, 13, 12, 18, 22, 21, 20, 19], false, ⟨(some 45), .fieldAddr 10 44, some (42, false)⟩⟩, .ptr), (⟨30, [29, 26, 28, 27, 25, 17, 11, 24, 10, 2, 9, 1, 0, 3, 8, 7, 6, 5, 4, 23, 16, 15, 14, 13, 12, 18, 22, 21, 20, 19], false, ⟨(some 46), .load false 1 45, some (42, false)⟩⟩, (.int .i64)), (⟨31, [26, 25, 17, 11, 24, 10, 2, 9, 1, 0, 3, 8, 7, 6, 5, 4, 23, 16, 15, 14, 13, 12, 18, 22, 21, 20, 19], false, ⟨(some 47), .move 0, some (42, false)⟩⟩, .ptr), (⟨32, [31, 26, 25, 17, 11, 24, 10, 2, 9, 1, 0, 3, 8, 7, 6, 5, 4, 23, 16, 15, 14, 13, 12, 18, 22, 21, 20, 19], false, ⟨(some 48), .nilCheck 47, some (42, false)⟩⟩, .ptr), (⟨33, [32, 26, 31, 25, 17, 11, 24, 10, 2, 9, 1, 0, 3, 8, 7, 6, 5, 4, 23, 16, 15, 14, 13, 12, 18, 22, 21, 20, 19], false, ⟨(some 49), .fieldAddr 1 48, some (42, false)⟩⟩, .ptr), (⟨34, [33, 26, 32, 31, 25, 17, 11, 24, 10, 2, 9, 1, 0, 3, 8, 7, 6, 5, 4, 23, 16, 15, 14, 13, 12, 18, 22, 21, 20, 19], false, ⟨(some 50), .fieldAddr 2 49, some (42, false)⟩⟩, .ptr), (⟨35, [34, 26, 33, 32, 31, 25, 17, 11, 24, 10, 2, 9, 1, 0, 3, 8, 7, 6, 5, 4, 23, 16, 15, 14, 13, 12, 18, 22, 21, 20, 19], false, ⟨(some 51), .load false 1 50, some (42, false)⟩⟩, (.int .i64)), (⟨36, [30, 35, 26, 29, 28, 27, 25, 17, 11, 24, 10, 2, 9, 1, 0, 3, 8, 7, 6, 5, 4, 23, 16, 15, 14, 13, 12, 18, 22, 21, 20, 19, 34, 33, 32, 31], false, ⟨(some 52), .bin .eql 46 51, some (42, false)⟩⟩, .bool), (⟨37, [26, 36, 25, 17, 11, 24, 10, 2, 9, 1, 0, 3, 8, 7, 6, 5, 4, 23, 16, 15, 14, 13, 12, 18, 22, 21, 20, 19, 30, 35, 29, 28, 27, 34, 33, 32, 31], false, ⟨(some 53), .pick 42 (.const (.bool true)) 52, none⟩⟩, .bool)]) <|
 .cond 53 (.seq (.reg [rg 6 (.move (.const (.int .u64 0))) (.int .u64), rg 7 (.move (.const (.int .i64 60))) .i]) <|
 .ret) (.skip)) <|
 .seq (.reg [rg 55 (.move 0) .ptr, rg 56 (.move 1) .i, rg 57 (.load true 32 5) .any, rg 58 (.build [(.int .i64 0), (.int .u64 0), (.int .i64 0), (.int .u8 0), (.int .u8 0), (.int .u8 0), (.int .u8 0), (.int .u8 0), (.int .u8 0), (.int .u8 0), (.int .u8 0), (.int .u8 0), (.int .u8 0), (.int .u8 0), (.int .u8 0), (.int .u8 0), (.int .u8 0), (.int .u8 0), (.int .u8 0), (.int .u8 0), (.int .u8 0), (.int .u8 0), (.int .u8 0), (.int .u8 0), (.int .u8 0), (.int .u8 0), (.int .u8 0), (.int .u8 0), (.int .u8 0), (.int .u8 0), (.int .u8 0), (.int .u8 0), (.int .u8 0), (.int .u8 0), (.int .u8 0), (.int .i64 0)] [(0, 1, (.const (.int .i64 1))), (2, 1, 56), (3, 32, 57)]) .any, rg 59 (.call k_wal_Log_write [55, 58]) .any, rg 54 (.move 59) .any, rg 60 (.extract 54 0) (.int .u64), rg 61 (.extract 54 1) .i, rg 9 (.move 60) (.int .u64), rg 10 (.move 61) .i]) <|
 .seq (.cutn [] <|
 .seq (.reg [rg 62 (.move 10) .i, rg 63 (.bin .eql 62 (.const (.int .i64 0))) .bool]) <|
 .cond 63 (.reg [rg 64 (.move 0) .ptr, rg 65 (.move 0) .ptr, rg 66 (.move 0) .ptr, rg 67 (.nilCheck 66) .ptr, rg 68 (.fieldAddr 10 67) .ptr, rg 69 (.load false 1 68) .i, rg 70 (.bin .add 69 (.const (.int .i64 1))) .i, rg 71 (.move 1) .i, rg 72 (.nilCheck 64) .ptr, rg 73 (.fieldAddr 10 72) .ptr, rn (.store 1 73 70) .any, rg 74 (.nilCheck 65) .ptr, rg 75 (.fieldAddr 11 74) .ptr, rn (.store 1 75 71) .any]) (.skip)) <|
 .seq (.reg [rg 76 (.move 9) (.int .u64), rg 77 (.move 10) .i, rg 6 (.move 76) (.int .u64), rg 7 (.move 77) .i]) <|
 .ret
noncomputable def sf_wal_Log_Image (n : Nat) : Sf := sfOf [(k_wal_Log_room, s_wal_Log_room n), (k_wal_Log_write, s_wal_Log_write n)]
noncomputable def it_wal_Log_Image (n : Nat) : It := itOf []
def f_wal_Log_Image (n : Nat) (u0 : Option Addr) (u1 : Int) (u2 : Value) (h : Heap) : Option ((Int × Int × Unit) × Heap) :=
  bif (cellsOf u2).all isCell then
    (bnd ((Heap.new h (.cells (cellsOf u2) false 0))) fun h0 =>
    (f_wal_Log_room n u0 h0).bind fun p1 =>
    bif (!decide (p1.1.1 = 0)) then
      (some ((0, (p1.1.1, ())), p1.2))
    else
      (((bif (decide (u1 < 0)) then
          (some ((true, ()), p1.2))
        else
          ((u0).bind fun q2 =>
          (ldT (.int .i64) p1.2 (some (fa (fa q2 1) 0))).bind fun x3 =>
          bif (decide (x3 ≤ u1)) then
            (some ((true, ()), p1.2))
          else
            ((u0).bind fun q4 =>
            (ldT (.int .i64) p1.2 (some (fa q4 10))).bind fun x5 =>
            bif (decide (0 < x5)) then
              ((u0).bind fun q6 =>
              (ldT (.int .i64) p1.2 (some (fa q6 11))).bind fun x7 =>
              bif (decide (u1 ≤ x7)) then
                (some ((true, ()), p1.2))
              else
                ((u0).bind fun q8 =>
                (ldT (.int .i64) p1.2 (some (fa q8 10))).bind fun x9 =>
                (u0).bind fun q10 =>
                (ldT (.int .i64) p1.2 (some (fa (fa q10 1) 2))).bind fun x11 =>
                some (((decide (x9 = x11)), ()), p1.2)))
            else
              ((u0).bind fun q12 =>
              (ldT (.int .i64) p1.2 (some (fa q12 10))).bind fun x13 =>
              (u0).bind fun q14 =>
              (ldT (.int .i64) p1.2 (some (fa (fa q14 1) 2))).bind fun x15 =>
              some (((decide (x13 = x15)), ()), p1.2))))) : Option ((Bool × Unit) × Heap)).bind fun a16 =>
      bif a16.1.1 then
        (some ((0, (60, ())), a16.2))
      else
        ((ldA 32 a16.2 (some (nwA h))).bind fun cs17 =>
        (fillL [(.int .i64 0), (.int .u64 0), (.int .i64 0), (.int .u8 0), (.int .u8 0), (.int .u8 0), (.int .u8 0), (.int .u8 0), (.int .u8 0), (.int .u8 0), (.int .u8 0), (.int .u8 0), (.int .u8 0), (.int .u8 0), (.int .u8 0), (.int .u8 0), (.int .u8 0), (.int .u8 0), (.int .u8 0), (.int .u8 0), (.int .u8 0), (.int .u8 0), (.int .u8 0), (.int .u8 0), (.int .u8 0), (.int .u8 0), (.int .u8 0), (.int .u8 0), (.int .u8 0), (.int .u8 0), (.int .u8 0), (.int .u8 0), (.int .u8 0), (.int .u8 0), (.int .u8 0), (.int .i64 0)] [(0, 1, (.int .i64 1)), (2, 1, (.int .i64 u1)), (3, 32, (.agg ⟨cs17⟩))]).bind fun cs18 =>
        (f_wal_Log_write n u0 (.agg ⟨cs18⟩) a16.2).bind fun p19 =>
        ((bif (decide (p19.1.2.1 = 0)) then
            ((u0).bind fun q20 =>
            (ldT (.int .i64) p19.2 (some (fa q20 10))).bind fun x21 =>
            (u0).bind fun q22 =>
            (stB 1 (.int .i64 (IntKind.i64.wrap (x21 + 1))) p19.2 (some (fa q22 10))).bind fun h23 =>
            (u0).bind fun q24 =>
            (stB 1 (.int .i64 u1) h23 (some (fa q24 11))).bind fun h25 =>
            some ((), h25))
          else
            (some ((), p19.2))) : Option ((Unit) × Heap)).bind fun a26 =>
        some ((p19.1.1, (p19.1.2.1, ())), a26.2))))
  else
    (none)
def rs_wal_Log_Image : Rs := [(.tmp 6, (.int .u64)), (.tmp 7, (.int .i64))]
def ps_wal_Log_Image : List Ty := [.ptr, (.int .i64), .any]
theorem e_wal_Log_Image (n : Nat) (u0 : Option Addr) (u1 : Int) (u2 : Value) (h : Heap) : f_wal_Log_Image n u0 u1 u2 h = fB (sf_wal_Log_Image n) (it_wal_Log_Image n) n c2_wal_Log_Image rs_wal_Log_Image ps_wal_Log_Image (u0, (u1, (u2, ()))) h := by kernel_rfl
noncomputable def s_wal_Log_Image (n : Nat) : Sf1 := mkSf ps_wal_Log_Image rs_wal_Log_Image fun a h => f_wal_Log_Image n a.1 a.2.1 a.2.2.1 h
/- (*wicket/wal.Log).Commit -/
def c2_wal_Log_Commit : C2 := .seq (.reg [rg 2 (.move (.const (.int .u64 0))) (.int .u64), rg 3 (.move (.const (.int .i64 0))) .i]) <|
 .seq (.seq (.reg [rg 7 (.move 0) .ptr, rg 8 (.call k_wal_Log_room [7]) .i, rg 4 (.move 8) .i]) <|
 .seq (.reg [rg 9 (.move 4) .i, rg 10 (.bin .neq 9 (.const (.int .i64 0))) .bool]) <|
 .cond 10 (.seq (.reg [rg 11 (.move 4) .i, rg 2 (.move (.const (.int .u64 0))) (.int .u64), rg 3 (.move 11) .i]) <|
 .ret) (.skip)) <|
 .seq (.reg [rg 13 (.move 0) .ptr, rg 14 (.move 0) .ptr, rg 15 (.nilCheck 14) .ptr, rg 16 (.fieldAddr 10 15) .ptr, rg 17 (.load false 1 16) .i, rg 18 (.build [(.int .i64 0), (.int .u64 0), (.int .i64 0), (.int .u8 0), (.int .u8 0), (.int .u8 0), (.int .u8 0), (.int .u8 0), (.int .u8 0), (.int .u8 0), (.int .u8 0), (.int .u8 0), (.int .u8 0), (.int .u8 0), (.int .u8 0), (.int .u8 0), (.int .u8 0), (.int .u8 0), (.int .u8 0), (.int .u8 0), (.int .u8 0), (.int .u8 0), (.int .u8 0), (.int .u8 0), (.int .u8 0), (.int .u8 0), (.int .u8 0), (.int .u8 0), (.int .u8 0), (.int .u8 0), (.int .u8 0), (.int .u8 0), (.int .u8 0), (.int .u8 0), (.int .u8 0), (.int .i64 0)] [(0, 1, (.const (.int .i64 2))), (35, 1, 17)]) .any, rg 19 (.call k_wal_Log_write [13, 18]) .any, rg 12 (.move 19) .any, rg 20 (.extract 12 0) (.int .u64), rg 21 (.extract 12 1) .i, rg 5 (.move 20) (.int .u64), rg 6 (.move 21) .i]) <|
 .seq (.cutn [] <|
 .seq (.reg [rg 22 (.move 6) .i, rg 23 (.bin .eql 22 (.const (.int .i64 0))) .bool]) <|
 .cond 23 (.reg [rg 24 (.move 0) .ptr, rg 25 (.nilCheck 24) .ptr, rg 26 (.fieldAddr 10 25) .ptr, rn (.store 1 26 (.const (.int .i64 0))) .any]) (.skip)) <|
 .seq (.reg [rg 27 (.move 5) (.int .u64), rg 28 (.move 6) .i, rg 2 (.move 27) (.int .u64), rg 3 (.move 28) .i]) <|
 .ret
noncomputable def sf_wal_Log_Commit (n : Nat) : Sf := sfOf [(k_wal_Log_room, s_wal_Log_room n), (k_wal_Log_write, s_wal_Log_write n)]
noncomputable def it_wal_Log_Commit (n : Nat) : It := itOf []
def f_wal_Log_Commit (n : Nat) (u0 : Option Addr) (h : Heap) : Option ((Int × Int × Unit) × Heap) :=
  (f_wal_Log_room n u0 h).bind fun p0 =>
  bif (!decide (p0.1.1 = 0)) then
    (some ((0, (p0.1.1, ())), p0.2))
  else
    ((u0).bind fun q1 =>
    (ldT (.int .i64) p0.2 (some (fa q1 10))).bind fun x2 =>
    (fillL [(.int .i64 0), (.int .u64 0), (.int .i64 0), (.int .u8 0), (.int .u8 0), (.int .u8 0), (.int .u8 0), (.int .u8 0), (.int .u8 0), (.int .u8 0), (.int .u8 0), (.int .u8 0), (.int .u8 0), (.int .u8 0), (.int .u8 0), (.int .u8 0), (.int .u8 0), (.int .u8 0), (.int .u8 0), (.int .u8 0), (.int .u8 0), (.int .u8 0), (.int .u8 0), (.int .u8 0), (.int .u8 0), (.int .u8 0), (.int .u8 0), (.int .u8 0), (.int .u8 0), (.int .u8 0), (.int .u8 0), (.int .u8 0), (.int .u8 0), (.int .u8 0), (.int .u8 0), (.int .i64 0)] [(0, 1, (.int .i64 2)), (35, 1, (.int .i64 x2))]).bind fun cs3 =>
    (f_wal_Log_write n u0 (.agg ⟨cs3⟩) p0.2).bind fun p4 =>
    ((bif (decide (p4.1.2.1 = 0)) then
        ((u0).bind fun q5 =>
        (stB 1 (.int .i64 0) p4.2 (some (fa q5 10))).bind fun h6 =>
        some ((), h6))
      else
        (some ((), p4.2))) : Option ((Unit) × Heap)).bind fun a7 =>
    some ((p4.1.1, (p4.1.2.1, ())), a7.2))
def rs_wal_Log_Commit : Rs := [(.tmp 2, (.int .u64)), (.tmp 3, (.int .i64))]
def ps_wal_Log_Commit : List Ty := [.ptr]
theorem e_wal_Log_Commit (n : Nat) (u0 : Option Addr) (h : Heap) : f_wal_Log_Commit n u0 h = fB (sf_wal_Log_Commit n) (it_wal_Log_Commit n) n c2_wal_Log_Commit rs_wal_Log_Commit ps_wal_Log_Commit (u0, ()) h := by kernel_rfl
noncomputable def s_wal_Log_Commit (n : Nat) : Sf1 := mkSf ps_wal_Log_Commit rs_wal_Log_Commit fun a h => f_wal_Log_Commit n a.1 h
/- wicket/wicketlaw10.told -/
def c2_w10_told : C2 := .seq (.reg [rg 1 (.box 0) .ptr, rg 2 (.move (.const (.pointer none))) .ptr, rg 3 (.move (.const (.pointer none))) .ptr, rg 4 (.alloc [(.int .u64 0), (.int .u64 0), (.int .u64 0), (.slice none 0 0)]) .ptr, rg 5 (.move (.const (.bool false))) .bool]) <|
 .seq (.reg [rg 21 (.fieldAddr 0 1) .ptr, rg 22 (.load true 5 21) .any, rg 23 (.call k_w10_config [22]) .any, rg 6 (.alloc (List.replicate 5 (.int .i64 0))) .ptr, rn (.store 5 6 23) .any]) <|
 .seq (.reg [rg 24 (.build [(.int .u64 0), (.int .u64 0), (.int .u64 0), (.slice none 0 0)] [(1, 1, (.const (.int .u64 1)))]) .any, rg 7 (.alloc [(.int .u64 0), (.int .u64 0), (.int .u64 0), (.slice none 0 0)]) .ptr, rn (.store 4 7 24) .any]) <|
 .seq (.reg [rg 26 (.load true 5 6) .any, rg 27 (.call k_home_New [26]) .any, rg 25 (.move 27) .any, rg 28 (.extract 25 0) .ptr, rg 29 (.extract 25 1) .i, rg 8 (.move 28) .ptr, rg 9 (.move 29) .i]) <|
 .seq (.seq (.cutn [(36, .bool)] <|
 .reg [rg 30 (.move 9) .i, rg 31 (.call k_w10_num [30]) .i, rg 32 (.bin .neq 31 (.const (.int .i64 0))) .bool, rg 33 (.move 32) .bool, rq 34 (.move 8) 33 .ptr, rq 35 (.eqv false .ptr 34 (.const (.pointer none))) 33 .bool, rg 36 (.pick 33 (.const (.bool true)) 35) .bool]) <|
 .cond 36 (.seq (.regd [(⟨0, [], false, ⟨(some 37), .load true 4 7, none⟩⟩, .any), (⟨1, [], false, ⟨(some 2), .move (.const (.pointer none)), none⟩⟩, .ptr), (⟨2, [1], false, ⟨(some 3), .move (.const (.pointer none)), none⟩⟩, .ptr), (⟨3, [0, 2, 1], true, ⟨none, .store 4 4 37, none⟩⟩, .any), (⟨4, [3, 0, 1, 2], false, ⟨(some 5), .move (.const (.bool false)), none⟩⟩, .bool)]) <|
 .ret) (.skip)) <|
 .seq (.reg [rg 39 (.move 8) .ptr, rg 40 (.load true 5 6) .any, rg 41 (.call k_wal_Open [39, 40, (.const (.int .u64 0)), (.const (.int .u64 1))]) .any, rg 38 (.move 41) .any, rg 42 (.extract 38 0) .ptr, rg 43 (.extract 38 1) .i, rg 10 (.move 42) .ptr, rg 11 (.move 43) .i]) <|
 .seq (.seq (.cutn [(50, .bool)] <|
 .reg [rg 44 (.move 11) .i, rg 45 (.call k_w10_num [44]) .i, rg 46 (.bin .neq 45 (.const (.int .i64 0))) .bool, rg 47 (.move 46) .bool, rq 48 (.move 10) 47 .ptr, rq 49 (.eqv false .ptr 48 (.const (.pointer none))) 47 .bool, rg 50 (.pick 47 (.const (.bool true)) 49) .bool]) <|
 .cond 50 (.seq (.regd [(⟨0, [], false, ⟨(some 51), .load true 4 7, none⟩⟩, .any), (⟨1, [], false, ⟨(some 2), .move (.const (.pointer none)), none⟩⟩, .ptr), (⟨2, [1], false, ⟨(some 3), .move (.const (.pointer none)), none⟩⟩, .ptr), (⟨3, [0, 2, 1], true, ⟨none, .store 4 4 51, none⟩⟩, .any), (⟨4, [3, 0, 1, 2], false, ⟨(some 5), .move (.const (.bool false)), none⟩⟩, .bool)]) <|
 .ret) (.skip)) <|
 .seq (.cut [] <|
 .seq (.reg [rg 12 (.move (.const (.int .i64 0))) .i]) <|
 .block 0 <|
 .loop [(12, .i)] <|
 .seq (.seq (.reg [rg 52 (.move 12) .i, rg 53 (.fieldAddr 5 1) .ptr, rg 54 (.load false 1 53) .any, rg 55 (.lenS 54) .i, rg 56 (.bin .lss 52 55) .bool]) <|
 .cond 56 (.skip) (.exit 0)) <|
 .seq (.cut [] <|
 .block 1 <|
 .seq (.reg [rg 13 (.move (.const (.slice none 0 0))) .any]) <|
 .seq (.cutn [(13, .any)] <|
 .seq (.reg [rg 14 (.move (.const (.int .i64 0))) .i]) <|
 .block 2 <|
 .loop [(13, .any), (14, .i)] <|
 .seq (.seq (.cutn [(69, .bool)] <|
 .reg [rg 59 (.move 14) .i, rg 60 (.fieldAddr 0 6) .ptr, rg 61 (.load false 1 60) .i, rg 62 (.bin .lss 59 61) .bool, rg 63 (.move 62) .bool, rp 64 (.move 13) 63 .any, rp 65 (.lenS 64) 63 .i, rp 66 (.fieldAddr 2 6) 63 .ptr, rp 67 (.load false 1 66) 63 .i, rp 68 (.bin .lss 65 67) 63 .bool, rg 69 (.pick 63 68 (.const (.bool false))) .bool]) <|
 .cond 69 (.skip) (.exit 2)) <|
 .seq (.cutn [(13, .any)] <|
 .block 3 <|
 .seq (.reg [rg 72 (.fieldAddr 5 1) .ptr, rg 73 (.load false 1 72) .any, rg 74 (.move 12) .i, rg 75 (.idxSlice 1 73 74) .ptr, rg 76 (.load false 1 75) (.int .u16), rg 77 (.move 14) .i, rg 78 (.bin .shr 76 77) (.int .u16), rg 79 (.bin .and 78 (.const (.int .u16 1))) (.int .u16), rg 80 (.bin .eql 79 (.const (.int .u16 1))) .bool]) <|
 .cond 80 (.reg [rg 81 (.move 13) .any, rg 82 (.move 14) .i, rg 83 (.fieldAddr 6 1) .ptr, rg 84 (.load false 1 83) .u, rg 85 (.move 12) .i, rg 86 (.conv .u8 85) .u, rg 87 (.bin .add 84 86) .u, rg 88 (.move 14) .i, rg 89 (.conv .u8 88) .u, rg 90 (.build (List.replicate 32 (.int .u8 0)) [(0, 1, 87), (1, 1, 89), (2, 1, (.const (.int .u8 3)))]) .any, rg 91 (.build [(.int .i64 0), (.int .u8 0), (.int .u8 0), (.int .u8 0), (.int .u8 0), (.int .u8 0), (.int .u8 0), (.int .u8 0), (.int .u8 0), (.int .u8 0), (.int .u8 0), (.int .u8 0), (.int .u8 0), (.int .u8 0), (.int .u8 0), (.int .u8 0), (.int .u8 0), (.int .u8 0), (.int .u8 0), (.int .u8 0), (.int .u8 0), (.int .u8 0), (.int .u8 0), (.int .u8 0), (.int .u8 0), (.int .u8 0), (.int .u8 0), (.int .u8 0), (.int .u8 0), (.int .u8 0), (.int .u8 0), (.int .u8 0), (.int .u8 0)] [(0, 1, 82), (1, 32, 90)]) .any, rg 92 (.buildSlice 1 33 [(.int .i64 0), (.int .u8 0), (.int .u8 0), (.int .u8 0), (.int .u8 0), (.int .u8 0), (.int .u8 0), (.int .u8 0), (.int .u8 0), (.int .u8 0), (.int .u8 0), (.int .u8 0), (.int .u8 0), (.int .u8 0), (.int .u8 0), (.int .u8 0), (.int .u8 0), (.int .u8 0), (.int .u8 0), (.int .u8 0), (.int .u8 0), (.int .u8 0), (.int .u8 0), (.int .u8 0), (.int .u8 0), (.int .u8 0), (.int .u8 0), (.int .u8 0), (.int .u8 0), (.int .u8 0), (.int .u8 0), (.int .u8 0), (.int .u8 0)] [(0, 33, 91)]) .any, rg 93 (.append 40 33 81 92) .any, rg 13 (.move 93) .any]) (.skip)) <|
 .reg [rg 70 (.move 14) .i, rg 71 (.bin .add 70 (.const (.int .i64 1))) .i, rg 14 (.move 71) .i]) <|
 .seq (.seq (.regd [(⟨0, [], false, ⟨(some 94), .move 10, none⟩⟩, .ptr), (⟨2, [], false, ⟨(some 96), .move 13, none⟩⟩, .any), (⟨3, [2], false, ⟨(some 97), .lenS 96, none⟩⟩, (.int .i64)), (⟨6, [], false, ⟨(some 100), .fieldAddr 1 6, none⟩⟩, .ptr), (⟨7, [6], false, ⟨(some 101), .load false 1 100, none⟩⟩, (.int .i64)), (⟨1, [0], true, ⟨(some 95), .call k_wal_Log_Used [94], none⟩⟩, (.int .i64)), (⟨4, [1, 3, 0, 2], false, ⟨(some 98), .bin .add 95 97, none⟩⟩, (.int .i64)), (⟨5, [4, 1, 3, 0, 2], false, ⟨(some 99), .bin .add 98 (.const (.int .i64 1)), none⟩⟩, (.int .i64)), (⟨8, [5, 7, 4, 1, 3, 0, 2, 6], false, ⟨(some 102), .bin .gtr 99 101, none⟩⟩, .bool)]) <|
 .cond 102 (.exit 0) (.skip)) <|
 .seq (.cut [] <|
 .seq (.reg [rg 103 (.move 13) .any, rg 104 (.lenS 103) .i, rg 105 (.move (.const (.int .i64 0))) .i]) <|
 .block 4 <|
 .loop [(105, .i)] <|
 .seq (.reg [rg 106 (.bin .lss 105 104) .any]) <|
 .seq (.cond 106 (.skip) (.exit 4)) <|
 .seq (.block 5 <|
 .seq (.reg [rg 107 (.idxSlice 33 103 105) .ptr, rg 108 (.load true 33 107) .any, rg 16 (.alloc [(.int .i64 0), (.int .u8 0), (.int .u8 0), (.int .u8 0), (.int .u8 0), (.int .u8 0), (.int .u8 0), (.int .u8 0), (.int .u8 0), (.int .u8 0), (.int .u8 0), (.int .u8 0), (.int .u8 0), (.int .u8 0), (.int .u8 0), (.int .u8 0), (.int .u8 0), (.int .u8 0), (.int .u8 0), (.int .u8 0), (.int .u8 0), (.int .u8 0), (.int .u8 0), (.int .u8 0), (.int .u8 0), (.int .u8 0), (.int .u8 0), (.int .u8 0), (.int .u8 0), (.int .u8 0), (.int .u8 0), (.int .u8 0), (.int .u8 0)]) .ptr, rn (.store 33 16 108) .any]) <|
 .seq (.reg [rg 110 (.move 10) .ptr, rg 111 (.fieldAddr 0 16) .ptr, rg 112 (.load false 1 111) .i, rg 113 (.fieldAddr 1 16) .ptr, rg 114 (.load true 32 113) .any, rg 115 (.call k_wal_Log_Image [110, 112, 114]) .any, rg 109 (.move 115) .any, rg 116 (.extract 109 0) (.int .u64), rg 117 (.extract 109 1) .i, rg 17 (.move 116) (.int .u64), rg 18 (.move 117) .i]) <|
 .seq (.reg [rg 118 (.move 18) .i, rg 119 (.call k_w10_num [118]) .i, rg 120 (.bin .neq 119 (.const (.int .i64 0))) .bool]) <|
 .cond 120 (.seq (.regd [(⟨0, [], false, ⟨(some 121), .load true 4 7, none⟩⟩, .any), (⟨1, [], false, ⟨(some 2), .move (.const (.pointer none)), none⟩⟩, .ptr), (⟨2, [1], false, ⟨(some 3), .move (.const (.pointer none)), none⟩⟩, .ptr), (⟨3, [0, 2, 1], true, ⟨none, .store 4 4 121, none⟩⟩, .any), (⟨4, [3, 0, 1, 2], false, ⟨(some 5), .move (.const (.bool false)), none⟩⟩, .bool)]) <|
 .ret) (.skip)) <|
 .reg [rg 122 (.bin .add 105 (.const (.int .i64 1))) .i, rg 105 (.move 122) .i]) <|
 .seq (.seq (.cutn [(132, .bool)] <|
 .reg [rg 123 (.fieldAddr 7 1) .ptr, rg 124 (.load false 1 123) .bool, rg 125 (.move 124) .bool, rp 126 (.move 12) 125 .i, rp 127 (.fieldAddr 5 1) 125 .ptr, rp 128 (.load false 1 127) 125 .any, rp 129 (.lenS 128) 125 .i, rp 130 (.bin .sub 129 (.const (.int .i64 1))) 125 .i, rp 131 (.bin .eql 126 130) 125 .bool, rg 132 (.pick 125 131 (.const (.bool false))) .bool]) <|
 .cond 132 (.exit 0) (.skip)) <|
 .seq (.reg [rg 134 (.move 10) .ptr, rg 135 (.call k_wal_Log_Commit [134]) .any, rg 133 (.move 135) .any, rg 136 (.extract 133 0) (.int .u64), rg 137 (.extract 133 1) .i, rg 19 (.move 136) (.int .u64), rg 20 (.move 137) .i]) <|
 .seq (.seq (.reg [rg 138 (.move 20) .i, rg 139 (.call k_w10_num [138]) .i, rg 140 (.bin .neq 139 (.const (.int .i64 0))) .bool]) <|
 .cond 140 (.seq (.regd [(⟨0, [], false, ⟨(some 141), .load true 4 7, none⟩⟩, .any), (⟨1, [], false, ⟨(some 2), .move (.const (.pointer none)), none⟩⟩, .ptr), (⟨2, [1], false, ⟨(some 3), .move (.const (.pointer none)), none⟩⟩, .ptr), (⟨3, [0, 2, 1], true, ⟨none, .store 4 4 141, none⟩⟩, .any), (⟨4, [3, 0, 1, 2], false, ⟨(some 5), .move (.const (.bool false)), none⟩⟩, .bool)]) <|
 .ret) (.skip)) <|
 .seq (.reg [rg 142 (.fieldAddr 3 7) .ptr, rg 143 (.load false 1 142) .any, rg 144 (.move 19) (.int .u64), rg 145 (.move 13) .any, rg 146 (.build [(.int .u64 0), (.slice none 0 0)] [(0, 1, 144), (1, 1, 145)]) .any, rg 147 (.buildSlice 1 2 [(.int .u64 0), (.slice none 0 0)] [(0, 2, 146)]) .any, rg 148 (.append 32 2 143 147) .any, rg 149 (.fieldAddr 3 7) .ptr, rn (.store 1 149 148) .any]) <|
 .reg [rg 150 (.move 19) (.int .u64), rg 151 (.bin .add 150 (.const (.int .u64 1))) (.int .u64), rg 152 (.fieldAddr 2 7) .ptr, rn (.store 1 152 151) .any]) <|
 .reg [rg 57 (.move 12) .i, rg 58 (.bin .add 57 (.const (.int .i64 1))) .i, rg 12 (.move 58) .i]) <|
 .seq (.regd [(⟨0, [], false, ⟨(some 153), .move 8, none⟩⟩, .ptr), (⟨1, [], false, ⟨(some 154), .move 10, none⟩⟩, .ptr), (⟨2, [], false, ⟨(some 155), .load true 4 7, none⟩⟩, .any), (⟨3, [0], false, ⟨(some 2), .move 153, none⟩⟩, .ptr), (⟨4, [1, 3, 0], false, ⟨(some 3), .move 154, none⟩⟩, .ptr), (⟨5, [2, 4, 0, 1, 3], true, ⟨none, .store 4 4 155, none⟩⟩, .any), (⟨6, [5, 0, 1, 2, 3, 4], false, ⟨(some 5), .move (.const (.bool true)), none⟩⟩, .bool)]) <|
 .ret
def f_w10_told_L48 (n : Nat) (h : Heap) (p3 : ((Value × Unit) × Heap)) (v24 : Int) (v29 : Value) (v30 : Int) (h31 : Heap) : Option (((Value × Int × Unit) × Heap) ⊕ ((Value × Unit) × Heap)) :=
  (((ldT (.int .i64) h31 (some (fa (nwA p3.2) 0))).bind fun x32 =>
    bif (decide (v30 < x32)) then
      ((lenB v29).bind fun n33 =>
      (ldT (.int .i64) h31 (some (fa (nwA p3.2) 2))).bind fun x34 =>
      some (((decide ((n33 : Int) < x34)), ()), h31))
    else
      (some ((false, ()), h31))) : Option ((Bool × Unit) × Heap)).bind fun a35 =>
  bif a35.1.1 then
    ((((ldT .any a35.2 (some (fa (nwA h) 5))).bind fun x36 =>
      (ixB 1 x36 v24).bind fun q37 =>
      (ldT (.int .u16) a35.2 (some q37)).bind fun x38 =>
      (bitB .shr .u16 x38 .i64 v30).bind fun x39 =>
      (bitB .and .u16 x39 .u16 1).bind fun x40 =>
      bif (decide (x40 = 1)) then
        ((ldT (.int .u8) a35.2 (some (fa (nwA h) 6))).bind fun x41 =>
        (fillL (List.replicate 32 (.int .u8 0)) [(0, 1, (.int .u8 (IntKind.u8.wrap (x41 + (IntKind.u8.wrap (v24)))))), (1, 1, (.int .u8 (IntKind.u8.wrap (v30)))), (2, 1, (.int .u8 3))]).bind fun cs42 =>
        (fillL [(.int .i64 0), (.int .u8 0), (.int .u8 0), (.int .u8 0), (.int .u8 0), (.int .u8 0), (.int .u8 0), (.int .u8 0), (.int .u8 0), (.int .u8 0), (.int .u8 0), (.int .u8 0), (.int .u8 0), (.int .u8 0), (.int .u8 0), (.int .u8 0), (.int .u8 0), (.int .u8 0), (.int .u8 0), (.int .u8 0), (.int .u8 0), (.int .u8 0), (.int .u8 0), (.int .u8 0), (.int .u8 0), (.int .u8 0), (.int .u8 0), (.int .u8 0), (.int .u8 0), (.int .u8 0), (.int .u8 0), (.int .u8 0), (.int .u8 0)] [(0, 1, (.int .i64 v30)), (1, 32, (.agg ⟨cs42⟩))]).bind fun cs43 =>
        (fillL [(.int .i64 0), (.int .u8 0), (.int .u8 0), (.int .u8 0), (.int .u8 0), (.int .u8 0), (.int .u8 0), (.int .u8 0), (.int .u8 0), (.int .u8 0), (.int .u8 0), (.int .u8 0), (.int .u8 0), (.int .u8 0), (.int .u8 0), (.int .u8 0), (.int .u8 0), (.int .u8 0), (.int .u8 0), (.int .u8 0), (.int .u8 0), (.int .u8 0), (.int .u8 0), (.int .u8 0), (.int .u8 0), (.int .u8 0), (.int .u8 0), (.int .u8 0), (.int .u8 0), (.int .u8 0), (.int .u8 0), (.int .u8 0), (.int .u8 0)] [(0, 33, (.agg ⟨cs43⟩))]).bind fun cs44 =>
        bnd ((Heap.new a35.2 (.cells cs44 false 33))) fun h45 =>
        (appendK h45 40 33 v29 (.slice (some ⟨Heap.next a35.2, 0, some 0⟩) 1 1)).bind fun p46 =>
        some ((p46.1, ()), p46.2))
      else
        (some ((v29, ()), a35.2))) : Option ((Value × Unit) × Heap)).bind fun a47 =>
    some (.inl ((a47.1.1, ((IntKind.i64.wrap (v30 + 1)), ())), a47.2)))
  else
    (some (.inr ((v29, ()), a35.2)))
def f_w10_told_L69 (n : Nat) (h0 : Heap) (h5 : Heap) (p17 : ((Option Addr × Int × Unit) × Heap)) (a49 : ((Value × Unit) × Heap)) (n55 : Nat) (v56 : Int) (h57 : Heap) : Option (((Int × Unit) × Heap) ⊕ (((Unit) × Heap) ⊕ (((Unit) × Heap) ⊕ (((Int × Unit) × Heap) ⊕ (((Unit) × Heap) ⊕ ((Option Addr × Option Addr × Value × Bool × Unit) × Heap)))))) :=
  bif (decide (v56 < (n55 : Int))) then
    ((ixB 33 a49.1.1 v56).bind fun q58 =>
    (ldA 33 h57 (some q58)).bind fun cs59 =>
    bnd ((Heap.new h57 (.cells [(.int .i64 0), (.int .u8 0), (.int .u8 0), (.int .u8 0), (.int .u8 0), (.int .u8 0), (.int .u8 0), (.int .u8 0), (.int .u8 0), (.int .u8 0), (.int .u8 0), (.int .u8 0), (.int .u8 0), (.int .u8 0), (.int .u8 0), (.int .u8 0), (.int .u8 0), (.int .u8 0), (.int .u8 0), (.int .u8 0), (.int .u8 0), (.int .u8 0), (.int .u8 0), (.int .u8 0), (.int .u8 0), (.int .u8 0), (.int .u8 0), (.int .u8 0), (.int .u8 0), (.int .u8 0), (.int .u8 0), (.int .u8 0), (.int .u8 0)] false 0))) fun h60 =>
    (stB 33 (.agg ⟨cs59⟩) h60 (some (nwA h57))).bind fun h61 =>
    (ldT (.int .i64) h61 (some (fa (nwA h57) 0))).bind fun x62 =>
    (ldA 32 h61 (some (fa (nwA h57) 1))).bind fun cs63 =>
    (f_wal_Log_Image n p17.1.1 x62 (.agg ⟨cs63⟩) h61).bind fun p64 =>
    (f_w10_num n p64.1.2.1 p64.2).bind fun p65 =>
    bif (!decide (p65.1.1 = 0)) then
      ((ldA 4 p65.2 (some (nwA h5))).bind fun cs66 =>
      (stB 4 (.agg ⟨cs66⟩) p65.2 (some (nwA h0))).bind fun h67 =>
      Option.map Sum.inr (Option.map Sum.inr (Option.map Sum.inr (Option.map Sum.inr (Option.map Sum.inr ((ldA 4 h67 (some (nwA h0))).bind fun cs68 =>
      some ((none, (none, ((.agg ⟨cs68⟩), (false, ())))), h67)))))))
    else
      (some (.inl (((IntKind.i64.wrap (v56 + 1)), ()), p65.2))))
  else
    (some (.inr (.inl ((), h57))))
def f_w10_told_C70 (n : Nat) (h0 : Heap) (h5 : Heap) (p17 : ((Option Addr × Int × Unit) × Heap)) (a49 : ((Value × Unit) × Heap)) (h54 : Heap) : Option (((Unit) × Heap) ⊕ (((Unit) × Heap) ⊕ (((Int × Unit) × Heap) ⊕ (((Unit) × Heap) ⊕ ((Option Addr × Option Addr × Value × Bool × Unit) × Heap))))) :=
  (lenB a49.1.1).bind fun n55 =>
  loopT (fun a => f_w10_told_L69 n h0 h5 p17 a49 n55 a.1.1 a.2) n ((0, ()), h54)
def f_w10_told_C88 (n : Nat) (h : Heap) (h0 : Heap) (p3 : ((Value × Unit) × Heap)) (h5 : Heap) (p17 : ((Option Addr × Int × Unit) × Heap)) (v24 : Int) (h28 : Heap) : Option (((Unit) × Heap) ⊕ (((Int × Unit) × Heap) ⊕ (((Unit) × Heap) ⊕ ((Option Addr × Option Addr × Value × Bool × Unit) × Heap)))) :=
  ((loopT (fun a => f_w10_told_L48 n h p3 v24 a.1.1 a.1.2.1 a.2) n (((.slice none 0 0), (0, ())), h28)) : Option ((Value × Unit) × Heap)).bind fun a49 =>
  (lenB a49.1.1).bind fun n50 =>
  (ldT (.int .i64) a49.2 (some (fa (nwA p3.2) 1))).bind fun x51 =>
  (f_wal_Log_Used n p17.1.1 (hid a49.2 [] ((Addr.block (fa (nwA p3.2) 1)) :: []))).bind fun p52 =>
  bnd (Heap.putBack p52.2 a49.2 ([] ++ ((Addr.block (fa (nwA p3.2) 1)) :: []))) fun h53 =>
  bif (decide (x51 < (IntKind.i64.wrap ((IntKind.i64.wrap (p52.1.1 + (n50 : Int))) + 1)))) then
    (some (.inr (.inr (.inl ((), h53)))))
  else
    (thenB (f_w10_told_C70 n h0 h5 p17 a49 (h53)) fun a71 =>
    (((ldT .bool a71.2 (some (fa (nwA h) 7))).bind fun x72 =>
      bif x72 then
        ((ldT .any a71.2 (some (fa (nwA h) 5))).bind fun x73 =>
        (lenB x73).bind fun n74 =>
        some (((decide (v24 = (IntKind.i64.wrap ((n74 : Int) - 1)))), ()), a71.2))
      else
        (some ((false, ()), a71.2))) : Option ((Bool × Unit) × Heap)).bind fun a75 =>
    bif a75.1.1 then
      (some (.inr (.inr (.inl ((), a75.2)))))
    else
      ((f_wal_Log_Commit n p17.1.1 a75.2).bind fun p76 =>
      (f_w10_num n p76.1.2.1 p76.2).bind fun p77 =>
      bif (!decide (p77.1.1 = 0)) then
        ((ldA 4 p77.2 (some (nwA h5))).bind fun cs78 =>
        (stB 4 (.agg ⟨cs78⟩) p77.2 (some (nwA h0))).bind fun h79 =>
        Option.map Sum.inr (Option.map Sum.inr (Option.map Sum.inr ((ldA 4 h79 (some (nwA h0))).bind fun cs80 =>
        some ((none, (none, ((.agg ⟨cs80⟩), (false, ())))), h79)))))
      else
        ((ldT .any p77.2 (some (fa (nwA h5) 3))).bind fun x81 =>
        (fillL [(.int .u64 0), (.slice none 0 0)] [(0, 1, (.int .u64 p76.1.1)), (1, 1, a49.1.1)]).bind fun cs82 =>
        (fillL [(.int .u64 0), (.slice none 0 0)] [(0, 2, (.agg ⟨cs82⟩))]).bind fun cs83 =>
        bnd ((Heap.new p77.2 (.cells cs83 false 2))) fun h84 =>
        (appendK h84 32 2 x81 (.slice (some ⟨Heap.next p77.2, 0, some 0⟩) 1 1)).bind fun p85 =>
        (stB 1 p85.1 p85.2 (some (fa (nwA h5) 3))).bind fun h86 =>
        (stB 1 (.int .u64 (IntKind.u64.wrap (p76.1.1 + 1))) h86 (some (fa (nwA h5) 2))).bind fun h87 =>
        some (.inl ((), h87)))))
def f_w10_told_L90 (n : Nat) (h : Heap) (h0 : Heap) (p3 : ((Value × Unit) × Heap)) (h5 : Heap) (p17 : ((Option Addr × Int × Unit) × Heap)) (v24 : Int) (h25 : Heap) : Option (((Int × Unit) × Heap) ⊕ (((Unit) × Heap) ⊕ ((Option Addr × Option Addr × Value × Bool × Unit) × Heap))) :=
  (ldT .any h25 (some (fa (nwA h) 5))).bind fun x26 =>
  (lenB x26).bind fun n27 =>
  bif (decide (v24 < (n27 : Int))) then
    (thenB (f_w10_told_C88 n h h0 p3 h5 p17 v24 (h25)) fun a89 =>
    some (.inl (((IntKind.i64.wrap (v24 + 1)), ()), a89.2)))
  else
    (some (.inr (.inl ((), h25))))
def f_w10_told_C91 (n : Nat) (h : Heap) (h0 : Heap) (p3 : ((Value × Unit) × Heap)) (h5 : Heap) (p17 : ((Option Addr × Int × Unit) × Heap)) (h23 : Heap) : Option (((Unit) × Heap) ⊕ ((Option Addr × Option Addr × Value × Bool × Unit) × Heap)) :=
  loopT (fun a => f_w10_told_L90 n h h0 p3 h5 p17 a.1.1 a.2) n ((0, ()), h23)
noncomputable def sf_w10_told (n : Nat) : Sf := sfOf [(k_w10_config, s_w10_config n), (k_home_New, s_home_New n), (k_w10_num, s_w10_num n), (k_wal_Open, s_wal_Open n), (k_wal_Log_Used, s_wal_Log_Used n), (k_wal_Log_Image, s_wal_Log_Image n), (k_wal_Log_Commit, s_wal_Log_Commit n)]
noncomputable def it_w10_told (n : Nat) : It := itOf []
def f_w10_told (n : Nat) (u0 : Value) (h : Heap) : Option ((Option Addr × Option Addr × Value × Bool × Unit) × Heap) :=
  bif (cellsOf u0).all isCell then
    (bnd ((Heap.new h (.cells (cellsOf u0) false 0))) fun h0 =>
    bnd ((Heap.new h0 (.cells [(.int .u64 0), (.int .u64 0), (.int .u64 0), (.slice none 0 0)] false 0))) fun h1 =>
    (ldA 5 h1 (some (fa (nwA h) 0))).bind fun cs2 =>
    (f_w10_config n (.agg ⟨cs2⟩) h1).bind fun p3 =>
    bnd ((Heap.new p3.2 (.cells (List.replicate 5 (.int .i64 0)) false 0))) fun h4 =>
    (stB 5 p3.1.1 h4 (some (nwA p3.2))).bind fun h5 =>
    (fillL [(.int .u64 0), (.int .u64 0), (.int .u64 0), (.slice none 0 0)] [(1, 1, (.int .u64 1))]).bind fun cs6 =>
    bnd ((Heap.new h5 (.cells [(.int .u64 0), (.int .u64 0), (.int .u64 0), (.slice none 0 0)] false 0))) fun h7 =>
    (stB 4 (.agg ⟨cs6⟩) h7 (some (nwA h5))).bind fun h8 =>
    (ldA 5 h8 (some (nwA p3.2))).bind fun cs9 =>
    (f_home_New n (.agg ⟨cs9⟩) h8).bind fun p10 =>
    (((f_w10_num n p10.1.2.1 p10.2).bind fun p11 =>
      bif (!decide (p11.1.1 = 0)) then
        (some ((true, ()), p11.2))
      else
        (some (((Option.isNone p10.1.1), ()), p11.2))) : Option ((Bool × Unit) × Heap)).bind fun a12 =>
    bif a12.1.1 then
      ((ldA 4 a12.2 (some (nwA h5))).bind fun cs13 =>
      (stB 4 (.agg ⟨cs13⟩) a12.2 (some (nwA h0))).bind fun h14 =>
      (ldA 4 h14 (some (nwA h0))).bind fun cs15 =>
      some ((none, (none, ((.agg ⟨cs15⟩), (false, ())))), h14))
    else
      ((ldA 5 a12.2 (some (nwA p3.2))).bind fun cs16 =>
      (f_wal_Open n p10.1.1 (.agg ⟨cs16⟩) 0 1 a12.2).bind fun p17 =>
      (((f_w10_num n p17.1.2.1 p17.2).bind fun p18 =>
        bif (!decide (p18.1.1 = 0)) then
          (some ((true, ()), p18.2))
        else
          (some (((Option.isNone p17.1.1), ()), p18.2))) : Option ((Bool × Unit) × Heap)).bind fun a19 =>
      bif a19.1.1 then
        ((ldA 4 a19.2 (some (nwA h5))).bind fun cs20 =>
        (stB 4 (.agg ⟨cs20⟩) a19.2 (some (nwA h0))).bind fun h21 =>
        (ldA 4 h21 (some (nwA h0))).bind fun cs22 =>
        some ((none, (none, ((.agg ⟨cs22⟩), (false, ())))), h21))
      else
        (thenB (f_w10_told_C91 n h h0 p3 h5 p17 (a19.2)) fun a92 =>
        (ldA 4 a92.2 (some (nwA h5))).bind fun cs93 =>
        (stB 4 (.agg ⟨cs93⟩) a92.2 (some (nwA h0))).bind fun h94 =>
        (ldA 4 h94 (some (nwA h0))).bind fun cs95 =>
        some ((p10.1.1, (p17.1.1, ((.agg ⟨cs95⟩), (true, ())))), h94))))
  else
    (none)
def rs_w10_told : Rs := [(.tmp 2, .ptr), (.tmp 3, .ptr), (.cell true 4 4, .any), (.tmp 5, .bool)]
def ps_w10_told : List Ty := [.any]
theorem e_w10_told (n : Nat) (u0 : Value) (h : Heap) : f_w10_told n u0 h = fB (sf_w10_told n) (it_w10_told n) n c2_w10_told rs_w10_told ps_w10_told (u0, ()) h := by kernel_rfl
noncomputable def s_w10_told (n : Nat) : Sf1 := mkSf ps_w10_told rs_w10_told fun a h => f_w10_told n a.1 h
/- wicket/wicketlaw10.ScanFinds -/
def c2_w10_ScanFinds : C2 := .seq (.reg [rg 2 (.box 0) .ptr, rg 4 (.move (.const (.bool false))) .bool]) <|
 .seq (.seq (.reg [rg 15 (.call k_w10_awake []) .bool, rg 16 (.un .not 15) .bool]) <|
 .cond 16 (.seq (.reg [rg 4 (.move (.const (.bool false))) .bool]) <|
 .ret) (.skip)) <|
 .seq (.reg [rg 18 (.load true 9 2) .any, rg 19 (.call k_w10_told [18]) .any, rg 17 (.move 19) .any, rg 20 (.extract 17 0) .ptr, rg 21 (.extract 17 1) .ptr, rg 22 (.extract 17 2) .any, rg 23 (.extract 17 3) .bool, rg 7 (.alloc [(.int .u64 0), (.int .u64 0), (.int .u64 0), (.slice none 0 0)]) .ptr, rg 5 (.move 20) .ptr, rg 6 (.move 21) .ptr, rn (.store 4 7 22) .any, rg 8 (.move 23) .bool]) <|
 .seq (.seq (.reg [rg 24 (.move 8) .bool, rg 25 (.un .not 24) .bool]) <|
 .cond 25 (.seq (.reg [rg 4 (.move (.const (.bool false))) .bool]) <|
 .ret) (.skip)) <|
 .seq (.cut [] <|
 .seq (.reg [rg 26 (.move 1) .bool]) <|
 .cond 26 (.seq (.reg [rg 28 (.move 6) .ptr, rg 29 (.call k_wal_Log_Flush [28]) .any, rg 27 (.move 29) .any, rg 30 (.extract 27 0) .i, rg 31 (.extract 27 1) .i, rg 9 (.move 30) .i, rg 10 (.move 31) .i]) <|
 .seq (.reg [rg 32 (.move 10) .i, rg 33 (.call k_w10_num [32]) .i, rg 34 (.bin .neq 33 (.const (.int .i64 0))) .bool]) <|
 .cond 34 (.seq (.reg [rg 4 (.move (.const (.bool false))) .bool]) <|
 .ret) (.skip)) (.skip)) <|
 .seq (.reg [rg 35 (.fieldAddr 0 2) .ptr, rg 36 (.load true 5 35) .any, rg 37 (.call k_w10_config [36]) .any, rg 11 (.alloc (List.replicate 5 (.int .i64 0))) .ptr, rn (.store 5 11 37) .any]) <|
 .seq (.reg [rg 39 (.move 5) .ptr, rg 40 (.load true 5 11) .any, rg 41 (.call k_scan_Read [39, 40]) .any, rg 38 (.move 41) .any, rg 42 (.extract 38 0) .any, rg 43 (.extract 38 1) .i, rg 12 (.alloc [(.int .u64 0), (.int .u64 0), (.int .u64 0), (.slice none 0 0)]) .ptr, rn (.store 4 12 42) .any, rg 13 (.move 43) .i]) <|
 .seq (.cut [] <|
 .seq (.reg [rg 44 (.fieldAddr 3 12) .ptr, rg 45 (.load false 1 44) .any, rg 46 (.lenS 45) .i, rg 47 (.move (.const (.int .i64 0))) .i]) <|
 .block 0 <|
 .loop [(47, .i)] <|
 .seq (.reg [rg 48 (.bin .lss 47 46) .any]) <|
 .seq (.cond 48 (.skip) (.exit 0)) <|
 .seq (.block 1 <|
 .seq (.reg [rg 49 (.move 47) .i, rg 14 (.move 49) .i]) <|
 .seq (.cutn [(67, .bool)] <|
 .regd [(⟨0, [], false, ⟨(some 50), .move 14, none⟩⟩, (.int .i64)), (⟨1, [0], false, ⟨(some 51), .bin .gtr 50 (.const (.int .i64 0)), none⟩⟩, .bool), (⟨2, [1, 0], false, ⟨(some 52), .move 51, none⟩⟩, .bool), (⟨3, [2, 1, 0], false, ⟨(some 53), .fieldAddr 3 12, some (52, true)⟩⟩, .ptr), (⟨4, [3, 2, 1, 0], false, ⟨(some 54), .load false 1 53, some (52, true)⟩⟩, .any), (⟨5, [2, 1, 0], false, ⟨(some 55), .move 14, some (52, true)⟩⟩, (.int .i64)), (⟨6, [5, 2, 1, 0], false, ⟨(some 56), .bin .sub 55 (.const (.int .i64 1)), some (52, true)⟩⟩, (.int .i64)), (⟨7, [4, 6, 2, 3, 1, 0, 5], false, ⟨(some 57), .idxSlice 2 54 56, some (52, true)⟩⟩, .ptr), (⟨8, [7, 2, 4, 6, 3, 1, 0, 5], false, ⟨(some 58), .fieldAddr 0 57, some (52, true)⟩⟩, .ptr), (⟨9, [8, 2, 7, 4, 6, 3, 1, 0, 5], false, ⟨(some 59), .load false 1 58, some (52, true)⟩⟩, (.int .u64)), (⟨10, [2, 1, 0], false, ⟨(some 60), .fieldAddr 3 12, some (52, true)⟩⟩, .ptr), (⟨11, [10, 2, 1, 0], false, ⟨(some 61), .load false 1 60, some (52, true)⟩⟩, .any), (⟨12, [2, 1, 0], false, ⟨(some 62), .move 14, some (52, true)⟩⟩, (.int .i64)), (⟨13, [11, 12, 2, 10, 1, 0], false, ⟨(some 63), .idxSlice 2 61 62, some (52, true)⟩⟩, .ptr), (⟨14, [13, 2, 11, 12, 10, 1, 0], false, ⟨(some 64), .fieldAddr 0 63, some (52, true)⟩⟩, .ptr), (⟨15, [14, 2, 13, 11, 12, 10, 1, 0], false, ⟨(some 65), .load false 1 64, some (52, true)⟩⟩, (.int .u64)), (⟨16, [9, 15, 2, 8, 7, 4, 6, 3, 1, 0, 5, 14, 13, 11, 12, 10], false, ⟨(some 66), .bin .geq 59 65, some (52, true)⟩⟩, .bool), (⟨17, [2, 16, 1, 0, 9, 15, 8, 7, 4, 6, 3, 5, 14, 13, 11, 12, 10], false, ⟨(some 67), .pick 52 66 (.const (.bool false)), none⟩⟩, .bool)]) <|
 .cond 67 (.seq (.reg [rg 4 (.move (.const (.bool false))) .bool]) <|
 .ret) (.skip)) <|
 .reg [rg 68 (.bin .add 47 (.const (.int .i64 1))) .i, rg 47 (.move 68) .i]) <|
 .seq (.regd [(⟨0, [], false, ⟨(some 69), .move 13, none⟩⟩, (.int .i64)), (⟨1, [0], true, ⟨(some 70), .call k_w10_num [69], none⟩⟩, (.int .i64)), (⟨2, [1, 0], false, ⟨(some 71), .bin .eql 70 (.const (.int .i64 0)), none⟩⟩, .bool), (⟨3, [2, 1, 0], false, ⟨(some 72), .move 71, none⟩⟩, .bool), (⟨4, [3, 2, 1, 0], false, ⟨(some 73), .load true 4 12, some (72, true)⟩⟩, .any), (⟨6, [3, 2, 1, 0], false, ⟨(some 75), .load true 4 7, some (72, true)⟩⟩, .any), (⟨5, [4, 3, 2, 1, 0], true, ⟨(some 74), .call k_w10_plain [73], some (72, true)⟩⟩, .any), (⟨7, [5, 6, 3, 4, 2, 1, 0], true, ⟨(some 76), .call k_r10_Same [74, 75], some (72, true)⟩⟩, .bool), (⟨8, [3, 7, 2, 1, 0, 5, 6, 4], false, ⟨(some 77), .pick 72 76 (.const (.bool false)), none⟩⟩, .bool), (⟨9, [8, 7, 3, 2, 1, 0, 5, 6, 4], false, ⟨(some 78), .move 77, none⟩⟩, .bool), (⟨10, [9, 8, 7, 3, 2, 1, 0, 5, 6, 4], false, ⟨(some 79), .fieldAddr 2 12, some (78, true)⟩⟩, .ptr), (⟨11, [10, 9, 8, 7, 3, 2, 1, 0, 5, 6, 4], false, ⟨(some 80), .load false 1 79, some (78, true)⟩⟩, (.int .u64)), (⟨12, [9, 8, 7, 3, 2, 1, 0, 5, 6, 4], false, ⟨(some 81), .fieldAddr 0 12, some (78, true)⟩⟩, .ptr), (⟨13, [12, 9, 8, 7, 3, 2, 1, 0, 5, 6, 4], false, ⟨(some 82), .load false 1 81, some (78, true)⟩⟩, (.int .u64)), (⟨14, [9, 8, 7, 3, 2, 1, 0, 5, 6, 4], false, ⟨(some 83), .fieldAddr 1 11, some (78, true)⟩⟩, .ptr), (⟨15, [14, 9, 8, 7, 3, 2, 1, 0, 5, 6, 4], false, ⟨(some 84), .load false 1 83, some (78, true)⟩⟩, (.int .i64)), (⟨16, [15, 9, 14, 8, 7, 3, 2, 1, 0, 5, 6, 4], false, ⟨(some 85), .conv .u64 84, some (78, true)⟩⟩, (.int .u64)), (⟨17, [13, 16, 9, 12, 8, 7, 3, 2, 1, 0, 5, 6, 4, 15, 14], false, ⟨(some 86), .bin .add 82 85, some (78, true)⟩⟩, (.int .u64)), (⟨18, [11, 17, 9, 10, 8, 7, 3, 2, 1, 0, 5, 6, 4, 13, 16, 12, 15, 14], false, ⟨(some 87), .bin .leq 80 86, some (78, true)⟩⟩, .bool), (⟨19, [9, 18, 8, 7, 3, 2, 1, 0, 5, 6, 4, 11, 17, 10, 13, 16, 12, 15, 14], false, ⟨(some 88), .pick 78 87 (.const (.bool false)), none⟩⟩, .bool), (⟨20, [19, 9, 18, 8, 7, 3, 2, 1, 0, 5, 6, 4, 11, 17, 10, 13, 16, 12, 15, 14], false, ⟨(some 89), .move 88, none⟩⟩, .bool), (⟨21, [20, 19, 9, 18, 8, 7, 3, 2, 1, 0, 5, 6, 4, 11, 17, 10, 13, 16, 12, 15, 14], false, ⟨(some 90), .fieldAddr 3 12, some (89, true)⟩⟩, .ptr), (⟨22, [21, 20, 19, 9, 18, 8, 7, 3, 2, 1, 0, 5, 6, 4, 11, 17, 10, 13, 16, 12, 15, 14], false, ⟨(some 91), .load false 1 90, some (89, true)⟩⟩, .any), (⟨23, [22, 20, 21, 19, 9, 18, 8, 7, 3, 2, 1, 0, 5, 6, 4, 11, 17, 10, 13, 16, 12, 15, 14], false, ⟨(some 92), .lenS 91, some (89, true)⟩⟩, (.int .i64)), (⟨24, [20, 19, 9, 18, 8, 7, 3, 2, 1, 0, 5, 6, 4, 11, 17, 10, 13, 16, 12, 15, 14], false, ⟨(some 93), .fieldAddr 1 11, some (89, true)⟩⟩, .ptr), (⟨25, [24, 20, 19, 9, 18, 8, 7, 3, 2, 1, 0, 5, 6, 4, 11, 17, 10, 13, 16, 12, 15, 14], false, ⟨(some 94), .load false 1 93, some (89, true)⟩⟩, (.int .i64)), (⟨26, [23, 25, 20, 22, 21, 19, 9, 18, 8, 7, 3, 2, 1, 0, 5, 6, 4, 11, 17, 10, 13, 16, 12, 15, 14, 24], false, ⟨(some 95), .bin .leq 92 94, some (89, true)⟩⟩, .bool), (⟨27, [20, 26, 19, 9, 18, 8, 7, 3, 2, 1, 0, 5, 6, 4, 11, 17, 10, 13, 16, 12, 15, 14, 23, 25, 22, 21, 24], false, ⟨(some 96), .pick 89 95 (.const (.bool false)), none⟩⟩, .bool), (⟨28, [27, 20, 0, 1, 2, 3, 4, 5, 6, 7, 8, 9, 10, 11, 12, 13, 14, 15, 16, 17, 18, 19, 21, 22, 23, 24, 25, 26], false, ⟨(some 4), .move 96, none⟩⟩, .bool)]) <|
 .ret
def f_w10_ScanFinds_C9 (n : Nat) (u1 : Bool) (p3 : ((Option Addr × Option Addr × Value × Bool × Unit) × Heap)) (h6 : Heap) : Option (((Unit) × Heap) ⊕ ((Bool × Unit) × Heap)) :=
  bif u1 then
    ((f_wal_Log_Flush n p3.1.2.1 h6).bind fun p7 =>
    (f_w10_num n p7.1.2.1 p7.2).bind fun p8 =>
    bif (!decide (p8.1.1 = 0)) then
      (some (.inr ((false, ()), p8.2)))
    else
      (some (.inl ((), p8.2))))
  else
    (some (.inl ((), h6)))
def f_w10_ScanFinds_L31 (n : Nat) (p16 : ((Value × Int × Unit) × Heap)) (n21 : Nat) (v22 : Int) (h23 : Heap) : Option (((Int × Unit) × Heap) ⊕ (((Unit) × Heap) ⊕ ((Bool × Unit) × Heap))) :=
  bif (decide (v22 < (n21 : Int))) then
    (((bif (decide (0 < v22)) then
        ((ldT .any h23 (some (fa (nwA p16.2) 3))).bind fun x24 =>
        (ixB 2 x24 (IntKind.i64.wrap (v22 - 1))).bind fun q25 =>
        (ldT (.int .u64) h23 (some (fa q25 0))).bind fun x26 =>
        (ldT .any h23 (some (fa (nwA p16.2) 3))).bind fun x27 =>
        (ixB 2 x27 v22).bind fun q28 =>
        (ldT (.int .u64) h23 (some (fa q28 0))).bind fun x29 =>
        some (((decide (x29 ≤ x26)), ()), h23))
      else
        (some ((false, ()), h23))) : Option ((Bool × Unit) × Heap)).bind fun a30 =>
    bif a30.1.1 then
      (some (.inr (.inr ((false, ()), a30.2))))
    else
      (some (.inl (((IntKind.i64.wrap (v22 + 1)), ()), a30.2))))
  else
    (some (.inr (.inl ((), h23))))
def f_w10_ScanFinds_C32 (n : Nat) (p16 : ((Value × Int × Unit) × Heap)) (h19 : Heap) : Option (((Unit) × Heap) ⊕ ((Bool × Unit) × Heap)) :=
  (ldT .any h19 (some (fa (nwA p16.2) 3))).bind fun x20 =>
  (lenB x20).bind fun n21 =>
  loopT (fun a => f_w10_ScanFinds_L31 n p16 n21 a.1.1 a.2) n ((0, ()), h19)
noncomputable def sf_w10_ScanFinds (n : Nat) : Sf := sfOf [(k_w10_awake, s_w10_awake n), (k_w10_told, s_w10_told n), (k_wal_Log_Flush, s_wal_Log_Flush n), (k_w10_num, s_w10_num n), (k_w10_config, s_w10_config n), (k_scan_Read, s_scan_Read n), (k_w10_plain, s_w10_plain n), (k_r10_Same, s_r10_Same n)]
noncomputable def it_w10_ScanFinds (n : Nat) : It := itOf []
def f_w10_ScanFinds (n : Nat) (u0 : Value) (u1 : Bool) (h : Heap) : Option ((Bool × Unit) × Heap) :=
  bif (cellsOf u0).all isCell then
    (bnd ((Heap.new h (.cells (cellsOf u0) false 0))) fun h0 =>
    (f_w10_awake n h0).bind fun p1 =>
    bif (!p1.1.1) then
      (some ((false, ()), p1.2))
    else
      ((ldA 9 p1.2 (some (nwA h))).bind fun cs2 =>
      (f_w10_told n (.agg ⟨cs2⟩) p1.2).bind fun p3 =>
      bnd ((Heap.new p3.2 (.cells [(.int .u64 0), (.int .u64 0), (.int .u64 0), (.slice none 0 0)] false 0))) fun h4 =>
      (stB 4 p3.1.2.2.1 h4 (some (nwA p3.2))).bind fun h5 =>
      bif (!p3.1.2.2.2.1) then
        (some ((false, ()), h5))
      else
        (thenB (f_w10_ScanFinds_C9 n u1 p3 (h5)) fun a10 =>
        (ldA 5 a10.2 (some (fa (nwA h) 0))).bind fun cs11 =>
        (f_w10_config n (.agg ⟨cs11⟩) a10.2).bind fun p12 =>
        bnd ((Heap.new p12.2 (.cells (List.replicate 5 (.int .i64 0)) false 0))) fun h13 =>
        (stB 5 p12.1.1 h13 (some (nwA p12.2))).bind fun h14 =>
        (ldA 5 h14 (some (nwA p12.2))).bind fun cs15 =>
        (f_scan_Read n p3.1.1 (.agg ⟨cs15⟩) h14).bind fun p16 =>
        bnd ((Heap.new p16.2 (.cells [(.int .u64 0), (.int .u64 0), (.int .u64 0), (.slice none 0 0)] false 0))) fun h17 =>
        (stB 4 p16.1.1 h17 (some (nwA p16.2))).bind fun h18 =>
        thenB (f_w10_ScanFinds_C32 n p16 (h18)) fun a33 =>
        (f_w10_num n p16.1.2.1 a33.2).bind fun p34 =>
        bif (decide (p34.1.1 = 0)) then
          ((ldA 4 p34.2 (some (nwA p16.2))).bind fun cs35 =>
          (ldA 4 p34.2 (some (nwA p3.2))).bind fun cs36 =>
          (f_w10_plain n (.agg ⟨cs35⟩) (hid p34.2 [] ((Addr.block (nwA p3.2)) :: []))).bind fun p37 =>
          bnd (Heap.putBack p37.2 p34.2 ([] ++ ((Addr.block (nwA p3.2)) :: []))) fun h38 =>
          (f_r10_Same n p37.1.1 (.agg ⟨cs36⟩) h38).bind fun p39 =>
          bif p39.1.1 then
            ((ldT (.int .u64) p39.2 (some (fa (nwA p16.2) 2))).bind fun x40 =>
            (ldT (.int .u64) p39.2 (some (fa (nwA p16.2) 0))).bind fun x41 =>
            (ldT (.int .i64) p39.2 (some (fa (nwA p12.2) 1))).bind fun x42 =>
            bif (decide (x40 ≤ (IntKind.u64.wrap (x41 + (IntKind.u64.wrap (x42)))))) then
              ((ldT .any p39.2 (some (fa (nwA p16.2) 3))).bind fun x43 =>
              (lenB x43).bind fun n44 =>
              (ldT (.int .i64) p39.2 (some (fa (nwA p12.2) 1))).bind fun x45 =>
              some (((decide ((n44 : Int) ≤ x45)), ()), p39.2))
            else
              (some ((false, ()), p39.2)))
          else
            (some ((false, ()), p39.2)))
        else
          (some ((false, ()), p34.2)))))
  else
    (none)
def rs_w10_ScanFinds : Rs := [(.tmp 4, .bool)]
def ps_w10_ScanFinds : List Ty := [.any, .bool]
theorem e_w10_ScanFinds (n : Nat) (u0 : Value) (u1 : Bool) (h : Heap) : f_w10_ScanFinds n u0 u1 h = fB (sf_w10_ScanFinds n) (it_w10_ScanFinds n) n c2_w10_ScanFinds rs_w10_ScanFinds ps_w10_ScanFinds (u0, (u1, ())) h := by kernel_rfl
noncomputable def s_w10_ScanFinds (n : Nat) : Sf1 := mkSf ps_w10_ScanFinds rs_w10_ScanFinds fun a h => f_w10_ScanFinds n a.1 a.2.1 h
structure LfT (T : Nat → Option AFun) : Prop where
  t_w10_awake : PrimT_w10_awake T
  t_w10_num : T k_w10_num = some ⟨List.map (·.1) rs_w10_num, C2.erase c2_w10_num, none⟩
  t_w10_plain : T k_w10_plain = some ⟨List.map (·.1) rs_w10_plain, C2.erase c2_w10_plain, none⟩
  t_w10_small : T k_w10_small = some ⟨List.map (·.1) rs_w10_small, C2.erase c2_w10_small, none⟩
  t_wal_Log_none : T k_wal_Log_none = some ⟨List.map (·.1) rs_wal_Log_none, C2.erase c2_wal_Log_none, none⟩
  t_sector_Disk_Flush : T k_sector_Disk_Flush = some ⟨List.map (·.1) rs_sector_Disk_Flush, C2.erase c2_sector_Disk_Flush, none⟩
  t_w10_config_1 : T k_w10_config_1 = some ⟨List.map (·.1) rs_w10_config_1, C2.erase c2_w10_config_1, none⟩
  t_r10_SameImages : T k_r10_SameImages = some ⟨List.map (·.1) rs_r10_SameImages, C2.erase c2_r10_SameImages, none⟩
  t_octet_Join : T k_octet_Join = some ⟨List.map (·.1) rs_octet_Join, C2.erase c2_octet_Join, none⟩
  t_sector_Load : T k_sector_Load = some ⟨List.map (·.1) rs_sector_Load, C2.erase c2_sector_Load, none⟩
  t_sector_Disk_Len : T k_sector_Disk_Len = some ⟨List.map (·.1) rs_sector_Disk_Len, C2.erase c2_sector_Disk_Len, none⟩
  t_wal_Log_End : T k_wal_Log_End = some ⟨List.map (·.1) rs_wal_Log_End, C2.erase c2_wal_Log_End, none⟩
  t_wal_Log_Tail : T k_wal_Log_Tail = some ⟨List.map (·.1) rs_wal_Log_Tail, C2.erase c2_wal_Log_Tail, none⟩
  t_ring_Span_1 : T k_ring_Span_1 = some ⟨[], C2.erase c2_ring_Span_1, none⟩
  t_octet_Pad : T k_octet_Pad = some ⟨List.map (·.1) rs_octet_Pad, C2.erase c2_octet_Pad, none⟩
  t_home_block : T k_home_block = some ⟨List.map (·.1) rs_home_block, C2.erase c2_home_block, none⟩
  t_super_within : T k_super_within = some ⟨List.map (·.1) rs_super_within, C2.erase c2_super_within, none⟩
  t_sector_Disk_asked : T k_sector_Disk_asked = some ⟨List.map (·.1) rs_sector_Disk_asked, C2.erase c2_sector_Disk_asked, none⟩
  t_slices_Clone_byte_byte : T k_slices_Clone_byte_byte = some ⟨List.map (·.1) rs_slices_Clone_byte_byte, C2.erase c2_slices_Clone_byte_byte, none⟩
  t_super_sizes : T k_super_sizes = some ⟨List.map (·.1) rs_super_sizes, C2.erase c2_super_sizes, none⟩
  t_bytes_Equal : T k_bytes_Equal = some ⟨List.map (·.1) rs_bytes_Equal, C2.erase c2_bytes_Equal, none⟩
  t_ring_round : T k_ring_round = some ⟨List.map (·.1) rs_ring_round, C2.erase c2_ring_round, none⟩
  t_record_Check : T k_record_Check = some ⟨List.map (·.1) rs_record_Check, C2.erase c2_record_Check, none⟩
  t_octet_may : T k_octet_may = some ⟨List.map (·.1) rs_octet_may, C2.erase c2_octet_may, none⟩
  t_sum_push : T k_sum_push = some ⟨List.map (·.1) rs_sum_push, C2.erase c2_sum_push, none⟩
  t_slices_Backward_sector_waiting_sector_waiting_1 : T k_slices_Backward_sector_waiting_sector_waiting_1 = some ⟨[], C2.erase c2_slices_Backward_sector_waiting_sector_waiting_1, none⟩
  t_octet_number : T k_octet_number = some ⟨List.map (·.1) rs_octet_number, C2.erase c2_octet_number, none⟩
  t_wal_Log_Flush : T k_wal_Log_Flush = some ⟨List.map (·.1) rs_wal_Log_Flush, C2.erase c2_wal_Log_Flush, none⟩
  t_w10_config : T k_w10_config = some ⟨List.map (·.1) rs_w10_config, C2.erase c2_w10_config, none⟩
  t_r10_Same : T k_r10_Same = some ⟨List.map (·.1) rs_r10_Same, C2.erase c2_r10_Same, none⟩
  t_wal_Log_Used : T k_wal_Log_Used = some ⟨List.map (·.1) rs_wal_Log_Used, C2.erase c2_wal_Log_Used, none⟩
  t_ring_Span : T k_ring_Span = some ⟨List.map (·.1) rs_ring_Span, C2.erase c2_ring_Span, none⟩
  t_super_Config : T k_super_Config = some ⟨List.map (·.1) rs_super_Config, C2.erase c2_super_Config, none⟩
  t_wal_Log_room : T k_wal_Log_room = some ⟨List.map (·.1) rs_wal_Log_room, C2.erase c2_wal_Log_room, none⟩
  t_ring_Slot : T k_ring_Slot = some ⟨List.map (·.1) rs_ring_Slot, C2.erase c2_ring_Slot, none⟩
  t_super_Check : T k_super_Check = some ⟨List.map (·.1) rs_super_Check, C2.erase c2_super_Check, none⟩
  t_octet_Put : T k_octet_Put = some ⟨List.map (·.1) rs_octet_Put, C2.erase c2_octet_Put, none⟩
  t_sum_Of : T k_sum_Of = some ⟨List.map (·.1) rs_sum_Of, C2.erase c2_sum_Of, none⟩
  t_wal_Log_sectorOf : T k_wal_Log_sectorOf = some ⟨List.map (·.1) rs_wal_Log_sectorOf, C2.erase c2_wal_Log_sectorOf, none⟩
  t_sector_Disk_Write : T k_sector_Disk_Write = some ⟨List.map (·.1) rs_sector_Disk_Write, C2.erase c2_sector_Disk_Write, none⟩
  t_slices_Backward_sector_waiting_sector_waiting : T k_slices_Backward_sector_waiting_sector_waiting = some ⟨List.map (·.1) rs_slices_Backward_sector_waiting_sector_waiting, C2.erase c2_slices_Backward_sector_waiting_sector_waiting, none⟩
  t_octet_Fields : T k_octet_Fields = some ⟨List.map (·.1) rs_octet_Fields, C2.erase c2_octet_Fields, none⟩
  t_record_number : T k_record_number = some ⟨List.map (·.1) rs_record_number, C2.erase c2_record_number, none⟩
  t_wal_Open : T k_wal_Open = some ⟨List.map (·.1) rs_wal_Open, C2.erase c2_wal_Open, none⟩
  t_super_Encode : T k_super_Encode = some ⟨List.map (·.1) rs_super_Encode, C2.erase c2_super_Encode, none⟩
  t_home_Encode : T k_home_Encode = some ⟨List.map (·.1) rs_home_Encode, C2.erase c2_home_Encode, none⟩
  t_sector_Disk_Read : T k_sector_Disk_Read = some ⟨List.map (·.1) rs_sector_Disk_Read, C2.erase c2_sector_Disk_Read, none⟩
  t_super_Decode : T k_super_Decode = some ⟨List.map (·.1) rs_super_Decode, C2.erase c2_super_Decode, none⟩
  t_record_laid : T k_record_laid = some ⟨List.map (·.1) rs_record_laid, C2.erase c2_record_laid, none⟩
  t_home_New : T k_home_New = some ⟨List.map (·.1) rs_home_New, C2.erase c2_home_New, none⟩
  t_scan_begin : T k_scan_begin = some ⟨List.map (·.1) rs_scan_begin, C2.erase c2_scan_begin, none⟩
  t_record_Decode : T k_record_Decode = some ⟨List.map (·.1) rs_record_Decode, C2.erase c2_record_Decode, none⟩
  t_record_Encode : T k_record_Encode = some ⟨List.map (·.1) rs_record_Encode, C2.erase c2_record_Encode, none⟩
  t_scan_stands : T k_scan_stands = some ⟨List.map (·.1) rs_scan_stands, C2.erase c2_scan_stands, none⟩
  t_wal_Log_write : T k_wal_Log_write = some ⟨List.map (·.1) rs_wal_Log_write, C2.erase c2_wal_Log_write, none⟩
  t_scan_Read : T k_scan_Read = some ⟨List.map (·.1) rs_scan_Read, C2.erase c2_scan_Read, none⟩
  t_wal_Log_Image : T k_wal_Log_Image = some ⟨List.map (·.1) rs_wal_Log_Image, C2.erase c2_wal_Log_Image, none⟩
  t_wal_Log_Commit : T k_wal_Log_Commit = some ⟨List.map (·.1) rs_wal_Log_Commit, C2.erase c2_wal_Log_Commit, none⟩
  t_w10_told : T k_w10_told = some ⟨List.map (·.1) rs_w10_told, C2.erase c2_w10_told, none⟩
  t_w10_ScanFinds : T k_w10_ScanFinds = some ⟨List.map (·.1) rs_w10_ScanFinds, C2.erase c2_w10_ScanFinds, none⟩
variable {T : Nat → Option AFun}
theorem ok_w10_awake (hT : LfT T) (n : Nat) : Sf1Ok T k_w10_awake (s_w10_awake n) := primOk_w10_awake hT.t_w10_awake n
theorem ok_w10_num (hT : LfT T) (n : Nat) : Sf1Ok T k_w10_num (s_w10_num n) := mkSf_ok (sf := sf_w10_num n) (it := it_w10_num n) (n := n) hT.t_w10_num sfOk_nil itOk_nil fun a h => e_w10_num n a.1 h
theorem ok_w10_plain (hT : LfT T) (n : Nat) : Sf1Ok T k_w10_plain (s_w10_plain n) := mkSf_ok (sf := sf_w10_plain n) (it := it_w10_plain n) (n := n) hT.t_w10_plain sfOk_nil itOk_nil fun a h => e_w10_plain n a.1 h
theorem ok_wal_Log_none (hT : LfT T) (n : Nat) : Sf1Ok T k_wal_Log_none (s_wal_Log_none n) := mkSf_ok (sf := sf_wal_Log_none n) (it := it_wal_Log_none n) (n := n) hT.t_wal_Log_none sfOk_nil itOk_nil fun a h => e_wal_Log_none n a.1 h
theorem ok_sector_Disk_Flush (hT : LfT T) (n : Nat) : Sf1Ok T k_sector_Disk_Flush (s_sector_Disk_Flush n) := mkSf_ok (sf := sf_sector_Disk_Flush n) (it := it_sector_Disk_Flush n) (n := n) hT.t_sector_Disk_Flush sfOk_nil itOk_nil fun a h => e_sector_Disk_Flush n a.1 h
theorem ok_w10_config_1 (hT : LfT T) (n : Nat) : Sf1Ok T k_w10_config_1 (s_w10_config_1 n) := mkSf_ok (sf := sf_w10_config_1 n) (it := it_w10_config_1 n) (n := n) hT.t_w10_config_1 sfOk_nil itOk_nil fun a h => e_w10_config_1 n a.1 a.2.1 h
theorem ok_r10_SameImages (hT : LfT T) (n : Nat) : Sf1Ok T k_r10_SameImages (s_r10_SameImages n) := mkSf_ok (sf := sf_r10_SameImages n) (it := it_r10_SameImages n) (n := n) hT.t_r10_SameImages sfOk_nil itOk_nil fun a h => e_r10_SameImages n a.1 a.2.1 h
theorem ok_octet_Join (hT : LfT T) (n : Nat) : Sf1Ok T k_octet_Join (s_octet_Join n) := mkSf_ok (sf := sf_octet_Join n) (it := it_octet_Join n) (n := n) hT.t_octet_Join sfOk_nil itOk_nil fun a h => e_octet_Join n a.1 h
theorem ok_sector_Load (hT : LfT T) (n : Nat) : Sf1Ok T k_sector_Load (s_sector_Load n) := mkSf_ok (sf := sf_sector_Load n) (it := it_sector_Load n) (n := n) hT.t_sector_Load sfOk_nil itOk_nil fun a h => e_sector_Load n a.1 h
theorem ok_sector_Disk_Len (hT : LfT T) (n : Nat) : Sf1Ok T k_sector_Disk_Len (s_sector_Disk_Len n) := mkSf_ok (sf := sf_sector_Disk_Len n) (it := it_sector_Disk_Len n) (n := n) hT.t_sector_Disk_Len sfOk_nil itOk_nil fun a h => e_sector_Disk_Len n a.1 h
theorem ok_wal_Log_End (hT : LfT T) (n : Nat) : Sf1Ok T k_wal_Log_End (s_wal_Log_End n) := mkSf_ok (sf := sf_wal_Log_End n) (it := it_wal_Log_End n) (n := n) hT.t_wal_Log_End sfOk_nil itOk_nil fun a h => e_wal_Log_End n a.1 h
theorem ok_wal_Log_Tail (hT : LfT T) (n : Nat) : Sf1Ok T k_wal_Log_Tail (s_wal_Log_Tail n) := mkSf_ok (sf := sf_wal_Log_Tail n) (it := it_wal_Log_Tail n) (n := n) hT.t_wal_Log_Tail sfOk_nil itOk_nil fun a h => e_wal_Log_Tail n a.1 h
theorem ok_ring_Span_1 (hT : LfT T) (n : Nat) : It1Ok T k_ring_Span_1 (i_ring_Span_1 n) := mkIt_ok (sf := sf_ring_Span_1 n) (it := it_ring_Span_1 n) (n := n) hT.t_ring_Span_1 sfOk_nil itOk_nil fun V hp up y a1 a2 v => e_ring_Span_1 hp up y n a2.1 a2.2.1 v
theorem ok_octet_Pad (hT : LfT T) (n : Nat) : Sf1Ok T k_octet_Pad (s_octet_Pad n) := mkSf_ok (sf := sf_octet_Pad n) (it := it_octet_Pad n) (n := n) hT.t_octet_Pad (sfOk_cons (ok_octet_Join hT n) sfOk_nil) itOk_nil fun a h => e_octet_Pad n a.1 a.2.1 h
theorem ok_home_block (hT : LfT T) (n : Nat) : Sf1Ok T k_home_block (s_home_block n) := mkSf_ok (sf := sf_home_block n) (it := it_home_block n) (n := n) hT.t_home_block sfOk_nil itOk_nil fun a h => e_home_block n a.1 h
theorem ok_super_within (hT : LfT T) (n : Nat) : Sf1Ok T k_super_within (s_super_within n) := mkSf_ok (sf := sf_super_within n) (it := it_super_within n) (n := n) hT.t_super_within sfOk_nil itOk_nil fun a h => e_super_within n a.1 a.2.1 h
theorem ok_sector_Disk_asked (hT : LfT T) (n : Nat) : Sf1Ok T k_sector_Disk_asked (s_sector_Disk_asked n) := mkSf_ok (sf := sf_sector_Disk_asked n) (it := it_sector_Disk_asked n) (n := n) hT.t_sector_Disk_asked sfOk_nil itOk_nil fun a h => e_sector_Disk_asked n a.1 a.2.1 h
theorem ok_slices_Clone_byte_byte (hT : LfT T) (n : Nat) : Sf1Ok T k_slices_Clone_byte_byte (s_slices_Clone_byte_byte n) := mkSf_ok (sf := sf_slices_Clone_byte_byte n) (it := it_slices_Clone_byte_byte n) (n := n) hT.t_slices_Clone_byte_byte sfOk_nil itOk_nil fun a h => e_slices_Clone_byte_byte n a.1 h
theorem ok_super_sizes (hT : LfT T) (n : Nat) : Sf1Ok T k_super_sizes (s_super_sizes n) := mkSf_ok (sf := sf_super_sizes n) (it := it_super_sizes n) (n := n) hT.t_super_sizes sfOk_nil itOk_nil fun a h => e_super_sizes n h
theorem ok_bytes_Equal (hT : LfT T) (n : Nat) : Sf1Ok T k_bytes_Equal (s_bytes_Equal n) := mkSf_ok (sf := sf_bytes_Equal n) (it := it_bytes_Equal n) (n := n) hT.t_bytes_Equal sfOk_nil itOk_nil fun a h => e_bytes_Equal n a.1 a.2.1 h
theorem ok_ring_round (hT : LfT T) (n : Nat) : Sf1Ok T k_ring_round (s_ring_round n) := mkSf_ok (sf := sf_ring_round n) (it := it_ring_round n) (n := n) hT.t_ring_round sfOk_nil itOk_nil fun a h => e_ring_round n a.1 h
theorem ok_record_Check (hT : LfT T) (n : Nat) : Sf1Ok T k_record_Check (s_record_Check n) := mkSf_ok (sf := sf_record_Check n) (it := it_record_Check n) (n := n) hT.t_record_Check sfOk_nil itOk_nil fun a h => e_record_Check n a.1 h
theorem ok_octet_may (hT : LfT T) (n : Nat) : Sf1Ok T k_octet_may (s_octet_may n) := mkSf_ok (sf := sf_octet_may n) (it := it_octet_may n) (n := n) hT.t_octet_may sfOk_nil itOk_nil fun a h => e_octet_may n a.1 h
theorem ok_sum_push (hT : LfT T) (n : Nat) : Sf1Ok T k_sum_push (s_sum_push n) := mkSf_ok (sf := sf_sum_push n) (it := it_sum_push n) (n := n) hT.t_sum_push sfOk_nil itOk_nil fun a h => e_sum_push n a.1 a.2.1 h
theorem ok_slices_Backward_sector_waiting_sector_waiting_1 (hT : LfT T) (n : Nat) : It1Ok T k_slices_Backward_sector_waiting_sector_waiting_1 (i_slices_Backward_sector_waiting_sector_waiting_1 n) := mkIt_ok (sf := sf_slices_Backward_sector_waiting_sector_waiting_1 n) (it := it_slices_Backward_sector_waiting_sector_waiting_1 n) (n := n) hT.t_slices_Backward_sector_waiting_sector_waiting_1 sfOk_nil itOk_nil fun V hp up y a1 a2 v => e_slices_Backward_sector_waiting_sector_waiting_1 hp up y n a2.1 v
theorem ok_octet_number (hT : LfT T) (n : Nat) : Sf1Ok T k_octet_number (s_octet_number n) := mkSf_ok (sf := sf_octet_number n) (it := it_octet_number n) (n := n) hT.t_octet_number sfOk_nil itOk_nil fun a h => e_octet_number n a.1 h
theorem ok_wal_Log_Flush (hT : LfT T) (n : Nat) : Sf1Ok T k_wal_Log_Flush (s_wal_Log_Flush n) := mkSf_ok (sf := sf_wal_Log_Flush n) (it := it_wal_Log_Flush n) (n := n) hT.t_wal_Log_Flush (sfOk_cons (ok_wal_Log_none hT n) (sfOk_cons (ok_sector_Disk_Flush hT n) sfOk_nil)) itOk_nil fun a h => e_wal_Log_Flush n a.1 h
theorem ok_w10_config (hT : LfT T) (n : Nat) : Sf1Ok T k_w10_config (s_w10_config n) := mkSf_ok (sf := sf_w10_config n) (it := it_w10_config n) (n := n) hT.t_w10_config (sfOk_cons (ok_w10_config_1 hT n) sfOk_nil) itOk_nil fun a h => e_w10_config n a.1 h
theorem ok_r10_Same (hT : LfT T) (n : Nat) : Sf1Ok T k_r10_Same (s_r10_Same n) := mkSf_ok (sf := sf_r10_Same n) (it := it_r10_Same n) (n := n) hT.t_r10_Same (sfOk_cons (ok_r10_SameImages hT n) sfOk_nil) itOk_nil fun a h => e_r10_Same n a.1 a.2.1 h
theorem ok_wal_Log_Used (hT : LfT T) (n : Nat) : Sf1Ok T k_wal_Log_Used (s_wal_Log_Used n) := mkSf_ok (sf := sf_wal_Log_Used n) (it := it_wal_Log_Used n) (n := n) hT.t_wal_Log_Used (sfOk_cons (ok_wal_Log_End hT n) (sfOk_cons (ok_wal_Log_Tail hT n) sfOk_nil)) itOk_nil fun a h => e_wal_Log_Used n a.1 h
theorem ok_ring_Span (hT : LfT T) (n : Nat) : Sf1Ok T k_ring_Span (s_ring_Span n) := mkSf_ok (sf := sf_ring_Span n) (it := it_ring_Span n) (n := n) hT.t_ring_Span sfOk_nil itOk_nil fun a h => e_ring_Span n a.1 a.2.1 h
theorem ok_super_Config (hT : LfT T) (n : Nat) : Sf1Ok T k_super_Config (s_super_Config n) := mkSf_ok (sf := sf_super_Config n) (it := it_super_Config n) (n := n) hT.t_super_Config (sfOk_cons (ok_super_within hT n) sfOk_nil) itOk_nil fun a h => e_super_Config n a.1 h
theorem ok_wal_Log_room (hT : LfT T) (n : Nat) : Sf1Ok T k_wal_Log_room (s_wal_Log_room n) := mkSf_ok (sf := sf_wal_Log_room n) (it := it_wal_Log_room n) (n := n) hT.t_wal_Log_room (sfOk_cons (ok_wal_Log_none hT n) (sfOk_cons (ok_wal_Log_Used hT n) sfOk_nil)) itOk_nil fun a h => e_wal_Log_room n a.1 h
theorem ok_ring_Slot (hT : LfT T) (n : Nat) : Sf1Ok T k_ring_Slot (s_ring_Slot n) := mkSf_ok (sf := sf_ring_Slot n) (it := it_ring_Slot n) (n := n) hT.t_ring_Slot (sfOk_cons (ok_ring_round hT n) sfOk_nil) itOk_nil fun a h => e_ring_Slot n a.1 a.2.1 h
theorem ok_super_Check (hT : LfT T) (n : Nat) : Sf1Ok T k_super_Check (s_super_Check n) := mkSf_ok (sf := sf_super_Check n) (it := it_super_Check n) (n := n) hT.t_super_Check (sfOk_cons (ok_super_Config hT n) sfOk_nil) itOk_nil fun a h => e_super_Check n a.1 h
theorem ok_octet_Put (hT : LfT T) (n : Nat) : Sf1Ok T k_octet_Put (s_octet_Put n) := mkSf_ok (sf := sf_octet_Put n) (it := it_octet_Put n) (n := n) hT.t_octet_Put (sfOk_cons (ok_octet_may hT n) sfOk_nil) itOk_nil fun a h => e_octet_Put n a.1 a.2.1 h
theorem ok_sum_Of (hT : LfT T) (n : Nat) : Sf1Ok T k_sum_Of (s_sum_Of n) := mkSf_ok (sf := sf_sum_Of n) (it := it_sum_Of n) (n := n) hT.t_sum_Of (sfOk_cons (ok_sum_push hT n) sfOk_nil) itOk_nil fun a h => e_sum_Of n a.1 h
theorem ok_wal_Log_sectorOf (hT : LfT T) (n : Nat) : Sf1Ok T k_wal_Log_sectorOf (s_wal_Log_sectorOf n) := mkSf_ok (sf := sf_wal_Log_sectorOf n) (it := it_wal_Log_sectorOf n) (n := n) hT.t_wal_Log_sectorOf (sfOk_cons (ok_ring_Slot hT n) sfOk_nil) itOk_nil fun a h => e_wal_Log_sectorOf n a.1 a.2.1 h
theorem ok_sector_Disk_Write (hT : LfT T) (n : Nat) : Sf1Ok T k_sector_Disk_Write (s_sector_Disk_Write n) := mkSf_ok (sf := sf_sector_Disk_Write n) (it := it_sector_Disk_Write n) (n := n) hT.t_sector_Disk_Write (sfOk_cons (ok_sector_Disk_asked hT n) sfOk_nil) itOk_nil fun a h => e_sector_Disk_Write n a.1 a.2.1 a.2.2.1 h
theorem ok_slices_Backward_sector_waiting_sector_waiting (hT : LfT T) (n : Nat) : Sf1Ok T k_slices_Backward_sector_waiting_sector_waiting (s_slices_Backward_sector_waiting_sector_waiting n) := mkSf_ok (sf := sf_slices_Backward_sector_waiting_sector_waiting n) (it := it_slices_Backward_sector_waiting_sector_waiting n) (n := n) hT.t_slices_Backward_sector_waiting_sector_waiting sfOk_nil itOk_nil fun a h => e_slices_Backward_sector_waiting_sector_waiting n a.1 h
theorem ok_octet_Fields (hT : LfT T) (n : Nat) : Sf1Ok T k_octet_Fields (s_octet_Fields n) := mkSf_ok (sf := sf_octet_Fields n) (it := it_octet_Fields n) (n := n) hT.t_octet_Fields (sfOk_cons (ok_octet_may hT n) (sfOk_cons (ok_octet_number hT n) (sfOk_cons (ok_octet_Join hT n) sfOk_nil))) itOk_nil fun a h => e_octet_Fields n a.1 a.2.1 h
theorem ok_record_number (hT : LfT T) (n : Nat) : Sf1Ok T k_record_number (s_record_number n) := mkSf_ok (sf := sf_record_number n) (it := it_record_number n) (n := n) hT.t_record_number (sfOk_cons (ok_octet_Put hT n) sfOk_nil) itOk_nil fun a h => e_record_number n a.1 a.2.1 h
theorem ok_wal_Open (hT : LfT T) (n : Nat) : Sf1Ok T k_wal_Open (s_wal_Open n) := mkSf_ok (sf := sf_wal_Open n) (it := it_wal_Open n) (n := n) hT.t_wal_Open (sfOk_cons (ok_super_Config hT n) (sfOk_cons (ok_sector_Disk_Len hT n) sfOk_nil)) itOk_nil fun a h => e_wal_Open n a.1 a.2.1 a.2.2.1 a.2.2.2.1 h
theorem ok_super_Encode (hT : LfT T) (n : Nat) : Sf1Ok T k_super_Encode (s_super_Encode n) := mkSf_ok (sf := sf_super_Encode n) (it := it_super_Encode n) (n := n) hT.t_super_Encode (sfOk_cons (ok_super_Check hT n) (sfOk_cons (ok_octet_Put hT n) (sfOk_cons (ok_octet_Pad hT n) (sfOk_cons (ok_sum_Of hT n) sfOk_nil)))) itOk_nil fun a h => e_super_Encode n a.1 h
theorem ok_home_Encode (hT : LfT T) (n : Nat) : Sf1Ok T k_home_Encode (s_home_Encode n) := mkSf_ok (sf := sf_home_Encode n) (it := it_home_Encode n) (n := n) hT.t_home_Encode (sfOk_cons (ok_home_block hT n) (sfOk_cons (ok_octet_Join hT n) (sfOk_cons (ok_sum_Of hT n) (sfOk_cons (ok_octet_Put hT n) sfOk_nil)))) itOk_nil fun a h => e_home_Encode n a.1 a.2.1 h
theorem ok_sector_Disk_Read (hT : LfT T) (n : Nat) : Sf1Ok T k_sector_Disk_Read (s_sector_Disk_Read n) := mkSf_ok (sf := sf_sector_Disk_Read n) (it := it_sector_Disk_Read n) (n := n) hT.t_sector_Disk_Read (sfOk_cons (ok_sector_Disk_asked hT n) (sfOk_cons (ok_slices_Backward_sector_waiting_sector_waiting hT n) (sfOk_cons (ok_slices_Clone_byte_byte hT n) sfOk_nil))) (itOk_cons (ok_slices_Backward_sector_waiting_sector_waiting_1 hT n) itOk_nil) fun a h => e_sector_Disk_Read n a.1 a.2.1 h
theorem ok_super_Decode (hT : LfT T) (n : Nat) : Sf1Ok T k_super_Decode (s_super_Decode n) := mkSf_ok (sf := sf_super_Decode n) (it := it_super_Decode n) (n := n) hT.t_super_Decode (sfOk_cons (ok_super_sizes hT n) (sfOk_cons (ok_octet_Fields hT n) (sfOk_cons (ok_super_Encode hT n) (sfOk_cons (ok_bytes_Equal hT n) sfOk_nil)))) itOk_nil fun a h => e_super_Decode n a.1 h
theorem ok_record_laid (hT : LfT T) (n : Nat) : Sf1Ok T k_record_laid (s_record_laid n) := mkSf_ok (sf := sf_record_laid n) (it := it_record_laid n) (n := n) hT.t_record_laid (sfOk_cons (ok_record_number hT n) (sfOk_cons (ok_octet_Join hT n) (sfOk_cons (ok_sum_Of hT n) sfOk_nil))) itOk_nil fun a h => e_record_laid n a.1 h
theorem ok_home_New (hT : LfT T) (n : Nat) : Sf1Ok T k_home_New (s_home_New n) := mkSf_ok (sf := sf_home_New n) (it := it_home_New n) (n := n) hT.t_home_New (sfOk_cons (ok_super_Encode hT n) (sfOk_cons (ok_home_Encode hT n) (sfOk_cons (ok_octet_Join hT n) (sfOk_cons (ok_sector_Load hT n) sfOk_nil)))) itOk_nil fun a h => e_home_New n a.1 h
theorem ok_scan_begin (hT : LfT T) (n : Nat) : Sf1Ok T k_scan_begin (s_scan_begin n) := mkSf_ok (sf := sf_scan_begin n) (it := it_scan_begin n) (n := n) hT.t_scan_begin (sfOk_cons (ok_super_Config hT n) (sfOk_cons (ok_sector_Disk_Len hT n) (sfOk_cons (ok_sector_Disk_Read hT n) (sfOk_cons (ok_super_Decode hT n) sfOk_nil)))) itOk_nil fun a h => e_scan_begin n a.1 a.2.1 h
theorem ok_record_Decode (hT : LfT T) (n : Nat) : Sf1Ok T k_record_Decode (s_record_Decode n) := mkSf_ok (sf := sf_record_Decode n) (it := it_record_Decode n) (n := n) hT.t_record_Decode (sfOk_cons (ok_octet_Fields hT n) (sfOk_cons (ok_record_Check hT n) (sfOk_cons (ok_record_laid hT n) (sfOk_cons (ok_bytes_Equal hT n) sfOk_nil)))) itOk_nil fun a h => e_record_Decode n a.1 h
theorem ok_record_Encode (hT : LfT T) (n : Nat) : Sf1Ok T k_record_Encode (s_record_Encode n) := mkSf_ok (sf := sf_record_Encode n) (it := it_record_Encode n) (n := n) hT.t_record_Encode (sfOk_cons (ok_record_Check hT n) (sfOk_cons (ok_record_laid hT n) sfOk_nil)) itOk_nil fun a h => e_record_Encode n a.1 h
theorem ok_scan_stands (hT : LfT T) (n : Nat) : Sf1Ok T k_scan_stands (s_scan_stands n) := mkSf_ok (sf := sf_scan_stands n) (it := it_scan_stands n) (n := n) hT.t_scan_stands (sfOk_cons (ok_ring_Slot hT n) (sfOk_cons (ok_sector_Disk_Read hT n) (sfOk_cons (ok_record_Decode hT n) sfOk_nil))) itOk_nil fun a h => e_scan_stands n a.1 a.2.1 a.2.2.1 h
theorem ok_wal_Log_write (hT : LfT T) (n : Nat) : Sf1Ok T k_wal_Log_write (s_wal_Log_write n) := mkSf_ok (sf := sf_wal_Log_write n) (it := it_wal_Log_write n) (n := n) hT.t_wal_Log_write (sfOk_cons (ok_record_Encode hT n) (sfOk_cons (ok_wal_Log_sectorOf hT n) (sfOk_cons (ok_sector_Disk_Write hT n) sfOk_nil))) itOk_nil fun a h => e_wal_Log_write n a.1 a.2.1 h
theorem ok_scan_Read (hT : LfT T) (n : Nat) : Sf1Ok T k_scan_Read (s_scan_Read n) := mkSf_ok (sf := sf_scan_Read n) (it := it_scan_Read n) (n := n) hT.t_scan_Read (sfOk_cons (ok_scan_begin hT n) (sfOk_cons (ok_ring_Span hT n) (sfOk_cons (ok_scan_stands hT n) sfOk_nil))) (itOk_cons (ok_ring_Span_1 hT n) itOk_nil) fun a h => e_scan_Read n a.1 a.2.1 h
theorem ok_wal_Log_Image (hT : LfT T) (n : Nat) : Sf1Ok T k_wal_Log_Image (s_wal_Log_Image n) := mkSf_ok (sf := sf_wal_Log_Image n) (it := it_wal_Log_Image n) (n := n) hT.t_wal_Log_Image (sfOk_cons (ok_wal_Log_room hT n) (sfOk_cons (ok_wal_Log_write hT n) sfOk_nil)) itOk_nil fun a h => e_wal_Log_Image n a.1 a.2.1 a.2.2.1 h
theorem ok_wal_Log_Commit (hT : LfT T) (n : Nat) : Sf1Ok T k_wal_Log_Commit (s_wal_Log_Commit n) := mkSf_ok (sf := sf_wal_Log_Commit n) (it := it_wal_Log_Commit n) (n := n) hT.t_wal_Log_Commit (sfOk_cons (ok_wal_Log_room hT n) (sfOk_cons (ok_wal_Log_write hT n) sfOk_nil)) itOk_nil fun a h => e_wal_Log_Commit n a.1 h
theorem ok_w10_told (hT : LfT T) (n : Nat) : Sf1Ok T k_w10_told (s_w10_told n) := mkSf_ok (sf := sf_w10_told n) (it := it_w10_told n) (n := n) hT.t_w10_told (sfOk_cons (ok_w10_config hT n) (sfOk_cons (ok_home_New hT n) (sfOk_cons (ok_w10_num hT n) (sfOk_cons (ok_wal_Open hT n) (sfOk_cons (ok_wal_Log_Used hT n) (sfOk_cons (ok_wal_Log_Image hT n) (sfOk_cons (ok_wal_Log_Commit hT n) sfOk_nil))))))) itOk_nil fun a h => e_w10_told n a.1 h
theorem ok_w10_ScanFinds (hT : LfT T) (n : Nat) : Sf1Ok T k_w10_ScanFinds (s_w10_ScanFinds n) := mkSf_ok (sf := sf_w10_ScanFinds n) (it := it_w10_ScanFinds n) (n := n) hT.t_w10_ScanFinds (sfOk_cons (ok_w10_awake hT n) (sfOk_cons (ok_w10_told hT n) (sfOk_cons (ok_wal_Log_Flush hT n) (sfOk_cons (ok_w10_num hT n) (sfOk_cons (ok_w10_config hT n) (sfOk_cons (ok_scan_Read hT n) (sfOk_cons (ok_w10_plain hT n) (sfOk_cons (ok_r10_Same hT n) sfOk_nil)))))))) itOk_nil fun a h => e_w10_ScanFinds n a.1 a.2.1 h
end Go.Proofs.YtdlfdieehioolaaDoor
