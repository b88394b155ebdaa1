/- The functions at hand, the second half. -/
import Derived.Test.YtjdbmfhjccaggaaDoorLHomeDiskA
namespace Go.Proofs.YtjdbmfhjccaggaaDoor
open Go
set_option linter.unusedVariables false
set_option maxRecDepth 100000
/- (*wicket/wicketlaw08.desk).same -/
def c2_w8_desk_same : C2 := .seq (.reg [rg 2 (.move (.const (.bool false))) .bool]) <|
 .seq (.reg [rg 5 (.move 0) .ptr, rg 6 (.nilCheck 5) .ptr, rg 7 (.fieldAddr 0 6) .ptr, rg 8 (.load false 1 7) .ptr, rg 9 (.call k_sector_Disk_Waiting [8]) .any, rg 3 (.move 9) .any]) <|
 .seq (.seq (.cutn [(37, .bool)] <|
 .regd [(⟨0, [], false, ⟨(some 10), .move 0, none⟩⟩, .ptr), (⟨1, [0], false, ⟨(some 11), .nilCheck 10, none⟩⟩, .ptr), (⟨2, [1, 0], false, ⟨(some 12), .fieldAddr 0 11, none⟩⟩, .ptr), (⟨3, [2, 1, 0], false, ⟨(some 13), .load false 1 12, none⟩⟩, .ptr), (⟨6, [], false, ⟨(some 16), .move 0, none⟩⟩, .ptr), (⟨7, [6], false, ⟨(some 17), .nilCheck 16, none⟩⟩, .ptr), (⟨8, [7, 6], false, ⟨(some 18), .fieldAddr 1 17, none⟩⟩, .ptr), (⟨9, [8, 7, 6], false, ⟨(some 19), .load false 1 18, none⟩⟩, .ptr), (⟨10, [9, 8, 7, 6], false, ⟨(some 20), .nilCheck 19, none⟩⟩, .ptr), (⟨11, [10, 9, 8, 7, 6], false, ⟨(some 21), .fieldAddr 0 20, none⟩⟩, .ptr), (⟨12, [11, 10, 9, 8, 7, 6], false, ⟨(some 22), .load false 1 21, none⟩⟩, .any), (⟨13, [12, 11, 10, 9, 8, 7, 6], false, ⟨(some 23), .toStr 22, none⟩⟩, .any), (⟨4, [3, 2, 1, 0], true, ⟨(some 14), .call k_sector_Disk_Image [13], none⟩⟩, .any), (⟨5, [4, 3, 2, 1, 0], false, ⟨(some 15), .toStr 14, none⟩⟩, .any), (⟨14, [5, 13, 4, 3, 2, 1, 0, 12, 11, 10, 9, 8, 7, 6], false, ⟨(some 24), .bins .neq 15 23, none⟩⟩, .bool), (⟨15, [14, 4, 5, 13, 3, 2, 1, 0, 12, 11, 10, 9, 8, 7, 6], false, ⟨(some 25), .move 24, none⟩⟩, .bool), (⟨16, [15, 14, 4, 5, 13, 3, 2, 1, 0, 12, 11, 10, 9, 8, 7, 6], false, ⟨(some 26), .move 3, some (25, false)⟩⟩, .any), (⟨17, [16, 15, 14, 4, 5, 13, 3, 2, 1, 0, 12, 11, 10, 9, 8, 7, 6], false, ⟨(some 27), .lenS 26, some (25, false)⟩⟩, (.int .i64)), (⟨18, [15, 14, 4, 5, 13, 3, 2, 1, 0, 12, 11, 10, 9, 8, 7, 6], false, ⟨(some 28), .move 0, some (25, false)⟩⟩, .ptr), (⟨19, [18, 15, 14, 4, 5, 13, 3, 2, 1, 0, 12, 11, 10, 9, 8, 7, 6], false, ⟨(some 29), .nilCheck 28, some (25, false)⟩⟩, .ptr), (⟨20, [19, 15, 18, 14, 4, 5, 13, 3, 2, 1, 0, 12, 11, 10, 9, 8, 7, 6], false, ⟨(some 30), .fieldAddr 1 29, some (25, false)⟩⟩, .ptr), (⟨21, [20, 15, 19, 18, 14, 4, 5, 13, 3, 2, 1, 0, 12, 11, 10, 9, 8, 7, 6], false, ⟨(some 31), .load false 1 30, some (25, false)⟩⟩, .ptr), (⟨22, [21, 15, 20, 19, 18, 14, 4, 5, 13, 3, 2, 1, 0, 12, 11, 10, 9, 8, 7, 6], false, ⟨(some 32), .nilCheck 31, some (25, false)⟩⟩, .ptr), (⟨23, [22, 15, 21, 20, 19, 18, 14, 4, 5, 13, 3, 2, 1, 0, 12, 11, 10, 9, 8, 7, 6], false, ⟨(some 33), .fieldAddr 1 32, some (25, false)⟩⟩, .ptr), (⟨24, [23, 15, 22, 21, 20, 19, 18, 14, 4, 5, 13, 3, 2, 1, 0, 12, 11, 10, 9, 8, 7, 6], false, ⟨(some 34), .load false 1 33, some (25, false)⟩⟩, .any), (⟨25, [24, 15, 23, 22, 21, 20, 19, 18, 14, 4, 5, 13, 3, 2, 1, 0, 12, 11, 10, 9, 8, 7, 6], false, ⟨(some 35), .lenS 34, some (25, false)⟩⟩, (.int .i64)), (⟨26, [17, 25, 15, 16, 14, 4, 5, 13, 3, 2, 1, 0, 12, 11, 10, 9, 8, 7, 6, 24, 23, 22, 21, 20, 19, 18], false, ⟨(some 36), .bin .neq 27 35, some (25, false)⟩⟩, .bool), (⟨27, [15, 26, 14, 4, 5, 13, 3, 2, 1, 0, 12, 11, 10, 9, 8, 7, 6, 17, 25, 16, 24, 23, 22, 21, 20, 19, 18], false, ⟨(some 37), .pick 25 (.const (.bool true)) 36, none⟩⟩, .bool)]) <|
 .cond 37 (.seq (.reg [rg 2 (.move (.const (.bool false))) .bool]) <|
 .ret) (.skip)) <|
 .seq (.seq (.reg [rg 4 (.move (.const (.int .i64 0))) .i]) <|
 .block 0 <|
 .loop [(4, .i)] <|
 .seq (.seq (.reg [rg 38 (.move 4) .i, rg 39 (.move 3) .any, rg 40 (.lenS 39) .i, rg 41 (.bin .lss 38 40) .bool]) <|
 .cond 41 (.skip) (.exit 0)) <|
 .seq (.block 1 <|
 .seq (.cutn [(81, .bool)] <|
 .regd [(⟨0, [], false, ⟨(some 44), .move 3, none⟩⟩, .any), (⟨1, [], false, ⟨(some 45), .move 4, none⟩⟩, (.int .i64)), (⟨2, [0, 1], false, ⟨(some 46), .idxSlice 2 44 45, none⟩⟩, .ptr), (⟨3, [2, 0, 1], false, ⟨(some 47), .fieldAddr 0 46, none⟩⟩, .ptr), (⟨4, [3, 2, 0, 1], false, ⟨(some 48), .load false 1 47, none⟩⟩, (.int .i64)), (⟨5, [], false, ⟨(some 49), .move 0, none⟩⟩, .ptr), (⟨6, [5], false, ⟨(some 50), .nilCheck 49, none⟩⟩, .ptr), (⟨7, [6, 5], false, ⟨(some 51), .fieldAddr 1 50, none⟩⟩, .ptr), (⟨8, [7, 6, 5], false, ⟨(some 52), .load false 1 51, none⟩⟩, .ptr), (⟨9, [8, 7, 6, 5], false, ⟨(some 53), .nilCheck 52, none⟩⟩, .ptr), (⟨10, [9, 8, 7, 6, 5], false, ⟨(some 54), .fieldAddr 1 53, none⟩⟩, .ptr), (⟨11, [10, 9, 8, 7, 6, 5], false, ⟨(some 55), .load false 1 54, none⟩⟩, .any), (⟨12, [], false, ⟨(some 56), .move 4, none⟩⟩, (.int .i64)), (⟨13, [11, 12, 10, 9, 8, 7, 6, 5], false, ⟨(some 57), .idxSlice 2 55 56, none⟩⟩, .ptr), (⟨14, [13, 11, 12, 10, 9, 8, 7, 6, 5], false, ⟨(some 58), .fieldAddr 0 57, none⟩⟩, .ptr), (⟨15, [14, 13, 11, 12, 10, 9, 8, 7, 6, 5], false, ⟨(some 59), .load false 1 58, none⟩⟩, (.int .i64)), (⟨16, [4, 15, 3, 2, 0, 1, 14, 13, 11, 12, 10, 9, 8, 7, 6, 5], false, ⟨(some 60), .bin .neq 48 59, none⟩⟩, .bool), (⟨17, [16, 4, 15, 3, 2, 0, 1, 14, 13, 11, 12, 10, 9, 8, 7, 6, 5], false, ⟨(some 61), .move 60, none⟩⟩, .bool), (⟨18, [17, 16, 4, 15, 3, 2, 0, 1, 14, 13, 11, 12, 10, 9, 8, 7, 6, 5], false, ⟨(some 62), .move 3, some (61, false)⟩⟩, .any), (⟨19, [17, 16, 4, 15, 3, 2, 0, 1, 14, 13, 11, 12, 10, 9, 8, 7, 6, 5], false, ⟨(some 63), .move 4, some (61, false)⟩⟩, (.int .i64)), (⟨20, [18, 19, 17, 16, 4, 15, 3, 2, 0, 1, 14, 13, 11, 12, 10, 9, 8, 7, 6, 5], false, ⟨(some 64), .idxSlice 2 62 63, some (61, false)⟩⟩, .ptr), (⟨21, [20, 17, 18, 19, 16, 4, 15, 3, 2, 0, 1, 14, 13, 11, 12, 10, 9, 8, 7, 6, 5], false, ⟨(some 65), .fieldAddr 1 64, some (61, false)⟩⟩, .ptr), (⟨22, [21, 17, 20, 18, 19, 16, 4, 15, 3, 2, 0, 1, 14, 13, 11, 12, 10, 9, 8, 7, 6, 5], false, ⟨(some 66), .load false 1 65, some (61, false)⟩⟩, .any), (⟨23, [22, 17, 21, 20, 18, 19, 16, 4, 15, 3, 2, 0, 1, 14, 13, 11, 12, 10, 9, 8, 7, 6, 5], false, ⟨(some 67), .toStr 66, some (61, false)⟩⟩, .any), (⟨24, [17, 16, 4, 15, 3, 2, 0, 1, 14, 13, 11, 12, 10, 9, 8, 7, 6, 5], false, ⟨(some 68), .move 0, some (61, false)⟩⟩, .ptr), (⟨25, [24, 17, 16, 4, 15, 3, 2, 0, 1, 14, 13, 11, 12, 10, 9, 8, 7, 6, 5], false, ⟨(some 69), .nilCheck 68, some (61, false)⟩⟩, .ptr), (⟨26, [25, 17, 24, 16, 4, 15, 3, 2, 0, 1, 14, 13, 11, 12, 10, 9, 8, 7, 6, 5], false, ⟨(some 70), .fieldAddr 1 69, some (61, false)⟩⟩, .ptr), (⟨27, [26, 17, 25, 24, 16, 4, 15, 3, 2, 0, 1, 14, 13, 11, 12, 10, 9, 8, 7, 6, 5], false, ⟨(some 71), .load false 1 70, some (61, false)⟩⟩, .ptr), (⟨28, [27, 17, 26, 25, 24, 16, 4, 15, 3, 2, 0, 1, 14, 13, 11, 12, 10, 9, 8, 7, 6, 5], false, ⟨(some 72), .nilCheck 71, some (61, false)⟩⟩, .ptr), (⟨29, [28, 17, 27, 26, 25, 24, 16, 4, 15, 3, 2, 0, 1, 14, 13, 11, 12, 10, 9, 8, 7, 6, 5], false, ⟨(some 73), .fieldAddr 1 72, some (61, false)⟩⟩, .ptr), (⟨30, [29, 17, 28, 27, 26, 25, 24, 16, 4, 15, 3, 2, 0, 1, 14, 13, 11, 12, 10, 9, 8, 7, 6, 5], false, ⟨(some 74), .load false 1 73, some (61, false)⟩⟩, .any), (⟨31, [17, 16, 4, 15, 3, 2, 0, 1, 14, 13, 11, 12, 10, 9, 8, 7, 6, 5], false, ⟨(some 75), .move 4, some (61, false)⟩⟩, (.int .i64)), (⟨32, [30, 31, 17, 29, 28, 27, 26, 25, 24, 16, 4, 15, 3, 2, 0, 1, 14, 13, 11, 12, 10, 9, 8, 7, 6, 5], false, ⟨(some 76), .idxSlice 2 74 75, some (61, false)⟩⟩, .ptr), (⟨33, [32, 17, 30, 31, 29, 28, 27, 26, 25, 24, 16, 4, 15, 3, 2, 0, 1, 14, 13, 11, 12, 10, 9, 8, 7, 6, 5], false, ⟨(some 77), .fieldAddr 1 76, some (61, false)⟩⟩, .ptr), (⟨34, [33, 17, 32, 30, 31, 29, 28, 27, 26, 25, 24, 16, 4, 15, 3, 2, 0, 1, 14, 13, 11, 12, 10, 9, 8, 7, 6, 5], false, ⟨(some 78), .load false 1 77, some (61, false)⟩⟩, .any), (⟨35, [34, 17, 33, 32, 30, 31, 29, 28, 27, 26, 25, 24, 16, 4, 15, 3, 2, 0, 1, 14, 13, 11, 12, 10, 9, 8, 7, 6, 5], false, ⟨(some 79), .toStr 78, some (61, false)⟩⟩, .any), (⟨36, [23, 35, 17, 22, 21, 20, 18, 19, 16, 4, 15, 3, 2, 0, 1, 14, 13, 11, 12, 10, 9, 8, 7, 6, 5, 34, 33, 32, 30, 31, 29, 28, 27, 26, 25, 24], false, ⟨(some 80), .bins .neq 67 79, some (61, false)⟩⟩, .bool), (⟨37, [17, 36, 16, 4, 15, 3, 2, 0, 1, 14, 13, 11, 12, 10, 9, 8, 7, 6, 5, 23, 35, 22, 21, 20, 18, 19, 34, 33, 32, 30, 31, 29, 28, 27, 26, 25, 24], false, ⟨(some 81), .pick 61 (.const (.bool true)) 80, none⟩⟩, .bool)]) <|
 .cond 81 (.seq (.reg [rg 2 (.move (.const (.bool false))) .bool]) <|
 .ret) (.skip)) <|
 .reg [rg 42 (.move 4) .i, rg 43 (.bin .add 42 (.const (.int .i64 1))) .i, rg 4 (.move 43) .i]) <|
 .seq (.reg [rg 2 (.move (.const (.bool true))) .bool]) <|
 .ret
def f_w8_desk_same_L44 (n : Nat) (u0 : Option Addr) (p2 : ((Value × Unit) × Heap)) (v21 : Int) (h22 : Heap) : Option (((Int × Unit) × Heap) ⊕ ((Bool × Unit) × Heap)) :=
  (lenB p2.1.1).bind fun n23 =>
  bif (decide (v21 < (n23 : Int))) then
    ((((ixB 2 p2.1.1 v21).bind fun q24 =>
      (ldT (.int .i64) h22 (some (fa q24 0))).bind fun x25 =>
      (u0).bind fun q26 =>
      (ldT .ptr h22 (some (fa q26 1))).bind fun x27 =>
      (x27).bind fun q28 =>
      (ldT .any h22 (some (fa q28 1))).bind fun x29 =>
      (ixB 2 x29 v21).bind fun q30 =>
      (ldT (.int .i64) h22 (some (fa q30 0))).bind fun x31 =>
      bif (!decide (x25 = x31)) then
        (some ((true, ()), h22))
      else
        ((ixB 2 p2.1.1 v21).bind fun q32 =>
        (ldT .any h22 (some (fa q32 1))).bind fun x33 =>
        (toStrK h22 x33).bind fun p34 =>
        (u0).bind fun q35 =>
        (ldT .ptr h22 (some (fa q35 1))).bind fun x36 =>
        (x36).bind fun q37 =>
        (ldT .any h22 (some (fa q37 1))).bind fun x38 =>
        (ixB 2 x38 v21).bind fun q39 =>
        (ldT .any h22 (some (fa q39 1))).bind fun x40 =>
        (toStrK h22 x40).bind fun p41 =>
        (binsT .bool h22 .neq p34.1 p41.1).bind fun x42 =>
        some ((x42, ()), h22))) : Option ((Bool × Unit) × Heap)).bind fun a43 =>
    bif a43.1.1 then
      (some (.inr ((false, ()), a43.2)))
    else
      (some (.inl (((IntKind.i64.wrap (v21 + 1)), ()), a43.2))))
  else
    (some (.inr ((true, ()), h22)))
noncomputable def sf_w8_desk_same (n : Nat) : Sf := sfOf [(k_sector_Disk_Waiting, s_sector_Disk_Waiting n), (k_sector_Disk_Image, s_sector_Disk_Image n)]
noncomputable def it_w8_desk_same (n : Nat) : It := itOf []
def f_w8_desk_same (n : Nat) (u0 : Option Addr) (h : Heap) : Option ((Bool × Unit) × Heap) :=
  (u0).bind fun q0 =>
  (ldT .ptr h (some (fa q0 0))).bind fun x1 =>
  (f_sector_Disk_Waiting n x1 h).bind fun p2 =>
  (((u0).bind fun q3 =>
    (ldT .ptr p2.2 (some (fa q3 0))).bind fun x4 =>
    (u0).bind fun q5 =>
    (ldT .ptr p2.2 (some (fa q5 1))).bind fun x6 =>
    (x6).bind fun q7 =>
    (ldT .any p2.2 (some (fa q7 0))).bind fun x8 =>
    (toStrK p2.2 x8).bind fun p9 =>
    (f_sector_Disk_Image n x4 (hid p2.2 [] (strReads x8 ++ ((Addr.block (fa q7 0)) :: ((Addr.block (fa q5 1)) :: []))))).bind fun p10 =>
    bnd (Heap.putBack p10.2 p2.2 ([] ++ (strReads x8 ++ ((Addr.block (fa q7 0)) :: ((Addr.block (fa q5 1)) :: []))))) fun h11 =>
    (toStrK h11 p10.1.1).bind fun p12 =>
    (binsT .bool h11 .neq p12.1 p9.1).bind fun x13 =>
    bif x13 then
      (some ((true, ()), h11))
    else
      ((lenB p2.1.1).bind fun n14 =>
      (u0).bind fun q15 =>
      (ldT .ptr h11 (some (fa q15 1))).bind fun x16 =>
      (x16).bind fun q17 =>
      (ldT .any h11 (some (fa q17 1))).bind fun x18 =>
      (lenB x18).bind fun n19 =>
      some (((!decide ((n14 : Int) = (n19 : Int))), ()), h11))) : Option ((Bool × Unit) × Heap)).bind fun a20 =>
  bif a20.1.1 then
    (some ((false, ()), a20.2))
  else
    (loopT (fun a => f_w8_desk_same_L44 n u0 p2 a.1.1 a.2) n ((0, ()), a20.2))
def rs_w8_desk_same : Rs := [(.tmp 2, .bool)]
def ps_w8_desk_same : List Ty := [.ptr]
theorem e_w8_desk_same (n : Nat) (u0 : Option Addr) (h : Heap) : f_w8_desk_same n u0 h = fB (sf_w8_desk_same n) (it_w8_desk_same n) n c2_w8_desk_same rs_w8_desk_same ps_w8_desk_same (u0, ()) h := by kernel_rfl
noncomputable def s_w8_desk_same (n : Nat) : Sf1 := mkSf ps_w8_desk_same rs_w8_desk_same fun a h => f_w8_desk_same n a.1 h
/- wicket/home.Encode -/
def c2_home_Encode : C2 := .seq (.reg [rg 3 (.box 1) .ptr, rg 4 (.move (.const (.slice none 0 0))) .any, rg 5 (.move (.const (.int .i64 0))) .i]) <|
 .seq (.seq (.reg [rg 9 (.move 0) .i, rg 10 (.call k_home_block [9]) .bool, rg 11 (.un .not 10) .bool]) <|
 .cond 11 (.seq (.reg [rg 4 (.move (.const (.slice none 0 0))) .any, rg 5 (.move (.const (.int .i64 51))) .i]) <|
 .ret) (.skip)) <|
 .seq (.reg [rg 12 (.buildSlice 4 1 (List.replicate 4 (.int .u8 0)) [(0, 1, (.const (.int .u8 72))), (1, 1, (.const (.int .u8 79))), (2, 1, (.const (.int .u8 77))), (3, 1, (.const (.int .u8 69)))]) .any, rg 13 (.markS 12) .any, rg 14 (.move 0) .i, rg 15 (.conv .u8 14) .u, rg 16 (.buildSlice 2 1 [(.int .u8 0), (.int .u8 0)] [(0, 1, (.const (.int .u8 1))), (1, 1, 15)]) .any, rg 17 (.buildSlice 2 1 [(.slice none 0 0), (.slice none 0 0)] [(0, 1, 13), (1, 1, 16)]) .any, rg 18 (.call k_octet_Join [17]) .any, rg 6 (.move 18) .any]) <|
 .seq (.regd [(⟨0, [], false, ⟨(some 19), .move 6, none⟩⟩, .any), (⟨1, [], false, ⟨(some 20), .move 6, none⟩⟩, .any), (⟨2, [1], false, ⟨(some 21), .lenS 20, none⟩⟩, (.int .i64)), (⟨3, [2, 1], false, ⟨(some 22), .bin .sub (.const (.int .i64 28)) 21, none⟩⟩, (.int .i64)), (⟨4, [3, 2, 1], false, ⟨(some 23), .makeSlice 1 1 [(.int .u8 0)] 22 22, none⟩⟩, .any), (⟨5, [], false, ⟨(some 24), .sliceArr 32 1 3 none none none, none⟩⟩, .any), (⟨6, [0, 4, 5, 3, 2, 1], false, ⟨(some 25), .buildSlice 3 1 [(.slice none 0 0), (.slice none 0 0), (.slice none 0 0)] [(0, 1, 19), (1, 1, 23), (2, 1, 24)], none⟩⟩, .any), (⟨7, [6, 0, 4, 5, 3, 2, 1], true, ⟨(some 26), .call k_octet_Join [25], none⟩⟩, .any), (⟨8, [7, 0, 1, 2, 3, 4, 5, 6], true, ⟨(some 6), .move 26, none⟩⟩, .any)]) <|
 .seq (.reg [rg 28 (.move 6) .any, rg 29 (.buildSlice 1 1 [(.slice none 0 0)] [(0, 1, 28)]) .any, rg 30 (.call k_sum_Of [29]) (.int .u32), rg 31 (.conv .u64 30) (.int .u64), rg 32 (.call k_octet_Put [31, (.const (.int .i64 4))]) .any, rg 27 (.move 32) .any, rg 33 (.extract 27 0) .any, rg 34 (.extract 27 1) .i, rg 7 (.move 33) .any, rg 8 (.move 34) .i]) <|
 .seq (.reg [rg 35 (.move 6) .any, rg 36 (.move 7) .any, rg 37 (.buildSlice 2 1 [(.slice none 0 0), (.slice none 0 0)] [(0, 1, 35), (1, 1, 36)]) .any, rg 38 (.call k_octet_Join [37]) .any, rg 39 (.move 8) .i, rg 4 (.move 38) .any, rg 5 (.move 39) .i]) <|
 .ret
noncomputable def sf_home_Encode (n : Nat) : Sf := sfOf [(k_home_block, s_home_block n), (k_octet_Join, s_octet_Join n), (k_sum_Of, s_sum_Of n), (k_octet_Put, s_octet_Put n)]
noncomputable def it_home_Encode (n : Nat) : It := itOf []
def f_home_Encode (n : Nat) (u0 : Int) (u1 : Value) (h : Heap) : Option ((Value × Int × Unit) × Heap) :=
  bif (cellsOf u1).all isCell then
    (bnd ((Heap.new h (.cells (cellsOf u1) false 0))) fun h0 =>
    (f_home_block n u0 h0).bind fun p1 =>
    bif (!p1.1.1) then
      (some (((.slice none 0 0), (51, ())), p1.2))
    else
      ((fillL (List.replicate 4 (.int .u8 0)) [(0, 1, (.int .u8 72)), (1, 1, (.int .u8 79)), (2, 1, (.int .u8 77)), (3, 1, (.int .u8 69))]).bind fun cs2 =>
      bnd ((Heap.new p1.2 (.cells cs2 false 1))) fun h3 =>
      (markSK h3 (.slice (some ⟨Heap.next p1.2, 0, some 0⟩) 4 4)).bind fun p4 =>
      (fillL [(.int .u8 0), (.int .u8 0)] [(0, 1, (.int .u8 1)), (1, 1, (.int .u8 (IntKind.u8.wrap (u0))))]).bind fun cs5 =>
      bnd ((Heap.new p4.2 (.cells cs5 false 1))) fun h6 =>
      (fillL [(.slice none 0 0), (.slice none 0 0)] [(0, 1, p4.1), (1, 1, (.slice (some ⟨Heap.next p4.2, 0, some 0⟩) 2 2))]).bind fun cs7 =>
      bnd ((Heap.new h6 (.cells cs7 false 1))) fun h8 =>
      (f_octet_Join n (.slice (some ⟨Heap.next h6, 0, some 0⟩) 2 2) h8).bind fun p9 =>
      (lenB p9.1.1).bind fun n10 =>
      (mkSl (Heap.next p9.2) 1 1 [(.int .u8 0)] (.int .i64 (IntKind.i64.wrap (28 - (n10 : Int)))) (.int .i64 (IntKind.i64.wrap (28 - (n10 : Int))))).bind fun p11 =>
      bnd ((Heap.new p9.2 (p11.2))) fun h12 =>
      (sliceArrK (Heap.dropAll h12 ((Heap.next p9.2) :: [])) 32 1 none none (.pointer (some (nwA h)))).bind fun p13 =>
      (fillL [(.slice none 0 0), (.slice none 0 0), (.slice none 0 0)] [(0, 1, p9.1.1), (1, 1, p11.1), (2, 1, p13.1)]).bind fun cs14 =>
      bnd ((Heap.new h12 (.cells cs14 false 1))) fun h15 =>
      (f_octet_Join n (.slice (some ⟨Heap.next h12, 0, some 0⟩) 3 3) h15).bind fun p16 =>
      (fillL [(.slice none 0 0)] [(0, 1, p16.1.1)]).bind fun cs17 =>
      bnd ((Heap.new p16.2 (.cells cs17 false 1))) fun h18 =>
      (f_sum_Of n (.slice (some ⟨Heap.next p16.2, 0, some 0⟩) 1 1) h18).bind fun p19 =>
      (f_octet_Put n (IntKind.u64.wrap (p19.1.1)) 4 p19.2).bind fun p20 =>
      (fillL [(.slice none 0 0), (.slice none 0 0)] [(0, 1, p16.1.1), (1, 1, p20.1.1)]).bind fun cs21 =>
      bnd ((Heap.new p20.2 (.cells cs21 false 1))) fun h22 =>
      (f_octet_Join n (.slice (some ⟨Heap.next p20.2, 0, some 0⟩) 2 2) h22).bind fun p23 =>
      bif !isTuple p23.1.1 then
        (some ((p23.1.1, (p20.1.2.1, ())), p23.2))
      else
        (none)))
  else
    (none)
def rs_home_Encode : Rs := [(.tmp 4, .any), (.tmp 5, (.int .i64))]
def ps_home_Encode : List Ty := [(.int .i64), .any]
theorem e_home_Encode (n : Nat) (u0 : Int) (u1 : Value) (h : Heap) : f_home_Encode n u0 u1 h = fB (sf_home_Encode n) (it_home_Encode n) n c2_home_Encode rs_home_Encode ps_home_Encode (u0, (u1, ())) h := by kernel_rfl
noncomputable def s_home_Encode (n : Nat) : Sf1 := mkSf ps_home_Encode rs_home_Encode fun a h => f_home_Encode n a.1 a.2.1 h
/- wicket/home.Decode -/
def c2_home_Decode : C2 := .seq (.reg [rg 4 (.alloc (List.replicate 32 (.int .u8 0))) .ptr, rg 5 (.move (.const (.int .i64 0))) .i]) <|
 .seq (.block 0 <|
 .seq (.reg [rg 10 (.move 1) .i, rg 11 (.call k_home_block [10]) .bool, rg 12 (.un .not 11) .bool, rg 9 (.move 12) .bool]) <|
 .cond 9 (.seq (.reg [rg 13 (.build (List.replicate 32 (.int .u8 0)) []) .any, rn (.store 32 4 13) .any, rg 5 (.move (.const (.int .i64 51))) .i]) <|
 .ret) (.seq (.reg [rg 15 (.move 0) .any, rg 16 (.lenS 15) .i, rg 17 (.bin .neq 16 (.const (.int .i64 64))) .bool, rg 14 (.move 17) .bool]) <|
 .cond 14 (.seq (.reg [rg 18 (.build (List.replicate 32 (.int .u8 0)) []) .any, rn (.store 32 4 18) .any, rg 5 (.move (.const (.int .i64 2))) .i]) <|
 .ret) (.skip))) <|
 .seq (.reg [rg 19 (.move 0) .any, rg 20 (.slice 1 19 (some (.const (.int .i64 28))) (some (.const (.int .i64 60))) none) .any, rg 21 (.arrAt 32 20) .ptr, rg 22 (.load true 32 21) .any, rg 6 (.alloc (List.replicate 32 (.int .u8 0))) .ptr, rn (.store 32 6 22) .any]) <|
 .seq (.reg [rg 24 (.move 1) .i, rg 25 (.load true 32 6) .any, rg 26 (.call k_home_Encode [24, 25]) .any, rg 23 (.move 26) .any, rg 27 (.extract 23 0) .any, rg 28 (.extract 23 1) .i, rg 7 (.move 27) .any, rg 8 (.move 28) .i]) <|
 .seq (.seq (.cutn [(39, .bool)] <|
 .regd [(⟨0, [], false, ⟨(some 29), .move 8, none⟩⟩, (.int .i64)), (⟨1, [0], false, ⟨(some 30), .bin .neq 29 (.const (.int .i64 0)), none⟩⟩, .bool), (⟨2, [1, 0], false, ⟨(some 31), .move 30, none⟩⟩, .bool), (⟨3, [2, 1, 0], false, ⟨(some 32), .move 7, some (31, false)⟩⟩, .any), (⟨4, [3, 2, 1, 0], false, ⟨(some 33), .arrAt 64 32, some (31, false)⟩⟩, .ptr), (⟨5, [4, 2, 3, 1, 0], false, ⟨(some 34), .load true 64 33, some (31, false)⟩⟩, .any), (⟨6, [2, 1, 0], false, ⟨(some 35), .move 0, some (31, false)⟩⟩, .any), (⟨7, [6, 2, 1, 0], false, ⟨(some 36), .arrAt 64 35, some (31, false)⟩⟩, .ptr), (⟨8, [7, 2, 6, 1, 0], false, ⟨(some 37), .load true 64 36, some (31, false)⟩⟩, .any), (⟨9, [5, 8, 2, 4, 3, 1, 0, 7, 6], false, ⟨(some 38), .eqv true (.agg (List.replicate 64 false)) 34 37, some (31, false)⟩⟩, .bool), (⟨10, [2, 9, 1, 0, 5, 8, 4, 3, 7, 6], false, ⟨(some 39), .pick 31 (.const (.bool true)) 38, none⟩⟩, .bool)]) <|
 .cond 39 (.seq (.reg [rg 40 (.build (List.replicate 32 (.int .u8 0)) []) .any, rn (.store 32 4 40) .any, rg 5 (.move (.const (.int .i64 80))) .i]) <|
 .ret) (.skip)) <|
 .seq (.reg [rg 41 (.load true 32 6) .any, rn (.store 32 4 41) .any, rg 5 (.move (.const (.int .i64 0))) .i]) <|
 .ret
noncomputable def sf_home_Decode (n : Nat) : Sf := sfOf [(k_home_block, s_home_block n), (k_home_Encode, s_home_Encode n)]
noncomputable def it_home_Decode (n : Nat) : It := itOf []
def f_home_Decode (n : Nat) (u0 : Value) (u1 : Int) (h : Heap) : Option ((Value × Int × Unit) × Heap) :=
  bnd ((Heap.new h (.cells (List.replicate 32 (.int .u8 0)) false 0))) fun h0 =>
  (f_home_block n u1 h0).bind fun p1 =>
  bif (!p1.1.1) then
    ((fillL (List.replicate 32 (.int .u8 0)) []).bind fun cs2 =>
    (stB 32 (.agg ⟨cs2⟩) p1.2 (some (nwA h))).bind fun h3 =>
    (ldA 32 h3 (some (nwA h))).bind fun cs4 =>
    some (((.agg ⟨cs4⟩), (51, ())), h3))
  else
    ((lenB u0).bind fun n5 =>
    bif (!decide ((n5 : Int) = 64)) then
      ((fillL (List.replicate 32 (.int .u8 0)) []).bind fun cs6 =>
      (stB 32 (.agg ⟨cs6⟩) p1.2 (some (nwA h))).bind fun h7 =>
      (ldA 32 h7 (some (nwA h))).bind fun cs8 =>
      some (((.agg ⟨cs8⟩), (2, ())), h7))
    else
      ((sliceK p1.2 1 (some (.int .i64 28)) (some (.int .i64 60)) none u0).bind fun p9 =>
      (arrB p1.2 32 p9.1).bind fun q10 =>
      (ldA 32 p1.2 q10).bind fun cs11 =>
      bnd ((Heap.new p1.2 (.cells (List.replicate 32 (.int .u8 0)) false 0))) fun h12 =>
      (stB 32 (.agg ⟨cs11⟩) h12 (some (nwA p1.2))).bind fun h13 =>
      (ldA 32 h13 (some (nwA p1.2))).bind fun cs14 =>
      (f_home_Encode n u1 (.agg ⟨cs14⟩) h13).bind fun p15 =>
      ((bif (!decide (p15.1.2.1 = 0)) then
          (some ((true, ()), p15.2))
        else
          ((arrB p15.2 64 p15.1.1).bind fun q16 =>
          (ldA 64 p15.2 q16).bind fun cs17 =>
          (arrB p15.2 64 u0).bind fun q18 =>
          (ldA 64 p15.2 q18).bind fun cs19 =>
          (eqVals p15.2 (.agg (List.replicate 64 false)) (.agg ⟨cs17⟩) (.agg ⟨cs19⟩)).bind fun b20 =>
          some (((!b20), ()), p15.2))) : Option ((Bool × Unit) × Heap)).bind fun a21 =>
      bif a21.1.1 then
        ((fillL (List.replicate 32 (.int .u8 0)) []).bind fun cs22 =>
        (stB 32 (.agg ⟨cs22⟩) a21.2 (some (nwA h))).bind fun h23 =>
        (ldA 32 h23 (some (nwA h))).bind fun cs24 =>
        some (((.agg ⟨cs24⟩), (80, ())), h23))
      else
        ((ldA 32 a21.2 (some (nwA p1.2))).bind fun cs25 =>
        (stB 32 (.agg ⟨cs25⟩) a21.2 (some (nwA h))).bind fun h26 =>
        (ldA 32 h26 (some (nwA h))).bind fun cs27 =>
        some (((.agg ⟨cs27⟩), (0, ())), h26))))
def rs_home_Decode : Rs := [(.cell true 32 4, .any), (.tmp 5, (.int .i64))]
def ps_home_Decode : List Ty := [.any, (.int .i64)]
theorem e_home_Decode (n : Nat) (u0 : Value) (u1 : Int) (h : Heap) : f_home_Decode n u0 u1 h = fB (sf_home_Decode n) (it_home_Decode n) n c2_home_Decode rs_home_Decode ps_home_Decode (u0, (u1, ())) h := by kernel_rfl
noncomputable def s_home_Decode (n : Nat) : Sf1 := mkSf ps_home_Decode rs_home_Decode fun a h => f_home_Decode n a.1 a.2.1 h
/- (*wicket/sector.Disk).Read -/
def c2_sector_Disk_Read : C2 := .seq (.reg [rg 3 (.box 1) .ptr, rg 4 (.alloc [(.slice none 0 0)]) .ptr, rg 5 (.alloc [(.int .i64 0)]) .ptr]) <|
 .seq (.seq (.reg [rg 9 (.move 0) .ptr, rg 10 (.load false 1 3) .i, rg 11 (.call k_sector_Disk_asked [9, 10]) .i, rg 6 (.move 11) .i]) <|
 .seq (.reg [rg 12 (.move 6) .i, rg 13 (.bin .neq 12 (.const (.int .i64 0))) .bool]) <|
 .cond 13 (.seq (.reg [rg 14 (.move 6) .i, rn (.store 1 4 (.const (.slice none 0 0))) .any, rn (.store 1 5 14) .any]) <|
 .ret) (.skip)) <|
 .seq (.seq (.reg [rg 15 (.move 0) .ptr, rg 16 (.nilCheck 15) .ptr, rg 17 (.fieldAddr 1 16) .ptr, rg 18 (.load false 1 17) .any, rg 19 (.call k_slices_Backward_sector_waiting_sector_waiting [18]) (.fn k_slices_Backward_sector_waiting_sector_waiting_1 1)]) <|
 .block 0 <|
 .range 19 [20, 21] [.ret] (.reg [rg 8 (.alloc [(.int .i64 0), (.int .u8 0), (.int .u8 0), (.int .u8 0), (.int .u8 0), (.int .u8 0), (.int .u8 0), (.int .u8 0), (.int .u8 0), (.int .u8 0), (.int .u8 0), (.int .u8 0), (.int .u8 0), (.int .u8 0), (.int .u8 0), (.int .u8 0), (.int .u8 0), (.int .u8 0), (.int .u8 0), (.int .u8 0), (.int .u8 0), (.int .u8 0), (.int .u8 0), (.int .u8 0), (.int .u8 0), (.int .u8 0), (.int .u8 0), (.int .u8 0), (.int .u8 0), (.int .u8 0), (.int .u8 0), (.int .u8 0), (.int .u8 0), (.int .u8 0), (.int .u8 0), (.int .u8 0), (.int .u8 0), (.int .u8 0), (.int .u8 0), (.int .u8 0), (.int .u8 0), (.int .u8 0), (.int .u8 0), (.int .u8 0), (.int .u8 0), (.int .u8 0), (.int .u8 0), (.int .u8 0), (.int .u8 0), (.int .u8 0), (.int .u8 0), (.int .u8 0), (.int .u8 0), (.int .u8 0), (.int .u8 0), (.int .u8 0), (.int .u8 0), (.int .u8 0), (.int .u8 0), (.int .u8 0), (.int .u8 0), (.int .u8 0), (.int .u8 0), (.int .u8 0), (.int .u8 0)]) .ptr, rn (.store 65 8 21) .any]) (.block 1 <|
 .seq (.reg [rg 22 (.fieldAddr 0 8) .ptr, rg 23 (.load false 1 22) .i, rg 24 (.load false 1 3) .i, rg 25 (.bin .eql 23 24) .bool]) <|
 .cond 25 (.seq (.reg [rg 26 (.fieldAddr 1 8) .ptr, rg 27 (.sliceArr 64 1 26 none none none) .any, rg 28 (.call k_slices_Clone_byte_byte [27]) .any, rn (.store 1 4 28) .any, rn (.store 1 5 (.const (.int .i64 0))) .any]) <|
 .ret) (.skip))) <|
 .seq (.regd [(⟨0, [], false, ⟨(some 29), .move 0, none⟩⟩, .ptr), (⟨1, [0], false, ⟨(some 30), .nilCheck 29, none⟩⟩, .ptr), (⟨2, [1, 0], false, ⟨(some 31), .fieldAddr 0 30, none⟩⟩, .ptr), (⟨3, [2, 1, 0], false, ⟨(some 32), .load false 1 31, none⟩⟩, .any), (⟨4, [], false, ⟨(some 33), .load false 1 3, none⟩⟩, (.int .i64)), (⟨5, [3, 4, 2, 1, 0], false, ⟨(some 34), .idxSlice 64 32 33, none⟩⟩, .ptr), (⟨6, [5, 3, 4, 2, 1, 0], false, ⟨(some 35), .sliceArr 64 1 34 none none none, none⟩⟩, .any), (⟨7, [6, 5, 3, 4, 2, 1, 0], true, ⟨(some 36), .call k_slices_Clone_byte_byte [35], none⟩⟩, .any), (⟨8, [7, 0, 1, 2, 3, 4, 5, 6], true, ⟨none, .store 1 4 36, none⟩⟩, .any), (⟨9, [8, 0, 1, 2, 3, 4, 5, 6, 7], true, ⟨none, .store 1 5 (.const (.int .i64 0)), none⟩⟩, .any)]) <|
 .ret
def f_sector_Disk_Read_B23 (n : Nat) (h : Heap) (h0 : Heap) (h1 : Heap) (y12 : Int) (y13 : Value) (v14 : (Heap × Nat)) : Option (Bool × (Heap × Nat)) :=
  bif Nat.beq v14.2 0 then
    (bnd ((Heap.new v14.1 (.cells [(.int .i64 0), (.int .u8 0), (.int .u8 0), (.int .u8 0), (.int .u8 0), (.int .u8 0), (.int .u8 0), (.int .u8 0), (.int .u8 0), (.int .u8 0), (.int .u8 0), (.int .u8 0), (.int .u8 0), (.int .u8 0), (.int .u8 0), (.int .u8 0), (.int .u8 0), (.int .u8 0), (.int .u8 0), (.int .u8 0), (.int .u8 0), (.int .u8 0), (.int .u8 0), (.int .u8 0), (.int .u8 0), (.int .u8 0), (.int .u8 0), (.int .u8 0), (.int .u8 0), (.int .u8 0), (.int .u8 0), (.int .u8 0), (.int .u8 0), (.int .u8 0), (.int .u8 0), (.int .u8 0), (.int .u8 0), (.int .u8 0), (.int .u8 0), (.int .u8 0), (.int .u8 0), (.int .u8 0), (.int .u8 0), (.int .u8 0), (.int .u8 0), (.int .u8 0), (.int .u8 0), (.int .u8 0), (.int .u8 0), (.int .u8 0), (.int .u8 0), (.int .u8 0), (.int .u8 0), (.int .u8 0), (.int .u8 0), (.int .u8 0), (.int .u8 0), (.int .u8 0), (.int .u8 0), (.int .u8 0), (.int .u8 0), (.int .u8 0), (.int .u8 0), (.int .u8 0), (.int .u8 0)] false 0))) fun h15 =>
    (stB 65 y13 h15 (some (nwA v14.1))).bind fun h16 =>
    (ldT (.int .i64) h16 (some (fa (nwA v14.1) 0))).bind fun x17 =>
    (ldT (.int .i64) h16 (some (nwA h))).bind fun x18 =>
    bif (decide (x17 = x18)) then
      ((sliceArrK h16 64 1 none none (.pointer (some (fa (nwA v14.1) 1)))).bind fun p19 =>
      (f_slices_Clone_byte_byte n p19.1 h16).bind fun p20 =>
      (stB 1 p20.1.1 p20.2 (some (nwA h0))).bind fun h21 =>
      (stB 1 (.int .i64 0) h21 (some (nwA h1))).bind fun h22 =>
      some (false, (h22, 1)))
    else
      (some (true, (h16, 0))))
  else none
noncomputable def sf_sector_Disk_Read (n : Nat) : Sf := sfOf [(k_sector_Disk_asked, s_sector_Disk_asked n), (k_slices_Backward_sector_waiting_sector_waiting, s_slices_Backward_sector_waiting_sector_waiting n), (k_slices_Clone_byte_byte, s_slices_Clone_byte_byte n)]
noncomputable def it_sector_Disk_Read (n : Nat) : It := itOf [(k_slices_Backward_sector_waiting_sector_waiting_1, i_slices_Backward_sector_waiting_sector_waiting_1 n)]
def f_sector_Disk_Read (n : Nat) (u0 : Option Addr) (u1 : Int) (h : Heap) : Option ((Value × Int × Unit) × Heap) :=
  bnd ((Heap.new h (.cells [(.int .i64 u1)] false 0))) fun h0 =>
  bnd ((Heap.new h0 (.cells [(.slice none 0 0)] false 0))) fun h1 =>
  bnd ((Heap.new h1 (.cells [(.int .i64 0)] false 0))) fun h2 =>
  (ldT (.int .i64) h2 (some (nwA h))).bind fun x3 =>
  (f_sector_Disk_asked n u0 x3 h2).bind fun p4 =>
  bif (!decide (p4.1.1 = 0)) then
    ((stB 1 (.slice none 0 0) p4.2 (some (nwA h0))).bind fun h5 =>
    (stB 1 (.int .i64 p4.1.1) h5 (some (nwA h1))).bind fun h6 =>
    (ldT .any h6 (some (nwA h0))).bind fun x7 =>
    bif !isTuple x7 then
      ((ldT (.int .i64) h6 (some (nwA h1))).bind fun x8 =>
      some ((x7, (x8, ())), h6))
    else
      (none))
  else
    ((u0).bind fun q9 =>
    (ldT .any p4.2 (some (fa q9 1))).bind fun x10 =>
    (f_slices_Backward_sector_waiting_sector_waiting n x10 p4.2).bind fun p11 =>
    (f_slices_Backward_sector_waiting_sector_waiting_1 (V := (Heap × Nat)) (fun v => v.1) (fun v h => (h, v.2)) (fun a v => f_sector_Disk_Read_B23 n h h0 h1 a.1 a.2.1 v) n p11.1.1.1 ((Heap.hole (Heap.hole p11.2)), 0)).bind fun v24 =>
    bif Nat.beq v24.2 0 then
      ((u0).bind fun q25 =>
      (ldT .any v24.1 (some (fa q25 0))).bind fun x26 =>
      (ldT (.int .i64) v24.1 (some (nwA h))).bind fun x27 =>
      (ixB 64 x26 x27).bind fun q28 =>
      (sliceArrK v24.1 64 1 none none (.pointer (some q28))).bind fun p29 =>
      (f_slices_Clone_byte_byte n p29.1 v24.1).bind fun p30 =>
      (stB 1 p30.1.1 p30.2 (some (nwA h0))).bind fun h31 =>
      (stB 1 (.int .i64 0) h31 (some (nwA h1))).bind fun h32 =>
      (ldT .any h32 (some (nwA h0))).bind fun x33 =>
      bif !isTuple x33 then
        ((ldT (.int .i64) h32 (some (nwA h1))).bind fun x34 =>
        some ((x33, (x34, ())), h32))
      else
        (none))
    else
      (bif Nat.beq v24.2 1 then
        ((ldT .any v24.1 (some (nwA h0))).bind fun x35 =>
        bif !isTuple x35 then
          ((ldT (.int .i64) v24.1 (some (nwA h1))).bind fun x36 =>
          some ((x35, (x36, ())), v24.1))
        else
          (none))
      else
        (none)))
def rs_sector_Disk_Read : Rs := [(.cell false 1 4, .any), (.cell false 1 5, (.int .i64))]
def ps_sector_Disk_Read : List Ty := [.ptr, (.int .i64)]
theorem e_sector_Disk_Read (n : Nat) (u0 : Option Addr) (u1 : Int) (h : Heap) : f_sector_Disk_Read n u0 u1 h = fB (sf_sector_Disk_Read n) (it_sector_Disk_Read n) n c2_sector_Disk_Read rs_sector_Disk_Read ps_sector_Disk_Read (u0, (u1, ())) h := by kernel_rfl
noncomputable def s_sector_Disk_Read (n : Nat) : Sf1 := mkSf ps_sector_Disk_Read rs_sector_Disk_Read fun a h => f_sector_Disk_Read n a.1 a.2.1 h
/- wicket/super.Check -/
def c2_super_Check : C2 := .seq (.reg [rg 1 (.box 0) .ptr, rg 2 (.move (.const (.int .i64 0))) .i]) <|
 .seq (.seq (.reg [rg 4 (.fieldAddr 0 1) .ptr, rg 5 (.load true 5 4) .any, rg 6 (.call k_super_Config [5]) .i, rg 3 (.move 6) .i]) <|
 .seq (.reg [rg 7 (.move 3) .i, rg 8 (.bin .neq 7 (.const (.int .i64 0))) .bool]) <|
 .cond 8 (.seq (.reg [rg 9 (.move 3) .i, rg 2 (.move 9) .i]) <|
 .ret) (.skip)) <|
 .seq (.seq (.cutn [(22, .bool)] <|
 .reg [rg 10 (.fieldAddr 5 1) .ptr, rg 11 (.load false 1 10) (.int .u64), rg 12 (.bin .gtr 11 (.const (.int .u64 4611686018427387904))) .bool, rg 13 (.move 12) .bool, rq 14 (.fieldAddr 6 1) 13 .ptr, rq 15 (.load false 1 14) 13 (.int .u64), rq 16 (.bin .lss 15 (.const (.int .u64 1))) 13 .bool, rg 17 (.pick 13 (.const (.bool true)) 16) .bool, rg 18 (.move 17) .bool, rq 19 (.fieldAddr 6 1) 18 .ptr, rq 20 (.load false 1 19) 18 (.int .u64), rq 21 (.bin .gtr 20 (.const (.int .u64 4611686018427387904))) 18 .bool, rg 22 (.pick 18 (.const (.bool true)) 21) .bool]) <|
 .cond 22 (.seq (.reg [rg 2 (.move (.const (.int .i64 70))) .i]) <|
 .ret) (.skip)) <|
 .seq (.reg [rg 2 (.move (.const (.int .i64 0))) .i]) <|
 .ret
noncomputable def sf_super_Check (n : Nat) : Sf := sfOf [(k_super_Config, s_super_Config n)]
noncomputable def it_super_Check (n : Nat) : It := itOf []
def f_super_Check (n : Nat) (u0 : Value) (h : Heap) : Option ((Int × Unit) × Heap) :=
  bif (cellsOf u0).all isCell then
    (bnd ((Heap.new h (.cells (cellsOf u0) false 0))) fun h0 =>
    (ldA 5 h0 (some (fa (nwA h) 0))).bind fun cs1 =>
    (f_super_Config n (.agg ⟨cs1⟩) h0).bind fun p2 =>
    bif (!decide (p2.1.1 = 0)) then
      (some ((p2.1.1, ()), p2.2))
    else
      ((((ldT (.int .u64) p2.2 (some (fa (nwA h) 5))).bind fun x3 =>
        bif (decide (4611686018427387904 < x3)) then
          (some ((true, ()), p2.2))
        else
          ((ldT (.int .u64) p2.2 (some (fa (nwA h) 6))).bind fun x4 =>
          bif (decide (x4 < 1)) then
            (some ((true, ()), p2.2))
          else
            ((ldT (.int .u64) p2.2 (some (fa (nwA h) 6))).bind fun x5 =>
            some (((decide (4611686018427387904 < x5)), ()), p2.2)))) : Option ((Bool × Unit) × Heap)).bind fun a6 =>
      bif a6.1.1 then
        (some ((70, ()), a6.2))
      else
        (some ((0, ()), a6.2))))
  else
    (none)
def rs_super_Check : Rs := [(.tmp 2, (.int .i64))]
def ps_super_Check : List Ty := [.any]
theorem e_super_Check (n : Nat) (u0 : Value) (h : Heap) : f_super_Check n u0 h = fB (sf_super_Check n) (it_super_Check n) n c2_super_Check rs_super_Check ps_super_Check (u0, ()) h := by kernel_rfl
noncomputable def s_super_Check (n : Nat) : Sf1 := mkSf ps_super_Check rs_super_Check fun a h => f_super_Check n a.1 h
/- wicket/wicketref08.Summed -/
def c2_r8_Summed : C2 := .seq (.reg [rg 2 (.move (.const (.slice none 0 0))) .any]) <|
 .seq (.reg [rg 3 (.buildSlice 0 1 [] []) .any, rg 4 (.move 0) .any, rg 5 (.append 1 1 3 4) .any, rg 6 (.move 0) .any, rg 7 (.call k_r2_Of [6]) (.int .u32), rg 8 (.conv .u64 7) (.int .u64), rg 9 (.call k_r8_number [8, (.const (.int .i64 4))]) .any, rg 10 (.append 1 1 5 9) .any, rg 2 (.move 10) .any]) <|
 .ret
noncomputable def sf_r8_Summed (n : Nat) : Sf := sfOf [(k_r2_Of, s_r2_Of n), (k_r8_number, s_r8_number n)]
noncomputable def it_r8_Summed (n : Nat) : It := itOf []
def f_r8_Summed (n : Nat) (u0 : Value) (h : Heap) : Option ((Value × Unit) × Heap) :=
  (fillL [] []).bind fun cs0 =>
  bnd ((Heap.new h (.cells cs0 false 1))) fun h1 =>
  (appendK h1 1 1 (.slice (some ⟨Heap.next h, 0, some 0⟩) 0 0) u0).bind fun p2 =>
  (f_r2_Of n u0 p2.2).bind fun p3 =>
  (f_r8_number n (IntKind.u64.wrap (p3.1.1)) 4 p3.2).bind fun p4 =>
  (appendK p4.2 1 1 p2.1 p4.1.1).bind fun p5 =>
  bif !isTuple p5.1 then
    (some ((p5.1, ()), p5.2))
  else
    (none)
def rs_r8_Summed : Rs := [(.tmp 2, .any)]
def ps_r8_Summed : List Ty := [.any]
theorem e_r8_Summed (n : Nat) (u0 : Value) (h : Heap) : f_r8_Summed n u0 h = fB (sf_r8_Summed n) (it_r8_Summed n) n c2_r8_Summed rs_r8_Summed ps_r8_Summed (u0, ()) h := by kernel_rfl
noncomputable def s_r8_Summed (n : Nat) : Sf1 := mkSf ps_r8_Summed rs_r8_Summed fun a h => f_r8_Summed n a.1 h
/- wicket/home.fits -/
def c2_home_fits : C2 := .seq (.reg [rg 3 (.box 1) .ptr, rg 4 (.move (.const (.int .i64 0))) .i]) <|
 .seq (.seq (.reg [rg 6 (.move 0) .ptr, rg 7 (.eqv false .ptr 6 (.const (.pointer none))) .bool]) <|
 .cond 7 (.seq (.reg [rg 4 (.move (.const (.int .i64 1))) .i]) <|
 .ret) (.skip)) <|
 .seq (.seq (.reg [rg 8 (.load true 5 3) .any, rg 9 (.call k_super_Config [8]) .i, rg 5 (.move 9) .i]) <|
 .seq (.reg [rg 10 (.move 5) .i, rg 11 (.bin .neq 10 (.const (.int .i64 0))) .bool]) <|
 .cond 11 (.seq (.reg [rg 12 (.move 5) .i, rg 4 (.move 12) .i]) <|
 .ret) (.skip)) <|
 .seq (.seq (.regd [(⟨0, [], false, ⟨(some 13), .move 0, none⟩⟩, .ptr), (⟨2, [], false, ⟨(some 15), .fieldAddr 0 3, none⟩⟩, .ptr), (⟨3, [2], false, ⟨(some 16), .load false 1 15, none⟩⟩, (.int .i64)), (⟨4, [3, 2], false, ⟨(some 17), .bin .add (.const (.int .i64 1)) 16, none⟩⟩, (.int .i64)), (⟨5, [], false, ⟨(some 18), .fieldAddr 1 3, none⟩⟩, .ptr), (⟨6, [5], false, ⟨(some 19), .load false 1 18, none⟩⟩, (.int .i64)), (⟨7, [4, 6, 3, 2, 5], false, ⟨(some 20), .bin .add 17 19, none⟩⟩, (.int .i64)), (⟨1, [0], true, ⟨(some 14), .call k_sector_Disk_Len [13], none⟩⟩, (.int .i64)), (⟨8, [1, 7, 0, 4, 6, 3, 2, 5], false, ⟨(some 21), .bin .neq 14 20, none⟩⟩, .bool)]) <|
 .cond 21 (.seq (.reg [rg 4 (.move (.const (.int .i64 40))) .i]) <|
 .ret) (.skip)) <|
 .seq (.reg [rg 4 (.move (.const (.int .i64 0))) .i]) <|
 .ret
noncomputable def sf_home_fits (n : Nat) : Sf := sfOf [(k_super_Config, s_super_Config n), (k_sector_Disk_Len, s_sector_Disk_Len n)]
noncomputable def it_home_fits (n : Nat) : It := itOf []
def f_home_fits (n : Nat) (u0 : Option Addr) (u1 : Value) (h : Heap) : Option ((Int × Unit) × Heap) :=
  bif (cellsOf u1).all isCell then
    (bnd ((Heap.new h (.cells (cellsOf u1) false 0))) fun h0 =>
    bif (Option.isNone u0) then
      (some ((1, ()), h0))
    else
      ((ldA 5 h0 (some (nwA h))).bind fun cs1 =>
      (f_super_Config n (.agg ⟨cs1⟩) h0).bind fun p2 =>
      bif (!decide (p2.1.1 = 0)) then
        (some ((p2.1.1, ()), p2.2))
      else
        ((ldT (.int .i64) p2.2 (some (fa (nwA h) 0))).bind fun x3 =>
        (ldT (.int .i64) p2.2 (some (fa (nwA h) 1))).bind fun x4 =>
        (f_sector_Disk_Len n u0 (hid p2.2 [] ((Addr.block (fa (nwA h) 1)) :: ((Addr.block (fa (nwA h) 0)) :: [])))).bind fun p5 =>
        bnd (Heap.putBack p5.2 p2.2 ([] ++ ((Addr.block (fa (nwA h) 1)) :: ((Addr.block (fa (nwA h) 0)) :: [])))) fun h6 =>
        bif (!decide (p5.1.1 = (IntKind.i64.wrap ((IntKind.i64.wrap (1 + x3)) + x4)))) then
          (some ((40, ()), h6))
        else
          (some ((0, ()), h6)))))
  else
    (none)
def rs_home_fits : Rs := [(.tmp 4, (.int .i64))]
def ps_home_fits : List Ty := [.ptr, .any]
theorem e_home_fits (n : Nat) (u0 : Option Addr) (u1 : Value) (h : Heap) : f_home_fits n u0 u1 h = fB (sf_home_fits n) (it_home_fits n) n c2_home_fits rs_home_fits ps_home_fits (u0, (u1, ())) h := by kernel_rfl
noncomputable def s_home_fits (n : Nat) : Sf1 := mkSf ps_home_fits rs_home_fits fun a h => f_home_fits n a.1 a.2.1 h
/- wicket/super.Encode -/
def c2_super_Encode : C2 := .seq (.reg [rg 1 (.box 0) .ptr, rg 2 (.move (.const (.slice none 0 0))) .any, rg 3 (.move (.const (.int .i64 0))) .i]) <|
 .seq (.seq (.reg [rg 13 (.load true 7 1) .any, rg 14 (.call k_super_Check [13]) .i, rg 4 (.move 14) .i]) <|
 .seq (.reg [rg 15 (.move 4) .i, rg 16 (.bin .neq 15 (.const (.int .i64 0))) .bool]) <|
 .cond 16 (.seq (.reg [rg 17 (.move 4) .i, rg 2 (.move (.const (.slice none 0 0))) .any, rg 3 (.move 17) .i]) <|
 .ret) (.skip)) <|
 .seq (.reg [rg 18 (.fieldAddr 0 1) .ptr, rg 19 (.load true 5 18) .any, rg 5 (.alloc (List.replicate 5 (.int .i64 0))) .ptr, rn (.store 5 5 19) .any]) <|
 .seq (.reg [rg 20 (.buildSlice 6 1 (List.replicate 6 (.int .u8 0)) [(0, 1, (.const (.int .u8 87))), (1, 1, (.const (.int .u8 73))), (2, 1, (.const (.int .u8 67))), (3, 1, (.const (.int .u8 75))), (4, 1, (.const (.int .u8 69))), (5, 1, (.const (.int .u8 84)))]) .any, rg 21 (.markS 20) .any, rg 6 (.move 21) .any]) <|
 .seq (.cutn [(6, .any)] <|
 .seq (.reg [rg 22 (.fieldAddr 0 5) .ptr, rg 23 (.load false 1 22) .i, rg 24 (.conv .u64 23) (.int .u64), rg 25 (.fieldAddr 1 5) .ptr, rg 26 (.load false 1 25) .i, rg 27 (.conv .u64 26) (.int .u64), rg 28 (.fieldAddr 2 5) .ptr, rg 29 (.load false 1 28) .i, rg 30 (.conv .u64 29) (.int .u64), rg 31 (.fieldAddr 3 5) .ptr, rg 32 (.load false 1 31) .i, rg 33 (.conv .u64 32) (.int .u64), rg 34 (.fieldAddr 4 5) .ptr, rg 35 (.load false 1 34) .i, rg 36 (.conv .u64 35) (.int .u64), rg 37 (.fieldAddr 5 1) .ptr, rg 38 (.load false 1 37) (.int .u64), rg 39 (.fieldAddr 6 1) .ptr, rg 40 (.load false 1 39) (.int .u64), rg 41 (.buildSlice 10 1 (List.replicate 10 (.int .u64 0)) [(0, 1, (.const (.int .u64 1))), (1, 1, (.const (.int .u64 0))), (2, 1, 24), (3, 1, 27), (4, 1, 30), (5, 1, 33), (6, 1, 36), (7, 1, (.const (.int .u64 0))), (8, 1, 38), (9, 1, 40)]) .any, rg 42 (.lenS 41) .i, rg 43 (.move (.const (.int .i64 0))) .i]) <|
 .block 0 <|
 .loop [(6, .any), (43, .i)] <|
 .seq (.reg [rg 44 (.bin .lss 43 42) .any]) <|
 .seq (.cond 44 (.skip) (.exit 0)) <|
 .seq (.block 1 <|
 .seq (.reg [rg 45 (.move 43) .i, rg 46 (.idxSlice 1 41 43) .ptr, rg 47 (.load false 1 46) (.int .u64), rg 7 (.move 45) .i, rg 8 (.move 47) (.int .u64)]) <|
 .seq (.reg [rg 49 (.move 8) (.int .u64), rg 50 (.move 7) .i, rg 51 (.idxArr 10 1 (.global 0) 50) .ptr, rg 52 (.load false 1 51) .i, rg 53 (.call k_octet_Put [49, 52]) .any, rg 48 (.move 53) .any, rg 54 (.extract 48 0) .any, rg 55 (.extract 48 1) .i, rg 9 (.move 54) .any, rg 10 (.move 55) .i]) <|
 .reg [rg 56 (.move 6) .any, rg 57 (.move 9) .any, rg 58 (.append 1 1 56 57) .any, rg 6 (.move 58) .any]) <|
 .reg [rg 59 (.bin .add 43 (.const (.int .i64 1))) .i, rg 43 (.move 59) .i]) <|
 .seq (.reg [rg 61 (.move 6) .any, rg 62 (.call k_octet_Pad [61, (.const (.int .i64 60))]) .any, rg 60 (.move 62) .any, rg 63 (.extract 60 0) .any, rg 64 (.extract 60 1) .i, rg 6 (.move 63) .any]) <|
 .seq (.reg [rg 66 (.move 6) .any, rg 67 (.buildSlice 1 1 [(.slice none 0 0)] [(0, 1, 66)]) .any, rg 68 (.call k_sum_Of [67]) (.int .u32), rg 69 (.conv .u64 68) (.int .u64), rg 70 (.call k_octet_Put [69, (.const (.int .i64 4))]) .any, rg 65 (.move 70) .any, rg 71 (.extract 65 0) .any, rg 72 (.extract 65 1) .i, rg 11 (.move 71) .any, rg 12 (.move 72) .i]) <|
 .seq (.reg [rg 73 (.move 6) .any, rg 74 (.move 11) .any, rg 75 (.append 1 1 73 74) .any, rg 2 (.move 75) .any, rg 3 (.move (.const (.int .i64 0))) .i]) <|
 .ret
def f_super_Encode_L28 (n : Nat) (p8 : (Value × Heap)) (n18 : Nat) (v19 : Value) (v20 : Int) (h21 : Heap) : Option (((Value × Int × Unit) × Heap) ⊕ ((Value × Unit) × Heap)) :=
  bif (decide (v20 < (n18 : Int))) then
    ((ixB 1 (.slice (some ⟨Heap.next p8.2, 0, some 0⟩) 10 10) v20).bind fun q22 =>
    (ldT (.int .u64) h21 (some q22)).bind fun x23 =>
    (ixA 10 1 (some ⟨0, 0, none⟩) v20).bind fun q24 =>
    (ldT (.int .i64) h21 (some q24)).bind fun x25 =>
    (f_octet_Put n x23 x25 h21).bind fun p26 =>
    (appendK p26.2 1 1 v19 p26.1.1).bind fun p27 =>
    some (.inl ((p27.1, ((IntKind.i64.wrap (v20 + 1)), ())), p27.2)))
  else
    (some (.inr ((v19, ()), h21)))
noncomputable def sf_super_Encode (n : Nat) : Sf := sfOf [(k_super_Check, s_super_Check n), (k_octet_Put, s_octet_Put n), (k_octet_Pad, s_octet_Pad n), (k_sum_Of, s_sum_Of n)]
noncomputable def it_super_Encode (n : Nat) : It := itOf []
def f_super_Encode (n : Nat) (u0 : Value) (h : Heap) : Option ((Value × Int × Unit) × Heap) :=
  bif (cellsOf u0).all isCell then
    (bnd ((Heap.new h (.cells (cellsOf u0) false 0))) fun h0 =>
    (ldA 7 h0 (some (nwA h))).bind fun cs1 =>
    (f_super_Check n (.agg ⟨cs1⟩) h0).bind fun p2 =>
    bif (!decide (p2.1.1 = 0)) then
      (some (((.slice none 0 0), (p2.1.1, ())), p2.2))
    else
      ((ldA 5 p2.2 (some (fa (nwA h) 0))).bind fun cs3 =>
      bnd ((Heap.new p2.2 (.cells (List.replicate 5 (.int .i64 0)) false 0))) fun h4 =>
      (stB 5 (.agg ⟨cs3⟩) h4 (some (nwA p2.2))).bind fun h5 =>
      (fillL (List.replicate 6 (.int .u8 0)) [(0, 1, (.int .u8 87)), (1, 1, (.int .u8 73)), (2, 1, (.int .u8 67)), (3, 1, (.int .u8 75)), (4, 1, (.int .u8 69)), (5, 1, (.int .u8 84))]).bind fun cs6 =>
      bnd ((Heap.new h5 (.cells cs6 false 1))) fun h7 =>
      (markSK h7 (.slice (some ⟨Heap.next h5, 0, some 0⟩) 6 6)).bind fun p8 =>
      (((ldT (.int .i64) p8.2 (some (fa (nwA p2.2) 0))).bind fun x9 =>
        (ldT (.int .i64) p8.2 (some (fa (nwA p2.2) 1))).bind fun x10 =>
        (ldT (.int .i64) p8.2 (some (fa (nwA p2.2) 2))).bind fun x11 =>
        (ldT (.int .i64) p8.2 (some (fa (nwA p2.2) 3))).bind fun x12 =>
        (ldT (.int .i64) p8.2 (some (fa (nwA p2.2) 4))).bind fun x13 =>
        (ldT (.int .u64) p8.2 (some (fa (nwA h) 5))).bind fun x14 =>
        (ldT (.int .u64) p8.2 (some (fa (nwA h) 6))).bind fun x15 =>
        (fillL (List.replicate 10 (.int .u64 0)) [(0, 1, (.int .u64 1)), (1, 1, (.int .u64 0)), (2, 1, (.int .u64 (IntKind.u64.wrap (x9)))), (3, 1, (.int .u64 (IntKind.u64.wrap (x10)))), (4, 1, (.int .u64 (IntKind.u64.wrap (x11)))), (5, 1, (.int .u64 (IntKind.u64.wrap (x12)))), (6, 1, (.int .u64 (IntKind.u64.wrap (x13)))), (7, 1, (.int .u64 0)), (8, 1, (.int .u64 x14)), (9, 1, (.int .u64 x15))]).bind fun cs16 =>
        bnd ((Heap.new p8.2 (.cells cs16 false 1))) fun h17 =>
        (lenB (.slice (some ⟨Heap.next p8.2, 0, some 0⟩) 10 10)).bind fun n18 =>
        loopT (fun a => f_super_Encode_L28 n p8 n18 a.1.1 a.1.2.1 a.2) n ((p8.1, (0, ())), h17)) : Option ((Value × Unit) × Heap)).bind fun a29 =>
      (f_octet_Pad n a29.1.1 60 a29.2).bind fun p30 =>
      (fillL [(.slice none 0 0)] [(0, 1, p30.1.1)]).bind fun cs31 =>
      bnd ((Heap.new p30.2 (.cells cs31 false 1))) fun h32 =>
      (f_sum_Of n (.slice (some ⟨Heap.next p30.2, 0, some 0⟩) 1 1) h32).bind fun p33 =>
      (f_octet_Put n (IntKind.u64.wrap (p33.1.1)) 4 p33.2).bind fun p34 =>
      (appendK p34.2 1 1 p30.1.1 p34.1.1).bind fun p35 =>
      bif !isTuple p35.1 then
        (some ((p35.1, (0, ())), p35.2))
      else
        (none)))
  else
    (none)
def rs_super_Encode : Rs := [(.tmp 2, .any), (.tmp 3, (.int .i64))]
def ps_super_Encode : List Ty := [.any]
theorem e_super_Encode (n : Nat) (u0 : Value) (h : Heap) : f_super_Encode n u0 h = fB (sf_super_Encode n) (it_super_Encode n) n c2_super_Encode rs_super_Encode ps_super_Encode (u0, ()) h := by kernel_rfl
noncomputable def s_super_Encode (n : Nat) : Sf1 := mkSf ps_super_Encode rs_super_Encode fun a h => f_super_Encode n a.1 h
/- wicket/wicketref08.Super -/
def c2_r8_Super : C2 := .seq (.reg [rg 1 (.box 0) .ptr, rg 2 (.move (.const (.slice none 0 0))) .any]) <|
 .seq (.reg [rg 4 (.buildSlice 6 1 (List.replicate 6 (.int .u8 0)) [(0, 1, (.const (.int .u8 87))), (1, 1, (.const (.int .u8 73))), (2, 1, (.const (.int .u8 67))), (3, 1, (.const (.int .u8 75))), (4, 1, (.const (.int .u8 69))), (5, 1, (.const (.int .u8 84)))]) .any, rg 5 (.markS 4) .any, rg 6 (.buildSlice 2 1 [(.int .u8 0), (.int .u8 0)] [(0, 1, (.const (.int .u8 1))), (1, 1, (.const (.int .u8 0)))]) .any, rg 7 (.append 1 1 5 6) .any, rg 3 (.move 7) .any]) <|
 .seq (.reg [rg 8 (.move 3) .any, rg 9 (.fieldAddr 0 1) .ptr, rg 10 (.load false 1 9) .i, rg 11 (.conv .u8 10) .u, rg 12 (.fieldAddr 1 1) .ptr, rg 13 (.load false 1 12) .i, rg 14 (.conv .u8 13) .u, rg 15 (.fieldAddr 2 1) .ptr, rg 16 (.load false 1 15) .i, rg 17 (.conv .u8 16) .u, rg 18 (.fieldAddr 3 1) .ptr, rg 19 (.load false 1 18) .i, rg 20 (.conv .u8 19) .u, rg 21 (.fieldAddr 4 1) .ptr, rg 22 (.load false 1 21) .i, rg 23 (.conv .u8 22) .u, rg 24 (.buildSlice 8 1 (List.replicate 8 (.int .u8 0)) [(0, 1, 11), (1, 1, 14), (2, 1, 17), (3, 1, 20), (4, 1, 23), (5, 1, (.const (.int .u8 0))), (6, 1, (.const (.int .u8 0))), (7, 1, (.const (.int .u8 0)))]) .any, rg 25 (.append 1 1 8 24) .any, rg 3 (.move 25) .any]) <|
 .seq (.reg [rg 26 (.move 3) .any, rg 27 (.call k_r8_number [(.const (.int .u64 0)), (.const (.int .i64 8))]) .any, rg 28 (.append 1 1 26 27) .any, rg 29 (.call k_r8_number [(.const (.int .u64 1)), (.const (.int .i64 8))]) .any, rg 30 (.append 1 1 28 29) .any, rg 3 (.move 30) .any]) <|
 .seq (.reg [rg 31 (.move 3) .any, rg 32 (.appendZ 1 1 [(.int .u8 0)] 31 (.const (.int .i64 28))) .any, rg 33 (.call k_r8_Summed [32]) .any, rg 2 (.move 33) .any]) <|
 .ret
noncomputable def sf_r8_Super (n : Nat) : Sf := sfOf [(k_r8_number, s_r8_number n), (k_r8_Summed, s_r8_Summed n)]
noncomputable def it_r8_Super (n : Nat) : It := itOf []
def f_r8_Super (n : Nat) (u0 : Value) (h : Heap) : Option ((Value × Unit) × Heap) :=
  bif (cellsOf u0).all isCell then
    (bnd ((Heap.new h (.cells (cellsOf u0) false 0))) fun h0 =>
    (fillL (List.replicate 6 (.int .u8 0)) [(0, 1, (.int .u8 87)), (1, 1, (.int .u8 73)), (2, 1, (.int .u8 67)), (3, 1, (.int .u8 75)), (4, 1, (.int .u8 69)), (5, 1, (.int .u8 84))]).bind fun cs1 =>
    bnd ((Heap.new h0 (.cells cs1 false 1))) fun h2 =>
    (markSK h2 (.slice (some ⟨Heap.next h0, 0, some 0⟩) 6 6)).bind fun p3 =>
    (fillL [(.int .u8 0), (.int .u8 0)] [(0, 1, (.int .u8 1)), (1, 1, (.int .u8 0))]).bind fun cs4 =>
    bnd ((Heap.new p3.2 (.cells cs4 false 1))) fun h5 =>
    (appendK h5 1 1 p3.1 (.slice (some ⟨Heap.next p3.2, 0, some 0⟩) 2 2)).bind fun p6 =>
    (ldT (.int .i64) p6.2 (some (fa (nwA h) 0))).bind fun x7 =>
    (ldT (.int .i64) p6.2 (some (fa (nwA h) 1))).bind fun x8 =>
    (ldT (.int .i64) p6.2 (some (fa (nwA h) 2))).bind fun x9 =>
    (ldT (.int .i64) p6.2 (some (fa (nwA h) 3))).bind fun x10 =>
    (ldT (.int .i64) p6.2 (some (fa (nwA h) 4))).bind fun x11 =>
    (fillL (List.replicate 8 (.int .u8 0)) [(0, 1, (.int .u8 (IntKind.u8.wrap (x7)))), (1, 1, (.int .u8 (IntKind.u8.wrap (x8)))), (2, 1, (.int .u8 (IntKind.u8.wrap (x9)))), (3, 1, (.int .u8 (IntKind.u8.wrap (x10)))), (4, 1, (.int .u8 (IntKind.u8.wrap (x11)))), (5, 1, (.int .u8 0)), (6, 1, (.int .u8 0)), (7, 1, (.int .u8 0))]).bind fun cs12 =>
    bnd ((Heap.new p6.2 (.cells cs12 false 1))) fun h13 =>
    (appendK h13 1 1 p6.1 (.slice (some ⟨Heap.next p6.2, 0, some 0⟩) 8 8)).bind fun p14 =>
    (f_r8_number n 0 8 p14.2).bind fun p15 =>
    (appendK p15.2 1 1 p14.1 p15.1.1).bind fun p16 =>
    (f_r8_number n 1 8 p16.2).bind fun p17 =>
    (appendK p17.2 1 1 p16.1 p17.1.1).bind fun p18 =>
    (appendZK p18.2 1 1 [(.int .u8 0)] p18.1 (.int .i64 28)).bind fun p19 =>
    (f_r8_Summed n p19.1 p19.2).bind fun p20 =>
    bif !isTuple p20.1.1 then
      (some ((p20.1.1, ()), p20.2))
    else
      (none))
  else
    (none)
def rs_r8_Super : Rs := [(.tmp 2, .any)]
def ps_r8_Super : List Ty := [.any]
theorem e_r8_Super (n : Nat) (u0 : Value) (h : Heap) : f_r8_Super n u0 h = fB (sf_r8_Super n) (it_r8_Super n) n c2_r8_Super rs_r8_Super ps_r8_Super (u0, ()) h := by kernel_rfl
noncomputable def s_r8_Super (n : Nat) : Sf1 := mkSf ps_r8_Super rs_r8_Super fun a h => f_r8_Super n a.1 h
/- wicket/wicketref08.Encode -/
def c2_r8_Encode : C2 := .seq (.reg [rg 3 (.box 1) .ptr, rg 4 (.move (.const (.slice none 0 0))) .any, rg 5 (.move (.const (.int .i64 0))) .i]) <|
 .seq (.seq (.cutn [(12, .bool)] <|
 .reg [rg 7 (.move 0) .i, rg 8 (.bin .lss 7 (.const (.int .i64 0))) .bool, rg 9 (.move 8) .bool, rq 10 (.move 0) 9 .i, rq 11 (.bin .geq 10 (.const (.int .i64 64))) 9 .bool, rg 12 (.pick 9 (.const (.bool true)) 11) .bool]) <|
 .cond 12 (.seq (.reg [rg 4 (.move (.const (.slice none 0 0))) .any, rg 5 (.move (.const (.int .i64 51))) .i]) <|
 .ret) (.skip)) <|
 .seq (.reg [rg 13 (.buildSlice 4 1 (List.replicate 4 (.int .u8 0)) [(0, 1, (.const (.int .u8 72))), (1, 1, (.const (.int .u8 79))), (2, 1, (.const (.int .u8 77))), (3, 1, (.const (.int .u8 69)))]) .any, rg 14 (.markS 13) .any, rg 15 (.move 0) .i, rg 16 (.conv .u8 15) .u, rg 17 (.buildSlice 2 1 [(.int .u8 0), (.int .u8 0)] [(0, 1, (.const (.int .u8 1))), (1, 1, 16)]) .any, rg 18 (.append 1 1 14 17) .any, rg 6 (.move 18) .any]) <|
 .seq (.reg [rg 19 (.move 6) .any, rg 20 (.appendZ 1 1 [(.int .u8 0)] 19 (.const (.int .i64 22))) .any, rg 6 (.move 20) .any]) <|
 .seq (.reg [rg 21 (.move 6) .any, rg 22 (.sliceArr 32 1 3 none none none) .any, rg 23 (.append 1 1 21 22) .any, rg 6 (.move 23) .any]) <|
 .seq (.reg [rg 24 (.move 6) .any, rg 25 (.call k_r8_Summed [24]) .any, rg 4 (.move 25) .any, rg 5 (.move (.const (.int .i64 0))) .i]) <|
 .ret
noncomputable def sf_r8_Encode (n : Nat) : Sf := sfOf [(k_r8_Summed, s_r8_Summed n)]
noncomputable def it_r8_Encode (n : Nat) : It := itOf []
def f_r8_Encode (n : Nat) (u0 : Int) (u1 : Value) (h : Heap) : Option ((Value × Int × Unit) × Heap) :=
  bif (cellsOf u1).all isCell then
    (bnd ((Heap.new h (.cells (cellsOf u1) false 0))) fun h0 =>
    ((bif (decide (u0 < 0)) then
        (some ((true, ()), h0))
      else
        (some (((decide (64 ≤ u0)), ()), h0))) : Option ((Bool × Unit) × Heap)).bind fun a1 =>
    bif a1.1.1 then
      (some (((.slice none 0 0), (51, ())), a1.2))
    else
      ((fillL (List.replicate 4 (.int .u8 0)) [(0, 1, (.int .u8 72)), (1, 1, (.int .u8 79)), (2, 1, (.int .u8 77)), (3, 1, (.int .u8 69))]).bind fun cs2 =>
      bnd ((Heap.new a1.2 (.cells cs2 false 1))) fun h3 =>
      (markSK h3 (.slice (some ⟨Heap.next a1.2, 0, some 0⟩) 4 4)).bind fun p4 =>
      (fillL [(.int .u8 0), (.int .u8 0)] [(0, 1, (.int .u8 1)), (1, 1, (.int .u8 (IntKind.u8.wrap (u0))))]).bind fun cs5 =>
      bnd ((Heap.new p4.2 (.cells cs5 false 1))) fun h6 =>
      (appendK h6 1 1 p4.1 (.slice (some ⟨Heap.next p4.2, 0, some 0⟩) 2 2)).bind fun p7 =>
      (appendZK p7.2 1 1 [(.int .u8 0)] p7.1 (.int .i64 22)).bind fun p8 =>
      (sliceArrK p8.2 32 1 none none (.pointer (some (nwA h)))).bind fun p9 =>
      (appendK p8.2 1 1 p8.1 p9.1).bind fun p10 =>
      (f_r8_Summed n p10.1 p10.2).bind fun p11 =>
      bif !isTuple p11.1.1 then
        (some ((p11.1.1, (0, ())), p11.2))
      else
        (none)))
  else
    (none)
def rs_r8_Encode : Rs := [(.tmp 4, .any), (.tmp 5, (.int .i64))]
def ps_r8_Encode : List Ty := [(.int .i64), .any]
theorem e_r8_Encode (n : Nat) (u0 : Int) (u1 : Value) (h : Heap) : f_r8_Encode n u0 u1 h = fB (sf_r8_Encode n) (it_r8_Encode n) n c2_r8_Encode rs_r8_Encode ps_r8_Encode (u0, (u1, ())) h := by kernel_rfl
noncomputable def s_r8_Encode (n : Nat) : Sf1 := mkSf ps_r8_Encode rs_r8_Encode fun a h => f_r8_Encode n a.1 a.2.1 h
/- wicket/wicketref08.Save -/
def c2_r8_Save : C2 := .seq (.reg [rg 5 (.box 1) .ptr, rg 7 (.box 3) .ptr, rg 8 (.move (.const (.int .i64 0))) .i]) <|
 .seq (.reg [rg 12 (.move 0) .ptr, rg 13 (.load true 5 5) .any, rg 14 (.call k_r8_fits [12, 13]) .i, rg 9 (.move 14) .i]) <|
 .seq (.seq (.reg [rg 15 (.move 9) .i, rg 16 (.bin .neq 15 (.const (.int .i64 0))) .bool]) <|
 .cond 16 (.seq (.reg [rg 17 (.move 9) .i, rg 8 (.move 17) .i]) <|
 .ret) (.skip)) <|
 .seq (.seq (.cutn [(25, .bool)] <|
 .reg [rg 18 (.move 2) .i, rg 19 (.bin .lss 18 (.const (.int .i64 0))) .bool, rg 20 (.move 19) .bool, rq 21 (.move 2) 20 .i, rq 22 (.fieldAddr 0 5) 20 .ptr, rq 23 (.load false 1 22) 20 .i, rq 24 (.bin .geq 21 23) 20 .bool, rg 25 (.pick 20 (.const (.bool true)) 24) .bool]) <|
 .cond 25 (.seq (.reg [rg 8 (.move (.const (.int .i64 51))) .i]) <|
 .ret) (.skip)) <|
 .seq (.reg [rg 27 (.move 2) .i, rg 28 (.load true 32 7) .any, rg 29 (.call k_r8_Encode [27, 28]) .any, rg 26 (.move 29) .any, rg 30 (.extract 26 0) .any, rg 31 (.extract 26 1) .i, rg 10 (.move 30) .any, rg 11 (.move 31) .i]) <|
 .seq (.reg [rg 32 (.move 0) .ptr, rg 33 (.move 2) .i, rg 34 (.bin .add (.const (.int .i64 1)) 33) .i, rg 35 (.move 10) .any, rg 36 (.call k_r4_Disk_Write [32, 34, 35]) .i, rg 8 (.move 36) .i]) <|
 .ret
noncomputable def sf_r8_Save (n : Nat) : Sf := sfOf [(k_r8_fits, s_r8_fits n), (k_r8_Encode, s_r8_Encode n), (k_r4_Disk_Write, s_r4_Disk_Write n)]
noncomputable def it_r8_Save (n : Nat) : It := itOf []
def f_r8_Save (n : Nat) (u0 : Option Addr) (u1 : Value) (u2 : Int) (u3 : Value) (h : Heap) : Option ((Int × Unit) × Heap) :=
  bif (cellsOf u1).all isCell then
    (bnd ((Heap.new h (.cells (cellsOf u1) false 0))) fun h0 =>
    bif (cellsOf u3).all isCell then
      (bnd ((Heap.new h0 (.cells (cellsOf u3) false 0))) fun h1 =>
      (ldA 5 h1 (some (nwA h))).bind fun cs2 =>
      (f_r8_fits n u0 (.agg ⟨cs2⟩) h1).bind fun p3 =>
      bif (!decide (p3.1.1 = 0)) then
        (some ((p3.1.1, ()), p3.2))
      else
        (((bif (decide (u2 < 0)) then
            (some ((true, ()), p3.2))
          else
            ((ldT (.int .i64) p3.2 (some (fa (nwA h) 0))).bind fun x4 =>
            some (((decide (x4 ≤ u2)), ()), p3.2))) : Option ((Bool × Unit) × Heap)).bind fun a5 =>
        bif a5.1.1 then
          (some ((51, ()), a5.2))
        else
          ((ldA 32 a5.2 (some (nwA h0))).bind fun cs6 =>
          (f_r8_Encode n u2 (.agg ⟨cs6⟩) a5.2).bind fun p7 =>
          (f_r4_Disk_Write n u0 (IntKind.i64.wrap (1 + u2)) p7.1.1 p7.2).bind fun p8 =>
          some ((p8.1.1, ()), p8.2))))
    else
      (none))
  else
    (none)
def rs_r8_Save : Rs := [(.tmp 8, (.int .i64))]
def ps_r8_Save : List Ty := [.ptr, .any, (.int .i64), .any]
theorem e_r8_Save (n : Nat) (u0 : Option Addr) (u1 : Value) (u2 : Int) (u3 : Value) (h : Heap) : f_r8_Save n u0 u1 u2 u3 h = fB (sf_r8_Save n) (it_r8_Save n) n c2_r8_Save rs_r8_Save ps_r8_Save (u0, (u1, (u2, (u3, ())))) h := by kernel_rfl
noncomputable def s_r8_Save (n : Nat) : Sf1 := mkSf ps_r8_Save rs_r8_Save fun a h => f_r8_Save n a.1 a.2.1 a.2.2.1 a.2.2.2.1 h
/- wicket/home.has -/
def c2_home_has : C2 := .seq (.reg [rg 4 (.box 1) .ptr, rg 6 (.move (.const (.int .i64 0))) .i]) <|
 .seq (.seq (.reg [rg 8 (.move 0) .ptr, rg 9 (.load true 5 4) .any, rg 10 (.call k_home_fits [8, 9]) .i, rg 7 (.move 10) .i]) <|
 .seq (.reg [rg 11 (.move 7) .i, rg 12 (.bin .neq 11 (.const (.int .i64 0))) .bool]) <|
 .cond 12 (.seq (.reg [rg 13 (.move 7) .i, rg 6 (.move 13) .i]) <|
 .ret) (.skip)) <|
 .seq (.seq (.cutn [(21, .bool)] <|
 .reg [rg 14 (.move 2) .i, rg 15 (.bin .lss 14 (.const (.int .i64 0))) .bool, rg 16 (.move 15) .bool, rq 17 (.move 2) 16 .i, rq 18 (.fieldAddr 0 4) 16 .ptr, rq 19 (.load false 1 18) 16 .i, rq 20 (.bin .geq 17 19) 16 .bool, rg 21 (.pick 16 (.const (.bool true)) 20) .bool]) <|
 .cond 21 (.seq (.reg [rg 6 (.move (.const (.int .i64 51))) .i]) <|
 .ret) (.skip)) <|
 .seq (.reg [rg 6 (.move (.const (.int .i64 0))) .i]) <|
 .ret
noncomputable def sf_home_has (n : Nat) : Sf := sfOf [(k_home_fits, s_home_fits n)]
noncomputable def it_home_has (n : Nat) : It := itOf []
def f_home_has (n : Nat) (u0 : Option Addr) (u1 : Value) (u2 : Int) (h : Heap) : Option ((Int × Unit) × Heap) :=
  bif (cellsOf u1).all isCell then
    (bnd ((Heap.new h (.cells (cellsOf u1) false 0))) fun h0 =>
    (ldA 5 h0 (some (nwA h))).bind fun cs1 =>
    (f_home_fits n u0 (.agg ⟨cs1⟩) h0).bind fun p2 =>
    bif (!decide (p2.1.1 = 0)) then
      (some ((p2.1.1, ()), p2.2))
    else
      (((bif (decide (u2 < 0)) then
          (some ((true, ()), p2.2))
        else
          ((ldT (.int .i64) p2.2 (some (fa (nwA h) 0))).bind fun x3 =>
          some (((decide (x3 ≤ u2)), ()), p2.2))) : Option ((Bool × Unit) × Heap)).bind fun a4 =>
      bif a4.1.1 then
        (some ((51, ()), a4.2))
      else
        (some ((0, ()), a4.2))))
  else
    (none)
def rs_home_has : Rs := [(.tmp 6, (.int .i64))]
def ps_home_has : List Ty := [.ptr, .any, (.int .i64)]
theorem e_home_has (n : Nat) (u0 : Option Addr) (u1 : Value) (u2 : Int) (h : Heap) : f_home_has n u0 u1 u2 h = fB (sf_home_has n) (it_home_has n) n c2_home_has rs_home_has ps_home_has (u0, (u1, (u2, ()))) h := by kernel_rfl
noncomputable def s_home_has (n : Nat) : Sf1 := mkSf ps_home_has rs_home_has fun a h => f_home_has n a.1 a.2.1 a.2.2.1 h
/- wicket/wicketref08.Decode -/
def c2_r8_Decode : C2 := .seq (.reg [rg 4 (.alloc (List.replicate 32 (.int .u8 0))) .ptr, rg 5 (.move (.const (.int .i64 0))) .i]) <|
 .seq (.reg [rg 6 (.alloc (List.replicate 32 (.int .u8 0))) .ptr]) <|
 .seq (.seq (.cutn [(15, .bool)] <|
 .reg [rg 10 (.move 1) .i, rg 11 (.bin .lss 10 (.const (.int .i64 0))) .bool, rg 12 (.move 11) .bool, rq 13 (.move 1) 12 .i, rq 14 (.bin .geq 13 (.const (.int .i64 64))) 12 .bool, rg 15 (.pick 12 (.const (.bool true)) 14) .bool]) <|
 .cond 15 (.seq (.reg [rg 16 (.load true 32 6) .any, rn (.store 32 4 16) .any, rg 5 (.move (.const (.int .i64 51))) .i]) <|
 .ret) (.skip)) <|
 .seq (.seq (.reg [rg 17 (.move 0) .any, rg 18 (.lenS 17) .i, rg 19 (.bin .neq 18 (.const (.int .i64 64))) .bool]) <|
 .cond 19 (.seq (.reg [rg 20 (.load true 32 6) .any, rn (.store 32 4 20) .any, rg 5 (.move (.const (.int .i64 2))) .i]) <|
 .ret) (.skip)) <|
 .seq (.cutn [] <|
 .seq (.reg [rg 7 (.move (.const (.int .i64 0))) .i]) <|
 .block 0 <|
 .loop [(7, .i)] <|
 .seq (.seq (.reg [rg 21 (.move 7) .i, rg 22 (.bin .lss 21 (.const (.int .i64 32))) .bool]) <|
 .cond 22 (.skip) (.exit 0)) <|
 .seq (.block 1 <|
 .reg [rg 25 (.move 7) .i, rg 26 (.move 0) .any, rg 27 (.move 7) .i, rg 28 (.bin .add (.const (.int .i64 28)) 27) .i, rg 29 (.idxSlice 1 26 28) .ptr, rg 30 (.load false 1 29) .u, rg 31 (.idxArr 32 1 6 25) .ptr, rn (.store 1 31 30) .any]) <|
 .reg [rg 23 (.move 7) .i, rg 24 (.bin .add 23 (.const (.int .i64 1))) .i, rg 7 (.move 24) .i]) <|
 .seq (.reg [rg 33 (.move 1) .i, rg 34 (.load true 32 6) .any, rg 35 (.call k_r8_Encode [33, 34]) .any, rg 32 (.move 35) .any, rg 36 (.extract 32 0) .any, rg 37 (.extract 32 1) .i, rg 8 (.move 36) .any, rg 9 (.move 37) .i]) <|
 .seq (.seq (.reg [rg 38 (.move 8) .any, rg 39 (.toStr 38) .any, rg 40 (.move 0) .any, rg 41 (.toStr 40) .any, rg 42 (.bins .neq 39 41) .bool]) <|
 .cond 42 (.seq (.reg [rg 43 (.build (List.replicate 32 (.int .u8 0)) []) .any, rn (.store 32 4 43) .any, rg 5 (.move (.const (.int .i64 80))) .i]) <|
 .ret) (.skip)) <|
 .seq (.reg [rg 44 (.load true 32 6) .any, rn (.store 32 4 44) .any, rg 5 (.move (.const (.int .i64 0))) .i]) <|
 .ret
def f_r8_Decode_L16 (n : Nat) (u0 : Value) (h0 : Heap) (v10 : Int) (h11 : Heap) : Option (((Int × Unit) × Heap) ⊕ ((Unit) × Heap)) :=
  bif (decide (v10 < 32)) then
    ((ixB 1 u0 (IntKind.i64.wrap (28 + v10))).bind fun q12 =>
    (ldT (.int .u8) h11 (some q12)).bind fun x13 =>
    (ixA 32 1 (some (nwA h0)) v10).bind fun q14 =>
    (stB 1 (.int .u8 x13) h11 (some q14)).bind fun h15 =>
    some (.inl (((IntKind.i64.wrap (v10 + 1)), ()), h15)))
  else
    (some (.inr ((), h11)))
noncomputable def sf_r8_Decode (n : Nat) : Sf := sfOf [(k_r8_Encode, s_r8_Encode n)]
noncomputable def it_r8_Decode (n : Nat) : It := itOf []
def f_r8_Decode (n : Nat) (u0 : Value) (u1 : Int) (h : Heap) : Option ((Value × Int × Unit) × Heap) :=
  bnd ((Heap.new h (.cells (List.replicate 32 (.int .u8 0)) false 0))) fun h0 =>
  bnd ((Heap.new h0 (.cells (List.replicate 32 (.int .u8 0)) false 0))) fun h1 =>
  ((bif (decide (u1 < 0)) then
      (some ((true, ()), h1))
    else
      (some (((decide (64 ≤ u1)), ()), h1))) : Option ((Bool × Unit) × Heap)).bind fun a2 =>
  bif a2.1.1 then
    ((ldA 32 a2.2 (some (nwA h0))).bind fun cs3 =>
    (stB 32 (.agg ⟨cs3⟩) a2.2 (some (nwA h))).bind fun h4 =>
    (ldA 32 h4 (some (nwA h))).bind fun cs5 =>
    some (((.agg ⟨cs5⟩), (51, ())), h4))
  else
    ((lenB u0).bind fun n6 =>
    bif (!decide ((n6 : Int) = 64)) then
      ((ldA 32 a2.2 (some (nwA h0))).bind fun cs7 =>
      (stB 32 (.agg ⟨cs7⟩) a2.2 (some (nwA h))).bind fun h8 =>
      (ldA 32 h8 (some (nwA h))).bind fun cs9 =>
      some (((.agg ⟨cs9⟩), (2, ())), h8))
    else
      (((loopT (fun a => f_r8_Decode_L16 n u0 h0 a.1.1 a.2) n ((0, ()), a2.2)) : Option ((Unit) × Heap)).bind fun a17 =>
      (ldA 32 a17.2 (some (nwA h0))).bind fun cs18 =>
      (f_r8_Encode n u1 (.agg ⟨cs18⟩) a17.2).bind fun p19 =>
      (toStrK p19.2 p19.1.1).bind fun p20 =>
      (toStrK p19.2 u0).bind fun p21 =>
      (binsT .bool p19.2 .neq p20.1 p21.1).bind fun x22 =>
      bif x22 then
        ((fillL (List.replicate 32 (.int .u8 0)) []).bind fun cs23 =>
        (stB 32 (.agg ⟨cs23⟩) p19.2 (some (nwA h))).bind fun h24 =>
        (ldA 32 h24 (some (nwA h))).bind fun cs25 =>
        some (((.agg ⟨cs25⟩), (80, ())), h24))
      else
        ((ldA 32 p19.2 (some (nwA h0))).bind fun cs26 =>
        (stB 32 (.agg ⟨cs26⟩) p19.2 (some (nwA h))).bind fun h27 =>
        (ldA 32 h27 (some (nwA h))).bind fun cs28 =>
        some (((.agg ⟨cs28⟩), (0, ())), h27))))
def rs_r8_Decode : Rs := [(.cell true 32 4, .any), (.tmp 5, (.int .i64))]
def ps_r8_Decode : List Ty := [.any, (.int .i64)]
theorem e_r8_Decode (n : Nat) (u0 : Value) (u1 : Int) (h : Heap) : f_r8_Decode n u0 u1 h = fB (sf_r8_Decode n) (it_r8_Decode n) n c2_r8_Decode rs_r8_Decode ps_r8_Decode (u0, (u1, ())) h := by kernel_rfl
noncomputable def s_r8_Decode (n : Nat) : Sf1 := mkSf ps_r8_Decode rs_r8_Decode fun a h => f_r8_Decode n a.1 a.2.1 h
/- wicket/home.New -/
def c2_home_New : C2 := .seq (.reg [rg 1 (.box 0) .ptr, rg 2 (.move (.const (.pointer none))) .ptr, rg 3 (.move (.const (.int .i64 0))) .i]) <|
 .seq (.reg [rg 11 (.load true 5 1) .any, rg 12 (.build [(.int .i64 0), (.int .i64 0), (.int .i64 0), (.int .i64 0), (.int .i64 0), (.int .u64 0), (.int .u64 0)] [(0, 5, 11), (6, 1, (.const (.int .u64 1)))]) .any, rg 13 (.call k_super_Encode [12]) .any, rg 10 (.move 13) .any, rg 14 (.extract 10 0) .any, rg 15 (.extract 10 1) .i, rg 4 (.move 14) .any, rg 5 (.move 15) .i]) <|
 .seq (.seq (.reg [rg 16 (.move 5) .i, rg 17 (.bin .neq 16 (.const (.int .i64 0))) .bool]) <|
 .cond 17 (.seq (.reg [rg 18 (.move 5) .i, rg 2 (.move (.const (.pointer none))) .ptr, rg 3 (.move 18) .i]) <|
 .ret) (.skip)) <|
 .seq (.reg [rg 19 (.move 4) .any, rg 6 (.move 19) .any]) <|
 .seq (.cut [(6, .any)] <|
 .seq (.reg [rg 20 (.fieldAddr 0 1) .ptr, rg 21 (.load false 1 20) .i, rg 22 (.move (.const (.int .i64 0))) .i]) <|
 .block 0 <|
 .loop [(6, .any), (22, .i)] <|
 .seq (.reg [rg 23 (.bin .lss 22 21) .bool]) <|
 .seq (.cond 23 (.skip) (.exit 0)) <|
 .seq (.block 1 <|
 .seq (.reg [rg 24 (.move 22) .i, rg 7 (.move 24) .i]) <|
 .seq (.reg [rg 26 (.move 7) .i, rg 27 (.build (List.replicate 32 (.int .u8 0)) []) .any, rg 28 (.call k_home_Encode [26, 27]) .any, rg 25 (.move 28) .any, rg 29 (.extract 25 0) .any, rg 30 (.extract 25 1) .i, rg 8 (.move 29) .any, rg 9 (.move 30) .i]) <|
 .seq (.seq (.reg [rg 31 (.move 9) .i, rg 32 (.bin .neq 31 (.const (.int .i64 0))) .bool]) <|
 .cond 32 (.seq (.reg [rg 33 (.move 9) .i, rg 2 (.move (.const (.pointer none))) .ptr, rg 3 (.move 33) .i]) <|
 .ret) (.skip)) <|
 .reg [rg 34 (.move 6) .any, rg 35 (.move 8) .any, rg 36 (.buildSlice 2 1 [(.slice none 0 0), (.slice none 0 0)] [(0, 1, 34), (1, 1, 35)]) .any, rg 37 (.call k_octet_Join [36]) .any, rg 6 (.move 37) .any]) <|
 .reg [rg 38 (.bin .add 22 (.const (.int .i64 1))) .i, rg 22 (.move 38) .i]) <|
 .seq (.reg [rg 39 (.move 6) .any, rg 40 (.fieldAddr 1 1) .ptr, rg 41 (.load false 1 40) .i, rg 42 (.bin .mul (.const (.int .i64 64)) 41) .i, rg 43 (.makeSlice 1 1 [(.int .u8 0)] 42 42) .any, rg 44 (.buildSlice 2 1 [(.slice none 0 0), (.slice none 0 0)] [(0, 1, 39), (1, 1, 43)]) .any, rg 45 (.call k_octet_Join [44]) .any, rg 46 (.call k_sector_Load [45]) .any, rg 47 (.extract 46 0) .ptr, rg 48 (.extract 46 1) .i, rg 2 (.move 47) .ptr, rg 3 (.move 48) .i]) <|
 .ret
def f_home_New_L14 (n : Nat) (x5 : Int) (v6 : Value) (v7 : Int) (h8 : Heap) : Option (((Value × Int × Unit) × Heap) ⊕ (((Value × Unit) × Heap) ⊕ ((Option Addr × Int × Unit) × Heap))) :=
  bif (decide (v7 < x5)) then
    ((fillL (List.replicate 32 (.int .u8 0)) []).bind fun cs9 =>
    (f_home_Encode n v7 (.agg ⟨cs9⟩) h8).bind fun p10 =>
    bif (!decide (p10.1.2.1 = 0)) then
      (some (.inr (.inr ((none, (p10.1.2.1, ())), p10.2))))
    else
      ((fillL [(.slice none 0 0), (.slice none 0 0)] [(0, 1, v6), (1, 1, p10.1.1)]).bind fun cs11 =>
      bnd ((Heap.new p10.2 (.cells cs11 false 1))) fun h12 =>
      (f_octet_Join n (.slice (some ⟨Heap.next p10.2, 0, some 0⟩) 2 2) h12).bind fun p13 =>
      some (.inl ((p13.1.1, ((IntKind.i64.wrap (v7 + 1)), ())), p13.2))))
  else
    (some (.inr (.inl ((v6, ()), h8))))
def f_home_New_C15 (n : Nat) (h : Heap) (p3 : ((Value × Int × Unit) × Heap)) (h4 : Heap) : Option (((Value × Unit) × Heap) ⊕ ((Option Addr × Int × Unit) × Heap)) :=
  (ldT (.int .i64) h4 (some (fa (nwA h) 0))).bind fun x5 =>
  loopT (fun a => f_home_New_L14 n x5 a.1.1 a.1.2.1 a.2) n ((p3.1.1, (0, ())), h4)
noncomputable def sf_home_New (n : Nat) : Sf := sfOf [(k_super_Encode, s_super_Encode n), (k_home_Encode, s_home_Encode n), (k_octet_Join, s_octet_Join n), (k_sector_Load, s_sector_Load n)]
noncomputable def it_home_New (n : Nat) : It := itOf []
def f_home_New (n : Nat) (u0 : Value) (h : Heap) : Option ((Option Addr × Int × Unit) × Heap) :=
  bif (cellsOf u0).all isCell then
    (bnd ((Heap.new h (.cells (cellsOf u0) false 0))) fun h0 =>
    (ldA 5 h0 (some (nwA h))).bind fun cs1 =>
    (fillL [(.int .i64 0), (.int .i64 0), (.int .i64 0), (.int .i64 0), (.int .i64 0), (.int .u64 0), (.int .u64 0)] [(0, 5, (.agg ⟨cs1⟩)), (6, 1, (.int .u64 1))]).bind fun cs2 =>
    (f_super_Encode n (.agg ⟨cs2⟩) h0).bind fun p3 =>
    bif (!decide (p3.1.2.1 = 0)) then
      (some ((none, (p3.1.2.1, ())), p3.2))
    else
      (thenB (f_home_New_C15 n h p3 (p3.2)) fun a16 =>
      (ldT (.int .i64) a16.2 (some (fa (nwA h) 1))).bind fun x17 =>
      (mkSl (Heap.next a16.2) 1 1 [(.int .u8 0)] (.int .i64 (IntKind.i64.wrap (64 * x17))) (.int .i64 (IntKind.i64.wrap (64 * x17)))).bind fun p18 =>
      bnd ((Heap.new a16.2 (p18.2))) fun h19 =>
      (fillL [(.slice none 0 0), (.slice none 0 0)] [(0, 1, a16.1.1), (1, 1, p18.1)]).bind fun cs20 =>
      bnd ((Heap.new h19 (.cells cs20 false 1))) fun h21 =>
      (f_octet_Join n (.slice (some ⟨Heap.next h19, 0, some 0⟩) 2 2) h21).bind fun p22 =>
      (f_sector_Load n p22.1.1 p22.2).bind fun p23 =>
      some ((p23.1.1, (p23.1.2.1, ())), p23.2)))
  else
    (none)
def rs_home_New : Rs := [(.tmp 2, .ptr), (.tmp 3, (.int .i64))]
def ps_home_New : List Ty := [.any]
theorem e_home_New (n : Nat) (u0 : Value) (h : Heap) : f_home_New n u0 h = fB (sf_home_New n) (it_home_New n) n c2_home_New rs_home_New ps_home_New (u0, ()) h := by kernel_rfl
noncomputable def s_home_New (n : Nat) : Sf1 := mkSf ps_home_New rs_home_New fun a h => f_home_New n a.1 h
/- wicket/wicketref08.New -/
def c2_r8_New : C2 := .seq (.reg [rg 1 (.box 0) .ptr, rg 2 (.move (.const (.pointer none))) .ptr, rg 3 (.move (.const (.int .i64 0))) .i]) <|
 .seq (.seq (.reg [rg 10 (.load true 5 1) .any, rg 11 (.call k_r8_May [10]) .bool, rg 12 (.un .not 11) .bool]) <|
 .cond 12 (.seq (.reg [rg 2 (.move (.const (.pointer none))) .ptr, rg 3 (.move (.const (.int .i64 3))) .i]) <|
 .ret) (.skip)) <|
 .seq (.reg [rg 13 (.load true 5 1) .any, rg 14 (.call k_r8_Super [13]) .any, rg 4 (.move 14) .any]) <|
 .seq (.cutn [(4, .any)] <|
 .seq (.reg [rg 5 (.move (.const (.int .i64 0))) .i]) <|
 .block 0 <|
 .loop [(4, .any), (5, .i)] <|
 .seq (.seq (.reg [rg 15 (.move 5) .i, rg 16 (.fieldAddr 0 1) .ptr, rg 17 (.load false 1 16) .i, rg 18 (.bin .lss 15 17) .bool]) <|
 .cond 18 (.skip) (.exit 0)) <|
 .seq (.block 1 <|
 .seq (.reg [rg 22 (.move 5) .i, rg 23 (.build (List.replicate 32 (.int .u8 0)) []) .any, rg 24 (.call k_r8_Encode [22, 23]) .any, rg 21 (.move 24) .any, rg 25 (.extract 21 0) .any, rg 26 (.extract 21 1) .i, rg 6 (.move 25) .any, rg 7 (.move 26) .i]) <|
 .reg [rg 27 (.move 4) .any, rg 28 (.move 6) .any, rg 29 (.append 1 1 27 28) .any, rg 4 (.move 29) .any]) <|
 .reg [rg 19 (.move 5) .i, rg 20 (.bin .add 19 (.const (.int .i64 1))) .i, rg 5 (.move 20) .i]) <|
 .seq (.reg [rg 31 (.move 4) .any, rg 32 (.fieldAddr 1 1) .ptr, rg 33 (.load false 1 32) .i, rg 34 (.bin .mul (.const (.int .i64 64)) 33) .i, rg 35 (.appendZ 1 1 [(.int .u8 0)] 31 34) .any, rg 36 (.call k_r4_Load [35]) .any, rg 30 (.move 36) .any, rg 37 (.extract 30 0) .ptr, rg 38 (.extract 30 1) .i, rg 8 (.move 37) .ptr, rg 9 (.move 38) .i]) <|
 .seq (.reg [rg 39 (.move 8) .ptr, rg 2 (.move 39) .ptr, rg 3 (.move (.const (.int .i64 0))) .i]) <|
 .ret
def f_r8_New_L12 (n : Nat) (h : Heap) (v5 : Value) (v6 : Int) (h7 : Heap) : Option (((Value × Int × Unit) × Heap) ⊕ ((Value × Unit) × Heap)) :=
  (ldT (.int .i64) h7 (some (fa (nwA h) 0))).bind fun x8 =>
  bif (decide (v6 < x8)) then
    ((fillL (List.replicate 32 (.int .u8 0)) []).bind fun cs9 =>
    (f_r8_Encode n v6 (.agg ⟨cs9⟩) h7).bind fun p10 =>
    (appendK p10.2 1 1 v5 p10.1.1).bind fun p11 =>
    some (.inl ((p11.1, ((IntKind.i64.wrap (v6 + 1)), ())), p11.2)))
  else
    (some (.inr ((v5, ()), h7)))
noncomputable def sf_r8_New (n : Nat) : Sf := sfOf [(k_r8_May, s_r8_May n), (k_r8_Super, s_r8_Super n), (k_r8_Encode, s_r8_Encode n), (k_r4_Load, s_r4_Load n)]
noncomputable def it_r8_New (n : Nat) : It := itOf []
def f_r8_New (n : Nat) (u0 : Value) (h : Heap) : Option ((Option Addr × Int × Unit) × Heap) :=
  bif (cellsOf u0).all isCell then
    (bnd ((Heap.new h (.cells (cellsOf u0) false 0))) fun h0 =>
    (ldA 5 h0 (some (nwA h))).bind fun cs1 =>
    (f_r8_May n (.agg ⟨cs1⟩) h0).bind fun p2 =>
    bif (!p2.1.1) then
      (some ((none, (3, ())), p2.2))
    else
      ((ldA 5 p2.2 (some (nwA h))).bind fun cs3 =>
      (f_r8_Super n (.agg ⟨cs3⟩) p2.2).bind fun p4 =>
      ((loopT (fun a => f_r8_New_L12 n h a.1.1 a.1.2.1 a.2) n ((p4.1.1, (0, ())), p4.2)) : Option ((Value × Unit) × Heap)).bind fun a13 =>
      (ldT (.int .i64) a13.2 (some (fa (nwA h) 1))).bind fun x14 =>
      (appendZK a13.2 1 1 [(.int .u8 0)] a13.1.1 (.int .i64 (IntKind.i64.wrap (64 * x14)))).bind fun p15 =>
      (f_r4_Load n p15.1 p15.2).bind fun p16 =>
      some ((p16.1.1, (0, ())), p16.2)))
  else
    (none)
def rs_r8_New : Rs := [(.tmp 2, .ptr), (.tmp 3, (.int .i64))]
def ps_r8_New : List Ty := [.any]
theorem e_r8_New (n : Nat) (u0 : Value) (h : Heap) : f_r8_New n u0 h = fB (sf_r8_New n) (it_r8_New n) n c2_r8_New rs_r8_New ps_r8_New (u0, ()) h := by kernel_rfl
noncomputable def s_r8_New (n : Nat) : Sf1 := mkSf ps_r8_New rs_r8_New fun a h => f_r8_New n a.1 h
/- wicket/home.Save -/
def c2_home_Save : C2 := .seq (.reg [rg 5 (.box 1) .ptr, rg 7 (.box 3) .ptr, rg 8 (.move (.const (.int .i64 0))) .i]) <|
 .seq (.seq (.reg [rg 12 (.move 0) .ptr, rg 13 (.load true 5 5) .any, rg 14 (.move 2) .i, rg 15 (.call k_home_has [12, 13, 14]) .i, rg 9 (.move 15) .i]) <|
 .seq (.reg [rg 16 (.move 9) .i, rg 17 (.bin .neq 16 (.const (.int .i64 0))) .bool]) <|
 .cond 17 (.seq (.reg [rg 18 (.move 9) .i, rg 8 (.move 18) .i]) <|
 .ret) (.skip)) <|
 .seq (.reg [rg 20 (.move 2) .i, rg 21 (.load true 32 7) .any, rg 22 (.call k_home_Encode [20, 21]) .any, rg 19 (.move 22) .any, rg 23 (.extract 19 0) .any, rg 24 (.extract 19 1) .i, rg 10 (.move 23) .any, rg 11 (.move 24) .i]) <|
 .seq (.seq (.reg [rg 25 (.move 11) .i, rg 26 (.bin .neq 25 (.const (.int .i64 0))) .bool]) <|
 .cond 26 (.seq (.reg [rg 27 (.move 11) .i, rg 8 (.move 27) .i]) <|
 .ret) (.skip)) <|
 .seq (.reg [rg 28 (.move 0) .ptr, rg 29 (.move 2) .i, rg 30 (.bin .add (.const (.int .i64 1)) 29) .i, rg 31 (.move 10) .any, rg 32 (.call k_sector_Disk_Write [28, 30, 31]) .i, rg 8 (.move 32) .i]) <|
 .ret
noncomputable def sf_home_Save (n : Nat) : Sf := sfOf [(k_home_has, s_home_has n), (k_home_Encode, s_home_Encode n), (k_sector_Disk_Write, s_sector_Disk_Write n)]
noncomputable def it_home_Save (n : Nat) : It := itOf []
def f_home_Save (n : Nat) (u0 : Option Addr) (u1 : Value) (u2 : Int) (u3 : Value) (h : Heap) : Option ((Int × Unit) × Heap) :=
  bif (cellsOf u1).all isCell then
    (bnd ((Heap.new h (.cells (cellsOf u1) false 0))) fun h0 =>
    bif (cellsOf u3).all isCell then
      (bnd ((Heap.new h0 (.cells (cellsOf u3) false 0))) fun h1 =>
      (ldA 5 h1 (some (nwA h))).bind fun cs2 =>
      (f_home_has n u0 (.agg ⟨cs2⟩) u2 h1).bind fun p3 =>
      bif (!decide (p3.1.1 = 0)) then
        (some ((p3.1.1, ()), p3.2))
      else
        ((ldA 32 p3.2 (some (nwA h0))).bind fun cs4 =>
        (f_home_Encode n u2 (.agg ⟨cs4⟩) p3.2).bind fun p5 =>
        bif (!decide (p5.1.2.1 = 0)) then
          (some ((p5.1.2.1, ()), p5.2))
        else
          ((f_sector_Disk_Write n u0 (IntKind.i64.wrap (1 + u2)) p5.1.1 p5.2).bind fun p6 =>
          some ((p6.1.1, ()), p6.2))))
    else
      (none))
  else
    (none)
def rs_home_Save : Rs := [(.tmp 8, (.int .i64))]
def ps_home_Save : List Ty := [.ptr, .any, (.int .i64), .any]
theorem e_home_Save (n : Nat) (u0 : Option Addr) (u1 : Value) (u2 : Int) (u3 : Value) (h : Heap) : f_home_Save n u0 u1 u2 u3 h = fB (sf_home_Save n) (it_home_Save n) n c2_home_Save rs_home_Save ps_home_Save (u0, (u1, (u2, (u3, ())))) h := by kernel_rfl
noncomputable def s_home_Save (n : Nat) : Sf1 := mkSf ps_home_Save rs_home_Save fun a h => f_home_Save n a.1 a.2.1 a.2.2.1 a.2.2.2.1 h
/- wicket/home.Load -/
def c2_home_Load : C2 := .seq (.reg [rg 4 (.box 1) .ptr, rg 6 (.alloc (List.replicate 32 (.int .u8 0))) .ptr, rg 7 (.move (.const (.int .i64 0))) .i]) <|
 .seq (.seq (.reg [rg 11 (.move 0) .ptr, rg 12 (.load true 5 4) .any, rg 13 (.move 2) .i, rg 14 (.call k_home_has [11, 12, 13]) .i, rg 8 (.move 14) .i]) <|
 .seq (.reg [rg 15 (.move 8) .i, rg 16 (.bin .neq 15 (.const (.int .i64 0))) .bool]) <|
 .cond 16 (.seq (.reg [rg 17 (.build (List.replicate 32 (.int .u8 0)) []) .any, rg 18 (.move 8) .i, rn (.store 32 6 17) .any, rg 7 (.move 18) .i]) <|
 .ret) (.skip)) <|
 .seq (.reg [rg 20 (.move 0) .ptr, rg 21 (.move 2) .i, rg 22 (.bin .add (.const (.int .i64 1)) 21) .i, rg 23 (.call k_sector_Disk_Read [20, 22]) .any, rg 19 (.move 23) .any, rg 24 (.extract 19 0) .any, rg 25 (.extract 19 1) .i, rg 9 (.move 24) .any, rg 10 (.move 25) .i]) <|
 .seq (.seq (.reg [rg 26 (.move 10) .i, rg 27 (.bin .neq 26 (.const (.int .i64 0))) .bool]) <|
 .cond 27 (.seq (.reg [rg 28 (.build (List.replicate 32 (.int .u8 0)) []) .any, rg 29 (.move 10) .i, rn (.store 32 6 28) .any, rg 7 (.move 29) .i]) <|
 .ret) (.skip)) <|
 .seq (.reg [rg 30 (.move 9) .any, rg 31 (.move 2) .i, rg 32 (.call k_home_Decode [30, 31]) .any, rg 33 (.extract 32 0) .any, rg 34 (.extract 32 1) .i, rn (.store 32 6 33) .any, rg 7 (.move 34) .i]) <|
 .ret
noncomputable def sf_home_Load (n : Nat) : Sf := sfOf [(k_home_has, s_home_has n), (k_sector_Disk_Read, s_sector_Disk_Read n), (k_home_Decode, s_home_Decode n)]
noncomputable def it_home_Load (n : Nat) : It := itOf []
def f_home_Load (n : Nat) (u0 : Option Addr) (u1 : Value) (u2 : Int) (h : Heap) : Option ((Value × Int × Unit) × Heap) :=
  bif (cellsOf u1).all isCell then
    (bnd ((Heap.new h (.cells (cellsOf u1) false 0))) fun h0 =>
    bnd ((Heap.new h0 (.cells (List.replicate 32 (.int .u8 0)) false 0))) fun h1 =>
    (ldA 5 h1 (some (nwA h))).bind fun cs2 =>
    (f_home_has n u0 (.agg ⟨cs2⟩) u2 h1).bind fun p3 =>
    bif (!decide (p3.1.1 = 0)) then
      ((fillL (List.replicate 32 (.int .u8 0)) []).bind fun cs4 =>
      (stB 32 (.agg ⟨cs4⟩) p3.2 (some (nwA h0))).bind fun h5 =>
      (ldA 32 h5 (some (nwA h0))).bind fun cs6 =>
      some (((.agg ⟨cs6⟩), (p3.1.1, ())), h5))
    else
      ((f_sector_Disk_Read n u0 (IntKind.i64.wrap (1 + u2)) p3.2).bind fun p7 =>
      bif (!decide (p7.1.2.1 = 0)) then
        ((fillL (List.replicate 32 (.int .u8 0)) []).bind fun cs8 =>
        (stB 32 (.agg ⟨cs8⟩) p7.2 (some (nwA h0))).bind fun h9 =>
        (ldA 32 h9 (some (nwA h0))).bind fun cs10 =>
        some (((.agg ⟨cs10⟩), (p7.1.2.1, ())), h9))
      else
        ((f_home_Decode n p7.1.1 u2 p7.2).bind fun p11 =>
        (stB 32 p11.1.1 p11.2 (some (nwA h0))).bind fun h12 =>
        (ldA 32 h12 (some (nwA h0))).bind fun cs13 =>
        some (((.agg ⟨cs13⟩), (p11.1.2.1, ())), h12))))
  else
    (none)
def rs_home_Load : Rs := [(.cell true 32 6, .any), (.tmp 7, (.int .i64))]
def ps_home_Load : List Ty := [.ptr, .any, (.int .i64)]
theorem e_home_Load (n : Nat) (u0 : Option Addr) (u1 : Value) (u2 : Int) (h : Heap) : f_home_Load n u0 u1 u2 h = fB (sf_home_Load n) (it_home_Load n) n c2_home_Load rs_home_Load ps_home_Load (u0, (u1, (u2, ()))) h := by kernel_rfl
noncomputable def s_home_Load (n : Nat) : Sf1 := mkSf ps_home_Load rs_home_Load fun a h => f_home_Load n a.1 a.2.1 a.2.2.1 h
/- wicket/wicketref08.Load -/
def c2_r8_Load : C2 := .seq (.reg [rg 4 (.box 1) .ptr, rg 6 (.alloc (List.replicate 32 (.int .u8 0))) .ptr, rg 7 (.move (.const (.int .i64 0))) .i]) <|
 .seq (.reg [rg 11 (.move 0) .ptr, rg 12 (.load true 5 4) .any, rg 13 (.call k_r8_fits [11, 12]) .i, rg 8 (.move 13) .i]) <|
 .seq (.seq (.reg [rg 14 (.move 8) .i, rg 15 (.bin .neq 14 (.const (.int .i64 0))) .bool]) <|
 .cond 15 (.seq (.reg [rg 16 (.build (List.replicate 32 (.int .u8 0)) []) .any, rg 17 (.move 8) .i, rn (.store 32 6 16) .any, rg 7 (.move 17) .i]) <|
 .ret) (.skip)) <|
 .seq (.seq (.cutn [(25, .bool)] <|
 .reg [rg 18 (.move 2) .i, rg 19 (.bin .lss 18 (.const (.int .i64 0))) .bool, rg 20 (.move 19) .bool, rq 21 (.move 2) 20 .i, rq 22 (.fieldAddr 0 4) 20 .ptr, rq 23 (.load false 1 22) 20 .i, rq 24 (.bin .geq 21 23) 20 .bool, rg 25 (.pick 20 (.const (.bool true)) 24) .bool]) <|
 .cond 25 (.seq (.reg [rg 26 (.build (List.replicate 32 (.int .u8 0)) []) .any, rn (.store 32 6 26) .any, rg 7 (.move (.const (.int .i64 51))) .i]) <|
 .ret) (.skip)) <|
 .seq (.reg [rg 28 (.move 0) .ptr, rg 29 (.move 2) .i, rg 30 (.bin .add (.const (.int .i64 1)) 29) .i, rg 31 (.call k_r4_Disk_Read [28, 30]) .any, rg 27 (.move 31) .any, rg 32 (.extract 27 0) .any, rg 33 (.extract 27 1) .i, rg 9 (.move 32) .any, rg 10 (.move 33) .i]) <|
 .seq (.reg [rg 34 (.move 9) .any, rg 35 (.move 2) .i, rg 36 (.call k_r8_Decode [34, 35]) .any, rg 37 (.extract 36 0) .any, rg 38 (.extract 36 1) .i, rn (.store 32 6 37) .any, rg 7 (.move 38) .i]) <|
 .ret
noncomputable def sf_r8_Load (n : Nat) : Sf := sfOf [(k_r8_fits, s_r8_fits n), (k_r4_Disk_Read, s_r4_Disk_Read n), (k_r8_Decode, s_r8_Decode n)]
noncomputable def it_r8_Load (n : Nat) : It := itOf []
def f_r8_Load (n : Nat) (u0 : Option Addr) (u1 : Value) (u2 : Int) (h : Heap) : Option ((Value × Int × Unit) × Heap) :=
  bif (cellsOf u1).all isCell then
    (bnd ((Heap.new h (.cells (cellsOf u1) false 0))) fun h0 =>
    bnd ((Heap.new h0 (.cells (List.replicate 32 (.int .u8 0)) false 0))) fun h1 =>
    (ldA 5 h1 (some (nwA h))).bind fun cs2 =>
    (f_r8_fits n u0 (.agg ⟨cs2⟩) h1).bind fun p3 =>
    bif (!decide (p3.1.1 = 0)) then
      ((fillL (List.replicate 32 (.int .u8 0)) []).bind fun cs4 =>
      (stB 32 (.agg ⟨cs4⟩) p3.2 (some (nwA h0))).bind fun h5 =>
      (ldA 32 h5 (some (nwA h0))).bind fun cs6 =>
      some (((.agg ⟨cs6⟩), (p3.1.1, ())), h5))
    else
      (((bif (decide (u2 < 0)) then
          (some ((true, ()), p3.2))
        else
          ((ldT (.int .i64) p3.2 (some (fa (nwA h) 0))).bind fun x7 =>
          some (((decide (x7 ≤ u2)), ()), p3.2))) : Option ((Bool × Unit) × Heap)).bind fun a8 =>
      bif a8.1.1 then
        ((fillL (List.replicate 32 (.int .u8 0)) []).bind fun cs9 =>
        (stB 32 (.agg ⟨cs9⟩) a8.2 (some (nwA h0))).bind fun h10 =>
        (ldA 32 h10 (some (nwA h0))).bind fun cs11 =>
        some (((.agg ⟨cs11⟩), (51, ())), h10))
      else
        ((f_r4_Disk_Read n u0 (IntKind.i64.wrap (1 + u2)) a8.2).bind fun p12 =>
        (f_r8_Decode n p12.1.1 u2 p12.2).bind fun p13 =>
        (stB 32 p13.1.1 p13.2 (some (nwA h0))).bind fun h14 =>
        (ldA 32 h14 (some (nwA h0))).bind fun cs15 =>
        some (((.agg ⟨cs15⟩), (p13.1.2.1, ())), h14))))
  else
    (none)
def rs_r8_Load : Rs := [(.cell true 32 6, .any), (.tmp 7, (.int .i64))]
def ps_r8_Load : List Ty := [.ptr, .any, (.int .i64)]
theorem e_r8_Load (n : Nat) (u0 : Option Addr) (u1 : Value) (u2 : Int) (h : Heap) : f_r8_Load n u0 u1 u2 h = fB (sf_r8_Load n) (it_r8_Load n) n c2_r8_Load rs_r8_Load ps_r8_Load (u0, (u1, (u2, ()))) h := by kernel_rfl
noncomputable def s_r8_Load (n : Nat) : Sf1 := mkSf ps_r8_Load rs_r8_Load fun a h => f_r8_Load n a.1 a.2.1 a.2.2.1 h
/- wicket/home.All -/
def c2_home_All : C2 := .seq (.reg [rg 3 (.box 1) .ptr, rg 4 (.move (.const (.slice none 0 0))) .any, rg 5 (.move (.const (.int .i64 0))) .i]) <|
 .seq (.seq (.reg [rg 11 (.move 0) .ptr, rg 12 (.load true 5 3) .any, rg 13 (.call k_home_fits [11, 12]) .i, rg 6 (.move 13) .i]) <|
 .seq (.reg [rg 14 (.move 6) .i, rg 15 (.bin .neq 14 (.const (.int .i64 0))) .bool]) <|
 .cond 15 (.seq (.reg [rg 16 (.move 6) .i, rg 4 (.move (.const (.slice none 0 0))) .any, rg 5 (.move 16) .i]) <|
 .ret) (.skip)) <|
 .seq (.reg [rg 7 (.move (.const (.slice none 0 0))) .any]) <|
 .seq (.cut [(7, .any)] <|
 .seq (.reg [rg 17 (.fieldAddr 0 3) .ptr, rg 18 (.load false 1 17) .i, rg 19 (.move (.const (.int .i64 0))) .i]) <|
 .block 0 <|
 .loop [(7, .any), (19, .i)] <|
 .seq (.reg [rg 20 (.bin .lss 19 18) .bool]) <|
 .seq (.cond 20 (.skip) (.exit 0)) <|
 .seq (.block 1 <|
 .seq (.reg [rg 21 (.move 19) .i, rg 8 (.move 21) .i]) <|
 .seq (.reg [rg 23 (.move 0) .ptr, rg 24 (.load true 5 3) .any, rg 25 (.move 8) .i, rg 26 (.call k_home_Load [23, 24, 25]) .any, rg 22 (.move 26) .any, rg 27 (.extract 22 0) .any, rg 28 (.extract 22 1) .i, rg 9 (.alloc (List.replicate 32 (.int .u8 0))) .ptr, rn (.store 32 9 27) .any, rg 10 (.move 28) .i]) <|
 .seq (.seq (.reg [rg 29 (.move 10) .i, rg 30 (.bin .neq 29 (.const (.int .i64 0))) .bool]) <|
 .cond 30 (.seq (.reg [rg 31 (.move 10) .i, rg 4 (.move (.const (.slice none 0 0))) .any, rg 5 (.move 31) .i]) <|
 .ret) (.skip)) <|
 .reg [rg 32 (.move 7) .any, rg 33 (.load true 32 9) .any, rg 34 (.buildSlice 1 32 (List.replicate 32 (.int .u8 0)) [(0, 32, 33)]) .any, rg 35 (.append 32 32 32 34) .any, rg 7 (.move 35) .any]) <|
 .reg [rg 36 (.bin .add 19 (.const (.int .i64 1))) .i, rg 19 (.move 36) .i]) <|
 .seq (.reg [rg 37 (.move 7) .any, rg 4 (.move 37) .any, rg 5 (.move (.const (.int .i64 0))) .i]) <|
 .ret
def f_home_All_L16 (n : Nat) (h : Heap) (u0 : Option Addr) (x4 : Int) (v5 : Value) (v6 : Int) (h7 : Heap) : Option (((Value × Int × Unit) × Heap) ⊕ (((Value × Unit) × Heap) ⊕ ((Value × Int × Unit) × Heap))) :=
  bif (decide (v6 < x4)) then
    ((ldA 5 h7 (some (nwA h))).bind fun cs8 =>
    (f_home_Load n u0 (.agg ⟨cs8⟩) v6 h7).bind fun p9 =>
    bnd ((Heap.new p9.2 (.cells (List.replicate 32 (.int .u8 0)) false 0))) fun h10 =>
    (stB 32 p9.1.1 h10 (some (nwA p9.2))).bind fun h11 =>
    bif (!decide (p9.1.2.1 = 0)) then
      (some (.inr (.inr (((.slice none 0 0), (p9.1.2.1, ())), h11))))
    else
      ((ldA 32 h11 (some (nwA p9.2))).bind fun cs12 =>
      (fillL (List.replicate 32 (.int .u8 0)) [(0, 32, (.agg ⟨cs12⟩))]).bind fun cs13 =>
      bnd ((Heap.new h11 (.cells cs13 false 32))) fun h14 =>
      (appendK h14 32 32 v5 (.slice (some ⟨Heap.next h11, 0, some 0⟩) 1 1)).bind fun p15 =>
      some (.inl ((p15.1, ((IntKind.i64.wrap (v6 + 1)), ())), p15.2))))
  else
    (some (.inr (.inl ((v5, ()), h7))))
def f_home_All_C17 (n : Nat) (h : Heap) (u0 : Option Addr) (h3 : Heap) : Option (((Value × Unit) × Heap) ⊕ ((Value × Int × Unit) × Heap)) :=
  (ldT (.int .i64) h3 (some (fa (nwA h) 0))).bind fun x4 =>
  loopT (fun a => f_home_All_L16 n h u0 x4 a.1.1 a.1.2.1 a.2) n (((.slice none 0 0), (0, ())), h3)
noncomputable def sf_home_All (n : Nat) : Sf := sfOf [(k_home_fits, s_home_fits n), (k_home_Load, s_home_Load n)]
noncomputable def it_home_All (n : Nat) : It := itOf []
def f_home_All (n : Nat) (u0 : Option Addr) (u1 : Value) (h : Heap) : Option ((Value × Int × Unit) × Heap) :=
  bif (cellsOf u1).all isCell then
    (bnd ((Heap.new h (.cells (cellsOf u1) false 0))) fun h0 =>
    (ldA 5 h0 (some (nwA h))).bind fun cs1 =>
    (f_home_fits n u0 (.agg ⟨cs1⟩) h0).bind fun p2 =>
    bif (!decide (p2.1.1 = 0)) then
      (some (((.slice none 0 0), (p2.1.1, ())), p2.2))
    else
      (thenB (f_home_All_C17 n h u0 (p2.2)) fun a18 =>
      bif !isTuple a18.1.1 then
        (some ((a18.1.1, (0, ())), a18.2))
      else
        (none)))
  else
    (none)
def rs_home_All : Rs := [(.tmp 4, .any), (.tmp 5, (.int .i64))]
def ps_home_All : List Ty := [.ptr, .any]
theorem e_home_All (n : Nat) (u0 : Option Addr) (u1 : Value) (h : Heap) : f_home_All n u0 u1 h = fB (sf_home_All n) (it_home_All n) n c2_home_All rs_home_All ps_home_All (u0, (u1, ())) h := by kernel_rfl
noncomputable def s_home_All (n : Nat) : Sf1 := mkSf ps_home_All rs_home_All fun a h => f_home_All n a.1 a.2.1 h
/- wicket/wicketref08.All -/
def c2_r8_All : C2 := .seq (.reg [rg 3 (.box 1) .ptr, rg 4 (.move (.const (.slice none 0 0))) .any, rg 5 (.move (.const (.int .i64 0))) .i]) <|
 .seq (.reg [rg 11 (.move 0) .ptr, rg 12 (.load true 5 3) .any, rg 13 (.call k_r8_fits [11, 12]) .i, rg 6 (.move 13) .i]) <|
 .seq (.seq (.reg [rg 14 (.move 6) .i, rg 15 (.bin .neq 14 (.const (.int .i64 0))) .bool]) <|
 .cond 15 (.seq (.reg [rg 16 (.move 6) .i, rg 4 (.move (.const (.slice none 0 0))) .any, rg 5 (.move 16) .i]) <|
 .ret) (.skip)) <|
 .seq (.reg [rg 7 (.move (.const (.slice none 0 0))) .any]) <|
 .seq (.cut [(7, .any)] <|
 .seq (.reg [rg 8 (.move (.const (.int .i64 0))) .i]) <|
 .block 0 <|
 .loop [(7, .any), (8, .i)] <|
 .seq (.seq (.reg [rg 17 (.move 8) .i, rg 18 (.fieldAddr 0 3) .ptr, rg 19 (.load false 1 18) .i, rg 20 (.bin .lss 17 19) .bool]) <|
 .cond 20 (.skip) (.exit 0)) <|
 .seq (.block 1 <|
 .seq (.reg [rg 24 (.move 0) .ptr, rg 25 (.load true 5 3) .any, rg 26 (.move 8) .i, rg 27 (.call k_r8_Load [24, 25, 26]) .any, rg 23 (.move 27) .any, rg 28 (.extract 23 0) .any, rg 29 (.extract 23 1) .i, rg 9 (.alloc (List.replicate 32 (.int .u8 0))) .ptr, rn (.store 32 9 28) .any, rg 10 (.move 29) .i]) <|
 .seq (.seq (.reg [rg 30 (.move 10) .i, rg 31 (.bin .neq 30 (.const (.int .i64 0))) .bool]) <|
 .cond 31 (.seq (.reg [rg 32 (.move 10) .i, rg 4 (.move (.const (.slice none 0 0))) .any, rg 5 (.move 32) .i]) <|
 .ret) (.skip)) <|
 .reg [rg 33 (.move 7) .any, rg 34 (.load true 32 9) .any, rg 35 (.buildSlice 1 32 (List.replicate 32 (.int .u8 0)) [(0, 32, 34)]) .any, rg 36 (.append 32 32 33 35) .any, rg 7 (.move 36) .any]) <|
 .reg [rg 21 (.move 8) .i, rg 22 (.bin .add 21 (.const (.int .i64 1))) .i, rg 8 (.move 22) .i]) <|
 .seq (.reg [rg 37 (.move 7) .any, rg 4 (.move 37) .any, rg 5 (.move (.const (.int .i64 0))) .i]) <|
 .ret
def f_r8_All_L16 (n : Nat) (h : Heap) (u0 : Option Addr) (v4 : Value) (v5 : Int) (h6 : Heap) : Option (((Value × Int × Unit) × Heap) ⊕ (((Value × Unit) × Heap) ⊕ ((Value × Int × Unit) × Heap))) :=
  (ldT (.int .i64) h6 (some (fa (nwA h) 0))).bind fun x7 =>
  bif (decide (v5 < x7)) then
    ((ldA 5 h6 (some (nwA h))).bind fun cs8 =>
    (f_r8_Load n u0 (.agg ⟨cs8⟩) v5 h6).bind fun p9 =>
    bnd ((Heap.new p9.2 (.cells (List.replicate 32 (.int .u8 0)) false 0))) fun h10 =>
    (stB 32 p9.1.1 h10 (some (nwA p9.2))).bind fun h11 =>
    bif (!decide (p9.1.2.1 = 0)) then
      (some (.inr (.inr (((.slice none 0 0), (p9.1.2.1, ())), h11))))
    else
      ((ldA 32 h11 (some (nwA p9.2))).bind fun cs12 =>
      (fillL (List.replicate 32 (.int .u8 0)) [(0, 32, (.agg ⟨cs12⟩))]).bind fun cs13 =>
      bnd ((Heap.new h11 (.cells cs13 false 32))) fun h14 =>
      (appendK h14 32 32 v4 (.slice (some ⟨Heap.next h11, 0, some 0⟩) 1 1)).bind fun p15 =>
      some (.inl ((p15.1, ((IntKind.i64.wrap (v5 + 1)), ())), p15.2))))
  else
    (some (.inr (.inl ((v4, ()), h6))))
def f_r8_All_C17 (n : Nat) (h : Heap) (u0 : Option Addr) (h3 : Heap) : Option (((Value × Unit) × Heap) ⊕ ((Value × Int × Unit) × Heap)) :=
  loopT (fun a => f_r8_All_L16 n h u0 a.1.1 a.1.2.1 a.2) n (((.slice none 0 0), (0, ())), h3)
noncomputable def sf_r8_All (n : Nat) : Sf := sfOf [(k_r8_fits, s_r8_fits n), (k_r8_Load, s_r8_Load n)]
noncomputable def it_r8_All (n : Nat) : It := itOf []
def f_r8_All (n : Nat) (u0 : Option Addr) (u1 : Value) (h : Heap) : Option ((Value × Int × Unit) × Heap) :=
  bif (cellsOf u1).all isCell then
    (bnd ((Heap.new h (.cells (cellsOf u1) false 0))) fun h0 =>
    (ldA 5 h0 (some (nwA h))).bind fun cs1 =>
    (f_r8_fits n u0 (.agg ⟨cs1⟩) h0).bind fun p2 =>
    bif (!decide (p2.1.1 = 0)) then
      (some (((.slice none 0 0), (p2.1.1, ())), p2.2))
    else
      (thenB (f_r8_All_C17 n h u0 (p2.2)) fun a18 =>
      bif !isTuple a18.1.1 then
        (some ((a18.1.1, (0, ())), a18.2))
      else
        (none)))
  else
    (none)
def rs_r8_All : Rs := [(.tmp 4, .any), (.tmp 5, (.int .i64))]
def ps_r8_All : List Ty := [.ptr, .any]
theorem e_r8_All (n : Nat) (u0 : Option Addr) (u1 : Value) (h : Heap) : f_r8_All n u0 u1 h = fB (sf_r8_All n) (it_r8_All n) n c2_r8_All rs_r8_All ps_r8_All (u0, (u1, ())) h := by kernel_rfl
noncomputable def s_r8_All (n : Nat) : Sf1 := mkSf ps_r8_All rs_r8_All fun a h => f_r8_All n a.1 a.2.1 h
/- (*wicket/wicketlaw08.desk).plays -/
def c2_w8_desk_plays : C2 := .seq (.reg [rg 3 (.box 1) .ptr, rg 4 (.move (.const (.bool false))) .bool]) <|
 .seq (.reg [rg 20 (.move 0) .ptr, rg 21 (.nilCheck 20) .ptr, rg 22 (.fieldAddr 2 21) .ptr, rg 23 (.load true 5 22) .any, rg 5 (.alloc (List.replicate 5 (.int .i64 0))) .ptr, rn (.store 5 5 23) .any]) <|
 .seq (.cutn [] <|
 .seq (.reg [rg 24 (.fieldAddr 41 3) .ptr, rg 25 (.load false 1 24) .bool]) <|
 .cond 25 (.reg [rg 26 (.fieldAddr 36 3) .ptr, rg 27 (.load true 5 26) .any, rn (.store 5 5 27) .any]) (.skip)) <|
 .seq (.seq (.reg [rg 28 (.fieldAddr 0 3) .ptr, rg 29 (.load false 1 28) .i]) <|
 .block 0 <|
 .seq (.reg [rg 31 (.bin .eql 29 (.const (.int .i64 1))) .bool, rg 30 (.move 31) .bool]) <|
 .cond 30 (.seq (.regd [(⟨0, [], false, ⟨(some 32), .move 0, none⟩⟩, .ptr), (⟨1, [0], false, ⟨(some 33), .nilCheck 32, none⟩⟩, .ptr), (⟨2, [1, 0], false, ⟨(some 34), .fieldAddr 0 33, none⟩⟩, .ptr), (⟨3, [2, 1, 0], false, ⟨(some 35), .load false 1 34, none⟩⟩, .ptr), (⟨4, [], false, ⟨(some 36), .load true 5 5, none⟩⟩, .any), (⟨5, [], false, ⟨(some 37), .fieldAddr 1 3, none⟩⟩, .ptr), (⟨6, [5], false, ⟨(some 38), .load false 1 37, none⟩⟩, (.int .i64)), (⟨7, [], false, ⟨(some 39), .fieldAddr 2 3, none⟩⟩, .ptr), (⟨8, [7], false, ⟨(some 40), .load true 32 39, none⟩⟩, .any), (⟨10, [], false, ⟨(some 42), .move 0, none⟩⟩, .ptr), (⟨11, [10], false, ⟨(some 43), .nilCheck 42, none⟩⟩, .ptr), (⟨12, [11, 10], false, ⟨(some 44), .fieldAddr 1 43, none⟩⟩, .ptr), (⟨13, [12, 11, 10], false, ⟨(some 45), .load false 1 44, none⟩⟩, .ptr), (⟨14, [], false, ⟨(some 46), .load true 5 5, none⟩⟩, .any), (⟨15, [], false, ⟨(some 47), .fieldAddr 1 3, none⟩⟩, .ptr), (⟨16, [15], false, ⟨(some 48), .load false 1 47, none⟩⟩, (.int .i64)), (⟨17, [], false, ⟨(some 49), .fieldAddr 2 3, none⟩⟩, .ptr), (⟨18, [17], false, ⟨(some 50), .load true 32 49, none⟩⟩, .any), (⟨9, [3, 4, 6, 8, 2, 1, 0, 5, 7], true, ⟨(some 41), .call k_home_Save [35, 36, 38, 40], none⟩⟩, (.int .i64)), (⟨19, [13, 14, 16, 18, 9, 12, 11, 10, 15, 17, 3, 4, 6, 8, 2, 1, 0, 5, 7], true, ⟨(some 51), .call k_r8_Save [45, 46, 48, 50], none⟩⟩, (.int .i64)), (⟨20, [9, 19, 3, 4, 6, 8, 2, 1, 0, 5, 7, 13, 14, 16, 18, 12, 11, 10, 15, 17], false, ⟨(some 52), .bin .eql 41 51, none⟩⟩, .bool), (⟨21, [20, 19, 0, 1, 2, 3, 4, 5, 6, 7, 8, 9, 10, 11, 12, 13, 14, 15, 16, 17, 18], false, ⟨(some 4), .move 52, none⟩⟩, .bool)]) <|
 .ret) (.seq (.reg [rg 54 (.bin .eql 29 (.const (.int .i64 2))) .bool, rg 53 (.move 54) .bool]) <|
 .cond 53 (.seq (.regd [(⟨0, [], false, ⟨(some 56), .move 0, none⟩⟩, .ptr), (⟨1, [0], false, ⟨(some 57), .nilCheck 56, none⟩⟩, .ptr), (⟨2, [1, 0], false, ⟨(some 58), .fieldAddr 0 57, none⟩⟩, .ptr), (⟨3, [2, 1, 0], false, ⟨(some 59), .load false 1 58, none⟩⟩, .ptr), (⟨4, [], false, ⟨(some 60), .load true 5 5, none⟩⟩, .any), (⟨5, [], false, ⟨(some 61), .fieldAddr 1 3, none⟩⟩, .ptr), (⟨6, [5], false, ⟨(some 62), .load false 1 61, none⟩⟩, (.int .i64)), (⟨11, [], false, ⟨(some 6), .alloc (List.replicate 32 (.int .u8 0)), none⟩⟩, .ptr), (⟨7, [3, 4, 6, 2, 1, 0, 5], true, ⟨(some 63), .call k_home_Load [59, 60, 62], none⟩⟩, .any), (⟨8, [7, 3, 4, 6, 2, 1, 0, 5], false, ⟨(some 55), .move 63, none⟩⟩, .any), (⟨9, [8, 7, 3, 4, 6, 2, 1, 0, 5], false, ⟨(some 64), .extract 55 0, none⟩⟩, .any), (⟨10, [8, 7, 3, 4, 6, 2, 1, 0, 5], false, ⟨(some 65), .extract 55 1, none⟩⟩, (.int .i64)), (⟨12, [11, 9, 7, 0, 1, 2, 3, 4, 5, 6, 8], true, ⟨none, .store 32 6 64, none⟩⟩, .any), (⟨13, [10, 12, 0, 1, 2, 3, 4, 5, 6, 7, 8, 9, 11], false, ⟨(some 7), .move 65, none⟩⟩, (.int .i64))]) <|
 .seq (.regd [(⟨0, [], false, ⟨(some 67), .move 0, none⟩⟩, .ptr), (⟨1, [0], false, ⟨(some 68), .nilCheck 67, none⟩⟩, .ptr), (⟨2, [1, 0], false, ⟨(some 69), .fieldAddr 1 68, none⟩⟩, .ptr), (⟨3, [2, 1, 0], false, ⟨(some 70), .load false 1 69, none⟩⟩, .ptr), (⟨4, [], false, ⟨(some 71), .load true 5 5, none⟩⟩, .any), (⟨5, [], false, ⟨(some 72), .fieldAddr 1 3, none⟩⟩, .ptr), (⟨6, [5], false, ⟨(some 73), .load false 1 72, none⟩⟩, (.int .i64)), (⟨11, [], false, ⟨(some 8), .alloc (List.replicate 32 (.int .u8 0)), none⟩⟩, .ptr), (⟨7, [3, 4, 6, 2, 1, 0, 5], true, ⟨(some 74), .call k_r8_Load [70, 71, 73], none⟩⟩, .any), (⟨8, [7, 3, 4, 6, 2, 1, 0, 5], false, ⟨(some 66), .move 74, none⟩⟩, .any), (⟨9, [8, 7, 3, 4, 6, 2, 1, 0, 5], false, ⟨(some 75), .extract 66 0, none⟩⟩, .any), (⟨10, [8, 7, 3, 4, 6, 2, 1, 0, 5], false, ⟨(some 76), .extract 66 1, none⟩⟩, (.int .i64)), (⟨12, [11, 9, 7, 0, 1, 2, 3, 4, 5, 6, 8], true, ⟨none, .store 32 8 75, none⟩⟩, .any), (⟨13, [10, 12, 0, 1, 2, 3, 4, 5, 6, 7, 8, 9, 11], false, ⟨(some 9), .move 76, none⟩⟩, (.int .i64))]) <|
 .seq (.reg [rg 77 (.load true 32 6) .any, rg 78 (.load true 32 8) .any, rg 79 (.eqv false (.agg (List.replicate 32 false)) 77 78) .bool, rg 80 (.move 79) .bool, rp 81 (.move 7) 80 .i, rp 82 (.move 9) 80 .i, rp 83 (.bin .eql 81 82) 80 .bool, rg 84 (.pick 80 83 (.const (.bool false))) .bool, rg 4 (.move 84) .bool]) <|
 .ret) (.seq (.reg [rg 86 (.bin .eql 29 (.const (.int .i64 3))) .bool, rg 85 (.move 86) .bool]) <|
 .cond 85 (.seq (.reg [rg 10 (.move (.const (.int .i64 0))) .i]) <|
 .block 1 <|
 .loop [(10, .i)] <|
 .seq (.seq (.reg [rg 87 (.move 10) .i, rg 88 (.bin .lss 87 (.const (.int .i64 2))) .bool]) <|
 .cond 88 (.skip) (.exit 1)) <|
 .seq (.block 2 <|
 .seq (.regd [(⟨0, [], false, ⟨(some 92), .move 0, none⟩⟩, .ptr), (⟨1, [0], false, ⟨(some 93), .nilCheck 92, none⟩⟩, .ptr), (⟨2, [1, 0], false, ⟨(some 94), .fieldAddr 0 93, none⟩⟩, .ptr), (⟨3, [2, 1, 0], false, ⟨(some 95), .load false 1 94, none⟩⟩, .ptr), (⟨4, [], false, ⟨(some 96), .load true 5 5, none⟩⟩, .any), (⟨5, [3, 4, 2, 1, 0], true, ⟨(some 97), .call k_home_All [95, 96], none⟩⟩, .any), (⟨6, [5, 3, 4, 2, 1, 0], false, ⟨(some 91), .move 97, none⟩⟩, .any), (⟨7, [6, 5, 3, 4, 2, 1, 0], false, ⟨(some 98), .extract 91 0, none⟩⟩, .any), (⟨8, [6, 5, 3, 4, 2, 1, 0], false, ⟨(some 99), .extract 91 1, none⟩⟩, (.int .i64)), (⟨9, [7, 5, 0, 1, 2, 3, 4, 6], false, ⟨(some 11), .move 98, none⟩⟩, .any), (⟨10, [8, 9, 0, 1, 2, 3, 4, 5, 6, 7], false, ⟨(some 12), .move 99, none⟩⟩, (.int .i64))]) <|
 .seq (.regd [(⟨0, [], false, ⟨(some 101), .move 0, none⟩⟩, .ptr), (⟨1, [0], false, ⟨(some 102), .nilCheck 101, none⟩⟩, .ptr), (⟨2, [1, 0], false, ⟨(some 103), .fieldAddr 1 102, none⟩⟩, .ptr), (⟨3, [2, 1, 0], false, ⟨(some 104), .load false 1 103, none⟩⟩, .ptr), (⟨4, [], false, ⟨(some 105), .load true 5 5, none⟩⟩, .any), (⟨5, [3, 4, 2, 1, 0], true, ⟨(some 106), .call k_r8_All [104, 105], none⟩⟩, .any), (⟨6, [5, 3, 4, 2, 1, 0], false, ⟨(some 100), .move 106, none⟩⟩, .any), (⟨7, [6, 5, 3, 4, 2, 1, 0], false, ⟨(some 107), .extract 100 0, none⟩⟩, .any), (⟨8, [6, 5, 3, 4, 2, 1, 0], false, ⟨(some 108), .extract 100 1, none⟩⟩, (.int .i64)), (⟨9, [7, 5, 0, 1, 2, 3, 4, 6], false, ⟨(some 13), .move 107, none⟩⟩, .any), (⟨10, [8, 9, 0, 1, 2, 3, 4, 5, 6, 7], false, ⟨(some 14), .move 108, none⟩⟩, (.int .i64))]) <|
 .seq (.seq (.cutn [(117, .bool)] <|
 .reg [rg 109 (.move 11) .any, rg 110 (.move 13) .any, rg 111 (.call k_r8_Same [109, 110]) .bool, rg 112 (.un .not 111) .bool, rg 113 (.move 112) .bool, rq 114 (.move 12) 113 .i, rq 115 (.move 14) 113 .i, rq 116 (.bin .neq 114 115) 113 .bool, rg 117 (.pick 113 (.const (.bool true)) 116) .bool]) <|
 .cond 117 (.seq (.reg [rg 4 (.move (.const (.bool false))) .bool]) <|
 .ret) (.skip)) <|
 .regd [(⟨0, [], false, ⟨(some 118), .move 0, none⟩⟩, .ptr), (⟨1, [], false, ⟨(some 119), .move 0, none⟩⟩, .ptr), (⟨2, [], false, ⟨(some 120), .move 0, none⟩⟩, .ptr), (⟨3, [2], false, ⟨(some 121), .nilCheck 120, none⟩⟩, .ptr), (⟨4, [3, 2], false, ⟨(some 122), .fieldAddr 7 121, none⟩⟩, .ptr), (⟨5, [4, 3, 2], false, ⟨(some 123), .load false 1 122, none⟩⟩, .any), (⟨6, [], false, ⟨(some 124), .move 11, none⟩⟩, .any), (⟨7, [6], false, ⟨(some 125), .buildSlice 1 1 [(.slice none 0 0)] [(0, 1, 124)], none⟩⟩, .any), (⟨9, [], false, ⟨(some 127), .move 0, none⟩⟩, .ptr), (⟨10, [9], false, ⟨(some 128), .nilCheck 127, none⟩⟩, .ptr), (⟨11, [10, 9], false, ⟨(some 129), .fieldAddr 8 128, none⟩⟩, .ptr), (⟨12, [11, 10, 9], false, ⟨(some 130), .load false 1 129, none⟩⟩, .any), (⟨13, [], false, ⟨(some 131), .move 13, none⟩⟩, .any), (⟨14, [13], false, ⟨(some 132), .buildSlice 1 1 [(.slice none 0 0)] [(0, 1, 131)], none⟩⟩, .any), (⟨8, [5, 7, 4, 3, 2, 6], true, ⟨(some 126), .append 24 1 123 125, none⟩⟩, .any), (⟨15, [12, 14, 8, 11, 10, 9, 13, 5, 7, 4, 3, 2, 6], true, ⟨(some 133), .append 24 1 130 132, none⟩⟩, .any), (⟨16, [0, 2, 3, 4, 5, 6, 7, 8, 12, 15, 11, 10, 9, 14, 13], false, ⟨(some 134), .nilCheck 118, none⟩⟩, .ptr), (⟨17, [16, 0, 2, 3, 4, 5, 6, 7, 8, 12, 15, 11, 10, 9, 14, 13], false, ⟨(some 135), .fieldAddr 7 134, none⟩⟩, .ptr), (⟨18, [17, 8, 15, 0, 2, 3, 4, 5, 6, 7, 12, 16, 11, 10, 9, 14, 13], true, ⟨none, .store 1 135 126, none⟩⟩, .any), (⟨19, [1, 0, 2, 3, 4, 5, 6, 7, 8, 9, 10, 11, 12, 13, 14, 15, 16, 17, 18], false, ⟨(some 136), .nilCheck 119, none⟩⟩, .ptr), (⟨20, [19, 0, 1, 2, 3, 4, 5, 6, 7, 8, 9, 10, 11, 12, 13, 14, 15, 16, 17, 18], false, ⟨(some 137), .fieldAddr 8 136, none⟩⟩, .ptr), (⟨21, [20, 15, 18, 0, 1, 2, 3, 4, 5, 6, 7, 8, 9, 10, 11, 12, 13, 14, 16, 17, 19], true, ⟨none, .store 1 137 133, none⟩⟩, .any)]) <|
 .reg [rg 89 (.move 10) .i, rg 90 (.bin .add 89 (.const (.int .i64 1))) .i, rg 10 (.move 90) .i]) (.seq (.reg [rg 139 (.bin .eql 29 (.const (.int .i64 4))) .bool, rg 138 (.move 139) .bool]) <|
 .cond 138 (.seq (.reg [rg 140 (.makeSlice 1 1 [(.int .u8 0)] (.const (.int .i64 64)) (.const (.int .i64 64))) .any, rg 15 (.move 140) .any]) <|
 .seq (.reg [rg 141 (.move 15) .any, rg 142 (.fieldAddr 34 3) .ptr, rg 143 (.load false 1 142) .any, rg 144 (.copy 1 141 143) .i]) <|
 .seq (.regd [(⟨0, [], false, ⟨(some 145), .move 0, none⟩⟩, .ptr), (⟨1, [0], false, ⟨(some 146), .nilCheck 145, none⟩⟩, .ptr), (⟨2, [1, 0], false, ⟨(some 147), .fieldAddr 0 146, none⟩⟩, .ptr), (⟨3, [2, 1, 0], false, ⟨(some 148), .load false 1 147, none⟩⟩, .ptr), (⟨4, [], false, ⟨(some 149), .fieldAddr 1 3, none⟩⟩, .ptr), (⟨5, [4], false, ⟨(some 150), .load false 1 149, none⟩⟩, (.int .i64)), (⟨6, [5, 4], false, ⟨(some 151), .bin .rem 150 (.const (.int .i64 4096)), none⟩⟩, (.int .i64)), (⟨7, [6, 5, 4], false, ⟨(some 152), .bin .add (.const (.int .i64 1)) 151, none⟩⟩, (.int .i64)), (⟨8, [], false, ⟨(some 153), .move 15, none⟩⟩, .any), (⟨10, [], false, ⟨(some 155), .move 0, none⟩⟩, .ptr), (⟨11, [10], false, ⟨(some 156), .nilCheck 155, none⟩⟩, .ptr), (⟨12, [11, 10], false, ⟨(some 157), .fieldAddr 1 156, none⟩⟩, .ptr), (⟨13, [12, 11, 10], false, ⟨(some 158), .load false 1 157, none⟩⟩, .ptr), (⟨14, [], false, ⟨(some 159), .fieldAddr 1 3, none⟩⟩, .ptr), (⟨15, [14], false, ⟨(some 160), .load false 1 159, none⟩⟩, (.int .i64)), (⟨16, [15, 14], false, ⟨(some 161), .bin .rem 160 (.const (.int .i64 4096)), none⟩⟩, (.int .i64)), (⟨17, [16, 15, 14], false, ⟨(some 162), .bin .add (.const (.int .i64 1)) 161, none⟩⟩, (.int .i64)), (⟨18, [], false, ⟨(some 163), .move 15, none⟩⟩, .any), (⟨9, [3, 7, 8, 2, 1, 0, 6, 5, 4], true, ⟨(some 154), .call k_sector_Disk_Write [148, 152, 153], none⟩⟩, (.int .i64)), (⟨19, [13, 17, 18, 9, 12, 11, 10, 16, 15, 14, 3, 7, 8, 2, 1, 0, 6, 5, 4], true, ⟨(some 164), .call k_r4_Disk_Write [158, 162, 163], none⟩⟩, (.int .i64)), (⟨20, [9, 19, 3, 7, 8, 2, 1, 0, 6, 5, 4, 13, 17, 18, 12, 11, 10, 16, 15, 14], false, ⟨(some 165), .bin .eql 154 164, none⟩⟩, .bool), (⟨21, [20, 19, 0, 1, 2, 3, 4, 5, 6, 7, 8, 9, 10, 11, 12, 13, 14, 15, 16, 17, 18], false, ⟨(some 4), .move 165, none⟩⟩, .bool)]) <|
 .ret) (.seq (.reg [rg 167 (.bin .eql 29 (.const (.int .i64 5))) .bool, rg 166 (.move 167) .bool]) <|
 .cond 166 (.seq (.reg [rg 169 (.move 0) .ptr, rg 170 (.nilCheck 169) .ptr, rg 171 (.fieldAddr 0 170) .ptr, rg 172 (.load false 1 171) .ptr, rg 173 (.call k_sector_Disk_Flush [172]) .any, rg 168 (.move 173) .any, rg 174 (.extract 168 0) .i, rg 175 (.extract 168 1) .i, rg 16 (.move 174) .i, rg 17 (.move 175) .i]) <|
 .seq (.reg [rg 176 (.move 16) .i, rg 177 (.move 0) .ptr, rg 178 (.nilCheck 177) .ptr, rg 179 (.fieldAddr 1 178) .ptr, rg 180 (.load false 1 179) .ptr, rg 181 (.call k_r4_Disk_Flush [180]) .i, rg 182 (.bin .eql 176 181) .bool, rg 183 (.move 182) .bool, rp 184 (.move 17) 183 .i, rp 185 (.bin .eql 184 (.const (.int .i64 0))) 183 .bool, rg 186 (.pick 183 185 (.const (.bool false))) .bool, rg 4 (.move 186) .bool]) <|
 .ret) (.seq (.reg [rg 188 (.bin .eql 29 (.const (.int .i64 6))) .bool, rg 187 (.move 188) .bool]) <|
 .cond 187 (.seq (.regd [(⟨0, [], false, ⟨(some 190), .move 0, none⟩⟩, .ptr), (⟨1, [0], false, ⟨(some 191), .nilCheck 190, none⟩⟩, .ptr), (⟨2, [1, 0], false, ⟨(some 192), .fieldAddr 0 191, none⟩⟩, .ptr), (⟨3, [2, 1, 0], false, ⟨(some 193), .load false 1 192, none⟩⟩, .ptr), (⟨4, [], false, ⟨(some 194), .fieldAddr 35 3, none⟩⟩, .ptr), (⟨5, [4], false, ⟨(some 195), .load false 1 194, none⟩⟩, .any), (⟨6, [3, 5, 2, 1, 0, 4], true, ⟨(some 196), .call k_sector_Disk_Crash [193, 195], none⟩⟩, .any), (⟨7, [6, 3, 5, 2, 1, 0, 4], false, ⟨(some 189), .move 196, none⟩⟩, .any), (⟨8, [7, 6, 3, 5, 2, 1, 0, 4], false, ⟨(some 197), .extract 189 0, none⟩⟩, (.int .i64)), (⟨9, [7, 6, 3, 5, 2, 1, 0, 4], false, ⟨(some 198), .extract 189 1, none⟩⟩, (.int .i64)), (⟨10, [8, 6, 0, 1, 2, 3, 4, 5, 7], false, ⟨(some 18), .move 197, none⟩⟩, (.int .i64)), (⟨11, [9, 10, 0, 1, 2, 3, 4, 5, 6, 7, 8], false, ⟨(some 19), .move 198, none⟩⟩, (.int .i64))]) <|
 .seq (.regd [(⟨0, [], false, ⟨(some 199), .move 18, none⟩⟩, (.int .i64)), (⟨1, [], false, ⟨(some 200), .move 0, none⟩⟩, .ptr), (⟨2, [1], false, ⟨(some 201), .nilCheck 200, none⟩⟩, .ptr), (⟨3, [2, 1], false, ⟨(some 202), .fieldAddr 1 201, none⟩⟩, .ptr), (⟨4, [3, 2, 1], false, ⟨(some 203), .load false 1 202, none⟩⟩, .ptr), (⟨5, [], false, ⟨(some 204), .fieldAddr 35 3, none⟩⟩, .ptr), (⟨6, [5], false, ⟨(some 205), .load false 1 204, none⟩⟩, .any), (⟨7, [4, 6, 3, 2, 1, 5], true, ⟨(some 206), .call k_r4_Disk_Crash [203, 205], none⟩⟩, (.int .i64)), (⟨8, [0, 7, 4, 6, 3, 2, 1, 5], false, ⟨(some 207), .bin .eql 199 206, none⟩⟩, .bool), (⟨9, [8, 7, 0, 4, 6, 3, 2, 1, 5], false, ⟨(some 208), .move 207, none⟩⟩, .bool), (⟨10, [9, 8, 7, 0, 4, 6, 3, 2, 1, 5], false, ⟨(some 209), .move 19, some (208, true)⟩⟩, (.int .i64)), (⟨11, [10, 9, 8, 7, 0, 4, 6, 3, 2, 1, 5], false, ⟨(some 210), .bin .eql 209 (.const (.int .i64 0)), some (208, true)⟩⟩, .bool), (⟨12, [9, 11, 8, 7, 0, 4, 6, 3, 2, 1, 5, 10], false, ⟨(some 211), .pick 208 210 (.const (.bool false)), none⟩⟩, .bool), (⟨13, [12, 9, 0, 1, 2, 3, 4, 5, 6, 7, 8, 10, 11], false, ⟨(some 4), .move 211, none⟩⟩, .bool)]) <|
 .ret) (.skip))))))) <|
 .seq (.reg [rg 4 (.move (.const (.bool true))) .bool]) <|
 .ret
def f_w8_desk_plays_L69 (n : Nat) (u0 : Option Addr) (h0 : Heap) (v42 : Int) (h43 : Heap) : Option (((Int × Unit) × Heap) ⊕ ((Bool × Unit) × Heap)) :=
  bif (decide (v42 < 2)) then
    ((u0).bind fun q44 =>
    (ldT .ptr h43 (some (fa q44 0))).bind fun x45 =>
    (ldA 5 h43 (some (nwA h0))).bind fun cs46 =>
    (f_home_All n x45 (.agg ⟨cs46⟩) h43).bind fun p47 =>
    (u0).bind fun q48 =>
    (ldT .ptr p47.2 (some (fa q48 1))).bind fun x49 =>
    (ldA 5 p47.2 (some (nwA h0))).bind fun cs50 =>
    (f_r8_All n x49 (.agg ⟨cs50⟩) p47.2).bind fun p51 =>
    (((f_r8_Same n p47.1.1 p51.1.1 p51.2).bind fun p52 =>
      bif (!p52.1.1) then
        (some ((true, ()), p52.2))
      else
        (some (((!decide (p47.1.2.1 = p51.1.2.1)), ()), p52.2))) : Option ((Bool × Unit) × Heap)).bind fun a53 =>
    bif a53.1.1 then
      (some (.inr ((false, ()), a53.2)))
    else
      ((u0).bind fun q54 =>
      (ldT .any a53.2 (some (fa q54 7))).bind fun x55 =>
      (fillL [(.slice none 0 0)] [(0, 1, p47.1.1)]).bind fun cs56 =>
      bnd ((Heap.new a53.2 (.cells cs56 false 1))) fun h57 =>
      (u0).bind fun q58 =>
      (ldT .any (Heap.dropAll h57 ((Heap.next a53.2) :: [])) (some (fa q58 8))).bind fun x59 =>
      (fillL [(.slice none 0 0)] [(0, 1, p51.1.1)]).bind fun cs60 =>
      bnd ((Heap.new h57 (.cells cs60 false 1))) fun h61 =>
      (appendK (hid h61 ((Heap.next h57) :: []) ((Addr.block (fa q58 8)) :: [])) 24 1 x55 (.slice (some ⟨Heap.next a53.2, 0, some 0⟩) 1 1)).bind fun p62 =>
      bnd (Heap.putBack p62.2 h61 (((Heap.next h57) :: []) ++ ((Addr.block (fa q58 8)) :: []))) fun h63 =>
      (appendK h63 24 1 x59 (.slice (some ⟨Heap.next h57, 0, some 0⟩) 1 1)).bind fun p64 =>
      (u0).bind fun q65 =>
      (stB 1 p62.1 p64.2 (some (fa q65 7))).bind fun h66 =>
      (u0).bind fun q67 =>
      (stB 1 p64.1 h66 (some (fa q67 8))).bind fun h68 =>
      some (.inl (((IntKind.i64.wrap (v42 + 1)), ()), h68))))
  else
    (some (.inr ((true, ()), h43)))
noncomputable def sf_w8_desk_plays (n : Nat) : Sf := sfOf [(k_home_Save, s_home_Save n), (k_r8_Save, s_r8_Save n), (k_home_Load, s_home_Load n), (k_r8_Load, s_r8_Load n), (k_home_All, s_home_All n), (k_r8_All, s_r8_All n), (k_r8_Same, s_r8_Same n), (k_sector_Disk_Write, s_sector_Disk_Write n), (k_r4_Disk_Write, s_r4_Disk_Write n), (k_sector_Disk_Flush, s_sector_Disk_Flush n), (k_r4_Disk_Flush, s_r4_Disk_Flush n), (k_sector_Disk_Crash, s_sector_Disk_Crash n), (k_r4_Disk_Crash, s_r4_Disk_Crash n)]
noncomputable def it_w8_desk_plays (n : Nat) : It := itOf []
def f_w8_desk_plays (n : Nat) (u0 : Option Addr) (u1 : Value) (h : Heap) : Option ((Bool × Unit) × Heap) :=
  bif (cellsOf u1).all isCell then
    (bnd ((Heap.new h (.cells (cellsOf u1) false 0))) fun h0 =>
    (u0).bind fun q1 =>
    (ldA 5 h0 (some (fa q1 2))).bind fun cs2 =>
    bnd ((Heap.new h0 (.cells (List.replicate 5 (.int .i64 0)) false 0))) fun h3 =>
    (stB 5 (.agg ⟨cs2⟩) h3 (some (nwA h0))).bind fun h4 =>
    (((ldT .bool h4 (some (fa (nwA h) 41))).bind fun x5 =>
      bif x5 then
        ((ldA 5 h4 (some (fa (nwA h) 36))).bind fun cs6 =>
        (stB 5 (.agg ⟨cs6⟩) h4 (some (nwA h0))).bind fun h7 =>
        some ((), h7))
      else
        (some ((), h4))) : Option ((Unit) × Heap)).bind fun a8 =>
    (ldT (.int .i64) a8.2 (some (fa (nwA h) 0))).bind fun x9 =>
    bif (decide (x9 = 1)) then
      ((u0).bind fun q10 =>
      (ldT .ptr a8.2 (some (fa q10 0))).bind fun x11 =>
      (ldA 5 a8.2 (some (nwA h0))).bind fun cs12 =>
      (ldT (.int .i64) a8.2 (some (fa (nwA h) 1))).bind fun x13 =>
      (ldA 32 a8.2 (some (fa (nwA h) 2))).bind fun cs14 =>
      (u0).bind fun q15 =>
      (ldT .ptr a8.2 (some (fa q15 1))).bind fun x16 =>
      (ldA 5 a8.2 (some (nwA h0))).bind fun cs17 =>
      (ldT (.int .i64) a8.2 (some (fa (nwA h) 1))).bind fun x18 =>
      (ldA 32 a8.2 (some (fa (nwA h) 2))).bind fun cs19 =>
      (f_home_Save n x11 (.agg ⟨cs12⟩) x13 (.agg ⟨cs14⟩) (hid a8.2 [] ((Addr.block (fa (nwA h) 2)) :: ((Addr.block (fa (nwA h) 1)) :: ((Addr.block (nwA h0)) :: ((Addr.block (fa q15 1)) :: [])))))).bind fun p20 =>
      bnd (Heap.putBack p20.2 a8.2 ([] ++ ((Addr.block (fa (nwA h) 2)) :: ((Addr.block (fa (nwA h) 1)) :: ((Addr.block (nwA h0)) :: ((Addr.block (fa q15 1)) :: [])))))) fun h21 =>
      (f_r8_Save n x16 (.agg ⟨cs17⟩) x18 (.agg ⟨cs19⟩) h21).bind fun p22 =>
      some (((decide (p20.1.1 = p22.1.1)), ()), p22.2))
    else
      (bif (decide (x9 = 2)) then
        ((u0).bind fun q23 =>
        (ldT .ptr a8.2 (some (fa q23 0))).bind fun x24 =>
        (ldA 5 a8.2 (some (nwA h0))).bind fun cs25 =>
        (ldT (.int .i64) a8.2 (some (fa (nwA h) 1))).bind fun x26 =>
        bnd ((Heap.new a8.2 (.cells (List.replicate 32 (.int .u8 0)) false 0))) fun h27 =>
        (f_home_Load n x24 (.agg ⟨cs25⟩) x26 (hid h27 ((Heap.next a8.2) :: []) [])).bind fun p28 =>
        bnd (Heap.putBack p28.2 h27 (((Heap.next a8.2) :: []) ++ [])) fun h29 =>
        (stB 32 p28.1.1 h29 (some (nwA a8.2))).bind fun h30 =>
        (u0).bind fun q31 =>
        (ldT .ptr h30 (some (fa q31 1))).bind fun x32 =>
        (ldA 5 h30 (some (nwA h0))).bind fun cs33 =>
        (ldT (.int .i64) h30 (some (fa (nwA h) 1))).bind fun x34 =>
        bnd ((Heap.new h30 (.cells (List.replicate 32 (.int .u8 0)) false 0))) fun h35 =>
        (f_r8_Load n x32 (.agg ⟨cs33⟩) x34 (hid h35 ((Heap.next h30) :: []) [])).bind fun p36 =>
        bnd (Heap.putBack p36.2 h35 (((Heap.next h30) :: []) ++ [])) fun h37 =>
        (stB 32 p36.1.1 h37 (some (nwA h30))).bind fun h38 =>
        (ldA 32 h38 (some (nwA a8.2))).bind fun cs39 =>
        (ldA 32 h38 (some (nwA h30))).bind fun cs40 =>
        (eqVals h38 (.agg (List.replicate 32 false)) (.agg ⟨cs39⟩) (.agg ⟨cs40⟩)).bind fun b41 =>
        bif b41 then
          (some (((decide (p28.1.2.1 = p36.1.2.1)), ()), h38))
        else
          (some ((false, ()), h38)))
      else
        (bif (decide (x9 = 3)) then
          (loopT (fun a => f_w8_desk_plays_L69 n u0 h0 a.1.1 a.2) n ((0, ()), a8.2))
        else
          (bif (decide (x9 = 4)) then
            ((mkSl (Heap.next a8.2) 1 1 [(.int .u8 0)] (.int .i64 64) (.int .i64 64)).bind fun p70 =>
            bnd ((Heap.new a8.2 (p70.2))) fun h71 =>
            (ldT .any h71 (some (fa (nwA h) 34))).bind fun x72 =>
            (copyK h71 1 p70.1 x72).bind fun p73 =>
            (u0).bind fun q74 =>
            (ldT .ptr p73.2 (some (fa q74 0))).bind fun x75 =>
            (ldT (.int .i64) p73.2 (some (fa (nwA h) 1))).bind fun x76 =>
            (u0).bind fun q77 =>
            (ldT .ptr p73.2 (some (fa q77 1))).bind fun x78 =>
            (ldT (.int .i64) p73.2 (some (fa (nwA h) 1))).bind fun x79 =>
            (f_sector_Disk_Write n x75 (IntKind.i64.wrap (1 + (Int.tmod x76 4096))) p70.1 (hid p73.2 [] ((Addr.block (fa (nwA h) 1)) :: ((Addr.block (fa q77 1)) :: [])))).bind fun p80 =>
            bnd (Heap.putBack p80.2 p73.2 ([] ++ ((Addr.block (fa (nwA h) 1)) :: ((Addr.block (fa q77 1)) :: [])))) fun h81 =>
            (f_r4_Disk_Write n x78 (IntKind.i64.wrap (1 + (Int.tmod x79 4096))) p70.1 h81).bind fun p82 =>
            some (((decide (p80.1.1 = p82.1.1)), ()), p82.2))
          else
            (bif (decide (x9 = 5)) then
              ((u0).bind fun q83 =>
              (ldT .ptr a8.2 (some (fa q83 0))).bind fun x84 =>
              (f_sector_Disk_Flush n x84 a8.2).bind fun p85 =>
              (u0).bind fun q86 =>
              (ldT .ptr p85.2 (some (fa q86 1))).bind fun x87 =>
              (f_r4_Disk_Flush n x87 p85.2).bind fun p88 =>
              bif (decide (p85.1.1 = p88.1.1)) then
                (some (((decide (p85.1.2.1 = 0)), ()), p88.2))
              else
                (some ((false, ()), p88.2)))
            else
              (bif (decide (x9 = 6)) then
                ((u0).bind fun q89 =>
                (ldT .ptr a8.2 (some (fa q89 0))).bind fun x90 =>
                (ldT .any a8.2 (some (fa (nwA h) 35))).bind fun x91 =>
                (f_sector_Disk_Crash n x90 x91 a8.2).bind fun p92 =>
                (u0).bind fun q93 =>
                (ldT .ptr p92.2 (some (fa q93 1))).bind fun x94 =>
                (ldT .any p92.2 (some (fa (nwA h) 35))).bind fun x95 =>
                (f_r4_Disk_Crash n x94 x95 p92.2).bind fun p96 =>
                bif (decide (p92.1.1 = p96.1.1)) then
                  (some (((decide (p92.1.2.1 = 0)), ()), p96.2))
                else
                  (some ((false, ()), p96.2)))
              else
                (some ((true, ()), a8.2))))))))
  else
    (none)
def rs_w8_desk_plays : Rs := [(.tmp 4, .bool)]
def ps_w8_desk_plays : List Ty := [.ptr, .any]
theorem e_w8_desk_plays (n : Nat) (u0 : Option Addr) (u1 : Value) (h : Heap) : f_w8_desk_plays n u0 u1 h = fB (sf_w8_desk_plays n) (it_w8_desk_plays n) n c2_w8_desk_plays rs_w8_desk_plays ps_w8_desk_plays (u0, (u1, ())) h := by kernel_rfl
noncomputable def s_w8_desk_plays (n : Nat) : Sf1 := mkSf ps_w8_desk_plays rs_w8_desk_plays fun a h => f_w8_desk_plays n a.1 a.2.1 h
/- wicket/wicketlaw08.HomeDisk -/
def c2_w8_HomeDisk : C2 := .seq (.reg [rg 2 (.box 0) .ptr, rg 4 (.move (.const (.bool false))) .bool]) <|
 .seq (.seq (.reg [rg 12 (.call k_w8_awake []) .bool, rg 13 (.un .not 12) .bool]) <|
 .cond 13 (.seq (.reg [rg 4 (.move (.const (.bool false))) .bool]) <|
 .ret) (.skip)) <|
 .seq (.reg [rg 15 (.load true 5 2) .any, rg 16 (.call k_home_New [15]) .any, rg 14 (.move 16) .any, rg 17 (.extract 14 0) .ptr, rg 18 (.extract 14 1) .i, rg 5 (.move 17) .ptr, rg 6 (.move 18) .i]) <|
 .seq (.reg [rg 20 (.load true 5 2) .any, rg 21 (.call k_r8_New [20]) .any, rg 19 (.move 21) .any, rg 22 (.extract 19 0) .ptr, rg 23 (.extract 19 1) .i, rg 7 (.move 22) .ptr, rg 8 (.move 23) .i]) <|
 .seq (.seq (.cutn [(33, .bool)] <|
 .reg [rg 24 (.move 6) .i, rg 25 (.move 8) .i, rg 26 (.bin .neq 24 25) .bool, rg 27 (.move 26) .bool, rq 28 (.move 5) 27 .ptr, rq 29 (.eqv false .ptr 28 (.const (.pointer none))) 27 .bool, rq 30 (.move 7) 27 .ptr, rq 31 (.eqv false .ptr 30 (.const (.pointer none))) 27 .bool, rq 32 (.eqv true .bool 29 31) 27 .bool, rg 33 (.pick 27 (.const (.bool true)) 32) .bool]) <|
 .cond 33 (.seq (.reg [rg 4 (.move (.const (.bool false))) .bool]) <|
 .ret) (.skip)) <|
 .seq (.cut [(5, .ptr), (7, .ptr)] <|
 .seq (.reg [rg 34 (.move 7) .ptr, rg 35 (.eqv false .ptr 34 (.const (.pointer none))) .bool]) <|
 .cond 35 (.seq (.reg [rg 36 (.call k_w8_small []) .any, rn (.store 5 2 36) .any]) <|
 .seq (.reg [rg 38 (.load true 5 2) .any, rg 39 (.call k_home_New [38]) .any, rg 37 (.move 39) .any, rg 40 (.extract 37 0) .ptr, rg 41 (.extract 37 1) .i, rg 5 (.move 40) .ptr, rg 6 (.move 41) .i]) <|
 .seq (.reg [rg 43 (.load true 5 2) .any, rg 44 (.call k_r8_New [43]) .any, rg 42 (.move 44) .any, rg 45 (.extract 42 0) .ptr, rg 46 (.extract 42 1) .i, rg 7 (.move 45) .ptr, rg 8 (.move 46) .i]) <|
 .seq (.cutn [(56, .bool)] <|
 .reg [rg 47 (.move 6) .i, rg 48 (.bin .neq 47 (.const (.int .i64 0))) .bool, rg 49 (.move 48) .bool, rq 50 (.move 8) 49 .i, rq 51 (.bin .neq 50 (.const (.int .i64 0))) 49 .bool, rg 52 (.pick 49 (.const (.bool true)) 51) .bool, rg 53 (.move 52) .bool, rq 54 (.move 5) 53 .ptr, rq 55 (.eqv false .ptr 54 (.const (.pointer none))) 53 .bool, rg 56 (.pick 53 (.const (.bool true)) 55) .bool]) <|
 .cond 56 (.seq (.reg [rg 4 (.move (.const (.bool false))) .bool]) <|
 .ret) (.skip)) (.skip)) <|
 .seq (.reg [rg 57 (.move 5) .ptr, rg 58 (.move 7) .ptr, rg 59 (.load true 5 2) .any, rg 60 (.build [(.pointer none), (.pointer none), (.int .i64 0), (.int .i64 0), (.int .i64 0), (.int .i64 0), (.int .i64 0), (.slice none 0 0), (.slice none 0 0)] [(0, 1, 57), (1, 1, 58), (2, 5, 59)]) .any, rg 61 (.box 60) .ptr, rg 9 (.move 61) .ptr]) <|
 .seq (.seq (.reg [rg 62 (.move 9) .ptr, rg 63 (.call k_w8_desk_same [62]) .bool, rg 64 (.un .not 63) .bool]) <|
 .cond 64 (.seq (.reg [rg 4 (.move (.const (.bool false))) .bool]) <|
 .ret) (.skip)) <|
 .seq (.cut [] <|
 .seq (.reg [rg 10 (.move (.const (.int .i64 0))) .i]) <|
 .block 0 <|
 .loop [(10, .i)] <|
 .seq (.seq (.cutn [(72, .bool)] <|
 .reg [rg 65 (.move 10) .i, rg 66 (.move 1) .any, rg 67 (.lenS 66) .i, rg 68 (.bin .lss 65 67) .bool, rg 69 (.move 68) .bool, rp 70 (.move 10) 69 .i, rp 71 (.bin .lss 70 (.const (.int .i64 60))) 69 .bool, rg 72 (.pick 69 71 (.const (.bool false))) .bool]) <|
 .cond 72 (.skip) (.exit 0)) <|
 .seq (.block 1 <|
 .seq (.cutn [(86, .bool)] <|
 .reg [rg 75 (.move 9) .ptr, rg 76 (.move 1) .any, rg 77 (.move 10) .i, rg 78 (.idxSlice 42 76 77) .ptr, rg 79 (.load true 42 78) .any, rg 80 (.call k_w8_desk_plays [75, 79]) .bool, rg 81 (.un .not 80) .bool, rg 82 (.move 81) .bool, rq 83 (.move 9) 82 .ptr, rq 84 (.call k_w8_desk_same [83]) 82 .bool, rq 85 (.un .not 84) 82 .bool, rg 86 (.pick 82 (.const (.bool true)) 85) .bool]) <|
 .cond 86 (.seq (.reg [rg 4 (.move (.const (.bool false))) .bool]) <|
 .ret) (.skip)) <|
 .reg [rg 73 (.move 10) .i, rg 74 (.bin .add 73 (.const (.int .i64 1))) .i, rg 10 (.move 74) .i]) <|
 .seq (.cut [] <|
 .seq (.reg [rg 11 (.move (.const (.int .i64 0))) .i]) <|
 .block 2 <|
 .loop [(11, .i)] <|
 .seq (.seq (.reg [rg 87 (.move 11) .i, rg 88 (.move 9) .ptr, rg 89 (.nilCheck 88) .ptr, rg 90 (.fieldAddr 7 89) .ptr, rg 91 (.load false 1 90) .any, rg 92 (.lenS 91) .i, rg 93 (.bin .lss 87 92) .bool]) <|
 .cond 93 (.skip) (.exit 2)) <|
 .seq (.block 3 <|
 .seq (.regd [(⟨0, [], false, ⟨(some 96), .move 9, none⟩⟩, .ptr), (⟨1, [0], false, ⟨(some 97), .nilCheck 96, none⟩⟩, .ptr), (⟨2, [1, 0], false, ⟨(some 98), .fieldAddr 7 97, none⟩⟩, .ptr), (⟨3, [2, 1, 0], false, ⟨(some 99), .load false 1 98, none⟩⟩, .any), (⟨4, [], false, ⟨(some 100), .move 11, none⟩⟩, (.int .i64)), (⟨5, [3, 4, 2, 1, 0], false, ⟨(some 101), .idxSlice 1 99 100, none⟩⟩, .ptr), (⟨6, [5, 3, 4, 2, 1, 0], false, ⟨(some 102), .load false 1 101, none⟩⟩, .any), (⟨7, [], false, ⟨(some 103), .move 9, none⟩⟩, .ptr), (⟨8, [7], false, ⟨(some 104), .nilCheck 103, none⟩⟩, .ptr), (⟨9, [8, 7], false, ⟨(some 105), .fieldAddr 8 104, none⟩⟩, .ptr), (⟨10, [9, 8, 7], false, ⟨(some 106), .load false 1 105, none⟩⟩, .any), (⟨11, [], false, ⟨(some 107), .move 11, none⟩⟩, (.int .i64)), (⟨12, [10, 11, 9, 8, 7], false, ⟨(some 108), .idxSlice 1 106 107, none⟩⟩, .ptr), (⟨13, [12, 10, 11, 9, 8, 7], false, ⟨(some 109), .load false 1 108, none⟩⟩, .any), (⟨14, [6, 13, 5, 3, 4, 2, 1, 0, 12, 10, 11, 9, 8, 7], true, ⟨(some 110), .call k_r8_Same [102, 109], none⟩⟩, .bool), (⟨15, [14, 6, 13, 5, 3, 4, 2, 1, 0, 12, 10, 11, 9, 8, 7], false, ⟨(some 111), .un .not 110, none⟩⟩, .bool)]) <|
 .cond 111 (.seq (.reg [rg 4 (.move (.const (.bool false))) .bool]) <|
 .ret) (.skip)) <|
 .reg [rg 94 (.move 11) .i, rg 95 (.bin .add 94 (.const (.int .i64 1))) .i, rg 11 (.move 95) .i]) <|
 .seq (.reg [rg 112 (.move 9) .ptr, rg 113 (.nilCheck 112) .ptr, rg 114 (.fieldAddr 7 113) .ptr, rg 115 (.load false 1 114) .any, rg 116 (.call k_w8_apart [115]) .bool, rg 117 (.move 116) .bool, rp 118 (.move 9) 117 .ptr, rp 119 (.build [(.int .i64 0), (.int .i64 0), (.int .u8 0), (.int .u8 0), (.int .u8 0), (.int .u8 0), (.int .u8 0), (.int .u8 0), (.int .u8 0), (.int .u8 0), (.int .u8 0), (.int .u8 0), (.int .u8 0), (.int .u8 0), (.int .u8 0), (.int .u8 0), (.int .u8 0), (.int .u8 0), (.int .u8 0), (.int .u8 0), (.int .u8 0), (.int .u8 0), (.int .u8 0), (.int .u8 0), (.int .u8 0), (.int .u8 0), (.int .u8 0), (.int .u8 0), (.int .u8 0), (.int .u8 0), (.int .u8 0), (.int .u8 0), (.int .u8 0), (.int .u8 0), (.slice none 0 0), (.slice none 0 0), (.int .i64 0), (.int .i64 0), (.int .i64 0), (.int .i64 0), (.int .i64 0), (.bool false)] [(0, 1, (.const (.int .i64 3)))]) 117 .any, rp 120 (.call k_w8_desk_plays [118, 119]) 117 .bool, rg 121 (.pick 117 120 (.const (.bool false))) .bool, rg 122 (.move 121) .bool, rp 123 (.move 9) 122 .ptr, rp 124 (.call k_w8_desk_same [123]) 122 .bool, rg 125 (.pick 122 124 (.const (.bool false))) .bool, rg 4 (.move 125) .bool]) <|
 .ret
def f_w8_HomeDisk_C15 (n : Nat) (h : Heap) (p3 : ((Option Addr × Int × Unit) × Heap)) (p5 : ((Option Addr × Int × Unit) × Heap)) (h7 : Heap) : Option (((Option Addr × Option Addr × Unit) × Heap) ⊕ ((Bool × Unit) × Heap)) :=
  bif (Option.isNone p5.1.1) then
    ((f_w8_small n h7).bind fun p8 =>
    (stB 5 p8.1.1 p8.2 (some (nwA h))).bind fun h9 =>
    (ldA 5 h9 (some (nwA h))).bind fun cs10 =>
    (f_home_New n (.agg ⟨cs10⟩) h9).bind fun p11 =>
    (ldA 5 p11.2 (some (nwA h))).bind fun cs12 =>
    (f_r8_New n (.agg ⟨cs12⟩) p11.2).bind fun p13 =>
    ((bif (!decide (p11.1.2.1 = 0)) then
        (some ((true, ()), p13.2))
      else
        (bif (!decide (p13.1.2.1 = 0)) then
          (some ((true, ()), p13.2))
        else
          (some (((Option.isNone p11.1.1), ()), p13.2)))) : Option ((Bool × Unit) × Heap)).bind fun a14 =>
    bif a14.1.1 then
      (some (.inr ((false, ()), a14.2)))
    else
      (some (.inl ((p11.1.1, (p13.1.1, ())), a14.2))))
  else
    (some (.inl ((p3.1.1, (p5.1.1, ())), h7)))
def f_w8_HomeDisk_L31 (n : Nat) (u1 : Value) (a16 : ((Option Addr × Option Addr × Unit) × Heap)) (v22 : Int) (h23 : Heap) : Option (((Int × Unit) × Heap) ⊕ (((Unit) × Heap) ⊕ ((Bool × Unit) × Heap))) :=
  (((lenB u1).bind fun n24 =>
    bif (decide (v22 < (n24 : Int))) then
      (some (((decide (v22 < 60)), ()), h23))
    else
      (some ((false, ()), h23))) : Option ((Bool × Unit) × Heap)).bind fun a25 =>
  bif a25.1.1 then
    ((((ixB 42 u1 v22).bind fun q26 =>
      (ldA 42 a25.2 (some q26)).bind fun cs27 =>
      (f_w8_desk_plays n (some (nwA a16.2)) (.agg ⟨cs27⟩) a25.2).bind fun p28 =>
      bif (!p28.1.1) then
        (some ((true, ()), p28.2))
      else
        ((f_w8_desk_same n (some (nwA a16.2)) p28.2).bind fun p29 =>
        some (((!p29.1.1), ()), p29.2))) : Option ((Bool × Unit) × Heap)).bind fun a30 =>
    bif a30.1.1 then
      (some (.inr (.inr ((false, ()), a30.2))))
    else
      (some (.inl (((IntKind.i64.wrap (v22 + 1)), ()), a30.2))))
  else
    (some (.inr (.inl ((), a25.2))))
def f_w8_HomeDisk_C32 (n : Nat) (u1 : Value) (a16 : ((Option Addr × Option Addr × Unit) × Heap)) (h21 : Heap) : Option (((Unit) × Heap) ⊕ ((Bool × Unit) × Heap)) :=
  loopT (fun a => f_w8_HomeDisk_L31 n u1 a16 a.1.1 a.2) n ((0, ()), h21)
def f_w8_HomeDisk_L46 (n : Nat) (a16 : ((Option Addr × Option Addr × Unit) × Heap)) (v35 : Int) (h36 : Heap) : Option (((Int × Unit) × Heap) ⊕ (((Unit) × Heap) ⊕ ((Bool × Unit) × Heap))) :=
  (ldT .any h36 (some (fa (nwA a16.2) 7))).bind fun x37 =>
  (lenB x37).bind fun n38 =>
  bif (decide (v35 < (n38 : Int))) then
    ((ldT .any h36 (some (fa (nwA a16.2) 7))).bind fun x39 =>
    (ixB 1 x39 v35).bind fun q40 =>
    (ldT .any h36 (some q40)).bind fun x41 =>
    (ldT .any h36 (some (fa (nwA a16.2) 8))).bind fun x42 =>
    (ixB 1 x42 v35).bind fun q43 =>
    (ldT .any h36 (some q43)).bind fun x44 =>
    (f_r8_Same n x41 x44 h36).bind fun p45 =>
    bif (!p45.1.1) then
      (some (.inr (.inr ((false, ()), p45.2))))
    else
      (some (.inl (((IntKind.i64.wrap (v35 + 1)), ()), p45.2))))
  else
    (some (.inr (.inl ((), h36))))
def f_w8_HomeDisk_C47 (n : Nat) (a16 : ((Option Addr × Option Addr × Unit) × Heap)) (h34 : Heap) : Option (((Unit) × Heap) ⊕ ((Bool × Unit) × Heap)) :=
  loopT (fun a => f_w8_HomeDisk_L46 n a16 a.1.1 a.2) n ((0, ()), h34)
noncomputable def sf_w8_HomeDisk (n : Nat) : Sf := sfOf [(k_w8_awake, s_w8_awake n), (k_home_New, s_home_New n), (k_r8_New, s_r8_New n), (k_w8_small, s_w8_small n), (k_w8_desk_same, s_w8_desk_same n), (k_w8_desk_plays, s_w8_desk_plays n), (k_r8_Same, s_r8_Same n), (k_w8_apart, s_w8_apart n)]
noncomputable def it_w8_HomeDisk (n : Nat) : It := itOf []
def f_w8_HomeDisk (n : Nat) (u0 : Value) (u1 : Value) (h : Heap) : Option ((Bool × Unit) × Heap) :=
  bif (cellsOf u0).all isCell then
    (bnd ((Heap.new h (.cells (cellsOf u0) false 0))) fun h0 =>
    (f_w8_awake n h0).bind fun p1 =>
    bif (!p1.1.1) then
      (some ((false, ()), p1.2))
    else
      ((ldA 5 p1.2 (some (nwA h))).bind fun cs2 =>
      (f_home_New n (.agg ⟨cs2⟩) p1.2).bind fun p3 =>
      (ldA 5 p3.2 (some (nwA h))).bind fun cs4 =>
      (f_r8_New n (.agg ⟨cs4⟩) p3.2).bind fun p5 =>
      ((bif (!decide (p3.1.2.1 = p5.1.2.1)) then
          (some ((true, ()), p5.2))
        else
          (some (((!((Option.isNone p3.1.1) == (Option.isNone p5.1.1))), ()), p5.2))) : Option ((Bool × Unit) × Heap)).bind fun a6 =>
      bif a6.1.1 then
        (some ((false, ()), a6.2))
      else
        (thenB (f_w8_HomeDisk_C15 n h p3 p5 (a6.2)) fun a16 =>
        (ldA 5 a16.2 (some (nwA h))).bind fun cs17 =>
        (fillL [(.pointer none), (.pointer none), (.int .i64 0), (.int .i64 0), (.int .i64 0), (.int .i64 0), (.int .i64 0), (.slice none 0 0), (.slice none 0 0)] [(0, 1, (.pointer a16.1.1)), (1, 1, (.pointer a16.1.2.1)), (2, 5, (.agg ⟨cs17⟩))]).bind fun cs18 =>
        bif (cs18 : List Value).all isCell then
          (bnd ((Heap.new a16.2 (.cells cs18 false 0))) fun h19 =>
          (f_w8_desk_same n (some (nwA a16.2)) h19).bind fun p20 =>
          bif (!p20.1.1) then
            (some ((false, ()), p20.2))
          else
            (thenB (f_w8_HomeDisk_C32 n u1 a16 (p20.2)) fun a33 =>
            thenB (f_w8_HomeDisk_C47 n a16 (a33.2)) fun a48 =>
            (ldT .any a48.2 (some (fa (nwA a16.2) 7))).bind fun x49 =>
            (f_w8_apart n x49 a48.2).bind fun p50 =>
            bif p50.1.1 then
              ((fillL [(.int .i64 0), (.int .i64 0), (.int .u8 0), (.int .u8 0), (.int .u8 0), (.int .u8 0), (.int .u8 0), (.int .u8 0), (.int .u8 0), (.int .u8 0), (.int .u8 0), (.int .u8 0), (.int .u8 0), (.int .u8 0), (.int .u8 0), (.int .u8 0), (.int .u8 0), (.int .u8 0), (.int .u8 0), (.int .u8 0), (.int .u8 0), (.int .u8 0), (.int .u8 0), (.int .u8 0), (.int .u8 0), (.int .u8 0), (.int .u8 0), (.int .u8 0), (.int .u8 0), (.int .u8 0), (.int .u8 0), (.int .u8 0), (.int .u8 0), (.int .u8 0), (.slice none 0 0), (.slice none 0 0), (.int .i64 0), (.int .i64 0), (.int .i64 0), (.int .i64 0), (.int .i64 0), (.bool false)] [(0, 1, (.int .i64 3))]).bind fun cs51 =>
              (f_w8_desk_plays n (some (nwA a16.2)) (.agg ⟨cs51⟩) p50.2).bind fun p52 =>
              bif p52.1.1 then
                ((f_w8_desk_same n (some (nwA a16.2)) p52.2).bind fun p53 =>
                some ((p53.1.1, ()), p53.2))
              else
                (some ((false, ()), p52.2)))
            else
              (some ((false, ()), p50.2))))
        else
          (none))))
  else
    (none)
def rs_w8_HomeDisk : Rs := [(.tmp 4, .bool)]
def ps_w8_HomeDisk : List Ty := [.any, .any]
theorem e_w8_HomeDisk (n : Nat) (u0 : Value) (u1 : Value) (h : Heap) : f_w8_HomeDisk n u0 u1 h = fB (sf_w8_HomeDisk n) (it_w8_HomeDisk n) n c2_w8_HomeDisk rs_w8_HomeDisk ps_w8_HomeDisk (u0, (u1, ())) h := by kernel_rfl
noncomputable def s_w8_HomeDisk (n : Nat) : Sf1 := mkSf ps_w8_HomeDisk rs_w8_HomeDisk fun a h => f_w8_HomeDisk n a.1 a.2.1 h
structure LfT (T : Nat → Option AFun) : Prop where
  t_w8_awake : PrimT_w8_awake T
  t_w8_small : T k_w8_small = some ⟨List.map (·.1) rs_w8_small, C2.erase c2_w8_small, none⟩
  t_r8_Same : T k_r8_Same = some ⟨List.map (·.1) rs_r8_Same, C2.erase c2_r8_Same, none⟩
  t_w8_apart : T k_w8_apart = some ⟨List.map (·.1) rs_w8_apart, C2.erase c2_w8_apart, none⟩
  t_sector_Disk_Len : T k_sector_Disk_Len = some ⟨List.map (·.1) rs_sector_Disk_Len, C2.erase c2_sector_Disk_Len, none⟩
  t_octet_Join : T k_octet_Join = some ⟨List.map (·.1) rs_octet_Join, C2.erase c2_octet_Join, none⟩
  t_sector_Load : T k_sector_Load = some ⟨List.map (·.1) rs_sector_Load, C2.erase c2_sector_Load, none⟩
  t_r8_May : T k_r8_May = some ⟨List.map (·.1) rs_r8_May, C2.erase c2_r8_May, none⟩
  t_r4_Load : T k_r4_Load = some ⟨List.map (·.1) rs_r4_Load, C2.erase c2_r4_Load, none⟩
  t_sector_Disk_Image : T k_sector_Disk_Image = some ⟨List.map (·.1) rs_sector_Disk_Image, C2.erase c2_sector_Disk_Image, none⟩
  t_sector_Disk_Flush : T k_sector_Disk_Flush = some ⟨List.map (·.1) rs_sector_Disk_Flush, C2.erase c2_sector_Disk_Flush, none⟩
  t_sector_Disk_Crash : T k_sector_Disk_Crash = some ⟨List.map (·.1) rs_sector_Disk_Crash, C2.erase c2_sector_Disk_Crash, none⟩
  t_r4_Disk_Crash : T k_r4_Disk_Crash = some ⟨List.map (·.1) rs_r4_Disk_Crash, C2.erase c2_r4_Disk_Crash, none⟩
  t_home_block : T k_home_block = some ⟨List.map (·.1) rs_home_block, C2.erase c2_home_block, none⟩
  t_octet_Pad : T k_octet_Pad = some ⟨List.map (·.1) rs_octet_Pad, C2.erase c2_octet_Pad, none⟩
  t_r8_number : T k_r8_number = some ⟨List.map (·.1) rs_r8_number, C2.erase c2_r8_number, none⟩
  t_slices_Clone_byte_byte : T k_slices_Clone_byte_byte = some ⟨List.map (·.1) rs_slices_Clone_byte_byte, C2.erase c2_slices_Clone_byte_byte, none⟩
  t_sector_Disk_asked : T k_sector_Disk_asked = some ⟨List.map (·.1) rs_sector_Disk_asked, C2.erase c2_sector_Disk_asked, none⟩
  t_r4_Disk_Len : T k_r4_Disk_Len = some ⟨List.map (·.1) rs_r4_Disk_Len, C2.erase c2_r4_Disk_Len, none⟩
  t_octet_may : T k_octet_may = some ⟨List.map (·.1) rs_octet_may, C2.erase c2_octet_may, none⟩
  t_sum_push : T k_sum_push = some ⟨List.map (·.1) rs_sum_push, C2.erase c2_sum_push, none⟩
  t_slices_Backward_sector_waiting_sector_waiting_1 : T k_slices_Backward_sector_waiting_sector_waiting_1 = some ⟨[], C2.erase c2_slices_Backward_sector_waiting_sector_waiting_1, none⟩
  t_super_within : T k_super_within = some ⟨List.map (·.1) rs_super_within, C2.erase c2_super_within, none⟩
  t_r2_Push : T k_r2_Push = some ⟨List.map (·.1) rs_r2_Push, C2.erase c2_r2_Push, none⟩
  t_sector_Disk_Waiting : T k_sector_Disk_Waiting = some ⟨List.map (·.1) rs_sector_Disk_Waiting, C2.erase c2_sector_Disk_Waiting, none⟩
  t_sector_Disk_Write : T k_sector_Disk_Write = some ⟨List.map (·.1) rs_sector_Disk_Write, C2.erase c2_sector_Disk_Write, none⟩
  t_r4_Disk_Write : T k_r4_Disk_Write = some ⟨List.map (·.1) rs_r4_Disk_Write, C2.erase c2_r4_Disk_Write, none⟩
  t_r4_Disk_Flush : T k_r4_Disk_Flush = some ⟨List.map (·.1) rs_r4_Disk_Flush, C2.erase c2_r4_Disk_Flush, none⟩
  t_octet_Put : T k_octet_Put = some ⟨List.map (·.1) rs_octet_Put, C2.erase c2_octet_Put, none⟩
  t_sum_Of : T k_sum_Of = some ⟨List.map (·.1) rs_sum_Of, C2.erase c2_sum_Of, none⟩
  t_r8_fits : T k_r8_fits = some ⟨List.map (·.1) rs_r8_fits, C2.erase c2_r8_fits, none⟩
  t_r4_Disk_Read : T k_r4_Disk_Read = some ⟨List.map (·.1) rs_r4_Disk_Read, C2.erase c2_r4_Disk_Read, none⟩
  t_slices_Backward_sector_waiting_sector_waiting : T k_slices_Backward_sector_waiting_sector_waiting = some ⟨List.map (·.1) rs_slices_Backward_sector_waiting_sector_waiting, C2.erase c2_slices_Backward_sector_waiting_sector_waiting, none⟩
  t_super_Config : T k_super_Config = some ⟨List.map (·.1) rs_super_Config, C2.erase c2_super_Config, none⟩
  t_r2_Of : T k_r2_Of = some ⟨List.map (·.1) rs_r2_Of, C2.erase c2_r2_Of, none⟩
  t_w8_desk_same : T k_w8_desk_same = some ⟨List.map (·.1) rs_w8_desk_same, C2.erase c2_w8_desk_same, none⟩
  t_home_Encode : T k_home_Encode = some ⟨List.map (·.1) rs_home_Encode, C2.erase c2_home_Encode, none⟩
  t_home_Decode : T k_home_Decode = some ⟨List.map (·.1) rs_home_Decode, C2.erase c2_home_Decode, none⟩
  t_sector_Disk_Read : T k_sector_Disk_Read = some ⟨List.map (·.1) rs_sector_Disk_Read, C2.erase c2_sector_Disk_Read, none⟩
  t_super_Check : T k_super_Check = some ⟨List.map (·.1) rs_super_Check, C2.erase c2_super_Check, none⟩
  t_r8_Summed : T k_r8_Summed = some ⟨List.map (·.1) rs_r8_Summed, C2.erase c2_r8_Summed, none⟩
  t_home_fits : T k_home_fits = some ⟨List.map (·.1) rs_home_fits, C2.erase c2_home_fits, none⟩
  t_super_Encode : T k_super_Encode = some ⟨List.map (·.1) rs_super_Encode, C2.erase c2_super_Encode, none⟩
  t_r8_Super : T k_r8_Super = some ⟨List.map (·.1) rs_r8_Super, C2.erase c2_r8_Super, none⟩
  t_r8_Encode : T k_r8_Encode = some ⟨List.map (·.1) rs_r8_Encode, C2.erase c2_r8_Encode, none⟩
  t_r8_Save : T k_r8_Save = some ⟨List.map (·.1) rs_r8_Save, C2.erase c2_r8_Save, none⟩
  t_home_has : T k_home_has = some ⟨List.map (·.1) rs_home_has, C2.erase c2_home_has, none⟩
  t_r8_Decode : T k_r8_Decode = some ⟨List.map (·.1) rs_r8_Decode, C2.erase c2_r8_Decode, none⟩
  t_home_New : T k_home_New = some ⟨List.map (·.1) rs_home_New, C2.erase c2_home_New, none⟩
  t_r8_New : T k_r8_New = some ⟨List.map (·.1) rs_r8_New, C2.erase c2_r8_New, none⟩
  t_home_Save : T k_home_Save = some ⟨List.map (·.1) rs_home_Save, C2.erase c2_home_Save, none⟩
  t_home_Load : T k_home_Load = some ⟨List.map (·.1) rs_home_Load, C2.erase c2_home_Load, none⟩
  t_r8_Load : T k_r8_Load = some ⟨List.map (·.1) rs_r8_Load, C2.erase c2_r8_Load, none⟩
  t_home_All : T k_home_All = some ⟨List.map (·.1) rs_home_All, C2.erase c2_home_All, none⟩
  t_r8_All : T k_r8_All = some ⟨List.map (·.1) rs_r8_All, C2.erase c2_r8_All, none⟩
  t_w8_desk_plays : T k_w8_desk_plays = some ⟨List.map (·.1) rs_w8_desk_plays, C2.erase c2_w8_desk_plays, none⟩
  t_w8_HomeDisk : T k_w8_HomeDisk = some ⟨List.map (·.1) rs_w8_HomeDisk, C2.erase c2_w8_HomeDisk, none⟩
variable {T : Nat → Option AFun}
theorem ok_w8_awake (hT : LfT T) (n : Nat) : Sf1Ok T k_w8_awake (s_w8_awake n) := primOk_w8_awake hT.t_w8_awake n
theorem ok_w8_small (hT : LfT T) (n : Nat) : Sf1Ok T k_w8_small (s_w8_small n) := mkSf_ok (sf := sf_w8_small n) (it := it_w8_small n) (n := n) hT.t_w8_small sfOk_nil itOk_nil fun a h => e_w8_small n h
theorem ok_r8_Same (hT : LfT T) (n : Nat) : Sf1Ok T k_r8_Same (s_r8_Same n) := mkSf_ok (sf := sf_r8_Same n) (it := it_r8_Same n) (n := n) hT.t_r8_Same sfOk_nil itOk_nil fun a h => e_r8_Same n a.1 a.2.1 h
theorem ok_w8_apart (hT : LfT T) (n : Nat) : Sf1Ok T k_w8_apart (s_w8_apart n) := mkSf_ok (sf := sf_w8_apart n) (it := it_w8_apart n) (n := n) hT.t_w8_apart sfOk_nil itOk_nil fun a h => e_w8_apart n a.1 h
theorem ok_sector_Disk_Len (hT : LfT T) (n : Nat) : Sf1Ok T k_sector_Disk_Len (s_sector_Disk_Len n) := mkSf_ok (sf := sf_sector_Disk_Len n) (it := it_sector_Disk_Len n) (n := n) hT.t_sector_Disk_Len sfOk_nil itOk_nil fun a h => e_sector_Disk_Len n a.1 h
theorem ok_octet_Join (hT : LfT T) (n : Nat) : Sf1Ok T k_octet_Join (s_octet_Join n) := mkSf_ok (sf := sf_octet_Join n) (it := it_octet_Join n) (n := n) hT.t_octet_Join sfOk_nil itOk_nil fun a h => e_octet_Join n a.1 h
theorem ok_sector_Load (hT : LfT T) (n : Nat) : Sf1Ok T k_sector_Load (s_sector_Load n) := mkSf_ok (sf := sf_sector_Load n) (it := it_sector_Load n) (n := n) hT.t_sector_Load sfOk_nil itOk_nil fun a h => e_sector_Load n a.1 h
theorem ok_r8_May (hT : LfT T) (n : Nat) : Sf1Ok T k_r8_May (s_r8_May n) := mkSf_ok (sf := sf_r8_May n) (it := it_r8_May n) (n := n) hT.t_r8_May sfOk_nil itOk_nil fun a h => e_r8_May n a.1 h
theorem ok_r4_Load (hT : LfT T) (n : Nat) : Sf1Ok T k_r4_Load (s_r4_Load n) := mkSf_ok (sf := sf_r4_Load n) (it := it_r4_Load n) (n := n) hT.t_r4_Load sfOk_nil itOk_nil fun a h => e_r4_Load n a.1 h
theorem ok_sector_Disk_Image (hT : LfT T) (n : Nat) : Sf1Ok T k_sector_Disk_Image (s_sector_Disk_Image n) := mkSf_ok (sf := sf_sector_Disk_Image n) (it := it_sector_Disk_Image n) (n := n) hT.t_sector_Disk_Image sfOk_nil itOk_nil fun a h => e_sector_Disk_Image n a.1 h
theorem ok_sector_Disk_Flush (hT : LfT T) (n : Nat) : Sf1Ok T k_sector_Disk_Flush (s_sector_Disk_Flush n) := mkSf_ok (sf := sf_sector_Disk_Flush n) (it := it_sector_Disk_Flush n) (n := n) hT.t_sector_Disk_Flush sfOk_nil itOk_nil fun a h => e_sector_Disk_Flush n a.1 h
theorem ok_sector_Disk_Crash (hT : LfT T) (n : Nat) : Sf1Ok T k_sector_Disk_Crash (s_sector_Disk_Crash n) := mkSf_ok (sf := sf_sector_Disk_Crash n) (it := it_sector_Disk_Crash n) (n := n) hT.t_sector_Disk_Crash sfOk_nil itOk_nil fun a h => e_sector_Disk_Crash n a.1 a.2.1 h
theorem ok_r4_Disk_Crash (hT : LfT T) (n : Nat) : Sf1Ok T k_r4_Disk_Crash (s_r4_Disk_Crash n) := mkSf_ok (sf := sf_r4_Disk_Crash n) (it := it_r4_Disk_Crash n) (n := n) hT.t_r4_Disk_Crash sfOk_nil itOk_nil fun a h => e_r4_Disk_Crash n a.1 a.2.1 h
theorem ok_home_block (hT : LfT T) (n : Nat) : Sf1Ok T k_home_block (s_home_block n) := mkSf_ok (sf := sf_home_block n) (it := it_home_block n) (n := n) hT.t_home_block sfOk_nil itOk_nil fun a h => e_home_block n a.1 h
theorem ok_octet_Pad (hT : LfT T) (n : Nat) : Sf1Ok T k_octet_Pad (s_octet_Pad n) := mkSf_ok (sf := sf_octet_Pad n) (it := it_octet_Pad n) (n := n) hT.t_octet_Pad (sfOk_cons (ok_octet_Join hT n) sfOk_nil) itOk_nil fun a h => e_octet_Pad n a.1 a.2.1 h
theorem ok_r8_number (hT : LfT T) (n : Nat) : Sf1Ok T k_r8_number (s_r8_number n) := mkSf_ok (sf := sf_r8_number n) (it := it_r8_number n) (n := n) hT.t_r8_number sfOk_nil itOk_nil fun a h => e_r8_number n a.1 a.2.1 h
theorem ok_slices_Clone_byte_byte (hT : LfT T) (n : Nat) : Sf1Ok T k_slices_Clone_byte_byte (s_slices_Clone_byte_byte n) := mkSf_ok (sf := sf_slices_Clone_byte_byte n) (it := it_slices_Clone_byte_byte n) (n := n) hT.t_slices_Clone_byte_byte sfOk_nil itOk_nil fun a h => e_slices_Clone_byte_byte n a.1 h
theorem ok_sector_Disk_asked (hT : LfT T) (n : Nat) : Sf1Ok T k_sector_Disk_asked (s_sector_Disk_asked n) := mkSf_ok (sf := sf_sector_Disk_asked n) (it := it_sector_Disk_asked n) (n := n) hT.t_sector_Disk_asked sfOk_nil itOk_nil fun a h => e_sector_Disk_asked n a.1 a.2.1 h
theorem ok_r4_Disk_Len (hT : LfT T) (n : Nat) : Sf1Ok T k_r4_Disk_Len (s_r4_Disk_Len n) := mkSf_ok (sf := sf_r4_Disk_Len n) (it := it_r4_Disk_Len n) (n := n) hT.t_r4_Disk_Len sfOk_nil itOk_nil fun a h => e_r4_Disk_Len n a.1 h
theorem ok_octet_may (hT : LfT T) (n : Nat) : Sf1Ok T k_octet_may (s_octet_may n) := mkSf_ok (sf := sf_octet_may n) (it := it_octet_may n) (n := n) hT.t_octet_may sfOk_nil itOk_nil fun a h => e_octet_may n a.1 h
theorem ok_sum_push (hT : LfT T) (n : Nat) : Sf1Ok T k_sum_push (s_sum_push n) := mkSf_ok (sf := sf_sum_push n) (it := it_sum_push n) (n := n) hT.t_sum_push sfOk_nil itOk_nil fun a h => e_sum_push n a.1 a.2.1 h
theorem ok_slices_Backward_sector_waiting_sector_waiting_1 (hT : LfT T) (n : Nat) : It1Ok T k_slices_Backward_sector_waiting_sector_waiting_1 (i_slices_Backward_sector_waiting_sector_waiting_1 n) := mkIt_ok (sf := sf_slices_Backward_sector_waiting_sector_waiting_1 n) (it := it_slices_Backward_sector_waiting_sector_waiting_1 n) (n := n) hT.t_slices_Backward_sector_waiting_sector_waiting_1 sfOk_nil itOk_nil fun V hp up y a1 a2 v => e_slices_Backward_sector_waiting_sector_waiting_1 hp up y n a2.1 v
theorem ok_super_within (hT : LfT T) (n : Nat) : Sf1Ok T k_super_within (s_super_within n) := mkSf_ok (sf := sf_super_within n) (it := it_super_within n) (n := n) hT.t_super_within sfOk_nil itOk_nil fun a h => e_super_within n a.1 a.2.1 h
theorem ok_r2_Push (hT : LfT T) (n : Nat) : Sf1Ok T k_r2_Push (s_r2_Push n) := mkSf_ok (sf := sf_r2_Push n) (it := it_r2_Push n) (n := n) hT.t_r2_Push sfOk_nil itOk_nil fun a h => e_r2_Push n a.1 a.2.1 h
theorem ok_sector_Disk_Waiting (hT : LfT T) (n : Nat) : Sf1Ok T k_sector_Disk_Waiting (s_sector_Disk_Waiting n) := mkSf_ok (sf := sf_sector_Disk_Waiting n) (it := it_sector_Disk_Waiting n) (n := n) hT.t_sector_Disk_Waiting (sfOk_cons (ok_slices_Clone_byte_byte hT n) sfOk_nil) itOk_nil fun a h => e_sector_Disk_Waiting n a.1 h
theorem ok_sector_Disk_Write (hT : LfT T) (n : Nat) : Sf1Ok T k_sector_Disk_Write (s_sector_Disk_Write n) := mkSf_ok (sf := sf_sector_Disk_Write n) (it := it_sector_Disk_Write n) (n := n) hT.t_sector_Disk_Write (sfOk_cons (ok_sector_Disk_asked hT n) sfOk_nil) itOk_nil fun a h => e_sector_Disk_Write n a.1 a.2.1 a.2.2.1 h
theorem ok_r4_Disk_Write (hT : LfT T) (n : Nat) : Sf1Ok T k_r4_Disk_Write (s_r4_Disk_Write n) := mkSf_ok (sf := sf_r4_Disk_Write n) (it := it_r4_Disk_Write n) (n := n) hT.t_r4_Disk_Write (sfOk_cons (ok_r4_Disk_Len hT n) sfOk_nil) itOk_nil fun a h => e_r4_Disk_Write n a.1 a.2.1 a.2.2.1 h
theorem ok_r4_Disk_Flush (hT : LfT T) (n : Nat) : Sf1Ok T k_r4_Disk_Flush (s_r4_Disk_Flush n) := mkSf_ok (sf := sf_r4_Disk_Flush n) (it := it_r4_Disk_Flush n) (n := n) hT.t_r4_Disk_Flush (sfOk_cons (ok_r4_Disk_Crash hT n) sfOk_nil) itOk_nil fun a h => e_r4_Disk_Flush n a.1 h
theorem ok_octet_Put (hT : LfT T) (n : Nat) : Sf1Ok T k_octet_Put (s_octet_Put n) := mkSf_ok (sf := sf_octet_Put n) (it := it_octet_Put n) (n := n) hT.t_octet_Put (sfOk_cons (ok_octet_may hT n) sfOk_nil) itOk_nil fun a h => e_octet_Put n a.1 a.2.1 h
theorem ok_sum_Of (hT : LfT T) (n : Nat) : Sf1Ok T k_sum_Of (s_sum_Of n) := mkSf_ok (sf := sf_sum_Of n) (it := it_sum_Of n) (n := n) hT.t_sum_Of (sfOk_cons (ok_sum_push hT n) sfOk_nil) itOk_nil fun a h => e_sum_Of n a.1 h
theorem ok_r8_fits (hT : LfT T) (n : Nat) : Sf1Ok T k_r8_fits (s_r8_fits n) := mkSf_ok (sf := sf_r8_fits n) (it := it_r8_fits n) (n := n) hT.t_r8_fits (sfOk_cons (ok_r8_May hT n) (sfOk_cons (ok_r4_Disk_Len hT n) sfOk_nil)) itOk_nil fun a h => e_r8_fits n a.1 a.2.1 h
theorem ok_r4_Disk_Read (hT : LfT T) (n : Nat) : Sf1Ok T k_r4_Disk_Read (s_r4_Disk_Read n) := mkSf_ok (sf := sf_r4_Disk_Read n) (it := it_r4_Disk_Read n) (n := n) hT.t_r4_Disk_Read (sfOk_cons (ok_r4_Disk_Len hT n) sfOk_nil) itOk_nil fun a h => e_r4_Disk_Read n a.1 a.2.1 h
theorem ok_slices_Backward_sector_waiting_sector_waiting (hT : LfT T) (n : Nat) : Sf1Ok T k_slices_Backward_sector_waiting_sector_waiting (s_slices_Backward_sector_waiting_sector_waiting n) := mkSf_ok (sf := sf_slices_Backward_sector_waiting_sector_waiting n) (it := it_slices_Backward_sector_waiting_sector_waiting n) (n := n) hT.t_slices_Backward_sector_waiting_sector_waiting sfOk_nil itOk_nil fun a h => e_slices_Backward_sector_waiting_sector_waiting n a.1 h
theorem ok_super_Config (hT : LfT T) (n : Nat) : Sf1Ok T k_super_Config (s_super_Config n) := mkSf_ok (sf := sf_super_Config n) (it := it_super_Config n) (n := n) hT.t_super_Config (sfOk_cons (ok_super_within hT n) sfOk_nil) itOk_nil fun a h => e_super_Config n a.1 h
theorem ok_r2_Of (hT : LfT T) (n : Nat) : Sf1Ok T k_r2_Of (s_r2_Of n) := mkSf_ok (sf := sf_r2_Of n) (it := it_r2_Of n) (n := n) hT.t_r2_Of (sfOk_cons (ok_r2_Push hT n) sfOk_nil) itOk_nil fun a h => e_r2_Of n a.1 h
theorem ok_w8_desk_same (hT : LfT T) (n : Nat) : Sf1Ok T k_w8_desk_same (s_w8_desk_same n) := mkSf_ok (sf := sf_w8_desk_same n) (it := it_w8_desk_same n) (n := n) hT.t_w8_desk_same (sfOk_cons (ok_sector_Disk_Waiting hT n) (sfOk_cons (ok_sector_Disk_Image hT n) sfOk_nil)) itOk_nil fun a h => e_w8_desk_same n a.1 h
theorem ok_home_Encode (hT : LfT T) (n : Nat) : Sf1Ok T k_home_Encode (s_home_Encode n) := mkSf_ok (sf := sf_home_Encode n) (it := it_home_Encode n) (n := n) hT.t_home_Encode (sfOk_cons (ok_home_block hT n) (sfOk_cons (ok_octet_Join hT n) (sfOk_cons (ok_sum_Of hT n) (sfOk_cons (ok_octet_Put hT n) sfOk_nil)))) itOk_nil fun a h => e_home_Encode n a.1 a.2.1 h
theorem ok_home_Decode (hT : LfT T) (n : Nat) : Sf1Ok T k_home_Decode (s_home_Decode n) := mkSf_ok (sf := sf_home_Decode n) (it := it_home_Decode n) (n := n) hT.t_home_Decode (sfOk_cons (ok_home_block hT n) (sfOk_cons (ok_home_Encode hT n) sfOk_nil)) itOk_nil fun a h => e_home_Decode n a.1 a.2.1 h
theorem ok_sector_Disk_Read (hT : LfT T) (n : Nat) : Sf1Ok T k_sector_Disk_Read (s_sector_Disk_Read n) := mkSf_ok (sf := sf_sector_Disk_Read n) (it := it_sector_Disk_Read n) (n := n) hT.t_sector_Disk_Read (sfOk_cons (ok_sector_Disk_asked hT n) (sfOk_cons (ok_slices_Backward_sector_waiting_sector_waiting hT n) (sfOk_cons (ok_slices_Clone_byte_byte hT n) sfOk_nil))) (itOk_cons (ok_slices_Backward_sector_waiting_sector_waiting_1 hT n) itOk_nil) fun a h => e_sector_Disk_Read n a.1 a.2.1 h
theorem ok_super_Check (hT : LfT T) (n : Nat) : Sf1Ok T k_super_Check (s_super_Check n) := mkSf_ok (sf := sf_super_Check n) (it := it_super_Check n) (n := n) hT.t_super_Check (sfOk_cons (ok_super_Config hT n) sfOk_nil) itOk_nil fun a h => e_super_Check n a.1 h
theorem ok_r8_Summed (hT : LfT T) (n : Nat) : Sf1Ok T k_r8_Summed (s_r8_Summed n) := mkSf_ok (sf := sf_r8_Summed n) (it := it_r8_Summed n) (n := n) hT.t_r8_Summed (sfOk_cons (ok_r2_Of hT n) (sfOk_cons (ok_r8_number hT n) sfOk_nil)) itOk_nil fun a h => e_r8_Summed n a.1 h
theorem ok_home_fits (hT : LfT T) (n : Nat) : Sf1Ok T k_home_fits (s_home_fits n) := mkSf_ok (sf := sf_home_fits n) (it := it_home_fits n) (n := n) hT.t_home_fits (sfOk_cons (ok_super_Config hT n) (sfOk_cons (ok_sector_Disk_Len hT n) sfOk_nil)) itOk_nil fun a h => e_home_fits n a.1 a.2.1 h
theorem ok_super_Encode (hT : LfT T) (n : Nat) : Sf1Ok T k_super_Encode (s_super_Encode n) := mkSf_ok (sf := sf_super_Encode n) (it := it_super_Encode n) (n := n) hT.t_super_Encode (sfOk_cons (ok_super_Check hT n) (sfOk_cons (ok_octet_Put hT n) (sfOk_cons (ok_octet_Pad hT n) (sfOk_cons (ok_sum_Of hT n) sfOk_nil)))) itOk_nil fun a h => e_super_Encode n a.1 h
theorem ok_r8_Super (hT : LfT T) (n : Nat) : Sf1Ok T k_r8_Super (s_r8_Super n) := mkSf_ok (sf := sf_r8_Super n) (it := it_r8_Super n) (n := n) hT.t_r8_Super (sfOk_cons (ok_r8_number hT n) (sfOk_cons (ok_r8_Summed hT n) sfOk_nil)) itOk_nil fun a h => e_r8_Super n a.1 h
theorem ok_r8_Encode (hT : LfT T) (n : Nat) : Sf1Ok T k_r8_Encode (s_r8_Encode n) := mkSf_ok (sf := sf_r8_Encode n) (it := it_r8_Encode n) (n := n) hT.t_r8_Encode (sfOk_cons (ok_r8_Summed hT n) sfOk_nil) itOk_nil fun a h => e_r8_Encode n a.1 a.2.1 h
theorem ok_r8_Save (hT : LfT T) (n : Nat) : Sf1Ok T k_r8_Save (s_r8_Save n) := mkSf_ok (sf := sf_r8_Save n) (it := it_r8_Save n) (n := n) hT.t_r8_Save (sfOk_cons (ok_r8_fits hT n) (sfOk_cons (ok_r8_Encode hT n) (sfOk_cons (ok_r4_Disk_Write hT n) sfOk_nil))) itOk_nil fun a h => e_r8_Save n a.1 a.2.1 a.2.2.1 a.2.2.2.1 h
theorem ok_home_has (hT : LfT T) (n : Nat) : Sf1Ok T k_home_has (s_home_has n) := mkSf_ok (sf := sf_home_has n) (it := it_home_has n) (n := n) hT.t_home_has (sfOk_cons (ok_home_fits hT n) sfOk_nil) itOk_nil fun a h => e_home_has n a.1 a.2.1 a.2.2.1 h
theorem ok_r8_Decode (hT : LfT T) (n : Nat) : Sf1Ok T k_r8_Decode (s_r8_Decode n) := mkSf_ok (sf := sf_r8_Decode n) (it := it_r8_Decode n) (n := n) hT.t_r8_Decode (sfOk_cons (ok_r8_Encode hT n) sfOk_nil) itOk_nil fun a h => e_r8_Decode n a.1 a.2.1 h
theorem ok_home_New (hT : LfT T) (n : Nat) : Sf1Ok T k_home_New (s_home_New n) := mkSf_ok (sf := sf_home_New n) (it := it_home_New n) (n := n) hT.t_home_New (sfOk_cons (ok_super_Encode hT n) (sfOk_cons (ok_home_Encode hT n) (sfOk_cons (ok_octet_Join hT n) (sfOk_cons (ok_sector_Load hT n) sfOk_nil)))) itOk_nil fun a h => e_home_New n a.1 h
theorem ok_r8_New (hT : LfT T) (n : Nat) : Sf1Ok T k_r8_New (s_r8_New n) := mkSf_ok (sf := sf_r8_New n) (it := it_r8_New n) (n := n) hT.t_r8_New (sfOk_cons (ok_r8_May hT n) (sfOk_cons (ok_r8_Super hT n) (sfOk_cons (ok_r8_Encode hT n) (sfOk_cons (ok_r4_Load hT n) sfOk_nil)))) itOk_nil fun a h => e_r8_New n a.1 h
theorem ok_home_Save (hT : LfT T) (n : Nat) : Sf1Ok T k_home_Save (s_home_Save n) := mkSf_ok (sf := sf_home_Save n) (it := it_home_Save n) (n := n) hT.t_home_Save (sfOk_cons (ok_home_has hT n) (sfOk_cons (ok_home_Encode hT n) (sfOk_cons (ok_sector_Disk_Write hT n) sfOk_nil))) itOk_nil fun a h => e_home_Save n a.1 a.2.1 a.2.2.1 a.2.2.2.1 h
theorem ok_home_Load (hT : LfT T) (n : Nat) : Sf1Ok T k_home_Load (s_home_Load n) := mkSf_ok (sf := sf_home_Load n) (it := it_home_Load n) (n := n) hT.t_home_Load (sfOk_cons (ok_home_has hT n) (sfOk_cons (ok_sector_Disk_Read hT n) (sfOk_cons (ok_home_Decode hT n) sfOk_nil))) itOk_nil fun a h => e_home_Load n a.1 a.2.1 a.2.2.1 h
theorem ok_r8_Load (hT : LfT T) (n : Nat) : Sf1Ok T k_r8_Load (s_r8_Load n) := mkSf_ok (sf := sf_r8_Load n) (it := it_r8_Load n) (n := n) hT.t_r8_Load (sfOk_cons (ok_r8_fits hT n) (sfOk_cons (ok_r4_Disk_Read hT n) (sfOk_cons (ok_r8_Decode hT n) sfOk_nil))) itOk_nil fun a h => e_r8_Load n a.1 a.2.1 a.2.2.1 h
theorem ok_home_All (hT : LfT T) (n : Nat) : Sf1Ok T k_home_All (s_home_All n) := mkSf_ok (sf := sf_home_All n) (it := it_home_All n) (n := n) hT.t_home_All (sfOk_cons (ok_home_fits hT n) (sfOk_cons (ok_home_Load hT n) sfOk_nil)) itOk_nil fun a h => e_home_All n a.1 a.2.1 h
theorem ok_r8_All (hT : LfT T) (n : Nat) : Sf1Ok T k_r8_All (s_r8_All n) := mkSf_ok (sf := sf_r8_All n) (it := it_r8_All n) (n := n) hT.t_r8_All (sfOk_cons (ok_r8_fits hT n) (sfOk_cons (ok_r8_Load hT n) sfOk_nil)) itOk_nil fun a h => e_r8_All n a.1 a.2.1 h
theorem ok_w8_desk_plays (hT : LfT T) (n : Nat) : Sf1Ok T k_w8_desk_plays (s_w8_desk_plays n) := mkSf_ok (sf := sf_w8_desk_plays n) (it := it_w8_desk_plays n) (n := n) hT.t_w8_desk_plays (sfOk_cons (ok_home_Save hT n) (sfOk_cons (ok_r8_Save hT n) (sfOk_cons (ok_home_Load hT n) (sfOk_cons (ok_r8_Load hT n) (sfOk_cons (ok_home_All hT n) (sfOk_cons (ok_r8_All hT n) (sfOk_cons (ok_r8_Same hT n) (sfOk_cons (ok_sector_Disk_Write hT n) (sfOk_cons (ok_r4_Disk_Write hT n) (sfOk_cons (ok_sector_Disk_Flush hT n) (sfOk_cons (ok_r4_Disk_Flush hT n) (sfOk_cons (ok_sector_Disk_Crash hT n) (sfOk_cons (ok_r4_Disk_Crash hT n) sfOk_nil))))))))))))) itOk_nil fun a h => e_w8_desk_plays n a.1 a.2.1 h
theorem ok_w8_HomeDisk (hT : LfT T) (n : Nat) : Sf1Ok T k_w8_HomeDisk (s_w8_HomeDisk n) := mkSf_ok (sf := sf_w8_HomeDisk n) (it := it_w8_HomeDisk n) (n := n) hT.t_w8_HomeDisk (sfOk_cons (ok_w8_awake hT n) (sfOk_cons (ok_home_New hT n) (sfOk_cons (ok_r8_New hT n) (sfOk_cons (ok_w8_small hT n) (sfOk_cons (ok_w8_desk_same hT n) (sfOk_cons (ok_w8_desk_plays hT n) (sfOk_cons (ok_r8_Same hT n) (sfOk_cons (ok_w8_apart hT n) sfOk_nil)))))))) itOk_nil fun a h => e_w8_HomeDisk n a.1 a.2.1 h
end Go.Proofs.YtjdbmfhjccaggaaDoor
